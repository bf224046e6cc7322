/- Merged: TbE TbV TbPs -/
import Derived.Test.YtppambkffgmkgaaGreatDoorMg14
import Derived.Test.YtppambkffgmkgaaGreatDoorMg24
import Derived.Test.YtppambkffgmkgaaGreatDoorMg18
import Derived.Test.YtppambkffgmkgaaGreatDoorMg22
import Derived.Test.YtppambkffgmkgaaGreatDoorMg21
section
/- The walks of the program's and the reference's reading of a life's line. (Printed by gen_tbe.py.) -/
namespace Go.Proofs.YtppambkffgmkgaaGreatDoor
open Go.RowKit
set_option linter.unusedVariables false

/-- Two lives in blocks of their own: what goes out, what is read. -/
structure RwS (w wr : World) (g g2 g3 : Nat) (x : Lf) : Prop where
  e2 : LfAt wr g2 0 ⟨⟨0, 0⟩, 0, 0⟩
  e3 : LfAt wr g3 0 x
  f2 : ∀ j, wr.frozen? ⟨g2, j, none⟩ = false
  f3 : ∀ j, wr.frozen? ⟨g3, j, none⟩ = false
  mod : Mod w wr (OneB g)
  y2 : w.heap.size ≤ g2
  y3 : w.heap.size ≤ g3
  ne : g2 ≠ g3
  lt : g < w.heap.size
theorem RwS.next {w wr w' : World} {g g2 g3 : Nat} {x : Lf} (h : RwS w wr g g2 g3 x) (hm : Mod wr w' (OneB g)) : RwS w w' g g2 g3 x := by
  have n2 : ¬ OneB g g2 := fun c => by have e : g2 = g := c; have := h.y2; have := h.lt; omega
  have n3 : ¬ OneB g g3 := fun c => by have e : g3 = g := c; have := h.y3; have := h.lt; omega
  exact ⟨⟨keepS h.e2.1 hm n2, keepS h.e2.2.1 hm n2, keepS h.e2.2.2.1 hm n2, keepS h.e2.2.2.2 hm n2⟩, ⟨keepS h.e3.1 hm n3, keepS h.e3.2.1 hm n3, keepS h.e3.2.2.1 hm n3, keepS h.e3.2.2.2 hm n3⟩,
    fun j => (hm.frozen (p := ⟨g2, j, none⟩) (by have := World.block_lt_of_cell? _ _ h.e2.1; exact this) n2).trans (h.f2 j), fun j => (hm.frozen (p := ⟨g3, j, none⟩) (by have := World.block_lt_of_cell? _ _ h.e3.1; exact this) n3).trans (h.f3 j), h.mod.trans hm (fun _ _ c => c), h.y2, h.y3, h.ne, h.lt⟩
theorem RwS.put {w wr : World} {g g2 g3 : Nat} {x y : Lf} (h : RwS w wr g g2 g3 x) (c : Nat) (v : Value) (hy : LfAt (wr.setCell ⟨g3, c, none⟩ v) g3 0 y) : RwS w (wr.setCell ⟨g3, c, none⟩ v) g g2 g3 y := by
  have hm : Mod wr (wr.setCell ⟨g3, c, none⟩ v) (OneB g3) := Mod.set1 wr g3 c v
  have n2 : ¬ OneB g3 g2 := fun c => h.ne c
  exact ⟨⟨keepS h.e2.1 hm n2, keepS h.e2.2.1 hm n2, keepS h.e2.2.2.1 hm n2, keepS h.e2.2.2.2 hm n2⟩, hy, fun j => by rw [World.frozen?_setCell]; exact h.f2 j, fun j => by rw [World.frozen?_setCell]; exact h.f3 j,
    h.mod.trans hm (fun i hi c => by have e : i = g3 := c; have := h.y3; omega), h.y2, h.y3, h.ne, h.lt⟩
theorem RwS.u {w wr : World} {g g2 g3 : Nat} {x : Lf} (h : RwS w wr g g2 g3 x) (t : Int) : RwS w (wr.setCell ⟨g3, 0, none⟩ (.int .u32 t)) g g2 g3 ⟨⟨t, x.e.v⟩, x.fr, x.to⟩ := by
  obtain ⟨c0, c1, c2, c3⟩ := h.e3
  exact h.put 0 _ ⟨World.cell?_setCell_same _ _ _ c0, (World.cell?_setCell_other _ _ _ _ (by simp)).trans c1, (World.cell?_setCell_other _ _ _ _ (by simp)).trans c2, (World.cell?_setCell_other _ _ _ _ (by simp)).trans c3⟩
theorem RwS.v {w wr : World} {g g2 g3 : Nat} {x : Lf} (h : RwS w wr g g2 g3 x) (t : Int) : RwS w (wr.setCell ⟨g3, 1, none⟩ (.int .u32 t)) g g2 g3 ⟨⟨x.e.u, t⟩, x.fr, x.to⟩ := by
  obtain ⟨c0, c1, c2, c3⟩ := h.e3
  exact h.put 1 _ ⟨(World.cell?_setCell_other _ _ _ _ (by simp)).trans c0, World.cell?_setCell_same _ _ _ c1, (World.cell?_setCell_other _ _ _ _ (by simp)).trans c2, (World.cell?_setCell_other _ _ _ _ (by simp)).trans c3⟩
theorem RwS.f {w wr : World} {g g2 g3 : Nat} {x : Lf} (h : RwS w wr g g2 g3 x) (t : Int) : RwS w (wr.setCell ⟨g3, 2, none⟩ (.int .i64 t)) g g2 g3 ⟨x.e, t, x.to⟩ := by
  obtain ⟨c0, c1, c2, c3⟩ := h.e3
  exact h.put 2 _ ⟨(World.cell?_setCell_other _ _ _ _ (by simp)).trans c0, (World.cell?_setCell_other _ _ _ _ (by simp)).trans c1, World.cell?_setCell_same _ _ _ c2, (World.cell?_setCell_other _ _ _ _ (by simp)).trans c3⟩
theorem RwS.o {w wr : World} {g g2 g3 : Nat} {x : Lf} (h : RwS w wr g g2 g3 x) (t : Int) : RwS w (wr.setCell ⟨g3, 3, none⟩ (.int .i64 t)) g g2 g3 ⟨x.e, x.fr, t⟩ := by
  obtain ⟨c0, c1, c2, c3⟩ := h.e3
  exact h.put 3 _ ⟨(World.cell?_setCell_other _ _ _ _ (by simp)).trans c0, (World.cell?_setCell_other _ _ _ _ (by simp)).trans c1, (World.cell?_setCell_other _ _ _ _ (by simp)).trans c2, World.cell?_setCell_same _ _ _ c3⟩
theorem RwS.start {w : World} {g : Nat} (hg : g < w.heap.size) : RwS w ((w.alloc (.cells #[.int .u32 0, .int .u32 0, .int .i64 0, .int .i64 0] 81)).alloc (.cells #[.int .u32 0, .int .u32 0, .int .i64 0, .int .i64 0] 81)) g w.heap.size (w.heap.size + 1) ⟨⟨0, 0⟩, 0, 0⟩ := by
  have hs1 : (w.alloc (.cells #[.int .u32 0, .int .u32 0, .int .i64 0, .int .i64 0] 81)).heap.size = w.heap.size + 1 := by simp
  have lt : w.heap.size < (w.alloc (.cells #[.int .u32 0, .int .u32 0, .int .i64 0, .int .i64 0] 81)).heap.size := by rw [hs1]; omega
  have a1 : ∀ j, ((w.alloc (.cells #[.int .u32 0, .int .u32 0, .int .i64 0, .int .i64 0] 81)).alloc (.cells #[.int .u32 0, .int .u32 0, .int .i64 0, .int .i64 0] 81)).cell? ⟨w.heap.size, j, none⟩ = (#[.int .u32 0, .int .u32 0, .int .i64 0, .int .i64 0] : Array Value)[j]? := fun j =>
    (World.cell?_alloc_lt _ _ _ lt).trans (World.cell?_alloc_at _ _ _ _ rfl)
  have a2 : ∀ j, ((w.alloc (.cells #[.int .u32 0, .int .u32 0, .int .i64 0, .int .i64 0] 81)).alloc (.cells #[.int .u32 0, .int .u32 0, .int .i64 0, .int .i64 0] 81)).cell? ⟨w.heap.size + 1, j, none⟩ = (#[.int .u32 0, .int .u32 0, .int .i64 0, .int .i64 0] : Array Value)[j]? := fun j =>
    World.cell?_alloc_at _ _ _ _ hs1.symm
  exact ⟨⟨(a1 0).trans rfl, (a1 1).trans rfl, (a1 2).trans rfl, (a1 3).trans rfl⟩, ⟨(a2 0).trans rfl, (a2 1).trans rfl, (a2 2).trans rfl, (a2 3).trans rfl⟩,
    fun j => (((Mod.refl _ NoB).alloc _).frozen (p := ⟨w.heap.size, j, none⟩) lt (by simp [NoB])).trans (frozen_alloc_at _ _ _ _ _ rfl), fun j => frozen_alloc_at _ _ _ _ _ hs1.symm, ((Mod.refl _ _).alloc _).alloc _, Nat.le_refl _, Nat.le_succ _, by omega, hg⟩
/-- The second block is laid later. -/
theorem RwS.start2 {w w1 : World} {g : Nat} {u v : Int} (hg : g < w.heap.size) (hm : Mod (w.alloc (.cells #[.int .u32 0, .int .u32 0, .int .i64 0, .int .i64 0] 81)) w1 (OneB g)) : RwS w (w1.alloc (.cells #[.int .u32 u, .int .u32 v, .int .i64 0, .int .i64 0] 81)) g w.heap.size w1.heap.size ⟨⟨u, v⟩, 0, 0⟩ := by
  have hs1 : (w.alloc (.cells #[.int .u32 0, .int .u32 0, .int .i64 0, .int .i64 0] 81)).heap.size = w.heap.size + 1 := by simp
  have lt : w.heap.size < (w.alloc (.cells #[.int .u32 0, .int .u32 0, .int .i64 0, .int .i64 0] 81)).heap.size := by rw [hs1]; omega
  have ng : ¬ OneB g w.heap.size := fun c => by have e : w.heap.size = g := c; omega
  have hm2 : Mod (w.alloc (.cells #[.int .u32 0, .int .u32 0, .int .i64 0, .int .i64 0] 81)) (w1.alloc (.cells #[.int .u32 u, .int .u32 v, .int .i64 0, .int .i64 0] 81)) (OneB g) := hm.alloc _
  have a1' : ∀ j z, (#[.int .u32 0, .int .u32 0, .int .i64 0, .int .i64 0] : Array Value)[j]? = some z → (w1.alloc (.cells #[.int .u32 u, .int .u32 v, .int .i64 0, .int .i64 0] 81)).cell? ⟨w.heap.size, j, none⟩ = some z := fun j z h => keepS ((World.cell?_alloc_at _ _ _ _ rfl).trans h) hm2 ng
  have hs := hm.size
  exact ⟨⟨a1' 0 _ rfl, a1' 1 _ rfl, a1' 2 _ rfl, a1' 3 _ rfl⟩, ⟨World.cell?_alloc_at _ _ _ _ rfl, World.cell?_alloc_at _ _ _ _ rfl, World.cell?_alloc_at _ _ _ _ rfl, World.cell?_alloc_at _ _ _ _ rfl⟩,
    fun j => (hm2.frozen (p := ⟨w.heap.size, j, none⟩) lt ng).trans (frozen_alloc_at _ _ _ _ _ rfl), fun j => frozen_alloc_at _ _ _ _ _ rfl, ((Mod.refl w (OneB g)).alloc _).trans hm2 (fun _ _ c => c), Nat.le_refl _, by omega, by omega, hg⟩
/-- What goes out at last. -/
theorem RwS.fin {w wr : World} {g g2 g3 : Nat} {x : Lf} (h : RwS w wr g g2 g3 x) :
    let W := (((wr.setCell ⟨g2, 0, none⟩ (.int .u32 x.e.u)).setCell ⟨g2, 1, none⟩ (.int .u32 x.e.v)).setCell ⟨g2, 2, none⟩ (.int .i64 x.fr)).setCell ⟨g2, 3, none⟩ (.int .i64 x.to)
    (W.cell? ⟨g2, 0, none⟩ = some (.int .u32 x.e.u) ∧ W.cell? ⟨g2, 1, none⟩ = some (.int .u32 x.e.v) ∧ W.cell? ⟨g2, 2, none⟩ = some (.int .i64 x.fr) ∧ W.cell? ⟨g2, 3, none⟩ = some (.int .i64 x.to)) ∧ Mod w W (OneB g) ∧ Mod wr W (OneB g2) := by
  intro W
  obtain ⟨c0, c1, c2, c3⟩ := h.e2
  have hm : Mod wr W (OneB g2) := (((Mod.set1 wr g2 0 _).setG _).setG _).setG _
  have o : ∀ (z : World) (i j : Nat) (v : Value), i ≠ j → (z.setCell ⟨g2, i, none⟩ v).cell? ⟨g2, j, none⟩ = z.cell? ⟨g2, j, none⟩ := fun z i j v hij => World.cell?_setCell_other _ _ _ _ (by intro c; cases c; exact hij rfl)
  refine ⟨⟨?_, ?_, ?_, ?_⟩, h.mod.trans hm (fun i hi c => by have e : i = g2 := c; have := h.y2; omega), hm⟩
  · rw [o _ 3 0 _ (by decide), o _ 2 0 _ (by decide), o _ 1 0 _ (by decide)]; exact World.cell?_setCell_same _ _ _ c0
  · rw [o _ 3 1 _ (by decide), o _ 2 1 _ (by decide)]; exact World.cell?_setCell_same _ _ _ ((o _ 0 1 _ (by decide)).trans c1)
  · rw [o _ 3 2 _ (by decide)]; exact World.cell?_setCell_same _ _ _ ((o _ 1 2 _ (by decide)).trans ((o _ 0 2 _ (by decide)).trans c2))
  · exact World.cell?_setCell_same _ _ _ ((o _ 2 3 _ (by decide)).trans ((o _ 1 3 _ (by decide)).trans ((o _ 0 3 _ (by decide)).trans c3)))

set_option maxRecDepth 100000 in
set_option maxHeartbeats 4000000 in
theorem row_any (w : World) (g : Nat) (st : SS) (h : ScA w g st) :
    Calls Tryz.prog 36 #[.pointer (some ⟨g, 0, none⟩)] w fun e w' => e = .returned (.agg #[.int .u32 (lfS st).1.e.u, .int .u32 (lfS st).1.e.v, .int .i64 (lfS st).1.fr, .int .i64 (lfS st).1.to]) ∧ ScA w' g (lfS st).2 ∧ Mod w w' (OneB g) := by
  have hg := h.lt
  have HV := Lib.hid (RwS.start (w := w) (g := g) hg)
  have HS := Lib.hid (h.mod (((Mod.refl w NoB).alloc (.cells #[.int .u32 0, .int .u32 0, .int .i64 0, .int .i64 0] 81)).alloc (.cells #[.int .u32 0, .int .u32 0, .int .i64 0, .int .i64 0] 81)) (by simp [NoB]))
  clear h
  obtain ⟨r, hr⟩ : ∃ r, lfS st = r := ⟨_, rfl⟩
  rw [hr]
  unfold lfS at hr
  dsimp only at hr
  go_enter Tryz.func36, Tryz.ntmps36
  go_upto_region 2 with (fail)
  obtain ⟨g2, hg2⟩ : ∃ g2, g2 = w.heap.size := ⟨_, rfl⟩
  obtain ⟨g3, hg3⟩ : ∃ g3, g3 = w.heap.size + 1 := ⟨_, rfl⟩
  obtain ⟨W, hW⟩ : ∃ W, W = ((w.alloc (.cells #[.int .u32 0, .int .u32 0, .int .i64 0, .int .i64 0] 81)).alloc (.cells #[.int .u32 0, .int .u32 0, .int .i64 0, .int .i64 0] 81)) := ⟨_, rfl⟩
  rw [← hW, ← hg3, ← hg2] at HV
  rw [← hW] at HS
  rw [← hW, ← hg3, ← hg2]
  have n22 : ¬ OneB g2 g := fun c => by have e : g = g2 := c; omega
  have n23 : ¬ OneB g3 g := fun c => by have e : g = g3 := c; omega
  clear hW hg2 hg3
  go_wp2_with fail
  refine (snum_sca _ g st 4294967295 HS.out (by decide)).mono ?_
  rintro e w1 ⟨rfl, hs, hm⟩
  obtain ⟨u, hu⟩ : ∃ x, (numS 4294967295 st).1 = x := ⟨_, rfl⟩
  have hbu := numS_bd (most := 4294967295) (by decide) st
  obtain ⟨s1, hs1⟩ : ∃ x, (numS 4294967295 st).2 = x := ⟨_, rfl⟩
  rw [hu] at hr hbu ⊢
  rw [hs1] at hr hs
  have hwu := u32_of hbu
  replace HV := Lib.hid (HV.out.next hm)
  replace HS := Lib.hid hs
  clear hs hm hu hs1
  obtain ⟨c0, c1, c2, c3⟩ := HV.out.e3
  have f0 := HV.out.f3 0
  have f1 := HV.out.f3 1
  have f2 := HV.out.f3 2
  have f3 := HV.out.f3 3
  simp only [Nat.zero_add] at c1 c2 c3
  go_upto_region 3 with (fail)
  replace HS := Lib.hid (HS.out.mod (S := OneB g3) (Mod.set1 _ g3 0 (.int .u32 u)) n23)
  replace HV := Lib.hid (HV.out.u u)
  clear c0 c1 c2 c3 f0 f1 f2 f3
  go_wp2_with fail
  refine (sbyte_sca _ g s1 32 32 rfl HS.out).mono ?_
  rintro e w2 ⟨rfl, hs, hm⟩
  obtain ⟨s2, hs2⟩ : ∃ x, (wordS [32] s1).2 = x := ⟨_, rfl⟩
  rw [hs2] at hr hs
  replace HV := Lib.hid (HV.out.next hm)
  replace HS := Lib.hid hs
  clear hs hm hs2
  go_wp2_with fail
  refine (snum_sca _ g s2 4294967295 HS.out (by decide)).mono ?_
  rintro e w3 ⟨rfl, hs, hm⟩
  obtain ⟨v, hv⟩ : ∃ x, (numS 4294967295 s2).1 = x := ⟨_, rfl⟩
  have hbv := numS_bd (most := 4294967295) (by decide) s2
  obtain ⟨s3, hs3⟩ : ∃ x, (numS 4294967295 s2).2 = x := ⟨_, rfl⟩
  rw [hv] at hr hbv ⊢
  rw [hs3] at hr hs
  have hwv := u32_of hbv
  replace HV := Lib.hid (HV.out.next hm)
  replace HS := Lib.hid hs
  clear hs hm hv hs3
  obtain ⟨c0, c1, c2, c3⟩ := HV.out.e3
  have f0 := HV.out.f3 0
  have f1 := HV.out.f3 1
  have f2 := HV.out.f3 2
  have f3 := HV.out.f3 3
  simp only [Nat.zero_add] at c1 c2 c3
  go_upto_region 5 with (fail)
  replace HS := Lib.hid (HS.out.mod (S := OneB g3) (Mod.set1 _ g3 1 (.int .u32 v)) n23)
  replace HV := Lib.hid (HV.out.v v)
  clear c0 c1 c2 c3 f0 f1 f2 f3
  go_wp2_with fail
  refine (sbyte_sca _ g s3 32 32 rfl HS.out).mono ?_
  rintro e w4 ⟨rfl, hs, hm⟩
  obtain ⟨s4, hs4⟩ : ∃ x, (wordS [32] s3).2 = x := ⟨_, rfl⟩
  rw [hs4] at hr hs
  replace HV := Lib.hid (HV.out.next hm)
  replace HS := Lib.hid hs
  clear hs hm hs4
  go_wp2_with fail
  refine (snum_sca _ g s4 4611686018427387903 HS.out (by decide)).mono ?_
  rintro e w5 ⟨rfl, hs, hm⟩
  obtain ⟨f, hf⟩ : ∃ x, (numS 4611686018427387903 s4).1 = x := ⟨_, rfl⟩
  have hbf := numS_bd (most := 4611686018427387903) (by decide) s4
  obtain ⟨s5, hs5⟩ : ∃ x, (numS 4611686018427387903 s4).2 = x := ⟨_, rfl⟩
  rw [hf] at hr hbf ⊢
  rw [hs5] at hr hs
  have hwf := i64_of hbf
  replace HV := Lib.hid (HV.out.next hm)
  replace HS := Lib.hid hs
  clear hs hm hf hs5
  obtain ⟨c0, c1, c2, c3⟩ := HV.out.e3
  have f0 := HV.out.f3 0
  have f1 := HV.out.f3 1
  have f2 := HV.out.f3 2
  have f3 := HV.out.f3 3
  simp only [Nat.zero_add] at c1 c2 c3
  go_upto_region 7 with (fail)
  replace HS := Lib.hid (HS.out.mod (S := OneB g3) (Mod.set1 _ g3 2 (.int .i64 f)) n23)
  replace HV := Lib.hid (HV.out.f f)
  clear c0 c1 c2 c3 f0 f1 f2 f3
  go_wp2_with fail
  refine (sbyte_sca _ g s5 32 32 rfl HS.out).mono ?_
  rintro e w6 ⟨rfl, hs, hm⟩
  obtain ⟨s6, hs6⟩ : ∃ x, (wordS [32] s5).2 = x := ⟨_, rfl⟩
  rw [hs6] at hr hs
  replace HV := Lib.hid (HV.out.next hm)
  replace HS := Lib.hid hs
  clear hs hm hs6
  obtain ⟨c0, c1, c2, c3⟩ := HV.out.e3
  have f3 := HV.out.f3 3
  simp only [Nat.zero_add] at c1 c2 c3
  go_upto_region 9 with (fail)
  replace HS := Lib.hid (HS.out.mod (S := OneB g3) (Mod.set1 _ g3 3 (.int .i64 (-1))) n23)
  replace HV := Lib.hid (HV.out.o (-1))
  obtain ⟨w7, hw7⟩ : ∃ z, z = w6.setCell ⟨g3, 3, none⟩ (.int .i64 (-1)) := ⟨_, rfl⟩
  rw [← hw7] at HS HV ⊢
  clear c0 c1 c2 c3 f3 hw7
  go_wp2_with fail
  refine (snext_sca _ g s6 HS.out).mono ?_
  rintro e w8 ⟨rfl, rfl⟩
  obtain ⟨cc, hcc⟩ : ∃ cc, (if nextS s6 = some 45 then (-1, (wordS [45] s6).2) else numS 4611686018427387903 s6) = cc := ⟨_, rfl⟩
  rw [hcc] at hr
  obtain ⟨to', s8⟩ := cc
  dsimp only at hr
  unfold nextW
  obtain ⟨n0, hn0⟩ : ∃ n0, nb (nextS s6) = n0 := ⟨_, rfl⟩
  rw [hn0]
  have hsg : n0 = 45 ↔ nextS s6 = some 45 := by rw [← hn0]; exact nb_iff (c := 45) (by decide)
  clear hn0
  by_cases hc : n0 = 45
  focus
    rw [if_pos (hsg.1 hc)] at hcc
    subst hc
    have e1 : -1 = to' := (Prod.mk.inj hcc).1
    have e2 : (wordS [45] s6).2 = s8 := (Prod.mk.inj hcc).2
    have HC := Lib.hid (And.intro e1 e2)
    clear hcc hsg e1 e2
    go_wp2_with fail
    refine (sbyte_sca _ g s6 45 45 rfl HS.out).mono ?_
    rintro e w9 ⟨rfl, hs, hm⟩
    rw [HC.out.2] at hs
    replace HV : Hid (RwS w w9 g g2 g3 ⟨⟨u, v⟩, f, to'⟩) := by rw [← HC.out.1]; exact HV.out.next hm
    replace HS := Lib.hid hs
    clear hs hm HC
    go_upto_region 13 with (fail)
  rotate_left
  focus
    rw [if_neg (fun c => hc (hsg.2 c))] at hcc
    have hc2 : (n0 == 45) = false := beq_eq_false_iff_ne.2 hc
    have e1 : (numS 4611686018427387903 s6).1 = to' := by rw [hcc]
    have e2 : (numS 4611686018427387903 s6).2 = s8 := by rw [hcc]
    have hbt := numS_bd (most := 4611686018427387903) (by decide) s6
    rw [e1] at hbt
    have hwt := i64_of hbt
    have HC := Lib.hid (And.intro e1 e2)
    clear hcc hsg hc e1 e2
    go_wp2_with fail
    refine (snum_sca _ g s6 4611686018427387903 HS.out (by decide)).mono ?_
    rintro e w9 ⟨rfl, hs, hm⟩
    rw [HC.out.2] at hs
    rw [HC.out.1]
    replace HV := Lib.hid (HV.out.next hm)
    replace HS := Lib.hid hs
    clear hs hm HC
    obtain ⟨c0, c1, c2, c3⟩ := HV.out.e3
    have f3 := HV.out.f3 3
    simp only [Nat.zero_add] at c1 c2 c3
    go_upto_region 13 with (fail)
    replace HS := Lib.hid (HS.out.mod (S := OneB g3) (Mod.set1 _ g3 3 (.int .i64 to')) n23)
    replace HV := Lib.hid (HV.out.o to')
    clear c0 c1 c2 c3 f3 hc2
  all_goals
    go_wp2_with fail
    refine (sbyte_sca _ g s8 10 10 rfl HS.out).mono ?_
    rintro e wa ⟨rfl, hs, hm⟩
    obtain ⟨s9, hs9⟩ : ∃ x, (wordS [10] s8).2 = x := ⟨_, rfl⟩
    rw [hs9] at hr hs
    replace HV := Lib.hid (HV.out.next hm)
    replace HS := Lib.hid hs
    clear hs hm hs9
    go_upto_region 14 with (fail)
    obtain ⟨c0, c1, c2, c3⟩ := HV.out.e3
    obtain ⟨d0, d1, d2, d3⟩ := HV.out.e2
    have f0 := HV.out.f2 0
    have f1 := HV.out.f2 1
    have f2 := HV.out.f2 2
    have f3 := HV.out.f2 3
    simp only [Nat.zero_add] at c1 c2 c3 d1 d2 d3
    have HF := Lib.hid HV.out.fin
    have HSF := Lib.hid (HS.out.mod HV.out.fin.2.2 n22)
    subst hr
    go_wp2_with fail
    obtain ⟨z0, z1, z2, z3⟩ := HF.out.1
    exact bodyPost_ret (v := .agg #[.int .u32 u, .int .u32 v, .int .i64 f, .int .i64 to']) (by simp [results, Tryz.results36, go_sem, z0, z1, z2, z3]) rfl ⟨rfl, HSF.out, HF.out.2.1⟩

set_option maxRecDepth 100000 in
set_option maxHeartbeats 4000000 in
theorem rlife_any (w : World) (g : Nat) (st : SS) (h : RsA w g st) :
    Calls Tryz.prog 47 #[.pointer (some ⟨g, 0, none⟩)] w fun e w' => e = .returned (.agg #[.int .u32 (lfS st).1.e.u, .int .u32 (lfS st).1.e.v, .int .i64 (lfS st).1.fr, .int .i64 (lfS st).1.to]) ∧ RsA w' g (lfS st).2 ∧ Mod w w' (OneB g) := by
  have hg := h.lt
  have HS := Lib.hid (h.mod ((Mod.refl w NoB).alloc (.cells #[.int .u32 0, .int .u32 0, .int .i64 0, .int .i64 0] 81)) (by simp [NoB]))
  clear h
  obtain ⟨r, hr⟩ : ∃ r, lfS st = r := ⟨_, rfl⟩
  rw [hr]
  unfold lfS at hr
  dsimp only at hr
  go_enter Tryz.func47, Tryz.ntmps47
  go_wp2_with fail
  refine (redge_any _ g st HS.out).mono ?_
  rintro e w1 ⟨rfl, hs, hm⟩
  have e1 : (edS st).1 = ⟨(numS 4294967295 st).1, (numS 4294967295 (wordS [32] (numS 4294967295 st).2).2).1⟩ := rfl
  have e2 : (edS st).2 = (numS 4294967295 (wordS [32] (numS 4294967295 st).2).2).2 := rfl
  rw [e1]
  rw [e2] at hs
  clear e1 e2
  obtain ⟨u, hu⟩ : ∃ x, (numS 4294967295 st).1 = x := ⟨_, rfl⟩
  obtain ⟨v, hv⟩ : ∃ x, (numS 4294967295 (wordS [32] (numS 4294967295 st).2).2).1 = x := ⟨_, rfl⟩
  obtain ⟨s3, hs3⟩ : ∃ x, (numS 4294967295 (wordS [32] (numS 4294967295 st).2).2).2 = x := ⟨_, rfl⟩
  rw [hu, hv] at hr ⊢
  rw [hs3] at hr hs
  have HV := Lib.hid (RwS.start2 (u := u) (v := v) hg hm)
  replace HS := Lib.hid (hs.mod ((Mod.refl w1 NoB).alloc (.cells #[.int .u32 u, .int .u32 v, .int .i64 0, .int .i64 0] 81)) (by simp [NoB]))
  have hsz := hm.size
  have hsz2 : (w.alloc (.cells #[.int .u32 0, .int .u32 0, .int .i64 0, .int .i64 0] 81)).heap.size = w.heap.size + 1 := by simp
  have n22 : ¬ OneB w.heap.size g := fun c => by have e : g = w.heap.size := c; omega
  have n23 : ¬ OneB w1.heap.size g := fun c => by have e : g = w1.heap.size := c; omega
  clear hs hm hu hv hs3 hsz hsz2
  go_upto_region 2 with (fail)
  obtain ⟨g2, hg2⟩ : ∃ g2, g2 = w.heap.size := ⟨_, rfl⟩
  obtain ⟨g3, hg3⟩ : ∃ g3, g3 = w1.heap.size := ⟨_, rfl⟩
  obtain ⟨W, hW⟩ : ∃ W, W = w1.alloc (.cells #[.int .u32 u, .int .u32 v, .int .i64 0, .int .i64 0] 81) := ⟨_, rfl⟩
  rw [← hW, ← hg3, ← hg2] at HV
  rw [← hW] at HS
  rw [← hg2] at n22
  rw [← hg3] at n23
  rw [← hW, ← hg3, ← hg2]
  clear hW hg2 hg3
  go_wp2_with fail
  refine (rbyte_rsa _ g s3 32 32 rfl HS.out).mono ?_
  rintro e w4 ⟨rfl, hs, hm⟩
  obtain ⟨s4, hs4⟩ : ∃ x, (wordS [32] s3).2 = x := ⟨_, rfl⟩
  rw [hs4] at hr hs
  replace HV := Lib.hid (HV.out.next hm)
  replace HS := Lib.hid hs
  clear hs hm hs4
  go_wp2_with fail
  refine (rnum_rsa _ g s4 4611686018427387903 HS.out (by decide)).mono ?_
  rintro e w5 ⟨rfl, hs, hm⟩
  obtain ⟨f, hf⟩ : ∃ x, (numS 4611686018427387903 s4).1 = x := ⟨_, rfl⟩
  have hbf := numS_bd (most := 4611686018427387903) (by decide) s4
  obtain ⟨s5, hs5⟩ : ∃ x, (numS 4611686018427387903 s4).2 = x := ⟨_, rfl⟩
  rw [hf] at hr hbf ⊢
  rw [hs5] at hr hs
  have hwf := i64_of hbf
  replace HV := Lib.hid (HV.out.next hm)
  replace HS := Lib.hid hs
  clear hs hm hf hs5
  obtain ⟨c0, c1, c2, c3⟩ := HV.out.e3
  have f0 := HV.out.f3 0
  have f1 := HV.out.f3 1
  have f2 := HV.out.f3 2
  have f3 := HV.out.f3 3
  simp only [Nat.zero_add] at c1 c2 c3
  go_upto_region 4 with (fail)
  replace HS := Lib.hid (HS.out.mod (S := OneB g3) (Mod.set1 _ g3 2 (.int .i64 f)) n23)
  replace HV := Lib.hid (HV.out.f f)
  clear c0 c1 c2 c3 f0 f1 f2 f3
  go_wp2_with fail
  refine (rbyte_rsa _ g s5 32 32 rfl HS.out).mono ?_
  rintro e w6 ⟨rfl, hs, hm⟩
  obtain ⟨s6, hs6⟩ : ∃ x, (wordS [32] s5).2 = x := ⟨_, rfl⟩
  rw [hs6] at hr hs
  replace HV := Lib.hid (HV.out.next hm)
  replace HS := Lib.hid hs
  clear hs hm hs6
  go_wp2_with fail
  refine (rnext_rsa _ g s6 HS.out).mono ?_
  rintro e w8 ⟨rfl, k3, rfl⟩
  replace HV := Lib.hid (HV.out.next ((Mod.refl w6 (OneB g)).drewN k3))
  replace HS := Lib.hid (HS.out.mod (S := NoB) ((Mod.refl w6 NoB).drewN k3) (by simp [NoB]))
  obtain ⟨cc, hcc⟩ : ∃ cc, (if nextS s6 = some 45 then (-1, (wordS [45] s6).2) else numS 4611686018427387903 s6) = cc := ⟨_, rfl⟩
  rw [hcc] at hr
  obtain ⟨to', s8⟩ := cc
  dsimp only at hr
  unfold nextW
  obtain ⟨n0, hn0⟩ : ∃ n0, nb (nextS s6) = n0 := ⟨_, rfl⟩
  rw [hn0]
  have hsg : n0 = 45 ↔ nextS s6 = some 45 := by rw [← hn0]; exact nb_iff (c := 45) (by decide)
  obtain ⟨on, hon⟩ : ∃ on, (nextS s6).isSome = on := ⟨_, rfl⟩
  have hof : on = false → n0 = 0 := by
    intro h
    rw [← hn0]
    cases hx : nextS s6 with
    | none => rfl
    | some c => rw [hx] at hon; rw [← hon] at h; cases h
  rw [hon]
  clear hon hn0
  by_cases hc : n0 = 45
  focus
    rw [if_pos (hsg.1 hc)] at hcc
    have hot : on = true := by
      cases on with
      | true => rfl
      | false => rw [hof rfl] at hc; cases hc
    subst hc hot
    have e1 : -1 = to' := (Prod.mk.inj hcc).1
    have e2 : (wordS [45] s6).2 = s8 := (Prod.mk.inj hcc).2
    have HC := Lib.hid (And.intro e1 e2)
    clear hcc hsg hof e1 e2
    go_wp2_with fail
    refine (rbyte_rsa _ g s6 45 45 rfl HS.out).mono ?_
    rintro e w9 ⟨rfl, hs, hm⟩
    rw [HC.out.2] at hs
    replace HV := Lib.hid (HV.out.next hm)
    replace HS := Lib.hid hs
    clear hs hm
    obtain ⟨c0, c1, c2, c3⟩ := HV.out.e3
    have f3 := HV.out.f3 3
    simp only [Nat.zero_add] at c1 c2 c3
    go_upto_region 10 with (fail)
    replace HS := Lib.hid (HS.out.mod (S := OneB g3) (Mod.set1 _ g3 3 (.int .i64 (-1))) n23)
    replace HV : Hid (RwS w (w9.setCell ⟨g3, 3, none⟩ (.int .i64 (-1))) g g2 g3 ⟨⟨u, v⟩, f, to'⟩) := by rw [← HC.out.1]; exact HV.out.o (-1)
    clear c0 c1 c2 c3 f3 HC
  rotate_left
  focus
    rw [if_neg (fun c => hc (hsg.2 c))] at hcc
    have hc2 : (n0 == 45) = false := beq_eq_false_iff_ne.2 hc
    have e1 : (numS 4611686018427387903 s6).1 = to' := by rw [hcc]
    have e2 : (numS 4611686018427387903 s6).2 = s8 := by rw [hcc]
    have hbt := numS_bd (most := 4611686018427387903) (by decide) s6
    rw [e1] at hbt
    have hwt := i64_of hbt
    have HC := Lib.hid (And.intro e1 e2)
    clear hcc hsg hof hc e1 e2
    cases on
    all_goals
      go_wp2_with fail
      refine (rnum_rsa _ g s6 4611686018427387903 HS.out (by decide)).mono ?_
      rintro e w9 ⟨rfl, hs, hm⟩
      rw [HC.out.2] at hs
      rw [HC.out.1]
      replace HV := Lib.hid (HV.out.next hm)
      replace HS := Lib.hid hs
      clear hs hm HC
      obtain ⟨c0, c1, c2, c3⟩ := HV.out.e3
      have f3 := HV.out.f3 3
      simp only [Nat.zero_add] at c1 c2 c3
      go_upto_region 10 with (fail)
      replace HS := Lib.hid (HS.out.mod (S := OneB g3) (Mod.set1 _ g3 3 (.int .i64 to')) n23)
      replace HV := Lib.hid (HV.out.o to')
      clear c0 c1 c2 c3 f3 hc2
  all_goals
    go_wp2_with fail
    refine (rbyte_rsa _ g s8 10 10 rfl HS.out).mono ?_
    rintro e wa ⟨rfl, hs, hm⟩
    obtain ⟨s9, hs9⟩ : ∃ x, (wordS [10] s8).2 = x := ⟨_, rfl⟩
    rw [hs9] at hr hs
    replace HV := Lib.hid (HV.out.next hm)
    replace HS := Lib.hid hs
    clear hs hm hs9
    go_upto_region 11 with (fail)
    obtain ⟨c0, c1, c2, c3⟩ := HV.out.e3
    obtain ⟨d0, d1, d2, d3⟩ := HV.out.e2
    have f0 := HV.out.f2 0
    have f1 := HV.out.f2 1
    have f2 := HV.out.f2 2
    have f3 := HV.out.f2 3
    simp only [Nat.zero_add] at c1 c2 c3 d1 d2 d3
    have HF := Lib.hid HV.out.fin
    have HSF := Lib.hid (HS.out.mod HV.out.fin.2.2 n22)
    subst hr
    go_wp2_with fail
    obtain ⟨z0, z1, z2, z3⟩ := HF.out.1
    exact bodyPost_ret (v := .agg #[.int .u32 u, .int .u32 v, .int .i64 f, .int .i64 to']) (by simp [results, Tryz.results47, go_sem, z0, z1, z2, z3]) rfl ⟨rfl, HSF.out, HF.out.2.1⟩
end Go.Proofs.YtppambkffgmkgaaGreatDoor
end

section
/- Plain: lives that may be make a history that may be, and its lives are they. -/
namespace Go.Proofs.YtppambkffgmkgaaGreatDoor
set_option linter.unusedVariables false

/-- It comes and goes by turns. -/
def Alt : Bool → List Ev → Prop
  | _, [] => True
  | b, e :: l => e.add ≠ b ∧ Alt e.add l
def ofE (x : Ed) (l : List Ev) : List Ev := l.filter (fun e => decide (e.e = x))
def lfE (x : Ed) (l : List Lf) : List Lf := l.filter (fun e => decide (e.e = x))
theorem allOk_alt {n : Int} : ∀ {l : List Ev} {prev : Option Ev} {there : Ed → Bool}, l.Pairwise before → (∀ p, prev = some p → ∀ e ∈ l, before p e) → (∀ e ∈ l, (0 ≤ e.t ∧ e.t ≤ maxT) ∧ right e.e n) → (∀ x, Alt (there x) (ofE x l)) → AllOk n prev there l
  | [], _, _, _, _, _, _ => trivial
  | e :: l, prev, there, hs, hp, hb, ha => by
    obtain ⟨h1, h2⟩ := List.pairwise_cons.1 hs
    have hx := ha e.e
    have hf : ofE e.e (e :: l) = e :: ofE e.e l := by simp [ofE]
    rw [hf] at hx
    obtain ⟨a1, a2⟩ := hx
    obtain ⟨b1, b2⟩ := hb e (by simp)
    refine ⟨evErr_zero b1 b2 (fun p h => hp p h e (by simp)) (fun c => a1 c.symm), allOk_alt h2 (fun p h y hy => by cases h; exact h1 y hy) (fun y hy => hb y (by simp [hy])) (fun x => ?_)⟩
    by_cases hxe : x = e.e
    · subst hxe
      show Alt (if e.e = e.e then e.add else there e.e) _
      rw [if_pos rfl]; exact a2
    · show Alt (if x = e.e then e.add else there x) _
      rw [if_neg hxe]
      have h3 := ha x
      have hf : ofE x (e :: l) = ofE x l := by simp [ofE, show ¬ e.e = x from fun c => hxe c.symm]
      rwa [hf] at h3
theorem evs_cons (y : Lf) (X : List Lf) : evs (y :: X) = evsOf y ++ evs X := by unfold evs; rw [List.flatMap_cons]
theorem ofE_evs (x : Ed) : ∀ X : List Lf, ofE x (evs X) = evs (lfE x X)
  | [] => rfl
  | y :: X => by
    rw [evs_cons]
    show List.filter _ (evsOf y ++ evs X) = _
    rw [List.filter_append]
    have ih := ofE_evs x X
    unfold ofE at ih
    rw [ih]
    by_cases hy : y.e = x
    · have h1 : lfE x (y :: X) = y :: lfE x X := by simp [lfE, hy]
      rw [h1, evs_cons]
      congr 1
      rw [List.filter_eq_self]
      intro v hv
      simp [(mem_evsOf hv).1, hy]
    · have h1 : lfE x (y :: X) = lfE x X := by simp [lfE, hy]
      rw [h1]
      have h2 : List.filter (fun e => decide (e.e = x)) (evsOf y) = [] := by
        rw [List.filter_eq_nil_iff]
        intro v hv
        simp [(mem_evsOf hv).1, hy]
      rw [h2, List.nil_append]
theorem far_same {a b : Lf} (h : far a b) (he : a.e = b.e) : 0 ≤ a.to ∧ a.fr < a.to ∧ a.to < b.fr := by
  rcases h with c | c
  · rw [he] at c; exact absurd c (edLt_irrefl _)
  · exact c.2
theorem alt_evs {x : Ed} : ∀ X : List Lf, X.Pairwise far → (∀ a ∈ X, a.e = x) → Alt false (evs X)
  | [], _, _ => trivial
  | a :: X, hp, he => by
    obtain ⟨h1, h2⟩ := List.pairwise_cons.1 hp
    rw [evs_cons]
    unfold evsOf
    by_cases ht : 0 ≤ a.to
    · rw [if_pos ht]
      exact ⟨by simp, by simp, alt_evs X h2 (fun b hb => he b (by simp [hb]))⟩
    · have hX : X = [] := by
        cases X with
        | nil => rfl
        | cons b X => exact absurd (far_same (h1 b (by simp)) ((he a (by simp)).trans (he b (by simp)).symm)).1 ht
      subst hX
      rw [if_neg ht]
      exact ⟨by simp, trivial⟩
theorem evs_sorted {x : Ed} : ∀ X : List Lf, X.Pairwise far → (∀ a ∈ X, a.e = x) → (∀ a ∈ X, 0 ≤ a.to → a.fr < a.to) → (evs X).Pairwise before
  | [], _, _, _ => List.Pairwise.nil
  | a :: X, hp, he, ht => by
    obtain ⟨h1, h2⟩ := List.pairwise_cons.1 hp
    rw [evs_cons]
    refine List.pairwise_append.2 ⟨?_, evs_sorted X h2 (fun b hb => he b (by simp [hb])) (fun b hb => ht b (by simp [hb])), fun u hu v hv => ?_⟩
    · unfold evsOf
      split
      · rename_i h0
        refine List.pairwise_cons.2 ⟨fun b hb => ?_, List.pairwise_singleton _ _⟩
        rw [List.mem_singleton.1 hb]
        exact Or.inl (ht a (by simp) h0)
      · exact List.pairwise_singleton _ _
    · obtain ⟨y, hy, hvy⟩ := List.mem_flatMap.1 hv
      have hf := far_same (h1 y hy) ((he a (by simp)).trans (he y (by simp [hy])).symm)
      have hyt := ht y (by simp [hy])
      rcases (mem_evsOf hu).2 with c | ⟨c0, c⟩ <;> rcases (mem_evsOf hvy).2 with d | ⟨d0, d⟩
      · left; omega
      · left; have := hyt d0; omega
      · left; omega
      · left; have := hyt d0; omega
theorem evs_inj {x : Ed} : ∀ (A B : List Lf), A.Pairwise far → B.Pairwise far → (∀ a ∈ A, a.e = x) → (∀ b ∈ B, b.e = x) → (∀ a ∈ A, a.to = -1 ∨ 0 ≤ a.to) → (∀ b ∈ B, b.to = -1 ∨ 0 ≤ b.to) → evs A = evs B → A = B
  | [], [], _, _, _, _, _, _, _ => rfl
  | [], b :: B, _, _, _, _, _, _, h => by rw [evs_cons] at h; simp [evs, evsOf] at h
  | a :: A, [], _, _, _, _, _, _, h => by rw [evs_cons] at h; simp [evs, evsOf] at h
  | a :: A, b :: B, hA, hB, eA, eB, tA, tB, h => by
    obtain ⟨a1, a2⟩ := List.pairwise_cons.1 hA
    obtain ⟨b1, b2⟩ := List.pairwise_cons.1 hB
    have nA : ¬ 0 ≤ a.to → A = [] := fun ht => by
      cases A with
      | nil => rfl
      | cons c A => exact absurd (far_same (a1 c (by simp)) ((eA a (by simp)).trans (eA c (by simp)).symm)).1 ht
    have nB : ¬ 0 ≤ b.to → B = [] := fun ht => by
      cases B with
      | nil => rfl
      | cons c B => exact absurd (far_same (b1 c (by simp)) ((eB b (by simp)).trans (eB c (by simp)).symm)).1 ht
    have he : a.e = b.e := (eA a (by simp)).trans (eB b (by simp)).symm
    rw [evs_cons, evs_cons] at h
    unfold evsOf at h
    rw [List.cons_append, List.cons_append] at h
    obtain ⟨q1, q2⟩ := List.cons.inj h
    have hfr : a.fr = b.fr := congrArg Ev.t q1
    by_cases ha : 0 ≤ a.to
    · rw [if_pos ha] at q2
      by_cases hb : 0 ≤ b.to
      · rw [if_pos hb, List.cons_append, List.cons_append, List.nil_append, List.nil_append] at q2
        obtain ⟨r1, r2⟩ := List.cons.inj q2
        have hto : a.to = b.to := congrArg Ev.t r1
        have hab : a = b := by cases a; cases b; simp_all
        rw [hab, evs_inj A B a2 b2 (fun c hc => eA c (by simp [hc])) (fun c hc => eB c (by simp [hc])) (fun c hc => tA c (by simp [hc])) (fun c hc => tB c (by simp [hc])) r2]
      · have := nB hb
        subst this
        rw [if_neg hb] at q2
        simp [evs] at q2
    · have hA0 := nA ha
      subst hA0
      rw [if_neg ha] at q2
      by_cases hb : 0 ≤ b.to
      · rw [if_pos hb] at q2
        simp [evs] at q2
      · have := nB hb
        subst this
        have h1 := tA a (by simp)
        have h2 := tB b (by simp)
        have hto : a.to = b.to := by omega
        have hab : a = b := by cases a; cases b; simp_all
        rw [hab]
theorem lfErr_lim {n : Int} {prev : Option Lf} {x : Lf} (h : lfErr n prev x = 0) : (0 ≤ x.fr ∧ x.fr ≤ maxT) ∧ x.to ≤ maxT := by
  unfold lfErr at h
  split at h
  · cases h
  · rename_i h1
    omega
theorem allLf_mem {n : Int} : ∀ {X : List Lf} {prev : Option Lf}, AllLf n prev X → ∀ x ∈ X, lfErr n none x = 0
  | [], _, _, x, hx => by simp at hx
  | y :: X, prev, h, x, hx => by
    rcases List.mem_cons.1 hx with rfl | hx
    · exact lfErr_drop h.1
    · exact allLf_mem h.2 x hx
theorem lfE_mem {x : Ed} {X : List Lf} {a : Lf} (h : a ∈ lfE x X) : a ∈ X ∧ a.e = x := by
  unfold lfE at h
  rw [List.mem_filter] at h
  exact ⟨h.1, by simpa using h.2⟩
/-- An edge's events are its lives', in order. -/
theorem ofE_back {n : Int} {X : List Lf} (h : AllLf n none X) {E : List Ev} (hs : E.Pairwise before) (hp : E.Perm (evs X)) (x : Ed) : ofE x E = evs (lfE x X) := by
  obtain ⟨k1, k2, _⟩ := allLf_far h
  refine sorted_unique before_irrefl before_trans (List.Pairwise.filter _ hs) (evs_sorted (x := x) _ (List.Pairwise.filter _ k1) (fun a ha => (lfE_mem ha).2) (fun a ha => k2 a (lfE_mem ha).1)) ?_
  rw [← ofE_evs]
  exact hp.filter _
theorem lives_back {n : Int} {X : List Lf} (h : AllLf n none X) (hn : n ≤ maxN) (hl : X.length ≤ 40000) (hto : ∀ x ∈ X, x.to = -1 ∨ 0 ≤ x.to) :
    chk n (putAll before (evs X)) = (0, 0) ∧ ofL n (putAll before (evs X)) = X := by
  obtain ⟨k1, k2, _⟩ := allLf_far h
  obtain ⟨s1, s2⟩ := putAll_sorted (lt := before) before_trans (evs_pair k1 k2)
  obtain ⟨E, hE⟩ : ∃ E, putAll before (evs X) = E := ⟨_, rfl⟩
  rw [hE] at s1 s2 ⊢
  have hof := ofE_back h s1 s2
  have hok : AllOk n none (fun _ => false) E := by
    refine allOk_alt s1 (fun p h => by cases h) (fun e he => ?_) (fun x => ?_)
    · obtain ⟨y, hy, hey⟩ := List.mem_flatMap.1 (s2.subset he)
      have hm := allLf_mem h y hy
      have h1 := lfErr_lim hm
      have h2 := lfErr_ok hm
      obtain ⟨q1, q2⟩ := mem_evsOf hey
      refine ⟨?_, by rw [q1]; exact h2.2.1⟩
      rcases q2 with c | ⟨c0, c⟩
      · rw [c]; exact h1.1
      · rw [c]; exact ⟨c0, h1.2⟩
    · rw [hof x]
      exact alt_evs (x := x) _ (List.Pairwise.filter _ k1) (fun a ha => (lfE_mem ha).2)
  have hEl : E.length ≤ 80000 := by
    rw [s2.length_eq]
    have := evs_len X
    omega
  have hchk : chk n E = (0, 0) := by
    unfold chk
    rw [if_neg (by omega), chkFrom_allOk hok]
  refine ⟨hchk, ?_⟩
  have hofl : ofL n E = putAll lfLt (raw E) := if_pos (by rw [hchk])
  rw [hofl]
  obtain ⟨y1, y2, _, _⟩ := lives_ok hok hn (by omega)
  obtain ⟨Y, hY⟩ : ∃ Y, putAll lfLt (raw E) = Y := ⟨_, rfl⟩
  have hYp : Y.Perm (raw E) := by rw [← hY]; exact putAll_perm _
  rw [hY] at y1 y2 ⊢
  have hYa : AllLf n none Y := by
    have : (lchk n Y).2 = 0 := by rw [y2]
    unfold lchk at this
    split at this
    · cases this
    · exact allLf_of this
  have hYE : E.Perm (evs Y) := ((evs_perm hYp).trans (evs_raw_all hok)).symm
  have hof2 := ofE_back hYa s1 hYE
  have hYt : ∀ y ∈ Y, y.to = -1 ∨ 0 ≤ y.to := fun y hy => by
    rcases raw_to (hYp.subset hy) with c | ⟨e, he, c⟩
    · exact Or.inl c
    · right; rw [c]
      have := allOk_t hok e he
      exact this
  obtain ⟨z1, z2, _⟩ := allLf_far hYa
  have heq : ∀ x, lfE x Y = lfE x X := fun x => evs_inj (x := x) _ _ (List.Pairwise.filter _ z1) (List.Pairwise.filter _ k1) (fun a ha => (lfE_mem ha).2) (fun a ha => (lfE_mem ha).2) (fun a ha => hYt a (lfE_mem ha).1) (fun a ha => hto a (lfE_mem ha).1) ((hof2 x).symm.trans (hof x))
  have hXs : X.Pairwise lfLt := by
    refine k1.imp (fun {a b} hab => ?_)
    rcases hab with c | ⟨c1, c2, c3, c4⟩
    · exact Or.inl c
    · exact Or.inr ⟨c1, by omega⟩
  refine sorted_unique lfLt_irrefl lfLt_trans y1 hXs ?_
  rw [List.perm_iff_count]
  intro a
  have h1 : List.count a Y = List.count a (lfE a.e Y) := (List.count_filter (by simp)).symm
  have h2 : List.count a X = List.count a (lfE a.e X) := (List.count_filter (by simp)).symm
  rw [h1, h2, heq]
end Go.Proofs.YtppambkffgmkgaaGreatDoor
end

section
/- What the readers of a table keep in memory: their results' blocks, lives in a row of their own. -/
namespace Go.Proofs.YtppambkffgmkgaaGreatDoor
open Go.RowKit
set_option linter.unusedVariables false

/-- What goes out at last. -/
theorem PS0.fin {w wr : World} {g2 g3 : Nat} (h : PS0 w wr g2 g3) (u : Int) (v : Value) (a b : Int) :
    let W := (((wr.setCell ⟨g2, 0, none⟩ (.int .u64 u)).setCell ⟨g2, 1, none⟩ v).setCell ⟨g3, 0, none⟩ (.int .i64 a)).setCell ⟨g3, 1, none⟩ (.int .i64 b)
    (W.cell? ⟨g2, 0, none⟩ = some (.int .u64 u) ∧ W.cell? ⟨g2, 1, none⟩ = some v ∧ W.cell? ⟨g3, 0, none⟩ = some (.int .i64 a) ∧ W.cell? ⟨g3, 1, none⟩ = some (.int .i64 b)) ∧ Mod w W NoB ∧ Mod wr W (fun q => q = g2 ∨ q = g3) := by
  intro W
  have hm : Mod wr W (fun q => q = g2 ∨ q = g3) := ((((Mod.refl wr (fun q => q = g2 ∨ q = g3)).setS (i := 0) (Or.inl rfl) _).setS (i := 1) (Or.inl rfl) _).setS (i := 0) (Or.inr rfl) _).setS (i := 1) (Or.inr rfl) _
  have o : ∀ (z : World) (g g' i j : Nat) (v : Value), (g ≠ g' ∨ i ≠ j) → (z.setCell ⟨g, i, none⟩ v).cell? ⟨g', j, none⟩ = z.cell? ⟨g', j, none⟩ := fun z g g' i j v hij => World.cell?_setCell_other _ _ _ _ (by intro c; cases c; rcases hij with c | c <;> exact c rfl)
  refine ⟨⟨?_, ?_, ?_, ?_⟩, h.mod.trans hm (fun i hi c => by
    have h1 := h.y.1
    have h2 := h.y.2
    rcases c with c | c
    · omega
    · omega), hm⟩
  · rw [o _ g3 g2 1 0 _ (Or.inl h.d.symm), o _ g3 g2 0 0 _ (Or.inl h.d.symm), o _ g2 g2 1 0 _ (Or.inr (by decide))]; exact World.cell?_setCell_same _ _ _ h.z0
  · rw [o _ g3 g2 1 1 _ (Or.inl h.d.symm), o _ g3 g2 0 1 _ (Or.inl h.d.symm)]; exact World.cell?_setCell_same _ _ _ ((o _ g2 g2 0 1 _ (Or.inr (by decide))).trans h.z1)
  · rw [o _ g3 g3 1 0 _ (Or.inr (by decide))]; exact World.cell?_setCell_same _ _ _ ((o _ g2 g3 1 0 _ (Or.inl h.d)).trans ((o _ g2 g3 0 0 _ (Or.inl h.d)).trans h.p0))
  · exact World.cell?_setCell_same _ _ _ ((o _ g3 g3 0 1 _ (Or.inr (by decide))).trans ((o _ g2 g3 1 1 _ (Or.inl h.d)).trans ((o _ g2 g3 0 1 _ (Or.inl h.d)).trans h.p1)))

/-- What stands beside the text that is read. -/
structure TMm (w wr : World) (g2 g3 gs : Nat) (oa : Option Addr) (oc : Nat) (X : List Lf) : Prop where
  ps : PS0 w wr g2 g3
  row : wr.ownsRow 0 81 4 (.slice oa X.length oc) X.length (X.flatMap encL)
  sep : ∀ q, (Value.slice oa X.length oc).ownBlock = some q → w.heap.size ≤ q ∧ q ≠ g2 ∧ q ≠ g3 ∧ q ≠ gs
  gk : w.heap.size ≤ gs ∧ gs ≠ g2 ∧ gs ≠ g3
  gl : gs < wr.heap.size
theorem TMm.keep {S : Nat → Prop} {w wr w' : World} {g2 g3 gs : Nat} {oa : Option Addr} {oc : Nat} {X : List Lf} (h : TMm w wr g2 g3 gs oa oc X) (hm : Mod wr w' S) (hS : ∀ q, S q → q = gs) : TMm w w' g2 g3 gs oa oc X :=
  ⟨h.ps.keep hm (fun q c => by rw [hS q c]; exact h.gk), hm.row h.row (fun q hq c => (h.sep q hq).2.2.2 (hS q c)), h.sep, h.gk, Nat.lt_of_lt_of_le h.gl hm.size⟩
theorem TMm.quiet {w wr w' : World} {g2 g3 gs : Nat} {oa : Option Addr} {oc : Nat} {X : List Lf} (h : TMm w wr g2 g3 gs oa oc X) (hm : Mod wr w' NoB) : TMm w w' g2 g3 gs oa oc X := h.keep hm (fun q c => c.elim)
theorem TMm.lvs {w wr : World} {g2 g3 gs : Nat} {oa : Option Addr} {oc : Nat} {X : List Lf} (h : TMm w wr g2 g3 gs oa oc X) : Lvs wr oa X := lvs_of_row rfl h.row
/-- One life more. -/
theorem TMm.app {w wr w8 : World} {g2 g3 gs : Nat} {oa a8 : Option Addr} {oc c8 : Nat} {X : List Lf} {x : Lf} {o : Obj} (h : TMm w wr g2 g3 gs oa oc X)
    (hown : w8.ownsRow 0 81 4 (.slice a8 (X.length + 1) c8) (X.length + 1) (X.flatMap encL ++ encL x)) (hgrow : (wr.alloc o).grownBy w8 (Value.slice oa X.length oc).ownBlock) (hat : (Value.slice a8 (X.length + 1) c8).ownBlock = (Value.slice oa X.length oc).ownBlock ∨ (Value.slice a8 (X.length + 1) c8).ownBlock = some (wr.alloc o).heap.size) :
    TMm w w8 g2 g3 gs a8 c8 (X ++ [x]) ∧ Mod wr w8 (fun q => (Value.slice oa X.length oc).ownBlock = some q) := by
  have hm8 : Mod wr w8 (fun q => (Value.slice oa X.length oc).ownBlock = some q) := ((Mod.refl _ _).alloc o).grown hgrow (fun k hk _ => hk)
  have hlen : (X ++ [x]).length = X.length + 1 := by simp
  have e8 : ∀ q, (Value.slice a8 (X.length + 1) c8).ownBlock = some q → w.heap.size ≤ q ∧ q ≠ g2 ∧ q ≠ g3 ∧ q ≠ gs := by
    intro q hq
    rcases hat with c | c
    · exact h.sep q (c.symm.trans hq)
    · have e1 : q = (wr.alloc o).heap.size := Option.some.inj (hq.symm.trans c)
      have e2 : (wr.alloc o).heap.size = wr.heap.size + 1 := by simp
      have e3 := h.ps.mod.size
      have e4 := h.ps.lt
      have e5 := h.gl
      exact ⟨by omega, by omega, by omega, by omega⟩
  refine ⟨⟨h.ps.keep hm8 (fun q c => ⟨(h.sep q c).1, (h.sep q c).2.1, (h.sep q c).2.2.1⟩), ?_, ?_, h.gk, Nat.lt_of_lt_of_le h.gl hm8.size⟩, hm8⟩
  · rw [hlen, List.flatMap_append]
    have : ([x] : List Lf).flatMap encL = encL x := by simp
    rw [this]; exact hown
  · rw [hlen]; exact e8
/-- The end of a row of lives. -/
theorem Lvs.drop {w : World} {b : Nat} {X : List Lf} (h : Lvs w (some ⟨b, 0, none⟩) X) (d : Nat) : Lvs w (some ⟨b, d * 4, none⟩) (X.drop d) := by
  rcases h with h | ⟨b', off, h1, h2, h3⟩
  · left; rw [h]; simp
  · cases h1
    refine Or.inr ⟨b, d * 4, rfl, h2, fun i x hx => ?_⟩
    rw [List.getElem?_drop] at hx
    have := h3 _ _ hx
    rw [show d * 4 + i * 4 = 0 + (d + i) * 4 by omega]
    exact this
theorem evs_away {w w' : World} {a : Option Addr} {E : List Ev} {g2 g3 : Nat} (h : Evs w a E) (hm : Mod w w' (fun q => q = g2 ∨ q = g3)) (hy : ∀ p, a = some p → p.block ≠ g2 ∧ p.block ≠ g3) : Evs w' a E :=
  h.modS hm (fun b hb ⟨p, hp, hpb⟩ c => by
    have := hy p hp
    rcases c with c | c
    · exact this.1 (hpb.trans c)
    · exact this.2 (hpb.trans c))
theorem evCount_snoc (X : List Lf) (x : Lf) : evCount (X ++ [x]) = evCount X + (if 0 ≤ x.to then 2 else 1) := by
  unfold evCount
  rw [List.filter_append, List.length_append, List.length_append]
  by_cases h : 0 ≤ x.to <;> simp [h] <;> omega
end Go.Proofs.YtppambkffgmkgaaGreatDoor
end
