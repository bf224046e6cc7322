/- Merged: LgE LgEw LgP -/
import Derived.Test.YtppambkffgmkgaaGreatDoorMg13
import Derived.Test.YtppambkffgmkgaaGreatDoorMg10
section
/- The contracts of the program's and the reference's reading of an event's line. -/
namespace Go.Proofs.YtppambkffgmkgaaGreatDoor
open Go.RowKit
set_option linter.unusedVariables false

/-- An event's line, read. -/
def evS (st : SS) : Ev × SS :=
  let a := numS 4611686018427387903 st
  let b := wordS [32] a.2
  let c := if nextS b.2 = some 43 then wordS [43] b.2 else (false, (wordS [45] b.2).2)
  let d := wordS [32] c.2
  let u := numS 4294967295 d.2
  let e := wordS [32] u.2
  let v := numS 4294967295 e.2
  let f := wordS [10] v.2
  (⟨a.1, ⟨u.1, v.1⟩, c.1⟩, f.2)

theorem numS_bd {most : Int} (h0 : 0 ≤ most) (st : SS) : 0 ≤ (numS most st).1 ∧ (numS most st).1 ≤ most := by
  unfold numS numOut
  dsimp only
  split
  · exact ⟨Int.le_refl _, h0⟩
  · split
    · exact ⟨Int.le_refl _, h0⟩
    · split
      · exact ⟨Int.le_refl _, h0⟩
      · rename_i v hv
        exact valof_bd (fun c hc => List.all_eq_true.1 (List.all_takeWhile) c hc) (Int.le_refl _) h0 hv
theorem wordS_err {u : List UInt8} {st : SS} (h : st.er ≠ 0) : wordS u st = (false, st) := by
  unfold wordS wordOut
  simp only [if_pos h]
  rw [SS.go_zero]
theorem numS_err {most : Int} {st : SS} (h : st.er ≠ 0) : numS most st = (0, st) := by
  unfold numS numOut
  simp only [if_pos h]
  rw [SS.go_zero]
/-- One byte that isn't there: which one it was to be tells nothing. -/
theorem byte_fail {c d : UInt8} {st : SS} (hc : st.l.head? ≠ some c) (hd : st.l.head? ≠ some d) : wordS [c] st = wordS [d] st := by
  have key : ∀ x : UInt8, st.l.head? ≠ some x → wordOut [x] st.l st.er = (false, if st.er ≠ 0 then st.er else if st.l = [] then 20 else 21, 0) := by
    intro x hx
    unfold wordOut
    by_cases he : st.er ≠ 0
    · rw [if_pos he, if_pos he]
    · rw [if_neg he, if_neg he]
      cases hl : st.l with
      | nil => rfl
      | cons y r =>
        rw [hl] at hx
        have h1 : ¬ ([x] <+: y :: r) := by
          rintro ⟨t, ht⟩
          have := congrArg List.head? ht
          simp at this
          exact hx (by simp [this])
        have h2 : ¬ (y :: r <+: [x]) := by
          rintro ⟨t, ht⟩
          have := congrArg List.head? ht
          simp at this
          exact hx (by simp [this])
        rw [if_neg h1, if_neg h2, if_neg (by simp)]
  unfold wordS
  rw [key c hc, key d hd]
theorem nextS_head {st : SS} {c : UInt8} (h : nextS st = some c) : st.er = 0 ∧ st.l.head? = some c := by
  unfold nextS at h
  split at h
  · exact ⟨by assumption, h⟩
  · cases h
theorem nextS_not {st : SS} {c : UInt8} (h : nextS st ≠ some c) (he : st.er = 0) : st.l.head? ≠ some c := by
  unfold nextS at h
  rw [if_pos he] at h
  exact h
/-- The reference looks for the other sign. -/
theorem sign_same (st : SS) : (if nextS st = some 45 then (false, (wordS [45] st).2) else wordS [43] st) = (if nextS st = some 43 then wordS [43] st else (false, (wordS [45] st).2)) := by
  by_cases h3 : nextS st = some 43
  · rw [if_pos h3, if_neg (by rw [h3]; decide)]
  · rw [if_neg h3]
    by_cases h5 : nextS st = some 45
    · rw [if_pos h5]
    · rw [if_neg h5]
      by_cases he : st.er = 0
      · have e1 := nextS_not h3 he
        have e2 := nextS_not h5 he
        rw [byte_fail (d := 45) e1 e2]
        have : (wordS [45] st).1 = false := by
          unfold wordS wordOut
          simp only [he, ne_eq, not_true_eq_false, if_false]
          have h1 : ¬ ([45] <+: st.l) := by
            rintro ⟨t, ht⟩
            exact e2 (by rw [← ht]; rfl)
          rw [if_neg h1]
          split <;> rfl
        exact Prod.ext this rfl
      · rw [wordS_err he, wordS_err he]

/-- Two events in blocks of their own: what goes out, what is read. -/
structure VSt (w wr : World) (g g2 g3 : Nat) (x : Ev) : Prop where
  e2 : EvAt wr g2 0 ⟨0, ⟨0, 0⟩, false⟩
  e3 : EvAt wr g3 0 x
  f2 : ∀ j, wr.frozen? ⟨g2, j, none⟩ = false
  f3 : ∀ j, wr.frozen? ⟨g3, j, none⟩ = false
  mod : Mod w wr (OneB g)
  y2 : w.heap.size ≤ g2
  y3 : w.heap.size ≤ g3
  ne : g2 ≠ g3
  lt : g < w.heap.size
theorem VSt.next {w wr w' : World} {g g2 g3 : Nat} {x : Ev} (h : VSt w wr g g2 g3 x) (hm : Mod wr w' (OneB g)) : VSt w w' g g2 g3 x := by
  have n2 : ¬ OneB g g2 := fun c => by have e : g2 = g := c; have := h.y2; have := h.lt; omega
  have n3 : ¬ OneB g g3 := fun c => by have e : g3 = g := c; have := h.y3; have := h.lt; omega
  exact ⟨⟨keepS h.e2.1 hm n2, keepS h.e2.2.1 hm n2, keepS h.e2.2.2.1 hm n2, keepS h.e2.2.2.2 hm n2⟩, ⟨keepS h.e3.1 hm n3, keepS h.e3.2.1 hm n3, keepS h.e3.2.2.1 hm n3, keepS h.e3.2.2.2 hm n3⟩,
    fun j => (hm.frozen (p := ⟨g2, j, none⟩) (by have := World.block_lt_of_cell? _ _ h.e2.1; exact this) n2).trans (h.f2 j), fun j => (hm.frozen (p := ⟨g3, j, none⟩) (by have := World.block_lt_of_cell? _ _ h.e3.1; exact this) n3).trans (h.f3 j), h.mod.trans hm (fun _ _ c => c), h.y2, h.y3, h.ne, h.lt⟩
theorem VSt.put {w wr : World} {g g2 g3 : Nat} {x y : Ev} (h : VSt w wr g g2 g3 x) (c : Nat) (v : Value) (hy : EvAt (wr.setCell ⟨g3, c, none⟩ v) g3 0 y) : VSt w (wr.setCell ⟨g3, c, none⟩ v) g g2 g3 y := by
  have hm : Mod wr (wr.setCell ⟨g3, c, none⟩ v) (OneB g3) := Mod.set1 wr g3 c v
  have n2 : ¬ OneB g3 g2 := fun c => h.ne c
  exact ⟨⟨keepS h.e2.1 hm n2, keepS h.e2.2.1 hm n2, keepS h.e2.2.2.1 hm n2, keepS h.e2.2.2.2 hm n2⟩, hy, fun j => by rw [World.frozen?_setCell]; exact h.f2 j, fun j => by rw [World.frozen?_setCell]; exact h.f3 j,
    h.mod.trans hm (fun i hi c => by have e : i = g3 := c; have := h.y3; omega), h.y2, h.y3, h.ne, h.lt⟩
theorem VSt.t {w wr : World} {g g2 g3 : Nat} {x : Ev} (h : VSt w wr g g2 g3 x) (t : Int) : VSt w (wr.setCell ⟨g3, 0, none⟩ (.int .i64 t)) g g2 g3 ⟨t, x.e, x.add⟩ := by
  obtain ⟨c0, c1, c2, c3⟩ := h.e3
  exact h.put 0 _ ⟨World.cell?_setCell_same _ _ _ c0, (World.cell?_setCell_other _ _ _ _ (by simp)).trans c1, (World.cell?_setCell_other _ _ _ _ (by simp)).trans c2, (World.cell?_setCell_other _ _ _ _ (by simp)).trans c3⟩
theorem VSt.u {w wr : World} {g g2 g3 : Nat} {x : Ev} (h : VSt w wr g g2 g3 x) (t : Int) : VSt w (wr.setCell ⟨g3, 1, none⟩ (.int .u32 t)) g g2 g3 ⟨x.t, ⟨t, x.e.v⟩, x.add⟩ := by
  obtain ⟨c0, c1, c2, c3⟩ := h.e3
  exact h.put 1 _ ⟨(World.cell?_setCell_other _ _ _ _ (by simp)).trans c0, World.cell?_setCell_same _ _ _ c1, (World.cell?_setCell_other _ _ _ _ (by simp)).trans c2, (World.cell?_setCell_other _ _ _ _ (by simp)).trans c3⟩
theorem VSt.v {w wr : World} {g g2 g3 : Nat} {x : Ev} (h : VSt w wr g g2 g3 x) (t : Int) : VSt w (wr.setCell ⟨g3, 2, none⟩ (.int .u32 t)) g g2 g3 ⟨x.t, ⟨x.e.u, t⟩, x.add⟩ := by
  obtain ⟨c0, c1, c2, c3⟩ := h.e3
  exact h.put 2 _ ⟨(World.cell?_setCell_other _ _ _ _ (by simp)).trans c0, (World.cell?_setCell_other _ _ _ _ (by simp)).trans c1, World.cell?_setCell_same _ _ _ c2, (World.cell?_setCell_other _ _ _ _ (by simp)).trans c3⟩
theorem VSt.a {w wr : World} {g g2 g3 : Nat} {x : Ev} (h : VSt w wr g g2 g3 x) (t : Bool) : VSt w (wr.setCell ⟨g3, 3, none⟩ (.bool t)) g g2 g3 ⟨x.t, x.e, t⟩ := by
  obtain ⟨c0, c1, c2, c3⟩ := h.e3
  exact h.put 3 _ ⟨(World.cell?_setCell_other _ _ _ _ (by simp)).trans c0, (World.cell?_setCell_other _ _ _ _ (by simp)).trans c1, (World.cell?_setCell_other _ _ _ _ (by simp)).trans c2, World.cell?_setCell_same _ _ _ c3⟩
theorem VSt.start {w : World} {g : Nat} (hg : g < w.heap.size) : VSt w ((w.alloc (.cells #[.int .i64 0, .int .u32 0, .int .u32 0, .bool false] 62)).alloc (.cells #[.int .i64 0, .int .u32 0, .int .u32 0, .bool false] 62)) g w.heap.size (w.heap.size + 1) ⟨0, ⟨0, 0⟩, false⟩ := by
  have hs1 : (w.alloc (.cells #[.int .i64 0, .int .u32 0, .int .u32 0, .bool false] 62)).heap.size = w.heap.size + 1 := by simp
  have lt : w.heap.size < (w.alloc (.cells #[.int .i64 0, .int .u32 0, .int .u32 0, .bool false] 62)).heap.size := by rw [hs1]; omega
  have a1 : ∀ j, ((w.alloc (.cells #[.int .i64 0, .int .u32 0, .int .u32 0, .bool false] 62)).alloc (.cells #[.int .i64 0, .int .u32 0, .int .u32 0, .bool false] 62)).cell? ⟨w.heap.size, j, none⟩ = (#[.int .i64 0, .int .u32 0, .int .u32 0, .bool false] : Array Value)[j]? := fun j =>
    (World.cell?_alloc_lt _ _ _ lt).trans (World.cell?_alloc_at _ _ _ _ rfl)
  have a2 : ∀ j, ((w.alloc (.cells #[.int .i64 0, .int .u32 0, .int .u32 0, .bool false] 62)).alloc (.cells #[.int .i64 0, .int .u32 0, .int .u32 0, .bool false] 62)).cell? ⟨w.heap.size + 1, j, none⟩ = (#[.int .i64 0, .int .u32 0, .int .u32 0, .bool false] : Array Value)[j]? := fun j =>
    World.cell?_alloc_at _ _ _ _ hs1.symm
  have f1 : ∀ j, (w.alloc (.cells #[.int .i64 0, .int .u32 0, .int .u32 0, .bool false] 62)).frozen? ⟨w.heap.size, j, none⟩ = false := fun j => World.frozen?_alloc_new _ _ _ _
  exact ⟨⟨(a1 0).trans rfl, (a1 1).trans rfl, (a1 2).trans rfl, (a1 3).trans rfl⟩, ⟨(a2 0).trans rfl, (a2 1).trans rfl, (a2 2).trans rfl, (a2 3).trans rfl⟩,
    fun j => (((Mod.refl _ NoB).alloc _).frozen (p := ⟨w.heap.size, j, none⟩) lt (by simp [NoB])).trans (f1 j), fun j => frozen_alloc_at _ _ _ _ _ hs1.symm, ((Mod.refl _ _).alloc _).alloc _, Nat.le_refl _, Nat.le_succ _, by omega, hg⟩
theorem i64_of {t : Int} (h : 0 ≤ t ∧ t ≤ 4611686018427387903) : IntKind.i64.wrap t = t := IntWalk.i64_in _ (by omega)
theorem u32_of {t : Int} (h : 0 ≤ t ∧ t ≤ 4294967295) : IntKind.u32.wrap t = t := by rw [IntKind.wrap_u32]; omega
/-- What goes out at last. -/
theorem VSt.fin {w wr : World} {g g2 g3 : Nat} {x : Ev} (h : VSt w wr g g2 g3 x) :
    let W := (((wr.setCell ⟨g2, 0, none⟩ (.int .i64 x.t)).setCell ⟨g2, 1, none⟩ (.int .u32 x.e.u)).setCell ⟨g2, 2, none⟩ (.int .u32 x.e.v)).setCell ⟨g2, 3, none⟩ (.bool x.add)
    (W.cell? ⟨g2, 0, none⟩ = some (.int .i64 x.t) ∧ W.cell? ⟨g2, 1, none⟩ = some (.int .u32 x.e.u) ∧ W.cell? ⟨g2, 2, none⟩ = some (.int .u32 x.e.v) ∧ W.cell? ⟨g2, 3, none⟩ = some (.bool x.add)) ∧ Mod w W (OneB g) ∧ Mod wr W (OneB g2) := by
  intro W
  obtain ⟨c0, c1, c2, c3⟩ := h.e2
  have hm : Mod wr W (OneB g2) := (((Mod.set1 wr g2 0 _).setG _).setG _).setG _
  have o : ∀ (z : World) (i j : Nat) (v : Value), i ≠ j → (z.setCell ⟨g2, i, none⟩ v).cell? ⟨g2, j, none⟩ = z.cell? ⟨g2, j, none⟩ := fun z i j v hij => World.cell?_setCell_other _ _ _ _ (by intro c; cases c; exact hij rfl)
  refine ⟨⟨?_, ?_, ?_, ?_⟩, h.mod.trans hm (fun i hi c => by have e : i = g2 := c; have := h.y2; omega), hm⟩
  · rw [o _ 3 0 _ (by decide), o _ 2 0 _ (by decide), o _ 1 0 _ (by decide)]; exact World.cell?_setCell_same _ _ _ c0
  · rw [o _ 3 1 _ (by decide), o _ 2 1 _ (by decide)]; exact World.cell?_setCell_same _ _ _ ((o _ 0 1 _ (by decide)).trans c1)
  · rw [o _ 3 2 _ (by decide)]; exact World.cell?_setCell_same _ _ _ ((o _ 1 2 _ (by decide)).trans ((o _ 0 2 _ (by decide)).trans c2))
  · exact World.cell?_setCell_same _ _ _ ((o _ 2 3 _ (by decide)).trans ((o _ 1 3 _ (by decide)).trans ((o _ 0 3 _ (by decide)).trans c3)))
end Go.Proofs.YtppambkffgmkgaaGreatDoor
end

section
/- The walks of the program's and the reference's reading of an event's line. -/
namespace Go.Proofs.YtppambkffgmkgaaGreatDoor
open Go.RowKit
set_option linter.unusedVariables false

/-- The bytes that are read, as numbers. -/
theorem b32 : ((32 : UInt8).toNat : Int) = 32 := rfl
theorem b43 : ((43 : UInt8).toNat : Int) = 43 := rfl
theorem b45 : ((45 : UInt8).toNat : Int) = 45 := rfl
theorem b10 : ((10 : UInt8).toNat : Int) = 10 := rfl
theorem u8_ext {c : UInt8} {k : Nat} (hk : k < 256) (h : (c.toNat : Int) = (k : Int)) : c = UInt8.ofNat k := by
  apply UInt8.toNat_inj.1
  rw [UInt8.toNat_ofNat_of_lt' (by show k < 256; exact hk)]
  omega

/-- Two ends of an edge, read. -/
def edS (st : SS) : Ed × SS :=
  let u := numS 4294967295 st
  let e := wordS [32] u.2
  let v := numS 4294967295 e.2
  (⟨u.1, v.1⟩, v.2)
set_option maxRecDepth 100000 in
set_option maxHeartbeats 4000000 in
theorem redge_any (w : World) (g : Nat) (st : SS) (h : RsA w g st) :
    Calls Tryz.prog 77 #[.pointer (some ⟨g, 0, none⟩)] w fun e w' => e = .returned (.agg #[.int .u32 (edS st).1.u, .int .u32 (edS st).1.v]) ∧ RsA w' g (edS st).2 ∧ Mod w w' (OneB g) := by
  have hg := h.lt
  obtain ⟨r, hr⟩ : ∃ r, edS st = r := ⟨_, rfl⟩
  rw [hr]
  unfold edS at hr
  dsimp only at hr
  have H0 : Hid (Mod w (w.alloc (.cells #[.int .u32 0, .int .u32 0] 57)) NoB ∧ (w.alloc (.cells #[.int .u32 0, .int .u32 0] 57)).cell? ⟨w.heap.size, 0, none⟩ = some (.int .u32 0) ∧ (w.alloc (.cells #[.int .u32 0, .int .u32 0] 57)).cell? ⟨w.heap.size, 1, none⟩ = some (.int .u32 0) ∧
      (∀ j, (w.alloc (.cells #[.int .u32 0, .int .u32 0] 57)).frozen? ⟨w.heap.size, j, none⟩ = false) ∧ RsA (w.alloc (.cells #[.int .u32 0, .int .u32 0] 57)) g st) :=
    ⟨(Mod.refl _ _).alloc _, World.cell?_alloc_at _ _ _ _ rfl, World.cell?_alloc_at _ _ _ _ rfl, fun j => frozen_alloc_at _ _ _ _ _ rfl, h.mod ((Mod.refl w NoB).alloc _) (by simp [NoB])⟩
  clear h
  go_enter Tryz.func77, Tryz.ntmps77
  go_upto_region 1 with (fail)
  obtain ⟨g2, hg2⟩ : ∃ g2, g2 = w.heap.size := ⟨_, rfl⟩
  obtain ⟨W, hW⟩ : ∃ W, W = w.alloc (.cells #[.int .u32 0, .int .u32 0] 57) := ⟨_, rfl⟩
  rw [← hW, ← hg2] at H0
  rw [← hW, ← hg2]
  have hne : g2 ≠ g := by omega
  have hy : w.heap.size ≤ g2 := by omega
  have n2 : ¬ OneB g g2 := fun c => hne c
  have n3 : ¬ OneB g2 g := fun c => hne c.symm
  clear hW hg2
  go_wp2_with fail
  refine (rnum_rsa _ g st 4294967295 H0.out.2.2.2.2 (by decide)).mono ?_
  rintro e w1 ⟨rfl, hs, hm⟩
  obtain ⟨u, hu⟩ : ∃ x, (numS 4294967295 st).1 = x := ⟨_, rfl⟩
  have hbu := numS_bd (most := 4294967295) (by decide) st
  obtain ⟨s1, hs1⟩ : ∃ x, (numS 4294967295 st).2 = x := ⟨_, rfl⟩
  rw [hu] at hr hbu ⊢
  rw [hs1] at hr hs
  have hwu := u32_of hbu
  have HM := Lib.hid hm
  have HS := Lib.hid hs
  clear hs hm hu hs1
  go_wp2_with fail
  refine (rbyte_rsa _ g s1 32 32 rfl HS.out).mono ?_
  rintro e w2 ⟨rfl, hs, hm⟩
  obtain ⟨s2, hs2⟩ : ∃ x, (wordS [32] s1).2 = x := ⟨_, rfl⟩
  rw [hs2] at hr hs
  replace HM := Lib.hid (HM.out.trans hm (fun _ _ c => c))
  replace HS := Lib.hid hs
  clear hs hm hs2
  go_wp2_with fail
  refine (rnum_rsa _ g s2 4294967295 HS.out (by decide)).mono ?_
  rintro e w3 ⟨rfl, hs, hm⟩
  obtain ⟨v, hv⟩ : ∃ x, (numS 4294967295 s2).1 = x := ⟨_, rfl⟩
  have hbv := numS_bd (most := 4294967295) (by decide) s2
  obtain ⟨s3, hs3⟩ : ∃ x, (numS 4294967295 s2).2 = x := ⟨_, rfl⟩
  rw [hv] at hr hbv ⊢
  rw [hs3] at hr hs
  have hwv := u32_of hbv
  replace HM := Lib.hid (HM.out.trans hm (fun _ _ c => c))
  replace HS := Lib.hid hs
  clear hs hm hv hs3
  have d0 := keepS H0.out.2.1 HM.out n2
  have d1 := keepS H0.out.2.2.1 HM.out n2
  have f0 := (HM.out.frozen (p := ⟨g2, 0, none⟩) (by have := World.block_lt_of_cell? _ _ H0.out.2.1; exact this) n2).trans (H0.out.2.2.2.1 0)
  have f1 := (HM.out.frozen (p := ⟨g2, 1, none⟩) (by have := World.block_lt_of_cell? _ _ H0.out.2.1; exact this) n2).trans (H0.out.2.2.2.1 1)
  subst hr
  have z0 : ((w3.setCell ⟨g2, 0, none⟩ (.int .u32 u)).setCell ⟨g2, 1, none⟩ (.int .u32 v)).cell? ⟨g2, 0, none⟩ = some (.int .u32 u) := (World.cell?_setCell_other _ _ _ _ (by simp)).trans (World.cell?_setCell_same _ _ _ d0)
  have z1 : ((w3.setCell ⟨g2, 0, none⟩ (.int .u32 u)).setCell ⟨g2, 1, none⟩ (.int .u32 v)).cell? ⟨g2, 1, none⟩ = some (.int .u32 v) := World.cell?_setCell_same _ _ _ ((World.cell?_setCell_other _ _ _ _ (by simp)).trans d1)
  have hmz : Mod w3 ((w3.setCell ⟨g2, 0, none⟩ (.int .u32 u)).setCell ⟨g2, 1, none⟩ (.int .u32 v)) (OneB g2) := (Mod.set1 w3 g2 0 _).setG _
  have HZ : Hid (RsA ((w3.setCell ⟨g2, 0, none⟩ (.int .u32 u)).setCell ⟨g2, 1, none⟩ (.int .u32 v)) g s3 ∧ Mod w ((w3.setCell ⟨g2, 0, none⟩ (.int .u32 u)).setCell ⟨g2, 1, none⟩ (.int .u32 v)) (OneB g)) :=
    ⟨HS.out.mod hmz n3, (((H0.out.1.mono (T := OneB g) (fun _ _ c => c.elim)).trans HM.out (fun _ _ c => c)).trans hmz (fun i hi c => by have e : i = g2 := c; omega))⟩
  have Z01 := Lib.hid (And.intro z0 z1)
  clear z0 z1 hmz
  go_wp2_with fail
  obtain ⟨z0, z1⟩ := Z01.out
  exact bodyPost_ret (v := .agg #[.int .u32 u, .int .u32 v]) (by simp [results, Tryz.results77, go_sem, z0, z1]) rfl ⟨rfl, HZ.out.1, HZ.out.2⟩

theorem VSt.ed {w wr : World} {g g2 g3 : Nat} {x : Ev} (h : VSt w wr g g2 g3 x) (u v : Int) : VSt w ((wr.setCell ⟨g3, 1, none⟩ (.int .u32 u)).setCell ⟨g3, 2, none⟩ (.int .u32 v)) g g2 g3 ⟨x.t, ⟨u, v⟩, x.add⟩ := (h.u u).v v

end Go.Proofs.YtppambkffgmkgaaGreatDoor
end

section
/- A log's text, read, in plain words. -/
namespace Go.Proofs.YtppambkffgmkgaaGreatDoor
set_option linter.unusedVariables false

/-- Events' lines, read one by one: what comes out, where it stopped, why. -/
def plF (n : Int) : Nat → List Ev → SS → List Ev × (Int × Int) × Int
  | 0, F, _ => (F, (0, 0), 0)
  | k + 1, F, st =>
    if (nextS st).isSome = true then
      if (evS st).2.er ≠ 0 then ([], (evS st).2.p, (evS st).2.er)
      else if evErr n (prevOf F F.length) (thereOf F) (evS st).1 ≠ 0 then ([], st.p, (evErr n (prevOf F F.length) (thereOf F) (evS st).1 : Nat))
      else plF n k (F ++ [(evS st).1]) (evS st).2
    else if st.er = 0 then (F, (0, 0), 0) else ([], st.p, st.er)
/-- The head of a log. -/
def hdS (l : List UInt8) : Int × SS :=
  let a := wordS [108, 111, 103] ⟨l, (1, 1), 0⟩
  let b := wordS [32] a.2
  let c := numS 4294967296 b.2
  (c.1, (wordS [10] c.2).2)
def parseR (l : List UInt8) : List Ev × (Int × Int) × Int := plF (hdS l).1 (l.length + 1) [] (hdS l).2
def parseN (l : List UInt8) : Int := if (parseR l).2.2 = 0 then (hdS l).1 else 0

theorem SS.go_len (st : SS) (n : Nat) (er : Int) : (st.go n er).l.length ≤ st.l.length := by simp [SS.go]
theorem numS_len (most : Int) (st : SS) : (numS most st).2.l.length ≤ st.l.length := SS.go_len _ _ _
theorem wordS_len (u : List UInt8) (st : SS) : (wordS u st).2.l.length ≤ st.l.length := SS.go_len _ _ _
/-- A word that is there takes its bytes; else there is an error. -/
theorem wordS_ok {u : List UInt8} {st : SS} (h : (wordS u st).2.er = 0) : st.er = 0 ∧ ∃ r, st.l = u ++ r ∧ (wordS u st) = (true, ⟨r, adv st.p u, 0⟩) := by
  unfold wordS wordOut SS.go at h ⊢
  by_cases he : st.er ≠ 0
  · simp only [if_pos he] at h; exact absurd h he
  · simp only [if_neg he] at h ⊢
    by_cases hp : u <+: st.l
    · simp only [if_pos hp] at h ⊢
      obtain ⟨r, hr⟩ := hp
      refine ⟨by omega, r, hr.symm, ?_⟩
      rw [← hr]
      simp
    · simp only [if_neg hp] at h
      by_cases hq : st.l <+: u
      · simp only [if_pos hq] at h; simp at h
      · simp only [if_neg hq] at h; simp at h
theorem wordS_there {u r : List UInt8} {p : Int × Int} : wordS u ⟨u ++ r, p, 0⟩ = (true, ⟨r, adv p u, 0⟩) := by
  unfold wordS wordOut SS.go
  simp
theorem numS_ok {most : Int} {st : SS} (h : (numS most st).2.er = 0) : st.er = 0 := by
  by_cases he : st.er ≠ 0
  · rw [numS_err he] at h; exact h
  · omega
theorem evS_len (st : SS) : (evS st).2.l.length ≤ st.l.length := by
  unfold evS
  dsimp only
  refine Nat.le_trans (wordS_len _ _) (Nat.le_trans (numS_len _ _) (Nat.le_trans (wordS_len _ _) (Nat.le_trans (numS_len _ _) (Nat.le_trans (wordS_len _ _) ?_))))
  refine Nat.le_trans (?_ : _ ≤ (wordS [32] (numS 4611686018427387903 st).2).2.l.length) (Nat.le_trans (wordS_len _ _) (numS_len _ _))
  split
  · exact wordS_len _ _
  · exact wordS_len _ _
theorem evS_less {st : SS} (h : (evS st).2.er = 0) : (evS st).2.l.length < st.l.length := by
  unfold evS at h ⊢
  dsimp only at h ⊢
  obtain ⟨_, r, h1, h2⟩ := wordS_ok h
  rw [h2]
  have h3 : r.length < (numS 4294967295 (wordS [32] (numS 4294967295 (wordS [32] (if nextS (wordS [32] (numS 4611686018427387903 st).2).2 = some 43 then wordS [43] (wordS [32] (numS 4611686018427387903 st).2).2 else (false, (wordS [45] (wordS [32] (numS 4611686018427387903 st).2).2).2)).2).2).2).2).2.l.length := by
    rw [h1]; simp
  refine Nat.lt_of_lt_of_le h3 (Nat.le_trans (numS_len _ _) (Nat.le_trans (wordS_len _ _) (Nat.le_trans (numS_len _ _) (Nat.le_trans (wordS_len _ _) ?_))))
  refine Nat.le_trans (?_ : _ ≤ (wordS [32] (numS 4611686018427387903 st).2).2.l.length) (Nat.le_trans (wordS_len _ _) (numS_len _ _))
  split
  · exact wordS_len _ _
  · exact wordS_len _ _
theorem hdS_len (l : List UInt8) : (hdS l).2.l.length ≤ l.length := by
  unfold hdS
  dsimp only
  exact Nat.le_trans (wordS_len _ _) (Nat.le_trans (numS_len _ _) (Nat.le_trans (wordS_len _ _) (wordS_len _ _)))
theorem hdS_bd (l : List UInt8) : 0 ≤ (hdS l).1 ∧ (hdS l).1 ≤ 4294967296 := numS_bd (by decide) _
theorem evS_bd (st : SS) : (0 ≤ (evS st).1.t ∧ (evS st).1.t ≤ 4611686018427387903) ∧ EvB (evS st).1 :=
  ⟨numS_bd (by decide) _, numS_bd (by decide) _, numS_bd (by decide) _⟩
theorem plF_end {n : Int} {k : Nat} {F : List Ev} {st : SS} {R : List Ev × (Int × Int) × Int} (h : plF n k F st = R) (hk : 0 < k) (hn : (nextS st).isSome = false) : R = if st.er = 0 then (F, (0, 0), 0) else ([], st.p, st.er) := by
  cases k with
  | zero => omega
  | succ k =>
    rw [← h]
    simp only [plF, hn]
    rfl
theorem plF_more {n : Int} {k : Nat} {F : List Ev} {st : SS} {R : List Ev × (Int × Int) × Int} (h : plF n (k + 1) F st = R) (hn : (nextS st).isSome = true) :
    ((evS st).2.er ≠ 0 → R = ([], (evS st).2.p, (evS st).2.er)) ∧ ((evS st).2.er = 0 → evErr n (prevOf F F.length) (thereOf F) (evS st).1 ≠ 0 → R = ([], st.p, ((evErr n (prevOf F F.length) (thereOf F) (evS st).1 : Nat) : Int))) ∧
    ((evS st).2.er = 0 → evErr n (prevOf F F.length) (thereOf F) (evS st).1 = 0 → plF n k (F ++ [(evS st).1]) (evS st).2 = R) := by
  simp only [plF, hn, if_true] at h
  refine ⟨fun he => ?_, fun he hv => ?_, fun he hv => ?_⟩
  · rw [if_pos he] at h; exact h.symm
  · rw [if_neg (fun c => c he), if_pos hv] at h; exact h.symm
  · rw [if_neg (fun c => c he), if_neg (fun c => c hv)] at h; exact h
end Go.Proofs.YtppambkffgmkgaaGreatDoor
end
