/- Merged: LgEw LgW LgP -/
import Derived.Test.YtggnkefhegnokaaDoorMg17
import Derived.Test.YtggnkefhegnokaaDoorMg11
section
/- The walks of the program's and the reference's reading of an event's line. -/
namespace Go.Proofs.YtggnkefhegnokaaDoor
open Go.RowKit
set_option linter.unusedVariables false

/-- The bytes that are read, as numbers. -/
theorem b32 : ((32 : UInt8).toNat : Int) = 32 := rfl
theorem b43 : ((43 : UInt8).toNat : Int) = 43 := rfl
theorem b45 : ((45 : UInt8).toNat : Int) = 45 := rfl
theorem b10 : ((10 : UInt8).toNat : Int) = 10 := rfl
theorem u8_ext {c : UInt8} {k : Nat} (hk : k < 256) (h : (c.toNat : Int) = (k : Int)) : c = UInt8.ofNat k := by
  apply UInt8.toNat_inj.1
  rw [UInt8.toNat_ofNat_of_lt' (by show k < 256; exact hk)]
  omega

set_option maxRecDepth 100000 in
set_option maxHeartbeats 4000000 in
theorem event_any (w : World) (g : Nat) (st : SS) (h : ScA w g st) :
    Calls Tryd.prog 40 #[.pointer (some ⟨g, 0, none⟩)] w fun e w' => e = .returned (.agg #[.int .i64 (evS st).1.t, .int .u32 (evS st).1.e.u, .int .u32 (evS st).1.e.v, .bool (evS st).1.add]) ∧ ScA w' g (evS st).2 ∧ Mod w w' (OneB g) := by
  have hg := h.lt
  have HV := Lib.hid (VSt.start (w := w) (g := g) hg)
  have HS := Lib.hid (h.mod (((Mod.refl w NoB).alloc (.cells #[.int .i64 0, .int .u32 0, .int .u32 0, .bool false] 61)).alloc (.cells #[.int .i64 0, .int .u32 0, .int .u32 0, .bool false] 61)) (by simp [NoB]))
  clear h
  obtain ⟨r, hr⟩ : ∃ r, evS st = r := ⟨_, rfl⟩
  rw [hr]
  unfold evS at hr
  dsimp only at hr
  go_enter Tryd.func40, Tryd.ntmps40
  go_upto_region 2 with (fail)
  obtain ⟨g2, hg2⟩ : ∃ g2, g2 = w.heap.size := ⟨_, rfl⟩
  obtain ⟨g3, hg3⟩ : ∃ g3, g3 = w.heap.size + 1 := ⟨_, rfl⟩
  obtain ⟨W, hW⟩ : ∃ W, W = ((w.alloc (.cells #[.int .i64 0, .int .u32 0, .int .u32 0, .bool false] 61)).alloc (.cells #[.int .i64 0, .int .u32 0, .int .u32 0, .bool false] 61)) := ⟨_, rfl⟩
  rw [← hW, ← hg3, ← hg2] at HV
  rw [← hW] at HS
  rw [← hW, ← hg3, ← hg2]
  have n22 : ¬ OneB g2 g := fun c => by have e : g = g2 := c; omega
  have n23 : ¬ OneB g3 g := fun c => by have e : g = g3 := c; omega
  clear hW hg2 hg3
  go_wp2_with fail
  refine (snum_sca _ g st 4611686018427387903 HS.out (by decide)).mono ?_
  rintro e w1 ⟨rfl, hs, hm⟩
  obtain ⟨t, ht⟩ : ∃ x, (numS 4611686018427387903 st).1 = x := ⟨_, rfl⟩
  have hbt := numS_bd (most := 4611686018427387903) (by decide) st
  obtain ⟨s1, hs1⟩ : ∃ x, (numS 4611686018427387903 st).2 = x := ⟨_, rfl⟩
  rw [ht] at hr hbt ⊢
  rw [hs1] at hr hs
  have hwt := i64_of hbt
  replace HV := Lib.hid (HV.out.next hm)
  replace HS := Lib.hid hs
  clear hs hm ht hs1
  obtain ⟨c0, c1, c2, c3⟩ := HV.out.e3
  have f0 := HV.out.f3 0
  have f1 := HV.out.f3 1
  have f2 := HV.out.f3 2
  simp only [Nat.zero_add] at c1 c2 c3
  go_upto_region 3 with (fail)
  replace HS := Lib.hid (HS.out.mod (S := OneB g3) (Mod.set1 _ g3 0 (.int .i64 t)) n23)
  replace HV := Lib.hid (HV.out.t t)
  clear c0 c1 c2 c3 f0 f1 f2
  go_wp2_with fail
  refine (sbyte_sca _ g s1 32 32 rfl HS.out).mono ?_
  rintro e w2 ⟨rfl, hs, hm⟩
  obtain ⟨s2, hs2⟩ : ∃ x, (wordS [32] s1).2 = x := ⟨_, rfl⟩
  rw [hs2] at hr hs
  replace HV := Lib.hid (HV.out.next hm)
  replace HS := Lib.hid hs
  clear hs hm hs2
  go_wp2_with fail
  refine (snext_sca _ g s2 HS.out).mono ?_
  rintro e w3 ⟨rfl, rfl⟩
  obtain ⟨cc, hcc⟩ : ∃ cc, (if nextS s2 = some 43 then wordS [43] s2 else (false, (wordS [45] s2).2)) = cc := ⟨_, rfl⟩
  rw [hcc] at hr
  obtain ⟨ok, s3⟩ := cc
  dsimp only at hr
  unfold nextW
  obtain ⟨n0, hn0⟩ : ∃ n0, nb (nextS s2) = n0 := ⟨_, rfl⟩
  rw [hn0]
  have hsg : n0 = 43 ↔ nextS s2 = some 43 := by rw [← hn0]; exact nb_iff (c := 43) (by decide)
  clear hn0
  go_upto_if 18 with (fail)
  go_cut [20] (fun _ wc => Hid (VSt w wc g g2 g3 ⟨t, ⟨0, 0⟩, ok⟩ ∧ ScA wc g s3))
  case first =>
    obtain ⟨c0, c1, c2, c3⟩ := HV.out.e3
    have f3 := HV.out.f3 3
    simp only [Nat.zero_add] at c1 c2 c3
    clear c0 c1 c2 c3 f3
    by_cases hc : n0 = 43
    · rw [if_pos (hsg.1 hc)] at hcc
      subst hc
      go_wp2_with fail
      refine (sbyte_sca _ g s2 43 43 rfl HS.out).mono ?_
      rintro e w4 ⟨rfl, hs, hm⟩
      have e1 : (wordS [43] s2).1 = ok := by rw [hcc]
      have e2 : (wordS [43] s2).2 = s3 := by rw [hcc]
      rw [e1]
      rw [e2] at hs
      have HV4 := Lib.hid (HV.out.next hm)
      have HS4 := Lib.hid hs
      obtain ⟨c0, c1, c2, c3⟩ := HV4.out.e3
      have f3 := HV4.out.f3 3
      simp only [Nat.zero_add] at c1 c2 c3
      clear e1 e2 hs hm hcc hsg
      go_wp2_with fail
      go_meet
      exact ⟨HV4.out.a ok, HS4.out.mod (S := OneB g3) (Mod.set1 _ g3 3 _) n23⟩
    · rw [if_neg (fun c => hc (hsg.2 c))] at hcc
      have hc2 : (n0 == 43) = false := beq_eq_false_iff_ne.2 hc
      go_wp2_with fail
      refine (sbyte_sca _ g s2 45 45 rfl HS.out).mono ?_
      rintro e w4 ⟨rfl, hs, hm⟩
      have e1 : false = ok := (Prod.mk.inj hcc).1
      have e2 : (wordS [45] s2).2 = s3 := (Prod.mk.inj hcc).2
      subst e1
      rw [e2] at hs
      have HV4 := Lib.hid (HV.out.next hm)
      have HS4 := Lib.hid hs
      clear e2 hs hm hsg
      go_wp2_with fail
      go_meet
      exact ⟨HV4.out, HS4.out⟩
  case rest =>
  have HV := Lib.hid hcut.out.1
  have HS := Lib.hid hcut.out.2
  clear hcut hcc hsg
  go_wp2_with fail
  refine (sbyte_sca _ g s3 32 32 rfl HS.out).mono ?_
  rintro e w5 ⟨rfl, hs, hm⟩
  obtain ⟨s4, hs4⟩ : ∃ x, (wordS [32] s3).2 = x := ⟨_, rfl⟩
  rw [hs4] at hr hs
  replace HV := Lib.hid (HV.out.next hm)
  replace HS := Lib.hid hs
  clear hs hm hs4
  go_wp2_with fail
  refine (snum_sca _ g s4 4294967295 HS.out (by decide)).mono ?_
  rintro e w6 ⟨rfl, hs, hm⟩
  obtain ⟨u, hu⟩ : ∃ x, (numS 4294967295 s4).1 = x := ⟨_, rfl⟩
  have hbu := numS_bd (most := 4294967295) (by decide) s4
  obtain ⟨s5, hs5⟩ : ∃ x, (numS 4294967295 s4).2 = x := ⟨_, rfl⟩
  rw [hu] at hr hbu ⊢
  rw [hs5] at hr hs
  have hwu := u32_of hbu
  replace HV := Lib.hid (HV.out.next hm)
  replace HS := Lib.hid hs
  clear hs hm hu hs5
  obtain ⟨c0, c1, c2, c3⟩ := HV.out.e3
  have f0 := HV.out.f3 0
  have f1 := HV.out.f3 1
  have f2 := HV.out.f3 2
  simp only [Nat.zero_add] at c1 c2 c3
  go_upto_region 10 with (fail)
  replace HS := Lib.hid (HS.out.mod (S := OneB g3) (Mod.set1 _ g3 1 (.int .u32 u)) n23)
  replace HV := Lib.hid (HV.out.u u)
  clear c0 c1 c2 c3 f0 f1 f2
  go_wp2_with fail
  refine (sbyte_sca _ g s5 32 32 rfl HS.out).mono ?_
  rintro e w7 ⟨rfl, hs, hm⟩
  obtain ⟨s6, hs6⟩ : ∃ x, (wordS [32] s5).2 = x := ⟨_, rfl⟩
  rw [hs6] at hr hs
  replace HV := Lib.hid (HV.out.next hm)
  replace HS := Lib.hid hs
  clear hs hm hs6
  go_wp2_with fail
  refine (snum_sca _ g s6 4294967295 HS.out (by decide)).mono ?_
  rintro e w8 ⟨rfl, hs, hm⟩
  obtain ⟨v, hv⟩ : ∃ x, (numS 4294967295 s6).1 = x := ⟨_, rfl⟩
  have hbv := numS_bd (most := 4294967295) (by decide) s6
  obtain ⟨s7, hs7⟩ : ∃ x, (numS 4294967295 s6).2 = x := ⟨_, rfl⟩
  rw [hv] at hr hbv ⊢
  rw [hs7] at hr hs
  have hwv := u32_of hbv
  replace HV := Lib.hid (HV.out.next hm)
  replace HS := Lib.hid hs
  clear hs hm hv hs7
  obtain ⟨c0, c1, c2, c3⟩ := HV.out.e3
  have f0 := HV.out.f3 0
  have f1 := HV.out.f3 1
  have f2 := HV.out.f3 2
  simp only [Nat.zero_add] at c1 c2 c3
  go_upto_region 12 with (fail)
  replace HS := Lib.hid (HS.out.mod (S := OneB g3) (Mod.set1 _ g3 2 (.int .u32 v)) n23)
  replace HV := Lib.hid (HV.out.v v)
  clear c0 c1 c2 c3 f0 f1 f2
  go_wp2_with fail
  refine (sbyte_sca _ g s7 10 10 rfl HS.out).mono ?_
  rintro e w9 ⟨rfl, hs, hm⟩
  obtain ⟨s8, hs8⟩ : ∃ x, (wordS [10] s7).2 = x := ⟨_, rfl⟩
  rw [hs8] at hr hs
  replace HV := Lib.hid (HV.out.next hm)
  replace HS := Lib.hid hs
  clear hs hm hs8
  go_upto_region 13 with (fail)
  obtain ⟨c0, c1, c2, c3⟩ := HV.out.e3
  obtain ⟨d0, d1, d2, d3⟩ := HV.out.e2
  have f0 := HV.out.f2 0
  have f1 := HV.out.f2 1
  have f2 := HV.out.f2 2
  have f3 := HV.out.f2 3
  simp only [Nat.zero_add] at c1 c2 c3 d1 d2 d3
  have HF := Lib.hid HV.out.fin
  have HSF := Lib.hid (HS.out.mod HV.out.fin.2.2 n22)
  subst hr
  go_wp2_with fail
  obtain ⟨z0, z1, z2, z3⟩ := HF.out.1
  exact bodyPost_ret (v := .agg #[.int .i64 t, .int .u32 u, .int .u32 v, .bool ok]) (by simp [results, Tryd.results40, go_sem, z0, z1, z2, z3]) rfl ⟨rfl, HSF.out, HF.out.2.1⟩

/-- Two ends of an edge, read. -/
def edS (st : SS) : Ed × SS :=
  let u := numS 4294967295 st
  let e := wordS [32] u.2
  let v := numS 4294967295 e.2
  (⟨u.1, v.1⟩, v.2)
set_option maxRecDepth 100000 in
set_option maxHeartbeats 4000000 in
theorem redge_any (w : World) (g : Nat) (st : SS) (h : RsA w g st) :
    Calls Tryd.prog 67 #[.pointer (some ⟨g, 0, none⟩)] w fun e w' => e = .returned (.agg #[.int .u32 (edS st).1.u, .int .u32 (edS st).1.v]) ∧ RsA w' g (edS st).2 ∧ Mod w w' (OneB g) := by
  have hg := h.lt
  obtain ⟨r, hr⟩ : ∃ r, edS st = r := ⟨_, rfl⟩
  rw [hr]
  unfold edS at hr
  dsimp only at hr
  have H0 : Hid (Mod w (w.alloc (.cells #[.int .u32 0, .int .u32 0] 57)) NoB ∧ (w.alloc (.cells #[.int .u32 0, .int .u32 0] 57)).cell? ⟨w.heap.size, 0, none⟩ = some (.int .u32 0) ∧ (w.alloc (.cells #[.int .u32 0, .int .u32 0] 57)).cell? ⟨w.heap.size, 1, none⟩ = some (.int .u32 0) ∧
      (∀ j, (w.alloc (.cells #[.int .u32 0, .int .u32 0] 57)).frozen? ⟨w.heap.size, j, none⟩ = false) ∧ RsA (w.alloc (.cells #[.int .u32 0, .int .u32 0] 57)) g st) :=
    ⟨(Mod.refl _ _).alloc _, World.cell?_alloc_at _ _ _ _ rfl, World.cell?_alloc_at _ _ _ _ rfl, fun j => frozen_alloc_at _ _ _ _ _ rfl, h.mod ((Mod.refl w NoB).alloc _) (by simp [NoB])⟩
  clear h
  go_enter Tryd.func67, Tryd.ntmps67
  go_upto_region 1 with (fail)
  obtain ⟨g2, hg2⟩ : ∃ g2, g2 = w.heap.size := ⟨_, rfl⟩
  obtain ⟨W, hW⟩ : ∃ W, W = w.alloc (.cells #[.int .u32 0, .int .u32 0] 57) := ⟨_, rfl⟩
  rw [← hW, ← hg2] at H0
  rw [← hW, ← hg2]
  have hne : g2 ≠ g := by omega
  have hy : w.heap.size ≤ g2 := by omega
  have n2 : ¬ OneB g g2 := fun c => hne c
  have n3 : ¬ OneB g2 g := fun c => hne c.symm
  clear hW hg2
  go_wp2_with fail
  refine (rnum_rsa _ g st 4294967295 H0.out.2.2.2.2 (by decide)).mono ?_
  rintro e w1 ⟨rfl, hs, hm⟩
  obtain ⟨u, hu⟩ : ∃ x, (numS 4294967295 st).1 = x := ⟨_, rfl⟩
  have hbu := numS_bd (most := 4294967295) (by decide) st
  obtain ⟨s1, hs1⟩ : ∃ x, (numS 4294967295 st).2 = x := ⟨_, rfl⟩
  rw [hu] at hr hbu ⊢
  rw [hs1] at hr hs
  have hwu := u32_of hbu
  have HM := Lib.hid hm
  have HS := Lib.hid hs
  clear hs hm hu hs1
  go_wp2_with fail
  refine (rbyte_rsa _ g s1 32 32 rfl HS.out).mono ?_
  rintro e w2 ⟨rfl, hs, hm⟩
  obtain ⟨s2, hs2⟩ : ∃ x, (wordS [32] s1).2 = x := ⟨_, rfl⟩
  rw [hs2] at hr hs
  replace HM := Lib.hid (HM.out.trans hm (fun _ _ c => c))
  replace HS := Lib.hid hs
  clear hs hm hs2
  go_wp2_with fail
  refine (rnum_rsa _ g s2 4294967295 HS.out (by decide)).mono ?_
  rintro e w3 ⟨rfl, hs, hm⟩
  obtain ⟨v, hv⟩ : ∃ x, (numS 4294967295 s2).1 = x := ⟨_, rfl⟩
  have hbv := numS_bd (most := 4294967295) (by decide) s2
  obtain ⟨s3, hs3⟩ : ∃ x, (numS 4294967295 s2).2 = x := ⟨_, rfl⟩
  rw [hv] at hr hbv ⊢
  rw [hs3] at hr hs
  have hwv := u32_of hbv
  replace HM := Lib.hid (HM.out.trans hm (fun _ _ c => c))
  replace HS := Lib.hid hs
  clear hs hm hv hs3
  have d0 := keepS H0.out.2.1 HM.out n2
  have d1 := keepS H0.out.2.2.1 HM.out n2
  have f0 := (HM.out.frozen (p := ⟨g2, 0, none⟩) (by have := World.block_lt_of_cell? _ _ H0.out.2.1; exact this) n2).trans (H0.out.2.2.2.1 0)
  have f1 := (HM.out.frozen (p := ⟨g2, 1, none⟩) (by have := World.block_lt_of_cell? _ _ H0.out.2.1; exact this) n2).trans (H0.out.2.2.2.1 1)
  subst hr
  have z0 : ((w3.setCell ⟨g2, 0, none⟩ (.int .u32 u)).setCell ⟨g2, 1, none⟩ (.int .u32 v)).cell? ⟨g2, 0, none⟩ = some (.int .u32 u) := (World.cell?_setCell_other _ _ _ _ (by simp)).trans (World.cell?_setCell_same _ _ _ d0)
  have z1 : ((w3.setCell ⟨g2, 0, none⟩ (.int .u32 u)).setCell ⟨g2, 1, none⟩ (.int .u32 v)).cell? ⟨g2, 1, none⟩ = some (.int .u32 v) := World.cell?_setCell_same _ _ _ ((World.cell?_setCell_other _ _ _ _ (by simp)).trans d1)
  have hmz : Mod w3 ((w3.setCell ⟨g2, 0, none⟩ (.int .u32 u)).setCell ⟨g2, 1, none⟩ (.int .u32 v)) (OneB g2) := (Mod.set1 w3 g2 0 _).setG _
  have HZ : Hid (RsA ((w3.setCell ⟨g2, 0, none⟩ (.int .u32 u)).setCell ⟨g2, 1, none⟩ (.int .u32 v)) g s3 ∧ Mod w ((w3.setCell ⟨g2, 0, none⟩ (.int .u32 u)).setCell ⟨g2, 1, none⟩ (.int .u32 v)) (OneB g)) :=
    ⟨HS.out.mod hmz n3, (((H0.out.1.mono (T := OneB g) (fun _ _ c => c.elim)).trans HM.out (fun _ _ c => c)).trans hmz (fun i hi c => by have e : i = g2 := c; omega))⟩
  have Z01 := Lib.hid (And.intro z0 z1)
  clear z0 z1 hmz
  go_wp2_with fail
  obtain ⟨z0, z1⟩ := Z01.out
  exact bodyPost_ret (v := .agg #[.int .u32 u, .int .u32 v]) (by simp [results, Tryd.results67, go_sem, z0, z1]) rfl ⟨rfl, HZ.out.1, HZ.out.2⟩

theorem VSt.ed {w wr : World} {g g2 g3 : Nat} {x : Ev} (h : VSt w wr g g2 g3 x) (u v : Int) : VSt w ((wr.setCell ⟨g3, 1, none⟩ (.int .u32 u)).setCell ⟨g3, 2, none⟩ (.int .u32 v)) g g2 g3 ⟨x.t, ⟨u, v⟩, x.add⟩ := (h.u u).v v

set_option maxRecDepth 100000 in
set_option maxHeartbeats 4000000 in
theorem revent_any (w : World) (g : Nat) (st : SS) (h : RsA w g st) :
    Calls Tryd.prog 49 #[.pointer (some ⟨g, 0, none⟩)] w fun e w' => e = .returned (.agg #[.int .i64 (evS st).1.t, .int .u32 (evS st).1.e.u, .int .u32 (evS st).1.e.v, .bool (evS st).1.add]) ∧ RsA w' g (evS st).2 ∧ Mod w w' (OneB g) := by
  have hg := h.lt
  have HV := Lib.hid (VSt.start (w := w) (g := g) hg)
  have HS := Lib.hid (h.mod (((Mod.refl w NoB).alloc (.cells #[.int .i64 0, .int .u32 0, .int .u32 0, .bool false] 61)).alloc (.cells #[.int .i64 0, .int .u32 0, .int .u32 0, .bool false] 61)) (by simp [NoB]))
  clear h
  obtain ⟨r, hr⟩ : ∃ r, evS st = r := ⟨_, rfl⟩
  rw [hr]
  unfold evS at hr
  dsimp only at hr
  go_enter Tryd.func49, Tryd.ntmps49
  go_upto_region 2 with (fail)
  obtain ⟨g2, hg2⟩ : ∃ g2, g2 = w.heap.size := ⟨_, rfl⟩
  obtain ⟨g3, hg3⟩ : ∃ g3, g3 = w.heap.size + 1 := ⟨_, rfl⟩
  obtain ⟨W, hW⟩ : ∃ W, W = ((w.alloc (.cells #[.int .i64 0, .int .u32 0, .int .u32 0, .bool false] 61)).alloc (.cells #[.int .i64 0, .int .u32 0, .int .u32 0, .bool false] 61)) := ⟨_, rfl⟩
  rw [← hW, ← hg3, ← hg2] at HV
  rw [← hW] at HS
  rw [← hW, ← hg3, ← hg2]
  have n22 : ¬ OneB g2 g := fun c => by have e : g = g2 := c; omega
  have n23 : ¬ OneB g3 g := fun c => by have e : g = g3 := c; omega
  clear hW hg2 hg3
  go_wp2_with fail
  refine (rnum_rsa _ g st 4611686018427387903 HS.out (by decide)).mono ?_
  rintro e w1 ⟨rfl, hs, hm⟩
  obtain ⟨t, ht⟩ : ∃ x, (numS 4611686018427387903 st).1 = x := ⟨_, rfl⟩
  have hbt := numS_bd (most := 4611686018427387903) (by decide) st
  obtain ⟨s1, hs1⟩ : ∃ x, (numS 4611686018427387903 st).2 = x := ⟨_, rfl⟩
  rw [ht] at hr hbt ⊢
  rw [hs1] at hr hs
  have hwt := i64_of hbt
  replace HV := Lib.hid (HV.out.next hm)
  replace HS := Lib.hid hs
  clear hs hm ht hs1
  obtain ⟨c0, c1, c2, c3⟩ := HV.out.e3
  have f0 := HV.out.f3 0
  have f1 := HV.out.f3 1
  have f2 := HV.out.f3 2
  simp only [Nat.zero_add] at c1 c2 c3
  go_upto_region 3 with (fail)
  replace HS := Lib.hid (HS.out.mod (S := OneB g3) (Mod.set1 _ g3 0 (.int .i64 t)) n23)
  replace HV := Lib.hid (HV.out.t t)
  clear c0 c1 c2 c3 f0 f1 f2
  go_wp2_with fail
  refine (rbyte_rsa _ g s1 32 32 rfl HS.out).mono ?_
  rintro e w2 ⟨rfl, hs, hm⟩
  obtain ⟨s2, hs2⟩ : ∃ x, (wordS [32] s1).2 = x := ⟨_, rfl⟩
  rw [hs2] at hr hs
  replace HV := Lib.hid (HV.out.next hm)
  replace HS := Lib.hid hs
  clear hs hm hs2
  go_wp2_with fail
  refine (rnext_rsa _ g s2 HS.out).mono ?_
  rintro e w3 ⟨rfl, k3, rfl⟩
  replace HV := Lib.hid (HV.out.next ((Mod.refl w2 (OneB g)).drewN k3))
  replace HS := Lib.hid (HS.out.mod (S := NoB) ((Mod.refl w2 NoB).drewN k3) (by simp [NoB]))
  obtain ⟨cc, hcc⟩ : ∃ cc, (if nextS s2 = some 43 then wordS [43] s2 else (false, (wordS [45] s2).2)) = cc := ⟨_, rfl⟩
  rw [hcc] at hr
  rw [← sign_same] at hcc
  obtain ⟨ok, s3⟩ := cc
  dsimp only at hr
  unfold nextW
  obtain ⟨n0, hn0⟩ : ∃ n0, nb (nextS s2) = n0 := ⟨_, rfl⟩
  rw [hn0]
  have hsg : n0 = 45 ↔ nextS s2 = some 45 := by rw [← hn0]; exact nb_iff (c := 45) (by decide)
  obtain ⟨on, hon⟩ : ∃ on, (nextS s2).isSome = on := ⟨_, rfl⟩
  have hof : on = false → n0 = 0 := by
    intro h
    rw [← hn0]
    cases hx : nextS s2 with
    | none => rfl
    | some c => rw [hx] at hon; rw [← hon] at h; cases h
  rw [hon]
  clear hon
  clear hn0
  by_cases hc : n0 = 45
  focus
    rw [if_pos (hsg.1 hc)] at hcc
    have hot : on = true := by
      cases on with
      | true => rfl
      | false => rw [hof rfl] at hc; cases hc
    subst hc hot
    have HC := Lib.hid hcc
    clear hcc hsg hof
    go_wp2_with fail
    refine (rbyte_rsa _ g s2 45 45 rfl HS.out).mono ?_
    rintro e w4 ⟨rfl, hs, hm⟩
    have e1 : false = ok := (Prod.mk.inj HC.out).1
    have e2 : (wordS [45] s2).2 = s3 := (Prod.mk.inj HC.out).2
    rw [e2] at hs
    replace HV : Hid (VSt w w4 g g2 g3 ⟨t, ⟨0, 0⟩, ok⟩) := by rw [← e1]; exact HV.out.next hm
    replace HS := Lib.hid hs
    clear e1 e2 hs hm HC
    go_upto_region 8 with (fail)
  rotate_left
  focus
    rw [if_neg (fun c => hc (hsg.2 c))] at hcc
    have hc2 : (n0 == 45) = false := beq_eq_false_iff_ne.2 hc
    have HC := Lib.hid hcc
    clear hcc hsg hof
    cases on
    all_goals
      go_wp2_with fail
      refine (rbyte_rsa _ g s2 43 43 rfl HS.out).mono ?_
      rintro e w4 ⟨rfl, hs, hm⟩
      have e1 : (wordS [43] s2).1 = ok := by rw [HC.out]
      have e2 : (wordS [43] s2).2 = s3 := by rw [HC.out]
      rw [e1]
      rw [e2] at hs
      replace HV := Lib.hid (HV.out.next hm)
      replace HS := Lib.hid hs
      obtain ⟨c0, c1, c2, c3⟩ := HV.out.e3
      have f3 := HV.out.f3 3
      simp only [Nat.zero_add] at c1 c2 c3
      clear e1 e2 hs hm HC
      go_upto_region 8 with (fail)
      replace HS := Lib.hid (HS.out.mod (S := OneB g3) (Mod.set1 _ g3 3 (.bool ok)) n23)
      replace HV := Lib.hid (HV.out.a ok)
      clear c0 c1 c2 c3 f3
  all_goals
    go_wp2_with fail
    refine (rbyte_rsa _ g s3 32 32 rfl HS.out).mono ?_
    rintro e w5 ⟨rfl, hs, hm⟩
    obtain ⟨s4, hs4⟩ : ∃ x, (wordS [32] s3).2 = x := ⟨_, rfl⟩
    rw [hs4] at hr hs
    replace HV := Lib.hid (HV.out.next hm)
    replace HS := Lib.hid hs
    clear hs hm hs4
    go_wp2_with fail
    refine (redge_any _ g s4 HS.out).mono ?_
    rintro e w6 ⟨rfl, hs, hm⟩
    have e1 : (edS s4).1 = ⟨(numS 4294967295 s4).1, (numS 4294967295 (wordS [32] (numS 4294967295 s4).2).2).1⟩ := rfl
    have e2 : (edS s4).2 = (numS 4294967295 (wordS [32] (numS 4294967295 s4).2).2).2 := rfl
    rw [e1]
    rw [e2] at hs
    clear e1 e2
    obtain ⟨u, hu⟩ : ∃ x, (numS 4294967295 s4).1 = x := ⟨_, rfl⟩
    obtain ⟨v, hv⟩ : ∃ x, (numS 4294967295 (wordS [32] (numS 4294967295 s4).2).2).1 = x := ⟨_, rfl⟩
    obtain ⟨s7, hs7⟩ : ∃ x, (numS 4294967295 (wordS [32] (numS 4294967295 s4).2).2).2 = x := ⟨_, rfl⟩
    rw [hu, hv] at hr ⊢
    rw [hs7] at hr hs
    replace HV := Lib.hid (HV.out.next hm)
    replace HS := Lib.hid hs
    clear hs hm hu hv hs7
    obtain ⟨c0, c1, c2, c3⟩ := HV.out.e3
    have f1 := HV.out.f3 1
    have f2 := HV.out.f3 2
    simp only [Nat.zero_add] at c1 c2 c3
    go_upto_region 10 with (fail)
    replace HS := Lib.hid (HS.out.mod (S := OneB g3) ((Mod.set1 _ g3 1 (.int .u32 u)).setG (i := 2) (.int .u32 v)) n23)
    replace HV := Lib.hid (HV.out.ed u v)
    clear c0 c1 c2 c3 f1 f2
    go_wp2_with fail
    refine (rbyte_rsa _ g s7 10 10 rfl HS.out).mono ?_
    rintro e w9 ⟨rfl, hs, hm⟩
    obtain ⟨s8, hs8⟩ : ∃ x, (wordS [10] s7).2 = x := ⟨_, rfl⟩
    rw [hs8] at hr hs
    replace HV := Lib.hid (HV.out.next hm)
    replace HS := Lib.hid hs
    clear hs hm hs8
    go_upto_region 11 with (fail)
    obtain ⟨c0, c1, c2, c3⟩ := HV.out.e3
    obtain ⟨d0, d1, d2, d3⟩ := HV.out.e2
    have f0 := HV.out.f2 0
    have f1 := HV.out.f2 1
    have f2 := HV.out.f2 2
    have f3 := HV.out.f2 3
    simp only [Nat.zero_add] at c1 c2 c3 d1 d2 d3
    have HF := Lib.hid HV.out.fin
    have HSF := Lib.hid (HS.out.mod HV.out.fin.2.2 n22)
    subst hr
    go_wp2_with fail
    obtain ⟨z0, z1, z2, z3⟩ := HF.out.1
    exact bodyPost_ret (v := .agg #[.int .i64 t, .int .u32 u, .int .u32 v, .bool ok]) (by simp [results, Tryd.results49, go_sem, z0, z1, z2, z3]) rfl ⟨rfl, HSF.out, HF.out.2.1⟩
end Go.Proofs.YtggnkefhegnokaaDoor
end

section
/- The contract of logfmt's wrong: why an event may not stand behind others. -/
namespace Go.Proofs.YtggnkefhegnokaaDoor
open Go.RowKit
set_option linter.unusedVariables false

/-- The two blocks at the start. -/
structure WrB (w W : World) (h0 e0 : Nat) (n : Int) (v : Value) (x : Ev) : Prop where
  mod : Mod w W NoB
  c0 : W.cell? ⟨h0, 0, none⟩ = some (.int .u64 n)
  c1 : W.cell? ⟨h0, 1, none⟩ = some v
  e : EvAt W e0 0 x
theorem WrB.next {w W W' : World} {h0 e0 : Nat} {n : Int} {v : Value} {x : Ev} (h : WrB w W h0 e0 n v x) (hm : Mod W W' NoB) : WrB w W' h0 e0 n v x :=
  ⟨h.mod.trans hm (fun _ _ c => c), keepc h.c0 hm, keepc h.c1 hm, h.e.mod hm⟩
theorem WrB.start {w : World} {n : Int} {a : Option Addr} {len cap : Nat} {x : Ev} : WrB w ((w.alloc (.cells #[.int .u64 n, .slice a len cap] 25)).alloc (.cells #[.int .i64 x.t, .int .u32 x.e.u, .int .u32 x.e.v, .bool x.add] 61)) w.heap.size (w.heap.size + 1) n (.slice a len cap) x := by
  have hs1 : (w.alloc (.cells #[.int .u64 n, .slice a len cap] 25)).heap.size = w.heap.size + 1 := by simp
  have lt : w.heap.size < (w.alloc (.cells #[.int .u64 n, .slice a len cap] 25)).heap.size := by rw [hs1]; omega
  exact ⟨((Mod.refl _ _).alloc _).alloc _, (World.cell?_alloc_lt _ _ _ lt).trans (World.cell?_alloc_at _ _ _ _ rfl), (World.cell?_alloc_lt _ _ _ lt).trans (World.cell?_alloc_at _ _ _ _ rfl),
    World.cell?_alloc_at _ _ _ _ hs1.symm, World.cell?_alloc_at _ _ _ _ hs1.symm, World.cell?_alloc_at _ _ _ _ hs1.symm, World.cell?_alloc_at _ _ _ _ hs1.symm⟩

set_option maxRecDepth 100000 in
set_option maxHeartbeats 8000000 in
theorem wrong_any (w : World) (n : Int) (a : Option Addr) (cap : Nat) (F : List Ev) (m : Nat) (there : Ed → Bool) (x : Ev) (hE : Evs w a F) (hl : F.length ≤ 100000) (hM : EMap w m (.bool false) (fun e => .bool (there e))) (hxB : EvB x) (ht : 0 ≤ x.t ∧ x.t ≤ 4611686018427387903) :
    Calls Tryd.prog 42 #[.agg #[.int .u64 n, .slice a F.length cap], .map (some m), .agg #[.int .i64 x.t, .int .u32 x.e.u, .int .u32 x.e.v, .bool x.add]] w fun e w' => e = .returned (.int .i64 (evErr n (prevOf F F.length) there x : Nat)) ∧ Mod w w' NoB := by
  have hmx := mixed
  obtain ⟨R, hR⟩ : ∃ R, evErr n (prevOf F F.length) there x = R := ⟨_, rfl⟩
  rw [hR]
  have HR := Lib.hid hR
  have hlim : ¬ (2147483648 : Int) ≤ F.length := by omega
  have G : Hid (¬ (x.t < 0 ∨ 4611686018427387903 < x.t)) := by show ¬ _; omega
  have HB0 := Lib.hid (WrB.start (w := w) (n := n) (a := a) (len := F.length) (cap := cap) (x := x))
  have HE := Lib.hid (And.intro hE (And.intro hM hxB))
  clear hE hM hR
  obtain ⟨h0, hh0⟩ : ∃ h0, h0 = w.heap.size := ⟨_, rfl⟩
  obtain ⟨e0, he0⟩ : ∃ e0, e0 = w.heap.size + 1 := ⟨_, rfl⟩
  obtain ⟨W, hW⟩ : ∃ W, W = ((w.alloc (.cells #[.int .u64 n, .slice a F.length cap] 25)).alloc (.cells #[.int .i64 x.t, .int .u32 x.e.u, .int .u32 x.e.v, .bool x.add] 61)) := ⟨_, rfl⟩
  rw [← hW, ← he0, ← hh0] at HB0
  go_enter Tryd.func42, Tryd.ntmps42
  go_upto_region 1 with (fail)
  rw [← hW, ← he0, ← hh0]
  clear hW he0 hh0
  have c0 := HB0.out.c0
  have c1 := HB0.out.c1
  obtain ⟨k0, k1, k2, k3⟩ := HB0.out.e
  simp only [Nat.zero_add] at k1 k2 k3
  go_wp2_with fail
  refine (right_any _ _ _ _ hxB.2).mono ?_
  rintro e w1 ⟨rfl, hm⟩
  have HB1 := Lib.hid (HB0.out.next hm)
  clear hm c0 c1 k0 k1 k2 k3 HB0
  by_cases g3 : right ⟨x.e.u, x.e.v⟩ n
  · have G3 := Lib.hid g3
    rw [show decide (right ⟨x.e.u, x.e.v⟩ n) = true by simp [g3]]
    clear g3
    have d0 := HB1.out.c0
    have d1 := HB1.out.c1
    obtain ⟨dc0, dc1, dc2, dc3⟩ := HB1.out.e
    simp only [Nat.zero_add] at dc1 dc2 dc3
    obtain ⟨an, han⟩ : ∃ an, (prevOf F F.length).any (fun y => decide (¬ before y x)) = an := ⟨_, rfl⟩
    have HAn := Lib.hid han
    go_upto_region 6 with (fail)
    go_cut [21] (fun v21 wc => v21 = .bool an ∧ Hid (WrB w wc h0 e0 n (.slice a F.length cap) x))
    case first =>
      by_cases hk0 : F.length = 0
      · have hkz : decide ((0 : Int) < (F.length : Int)) = false := decide_eq_false (by omega)
        have hkd : ¬ (0 : Int) < (F.length : Int) := by omega
        have hkn : ¬ 0 < F.length := by omega
        have hany : an = false := by
          rw [← han]
          unfold prevOf; rw [if_pos hk0]; rfl
        clear hk0 han
        subst hany
        go_quiet (fail)
        go_wp2_with fail
        go_meet
        exact ⟨rfl, HB1.out.next ((Mod.refl _ _).drewN _)⟩
      · obtain ⟨j, hj⟩ : ∃ j, F.length = j + 1 := ⟨F.length - 1, by omega⟩
        obtain ⟨b', off', y, hab, hbw', hy, hCy⟩ := (HE.out.1.mod HB1.out.mod).at (show j < F.length by omega)
        subst hab
        obtain ⟨y0, y1, y2, y3⟩ := hCy
        have hjl : (j : Int) < F.length := by omega
        have hj0 : (0 : Int) ≤ (j : Int) := by omega
        have hkp : (0 : Int) < (F.length : Int) := by omega
        have hkn : 0 < F.length := by omega
        have hkd : decide (0 < (F.length : Int)) = true := by simpa using hkn
        have hwr : IntKind.i64.wrap ((F.length : Int) - 1) = (j : Int) := by
          rw [IntWalk.i64_in _ (by omega)]; omega
        have hpr : prevOf F F.length = some y := by unfold prevOf; rw [if_neg hk0, hj]; exact hy
        have hany : decide (¬ before y x) = an := by rw [← han, hpr]; rfl
        clear hk0 hj hpr hy hbw' han
        obtain ⟨bb, hbb⟩ : ∃ bb, decide (before y x) = bb := ⟨_, rfl⟩
        have hnb : an = !bb := by rw [← hany, ← hbb]; simp
        subst hnb
        clear hany
        have HB : Hid (∀ z, Calls Tryd.prog 55 #[.agg #[.int .i64 y.t, .int .u32 y.e.u, .int .u32 y.e.v, .bool y.add], .agg #[.int .i64 x.t, .int .u32 x.e.u, .int .u32 x.e.v, .bool x.add]] z
            fun e w' => e = .returned (.bool bb) ∧ Mod z w' NoB) := fun z => by
          have := before_any z y.t y.e.u y.e.v x.t x.e.u x.e.v y.add x.add
          rwa [show decide (before ⟨y.t, ⟨y.e.u, y.e.v⟩, y.add⟩ ⟨x.t, ⟨x.e.u, x.e.v⟩, x.add⟩) = bb from hbb] at this
        clear hbb
        go_region_held3 (fun z => z.cell? ⟨h0, 1, none⟩ = some (.slice (some ⟨b', off', none⟩) F.length cap) ∧ (z.cell? ⟨b', off' + j * 4, none⟩ = some (.int .i64 y.t) ∧ z.cell? ⟨b', off' + j * 4 + 1, none⟩ = some (.int .u32 y.e.u) ∧ z.cell? ⟨b', off' + j * 4 + 2, none⟩ = some (.int .u32 y.e.v) ∧ z.cell? ⟨b', off' + j * 4 + 3, none⟩ = some (.bool y.add)) ∧
            z.cell? ⟨e0, 0, none⟩ = some (.int .i64 x.t) ∧ z.cell? ⟨e0, 1, none⟩ = some (.int .u32 x.e.u) ∧ z.cell? ⟨e0, 2, none⟩ = some (.int .u32 x.e.v) ∧ z.cell? ⟨e0, 3, none⟩ = some (.bool x.add))
          (first | exact ⟨d1, ⟨y0, y1, y2, y3⟩, dc0, dc1, dc2, dc3⟩ | exact ⟨keepc d1 H6.out, ⟨keepc y0 H6.out, keepc y1 H6.out, keepc y2 H6.out, keepc y3 H6.out⟩, keepc dc0 H6.out, keepc dc1 H6.out, keepc dc2 H6.out, keepc dc3 H6.out⟩)
          (first
          | (go_at_call 55; refine (HB.out _).mono ?_; rintro e w5 ⟨rfl, hm5⟩; have H6 := Lib.hid (Mod.trans (Mod.drew (Mod.refl w1 NoB)) hm5 (fun _ _ h => h)); clear hm5))
        go_wp2_with fail
        go_meet
        exact ⟨rfl, HB1.out.next H6.out⟩
    case rest =>
      obtain ⟨rfl, HB2⟩ := hcut
      clear d0 d1 dc0 dc1 dc2 dc3 han
      cases an with
      | true =>
        have hR : R = 23 := by rw [← HR.out, evErr_23 G.out G3.out HAn.out]
        subst hR
        go_wp2_with fail
        go_ret
        exact ⟨rfl, HB2.out.mod⟩
      | false =>
        have HMap : Hid (EMap wc m (.bool false) (fun x => .bool (there x))) := HE.out.2.1.mod HB2.out.mod (by simp [NoB])
        have HE5 := Lib.hid (evErr_25 (f := there) G.out G3.out (by rw [HAn.out]; simp))
        have hlook := fun nq : Nat => (HMap.out.drewN nq).look Tryd.underlying90 (zero_bool _) hxB
        obtain ⟨dc0, dc1, dc2, dc3⟩ := HB2.out.e
        simp only [Nat.zero_add] at dc1 dc2 dc3
        obtain ⟨tb, htb⟩ : ∃ tb, there ⟨x.e.u, x.e.v⟩ = tb := ⟨_, rfl⟩
        simp only [htb] at hlook
        by_cases g5 : tb = x.add
        · have hR : R = 25 := by rw [← HR.out, HE5.out, if_pos (show there x.e = x.add from htb.trans g5)]
          subst hR g5
          clear htb
          go_upto_region 8 with (fail)
          go_quiet (fail)
          go_wp2_with fail
          go_ret
          exact ⟨rfl, HB2.out.mod.drewN _⟩
        · have hR : R = 0 := by rw [← HR.out, HE5.out, if_neg (fun c => g5 (htb.symm.trans c))]
          have hne : (tb == x.add) = false := by simpa using g5
          subst hR
          clear htb g5
          go_upto_region 8 with (fail)
          go_quiet (fail)
          go_wp2_with fail
          go_ret
          exact ⟨rfl, HB2.out.mod.drewN _⟩
  · have hR : R = 24 := by rw [← HR.out, evErr_24 G.out g3]
    rw [show decide (right ⟨x.e.u, x.e.v⟩ n) = false by simp [g3]]
    subst hR
    clear g3
    go_wp2_with fail
    go_ret
    exact ⟨rfl, HB1.out.mod⟩
end Go.Proofs.YtggnkefhegnokaaDoor
end

section
/- A log's text, read, in plain words. -/
namespace Go.Proofs.YtggnkefhegnokaaDoor
set_option linter.unusedVariables false

/-- Events' lines, read one by one: what comes out, where it stopped, why. -/
def plF (n : Int) : Nat → List Ev → SS → List Ev × (Int × Int) × Int
  | 0, F, _ => (F, (0, 0), 0)
  | k + 1, F, st =>
    if (nextS st).isSome = true then
      if (evS st).2.er ≠ 0 then ([], (evS st).2.p, (evS st).2.er)
      else if evErr n (prevOf F F.length) (thereOf F) (evS st).1 ≠ 0 then ([], st.p, (evErr n (prevOf F F.length) (thereOf F) (evS st).1 : Nat))
      else plF n k (F ++ [(evS st).1]) (evS st).2
    else if st.er = 0 then (F, (0, 0), 0) else ([], st.p, st.er)
/-- The head of a log. -/
def hdS (l : List UInt8) : Int × SS :=
  let a := wordS [108, 111, 103] ⟨l, (1, 1), 0⟩
  let b := wordS [32] a.2
  let c := numS 4294967296 b.2
  (c.1, (wordS [10] c.2).2)
def parseR (l : List UInt8) : List Ev × (Int × Int) × Int := plF (hdS l).1 (l.length + 1) [] (hdS l).2
def parseN (l : List UInt8) : Int := if (parseR l).2.2 = 0 then (hdS l).1 else 0

theorem SS.go_len (st : SS) (n : Nat) (er : Int) : (st.go n er).l.length ≤ st.l.length := by simp [SS.go]
theorem numS_len (most : Int) (st : SS) : (numS most st).2.l.length ≤ st.l.length := SS.go_len _ _ _
theorem wordS_len (u : List UInt8) (st : SS) : (wordS u st).2.l.length ≤ st.l.length := SS.go_len _ _ _
/-- A word that is there takes its bytes; else there is an error. -/
theorem wordS_ok {u : List UInt8} {st : SS} (h : (wordS u st).2.er = 0) : st.er = 0 ∧ ∃ r, st.l = u ++ r ∧ (wordS u st) = (true, ⟨r, adv st.p u, 0⟩) := by
  unfold wordS wordOut SS.go at h ⊢
  by_cases he : st.er ≠ 0
  · simp only [if_pos he] at h; exact absurd h he
  · simp only [if_neg he] at h ⊢
    by_cases hp : u <+: st.l
    · simp only [if_pos hp] at h ⊢
      obtain ⟨r, hr⟩ := hp
      refine ⟨by omega, r, hr.symm, ?_⟩
      rw [← hr]
      simp
    · simp only [if_neg hp] at h
      by_cases hq : st.l <+: u
      · simp only [if_pos hq] at h; simp at h
      · simp only [if_neg hq] at h; simp at h
theorem wordS_there {u r : List UInt8} {p : Int × Int} : wordS u ⟨u ++ r, p, 0⟩ = (true, ⟨r, adv p u, 0⟩) := by
  unfold wordS wordOut SS.go
  simp
theorem numS_ok {most : Int} {st : SS} (h : (numS most st).2.er = 0) : st.er = 0 := by
  by_cases he : st.er ≠ 0
  · rw [numS_err he] at h; exact h
  · omega
theorem evS_len (st : SS) : (evS st).2.l.length ≤ st.l.length := by
  unfold evS
  dsimp only
  refine Nat.le_trans (wordS_len _ _) (Nat.le_trans (numS_len _ _) (Nat.le_trans (wordS_len _ _) (Nat.le_trans (numS_len _ _) (Nat.le_trans (wordS_len _ _) ?_))))
  refine Nat.le_trans (?_ : _ ≤ (wordS [32] (numS 4611686018427387903 st).2).2.l.length) (Nat.le_trans (wordS_len _ _) (numS_len _ _))
  split
  · exact wordS_len _ _
  · exact wordS_len _ _
theorem evS_less {st : SS} (h : (evS st).2.er = 0) : (evS st).2.l.length < st.l.length := by
  unfold evS at h ⊢
  dsimp only at h ⊢
  obtain ⟨_, r, h1, h2⟩ := wordS_ok h
  rw [h2]
  have h3 : r.length < (numS 4294967295 (wordS [32] (numS 4294967295 (wordS [32] (if nextS (wordS [32] (numS 4611686018427387903 st).2).2 = some 43 then wordS [43] (wordS [32] (numS 4611686018427387903 st).2).2 else (false, (wordS [45] (wordS [32] (numS 4611686018427387903 st).2).2).2)).2).2).2).2).2.l.length := by
    rw [h1]; simp
  refine Nat.lt_of_lt_of_le h3 (Nat.le_trans (numS_len _ _) (Nat.le_trans (wordS_len _ _) (Nat.le_trans (numS_len _ _) (Nat.le_trans (wordS_len _ _) ?_))))
  refine Nat.le_trans (?_ : _ ≤ (wordS [32] (numS 4611686018427387903 st).2).2.l.length) (Nat.le_trans (wordS_len _ _) (numS_len _ _))
  split
  · exact wordS_len _ _
  · exact wordS_len _ _
theorem hdS_len (l : List UInt8) : (hdS l).2.l.length ≤ l.length := by
  unfold hdS
  dsimp only
  exact Nat.le_trans (wordS_len _ _) (Nat.le_trans (numS_len _ _) (Nat.le_trans (wordS_len _ _) (wordS_len _ _)))
theorem hdS_bd (l : List UInt8) : 0 ≤ (hdS l).1 ∧ (hdS l).1 ≤ 4294967296 := numS_bd (by decide) _
theorem evS_bd (st : SS) : (0 ≤ (evS st).1.t ∧ (evS st).1.t ≤ 4611686018427387903) ∧ EvB (evS st).1 :=
  ⟨numS_bd (by decide) _, numS_bd (by decide) _, numS_bd (by decide) _⟩
theorem plF_end {n : Int} {k : Nat} {F : List Ev} {st : SS} {R : List Ev × (Int × Int) × Int} (h : plF n k F st = R) (hk : 0 < k) (hn : (nextS st).isSome = false) : R = if st.er = 0 then (F, (0, 0), 0) else ([], st.p, st.er) := by
  cases k with
  | zero => omega
  | succ k =>
    rw [← h]
    simp only [plF, hn]
    rfl
theorem plF_more {n : Int} {k : Nat} {F : List Ev} {st : SS} {R : List Ev × (Int × Int) × Int} (h : plF n (k + 1) F st = R) (hn : (nextS st).isSome = true) :
    ((evS st).2.er ≠ 0 → R = ([], (evS st).2.p, (evS st).2.er)) ∧ ((evS st).2.er = 0 → evErr n (prevOf F F.length) (thereOf F) (evS st).1 ≠ 0 → R = ([], st.p, ((evErr n (prevOf F F.length) (thereOf F) (evS st).1 : Nat) : Int))) ∧
    ((evS st).2.er = 0 → evErr n (prevOf F F.length) (thereOf F) (evS st).1 = 0 → plF n k (F ++ [(evS st).1]) (evS st).2 = R) := by
  simp only [plF, hn, if_true] at h
  refine ⟨fun he => ?_, fun he hv => ?_, fun he hv => ?_⟩
  · rw [if_pos he] at h; exact h.symm
  · rw [if_neg (fun c => c he), if_pos hv] at h; exact h.symm
  · rw [if_neg (fun c => c he), if_neg (fun c => c hv)] at h; exact h
end Go.Proofs.YtggnkefhegnokaaDoor
end
