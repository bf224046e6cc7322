/- Merged: TbPp TbSm TbRd -/
import Derived.Test.YtppambkffgmkgaaGreatDoorMg23
import Derived.Test.YtppambkffgmkgaaGreatDoorMg30
import Derived.Test.YtppambkffgmkgaaGreatDoorMg20
import Derived.Test.YtppambkffgmkgaaGreatDoorMg32
import Derived.Test.YtppambkffgmkgaaGreatDoorMg26
import Derived.Test.YtppambkffgmkgaaGreatDoorMg31
import Derived.Test.YtppambkffgmkgaaGreatDoorMg09
import Derived.WalkKit
import Derived.Test.YtppambkffgmkgaaGreatDoorMg15
section
/- The walk of TablePrints. -/
namespace Go.Proofs.YtppambkffgmkgaaGreatDoor
open Go.RowKit Go.Maps
set_option linter.unusedVariables false

set_option maxRecDepth 100000 in
set_option maxHeartbeats 8000000 in
theorem tprints_walk (n0 : Int) (ra : Option Addr) (rcap : Nat) (rl : List Ev) (a0 : Int) (a1 : Option Addr) (len1 cap1 : Nat) (z1 : List Int) (a2 a3 v : Int) (w : World) (hn0 : 0 ≤ n0 ∧ n0 ≤ 18446744073709551615) (hrl : rl.length ≤ 20) (hRE : Evs w ra rl) (hRB : ∀ x ∈ rl, EvB x)
    (w0 : (Lit.int .u8 a0).wf = true) (w1 : IsRow .u8 w a1 len1 cap1 z1) (w2 : (Lit.int .u8 a2).wf = true) (w3 : (Lit.int .u8 a3).wf = true) (h60 : len1 ≤ 60) (htab : Lib.TabIs Tryz.prog w "internal/strconv.uint64pow10" .u64 Lib.pow10Tab) :
    Calls Tryz.prog 3 #[.agg #[.int .u64 n0, .slice ra rl.length rcap], .int .u8 a0, .slice a1 len1 cap1, .int .u8 a2, .int .u8 a3, .int .i64 v] w fun e w' => e = .returned (.bool true) ∧ Below w.heap.size w w' := by
  have hd0 : decide ((60 : Int) < (len1 : Int)) = false := decide_eq_false (by omega)
  have hd1 : decide ((20 : Int) < (rl.length : Int)) = false := decide_eq_false (by omega)
  have hb0 := bounds_u8 w0
  have hb2 := bounds_u8 w2
  have hb3 := bounds_u8 w3
  have HA := Lib.hid w1
  have HR := Lib.hid (And.intro hRE hRB)
  have HT := Lib.hid htab
  have hmx := mixed
  clear w0 w1 w2 w3 htab
  obtain ⟨g6, hg6⟩ : ∃ g6, g6 = w.heap.size := ⟨_, rfl⟩
  obtain ⟨W, hW⟩ : ∃ W, W = w.alloc (.cells #[.int .u64 n0, .slice ra rl.length rcap] 25) := ⟨_, rfl⟩
  have HW : Hid (HAt w W g6 n0 ra rl.length rcap rl) := by
    show HAt _ _ _ _ _ _ _ _
    rw [hW, hg6]
    exact HAt.start hRE
  go_enter Tryz.func3, Tryz.ntmps3
  go_wp2_with fail
  rw [← hW, ← hg6]
  clear hW hg6 hRE hRB
  refine (tknown_any _ (tab_mod HT.out HW.out.mod)).mono ?_
  rintro e w1 ⟨rfl, hm⟩
  have H1 := Lib.hid (HW.out.next hm)
  have c0 := H1.out.c0
  have c1 := H1.out.c1
  clear hm HW
  go_wp2_with fail
  refine (hist_top _ a0 a1 len1 cap1 z1 hb0 (HA.out.mod H1.out.mod) (by omega)).mono ?_
  rintro r w2 ⟨T, top, a, cap, rfl, hT, htop, hT40, hE, hpl, hcap, hm⟩
  have hnb := vertsOf_bd a0.toNat
  obtain ⟨n, hn⟩ : ∃ n, vertsOf a0.toNat = n := ⟨_, rfl⟩
  rw [hn] at hT hnb ⊢
  obtain ⟨F, hF⟩ : ∃ F, flag (fun _ => false) T = F := ⟨_, rfl⟩
  have hFT : T.length = F.length := by rw [← hF, flag_len]
  have hevb : ∀ x ∈ F, EvB x := by rw [← hF]; exact flag_evb hT hnb.2
  have hchk : chk n F = (0, 0) := by rw [← hF]; exact chk_flag hT (Int.le_of_lt htop) hnb.2 (by omega)
  have hlast : (∀ x ∈ F, 0 ≤ x.t ∧ x.t ≤ lastT F) ∧ lastT F ≤ maxT := by
    have hok := (chk_ok_bd (by rw [hchk])).2
    refine ⟨fun x hx => ⟨(allOk_tt hok x hx).1, allOk_last hok x hx⟩, ?_⟩
    by_cases hF0 : F = []
    · rw [hF0]; decide
    · obtain ⟨y, hy, hyt⟩ := lastT_mem hF0
      rw [← hyt]
      exact (allOk_tt hok y hy).2
  rw [hFT] at hT40 hcap ⊢
  rw [hF] at hE
  have hnB : 0 ≤ n ∧ n ≤ 18446744073709551615 := ⟨by omega, by omega⟩
  have H2 := Lib.hid (H1.out.next hm)
  have HE := Lib.hid (And.intro hE hevb)
  have HL := Lib.hid hlast
  clear hm hT htop hF hFT hevb hpl hE hn hnb H1 c0 c1 hchk hlast
  go_upto_region 6 with (fail)
  obtain ⟨Y, hY⟩ : ∃ Y, Y = w2.alloc (.cells #[.int .u64 n, .slice a F.length cap] 25) := ⟨_, rfl⟩
  obtain ⟨g13, hg13⟩ : ∃ g13, g13 = w2.heap.size := ⟨_, rfl⟩
  have HY2 : Hid (HAt w2 Y g13 n a F.length cap F) := by
    show HAt _ _ _ _ _ _ _ _
    rw [hY, hg13]
    exact HAt.start HE.out.1
  rw [← hY, ← hg13]
  clear hY hg13
  have HY1 := Lib.hid (H2.out.next HY2.out.mod)
  have c0 := HY1.out.c0
  have c1 := HY1.out.c1
  have d0 := HY2.out.c0
  have d1 := HY2.out.c1
  have HBt : Hid (∀ z, Mod Y z NoB → Calls Tryz.prog 9 #[.agg #[.int .u64 n, .slice a F.length cap], .int .u8 a2, .int .u8 a3, .int .i64 v] z fun e w' => ∃ n' a' cap' l', e = .returned (.agg #[.int .u64 n', .slice a' l'.length cap']) ∧ Evs w' a' l' ∧ (∀ x ∈ l', EvB x) ∧ l'.length ≤ F.length ∧ (0 ≤ n' ∧ n' ≤ 18446744073709551615) ∧ Mod z w' NoB) := fun z hz =>
    bent_any z n a cap F a2 a3 v hnB (HY2.out.evs.mod hz) (by omega) HE.out.2 hb2 hb3
  have HLt : Hid (∀ z, Mod Y z NoB → Calls Tryz.prog 8 #[.agg #[.int .u64 n, .slice a F.length cap]] z fun e w' => ∃ a' cap', e = .returned (.agg #[.int .u64 n, .slice a' F.length cap']) ∧ Evs w' a' (lateL F) ∧ Mod z w' NoB) := fun z hz =>
    late_any z n a cap F (HY2.out.evs.mod hz) hT40 HL.out.1 HL.out.2
  have HST : Hid (∀ z, Mod Y z NoB → (z.cell? ⟨g6, 0, none⟩ = some (.int .u64 n0) ∧ z.cell? ⟨g6, 1, none⟩ = some (.slice ra rl.length rcap) ∧ z.cell? ⟨g13, 0, none⟩ = some (.int .u64 n) ∧ z.cell? ⟨g13, 1, none⟩ = some (.slice a F.length cap))) := fun z hz => ⟨keepc c0 hz, keepc c1 hz, keepc d0 hz, keepc d1 hz⟩
  go_region_held3 (fun z => z.cell? ⟨g6, 0, none⟩ = some (.int .u64 n0) ∧ z.cell? ⟨g6, 1, none⟩ = some (.slice ra rl.length rcap) ∧ z.cell? ⟨g13, 0, none⟩ = some (.int .u64 n) ∧ z.cell? ⟨g13, 1, none⟩ = some (.slice a F.length cap))
    (first | exact ⟨c0, c1, d0, d1⟩ | exact HST.out _ H5.out.2.2 | exact HST.out _ H4.out.2 | exact HST.out _ (H5.out.2.2.alloc _) | exact HST.out _ (H4.out.2.alloc _))
    (first
      | (go_at_call 9; have hq := H4; clear hq; refine (HBt.out _ H4.out.2).mono ?_; rintro r w5 ⟨n5, a5, c5, l5, rfl, k1, k2, k3, k6, hm5⟩; have H5 := Lib.hid (And.intro k1 (And.intro (And.intro k2 (And.intro k3 k6)) (Mod.trans H4.out.2 hm5 (fun _ _ c => c)))); have H4' := Lib.hid (And.intro (H4.out.1.mod hm5) H5.out.2.2); clear k1 k2 k3 k6 hm5)
      | (go_at_call 8; refine (HLt.out _ (Mod.drew (Mod.refl _ NoB))).mono ?_; rintro r w4 ⟨a4, c4, rfl, k1, hm4⟩; have H4 := Lib.hid (And.intro k1 (Mod.trans (Mod.drew (Mod.refl _ NoB)) hm4 (fun _ _ c => c))); clear k1 hm4))
  have hlen5 : l5.length ≤ 40 := by have := H5.out.2.1.2.1; omega
  have hllen : (lateL F).length = F.length := lateL_len F
  obtain ⟨FL, hFL⟩ : ∃ FL, FL = lateL F := ⟨_, rfl⟩
  have hFLb : ∀ x ∈ FL, EvB x := by rw [hFL]; exact lateL_evb HE.out.2
  rw [← hFL] at H4 H4' hllen
  obtain ⟨CS, hCS⟩ : ∃ CS : Array Value, CS = #[.int .u64 n0, .slice ra rl.length rcap, .int .u64 n, .slice a F.length cap, .int .u64 n, .slice a4 F.length c4, .int .u64 n5, .slice a5 l5.length c5] := ⟨_, rfl⟩
  obtain ⟨H, hH⟩ : ∃ H : List Hst, H = [⟨n0, ra, rcap, rl⟩, ⟨n, a, cap, F⟩, ⟨n, a4, c4, FL⟩, ⟨n5, a5, c5, l5⟩] := ⟨_, rfl⟩
  have hH3 : H.length = 4 := by rw [hH]; rfl
  have hHn : ∀ x ∈ H, 0 ≤ x.n := by
    rw [hH]
    intro x hx
    simp only [List.mem_cons, List.not_mem_nil, or_false] at hx
    rcases hx with rfl | rfl | rfl | rfl
    · exact hn0.1
    · exact hnB.1
    · exact hnB.1
    · exact H5.out.2.1.2.2.1
  have HHN := Lib.hid hHn
  have HS : Hid (Mod w (w5.alloc (.cells CS 25)) NoB ∧ HRow (w5.alloc (.cells CS 25)) w5.heap.size H) := by
    have hm := H5.out.2.2.alloc (.cells CS 25)
    refine ⟨HY1.out.mod.trans hm (fun _ _ c => c), ?_⟩
    rw [hH]
    intro j x hx
    have hj : j = 0 ∨ j = 1 ∨ j = 2 ∨ j = 3 := by have := (List.getElem?_eq_some_iff.1 hx).1; simp at this; omega
    have hat : ∀ j v, CS[j]? = some v → (w5.alloc (.cells CS 25)).cell? ⟨w5.heap.size, j, none⟩ = some v := fun j v h => (World.cell?_alloc_at _ _ _ _ rfl).trans h
    rcases hj with rfl | rfl | rfl | rfl
    · cases hx
      exact ⟨hat _ _ (by rw [hCS]; rfl), hat _ _ (by rw [hCS]; rfl), HR.out.1.mod (HY1.out.mod.trans hm (fun _ _ c => c)), HR.out.2, by show rl.length ≤ 40; omega⟩
    · cases hx
      exact ⟨hat _ _ (by rw [hCS]; rfl), hat _ _ (by rw [hCS]; rfl), HY2.out.evs.mod hm, HE.out.2, hT40⟩
    · cases hx
      exact ⟨hat _ _ (by rw [hCS]; rfl), hat _ _ (by rw [hCS, ← hllen]; rfl), H4'.out.1.mod ((Mod.refl _ _).alloc _), hFLb, by show FL.length ≤ 40; omega⟩
    · cases hx
      exact ⟨hat _ _ (by rw [hCS]; rfl), hat _ _ (by rw [hCS]; rfl), H5.out.1.mod ((Mod.refl _ _).alloc _), H5.out.2.1.1, hlen5⟩
  rw [← hCS]
  obtain ⟨gs, hgs⟩ : ∃ gs, gs = w5.heap.size := ⟨_, rfl⟩
  obtain ⟨Z, hZ⟩ : ∃ Z, Z = w5.alloc (.cells CS 25) := ⟨_, rfl⟩
  rw [← hZ, ← hgs] at HS ⊢
  clear hZ hgs H5 H4 H4' HY1 HY2 HBt HLt HST HE HR HL H2 c0 c1 d0 d1 hH hHn hCS hFL hFLb hllen hnB hlen5
  go_wp2_with fail
  go_loopw [48] (fun v48 wr => ∃ k : Nat, k ≤ 4 ∧ v48 = .int .i64 k ∧ Hid (Mod w wr NoB ∧ HRow wr gs H)) (fun v48 _ => 4 - (intOf v48).toNat)
  case atStart => exact ⟨0, by omega, rfl, HS.out⟩
  case round =>
    obtain ⟨k, hk, rfl, HI⟩ := hrel
    by_cases hlt : k < 4
    · have hki : (k : Int) < 4 := by omega
      have hk0 : (0 : Int) ≤ k := by omega
      obtain ⟨x, hx⟩ : ∃ x, H[k]? = some x := ⟨H[k]'(by omega), List.getElem?_eq_getElem _⟩
      obtain ⟨c0, c1, e1, e2, e3⟩ := HI.out.2 k x hx
      have HX := Lib.hid (And.intro e1 (And.intro e2 (HHN.out x (List.mem_of_getElem? hx))))
      clear e1 e2 hx
      go_upto_region 9 with (fail)
      have HB0 := Lib.hid (HAt.start (w := wr) (n := x.n) (len := x.l.length) (cap := x.cap) HX.out.1)
      obtain ⟨gb, hgb⟩ : ∃ gb, gb = wr.heap.size := ⟨_, rfl⟩
      obtain ⟨V, hV⟩ : ∃ V, V = wr.alloc (.cells #[.int .u64 x.n, .slice x.a x.l.length x.cap] 25) := ⟨_, rfl⟩
      rw [← hV, ← hgb] at HB0 ⊢
      have HP1 : Hid (∀ z, Evs z x.a x.l → Lib.TabIs Tryz.prog z "internal/strconv.uint64pow10" .u64 Lib.pow10Tab → Calls Tryz.prog 10 #[.agg #[.int .u64 x.n, .slice x.a x.l.length x.cap]] z fun e w' => e = .returned (.tuple #[.string (prT x.n x.l), .int .i64 (chk x.n x.l).2]) ∧ Mod z w' NoB) := fun z hz ht => tprint_any z x.n x.a x.cap x.l HX.out.2.2 hz (by omega) HX.out.2.1 ht
      have HP2 : Hid (∀ z, Evs z x.a x.l → Calls Tryz.prog 11 #[.agg #[.int .u64 x.n, .slice x.a x.l.length x.cap]] z fun e w' => e = .returned (.tuple #[.string (prT x.n x.l), .int .i64 (chk x.n x.l).2]) ∧ Mod z w' NoB) := fun z hz => trprint_any z x.n x.a x.cap x.l HX.out.2.2 hz (by omega) HX.out.2.1
      have HPS : Hid ((chk x.n x.l).2 = 0 → (parseTE (L (prT x.n x.l)) = x.l ∧ parseTN (L (prT x.n x.l)) = x.n ∧ parseT (L (prT x.n x.l)) = (ofL x.n x.l, (0, 0), 0)) ∧ (prT x.n x.l).size ≤ 40000) := fun h => by
        obtain ⟨q1, q2, q3, q4, q5⟩ := prT_ok h HX.out.2.2 HX.out.2.1 e3
        exact ⟨⟨q5, q4, q3⟩, q2⟩
      obtain ⟨PS, hPS⟩ : ∃ PS, prT x.n x.l = PS := ⟨_, rfl⟩
      obtain ⟨E, hE⟩ : ∃ E, (chk x.n x.l).2 = E := ⟨_, rfl⟩
      rw [hPS] at HP1 HP2 HPS
      rw [hE] at HP1 HP2 HPS
      have d0 := HB0.out.c0
      have d1 := HB0.out.c1
      clear hV hgb c0 c1 hPS hE
      go_wp2_with fail
      refine (HP1.out _ HB0.out.evs (tab_mod HT.out (HI.out.1.trans HB0.out.mod (fun _ _ c => c)))).mono ?_
      rintro r w3 ⟨rfl, hm3⟩
      have HB3 := Lib.hid (HB0.out.next hm3)
      have f0 := HB3.out.c0
      have f1 := HB3.out.c1
      clear d0 d1 hm3 HB0 HP1
      go_wp2_with fail
      refine (HP2.out _ HB3.out.evs).mono ?_
      rintro r w4 ⟨rfl, hm4⟩
      have HB4 := Lib.hid (HB3.out.next hm4)
      have d0 := HB4.out.c0
      have d1 := HB4.out.c1
      clear f0 f1 hm4 HB3 HP2
      by_cases hE0 : E = 0
      · have HQ := Lib.hid (HPS.out hE0)
        subst hE0
        clear HPS
        have HPa := tparse_any w4 PS HQ.out.2
        rw [HQ.out.1.1, HQ.out.1.2.1, HQ.out.1.2.2] at HPa
        have HPb := Lib.hid HPa
        clear HPa HQ
        go_wp2_with fail
        refine HPb.out.mono ?_
        rintro r w5 ⟨a5, c5, rfl, hE5, hm5⟩
        have HB5 := Lib.hid (HB4.out.next hm5)
        have HE5 := Lib.hid hE5
        clear hE5 hm5 HPb HB4 d0 d1
        go_upto_region 15 with (fail)
        have HPl := Lib.hid (HPl.start (w := w5) (n := x.n) (v := .slice a5 x.l.length c5) (x := 0) (y := 0))
        obtain ⟨g1, hg1⟩ : ∃ g, g = w5.heap.size := ⟨_, rfl⟩
        obtain ⟨g2, hg2⟩ : ∃ g, g = w5.heap.size + 1 := ⟨_, rfl⟩
        obtain ⟨W6, hW6⟩ : ∃ W, W = ((w5.alloc (.cells #[.int .u64 x.n, .slice a5 x.l.length c5] 25)).alloc (.cells #[.int .i64 0, .int .i64 0] 38)) := ⟨_, rfl⟩
        rw [← hW6, ← hg2, ← hg1] at HPl ⊢
        clear hW6 hg1 hg2
        have HB6 := Lib.hid (HB5.out.next HPl.out.mod)
        have HE6 := Lib.hid (HE5.out.mod HPl.out.mod)
        have d0 := HB6.out.c0
        have d1 := HB6.out.c1
        have u0 := HPl.out.h0
        have u1 := HPl.out.h1
        have u2 := HPl.out.p0
        have u3 := HPl.out.p1
        clear HB5 HE5
        go_wp2_with fail
        refine (same_any _ x.n x.a a5 x.cap c5 x.l HB6.out.evs HE6.out (by omega)).mono ?_
        rintro r w7 ⟨rfl, hm7⟩
        have HB7 := Lib.hid (HB6.out.next hm7)
        clear hm7
        go_wp2_with fail
        go_roundw
        case rel => exact ⟨k + 1, by omega, by go_num, HI.out.1.trans HB7.out.mod (fun _ _ c => c), HI.out.2.mod HB7.out.mod⟩
        case measure => simp [intOf]; omega
      · have hEi : ¬ (E : Int) = 0 := by omega
        clear HPS hE0
        go_wp2_with fail
        go_roundw
        case rel => exact ⟨k + 1, by omega, by go_num, HI.out.1.trans HB4.out.mod (fun _ _ c => c), HI.out.2.mod HB4.out.mod⟩
        case measure => simp [intOf]; omega
    · have hk3 : k = 4 := by omega
      subst hk3
      go_wp2_with fail
      go_ret
      exact ⟨rfl, HI.out.1.below (Nat.le_refl _) (fun _ h => h.elim)⟩

set_option maxRecDepth 100000 in
set_option maxHeartbeats 4000000 in
theorem tprints_all (n0 : Int) (ra : Option Addr) (rlen rcap : Nat) (rl : List Ev) (a0 : Int) (a1 : Option Addr) (len1 cap1 : Nat) (z1 : List Int) (a2 a3 v : Int) (w : World) (hn0 : (Lit.int .u64 n0).wf = true) (hrl : rl.length = rlen) (hRE : Evs w ra rl) (hRB : ∀ x ∈ rl, EvB x)
    (w0 : (Lit.int .u8 a0).wf = true) (w1 : IsRow .u8 w a1 len1 cap1 z1) (w2 : (Lit.int .u8 a2).wf = true) (w3 : (Lit.int .u8 a3).wf = true) (w4 : (Lit.int .i64 v).wf = true) (htab : Lib.TabIs Tryz.prog w "internal/strconv.uint64pow10" .u64 Lib.pow10Tab) :
    Calls Tryz.prog 3 #[.agg #[.int .u64 n0, .slice ra rlen rcap], .int .u8 a0, .slice a1 len1 cap1, .int .u8 a2, .int .u8 a3, .int .i64 v] w fun e w' => e = .returned (.bool true) ∧ Below w.heap.size w w' := by
  subst hrl
  by_cases hr : rl.length ≤ 20
  · by_cases h60 : len1 ≤ 60
    · exact tprints_walk n0 ra rcap rl a0 a1 len1 cap1 z1 a2 a3 v w (bounds_u64 hn0) hr hRE hRB w0 w1 w2 w3 h60 htab
    · have hd0 : decide ((60 : Int) < (len1 : Int)) = true := decide_eq_true (by omega)
      have hd1 : decide ((20 : Int) < (rl.length : Int)) = false := decide_eq_false (by omega)
      have hd2 : (60 : Int) < (len1 : Int) := by omega
      have HT := Lib.hid htab
      clear w0 w1 w2 w3 w4 htab
      go_enter Tryz.func3, Tryz.ntmps3
      go_wp2_with fail
      have HH := Lib.hid (HAt.start (n := n0) (len := rl.length) (cap := rcap) hRE)
      refine (tknown_any _ (tab_mod HT.out HH.out.mod)).mono ?_
      rintro e w1 ⟨rfl, hm⟩
      have H1 := Lib.hid (HH.out.next hm)
      have c0 := H1.out.c0
      have c1 := H1.out.c1
      clear hm
      go_wp2_with fail
      go_ret
      exact ⟨rfl, H1.out.mod.below (Nat.le_refl _) (fun _ h => h.elim)⟩
  · have hd1 : decide ((20 : Int) < (rl.length : Int)) = true := decide_eq_true (by omega)
    have hd2 : (20 : Int) < (rl.length : Int) := by omega
    have HT := Lib.hid htab
    clear w0 w1 w2 w3 w4 htab
    go_enter Tryz.func3, Tryz.ntmps3
    go_wp2_with fail
    have HH := Lib.hid (HAt.start (n := n0) (len := rl.length) (cap := rcap) hRE)
    refine (tknown_any _ (tab_mod HT.out HH.out.mod)).mono ?_
    rintro e w1 ⟨rfl, hm⟩
    have H1 := Lib.hid (HH.out.next hm)
    have c0 := H1.out.c0
    have c1 := H1.out.c1
    clear hm
    go_wp2_with fail
    go_ret
    exact ⟨rfl, H1.out.mod.below (Nat.le_refl _) (fun _ h => h.elim)⟩
end Go.Proofs.YtppambkffgmkgaaGreatDoor
end

section
/- The contract of the statements' some: a text of lines, or nearly. (Printed by gen_some.py.) -/
namespace Go.Proofs.YtppambkffgmkgaaGreatDoor
open Go.RowKit Go.Maps
set_option linter.unusedVariables false

def tsomA : Array Value := #[.string ⟨#[116, 97, 98, 108, 101, 32, 53, 10]⟩, .string ⟨#[48, 32, 49, 32, 48, 32, 51, 10]⟩, .string ⟨#[48, 32, 49, 32, 52, 32, 45, 10]⟩, .string ⟨#[48, 32, 49, 32, 51, 32, 45, 10]⟩, .string ⟨#[49, 32, 50, 32, 48, 32, 45, 10]⟩, .string ⟨#[48, 32, 50, 32, 53, 32, 54, 10]⟩, .string ⟨#[50, 32, 49, 32, 48, 32, 45, 10]⟩, .string ⟨#[51, 32, 52, 32, 55, 32, 55, 10]⟩, .string ⟨#[51, 32, 52, 32, 48, 55, 32, 56, 10]⟩, .string ⟨#[51, 32, 52, 32, 49, 32, 52, 54, 49, 49, 54, 56, 54, 48, 49, 56, 52, 50, 55, 51, 56, 55, 57, 48, 52, 10]⟩, .string ⟨#[52, 32, 53, 32, 48, 32, 49, 10]⟩, .string ⟨#[48, 32, 49, 32, 48, 32, 45]⟩, .string ⟨#[10]⟩, .string ⟨#[48, 32, 52, 50, 57, 52, 57, 54, 55, 50, 57, 54, 32, 48, 32, 45, 10]⟩, .string ⟨#[49, 32, 51, 32, 48, 32, 120, 10]⟩]
theorem tsom_at (j : Nat) (hj : j < 15) : ∃ s : ByteArray, tsomA[j]? = some (.string s) ∧ s.size ≤ 26 := by
  rcases (by omega : j = 0 ∨ j = 1 ∨ j = 2 ∨ j = 3 ∨ j = 4 ∨ j = 5 ∨ j = 6 ∨ j = 7 ∨ j = 8 ∨ j = 9 ∨ j = 10 ∨ j = 11 ∨ j = 12 ∨ j = 13 ∨ j = 14) with rfl | rfl | rfl | rfl | rfl | rfl | rfl | rfl | rfl | rfl | rfl | rfl | rfl | rfl | rfl
  all_goals exact ⟨_, rfl, by decide⟩
/-- The table of lines, in a block. -/
structure tSom (w0 w : World) (g : Nat) : Prop where
  mod : Mod w0 w NoB
  at' : ∀ j, j < 15 → ∃ s : ByteArray, w.cell? ⟨g, j, none⟩ = some (.string s) ∧ s.size ≤ 26
  z : w.cell? ⟨g, 0, none⟩ = some (.string ⟨#[116, 97, 98, 108, 101, 32, 53, 10]⟩)
theorem tSom.next {w0 w w' : World} {g : Nat} (h : tSom w0 w g) (hm : Mod w w' NoB) : tSom w0 w' g :=
  ⟨h.mod.trans hm (fun _ _ c => c), fun j hj => by obtain ⟨s, h1, h2⟩ := h.at' j hj; exact ⟨s, keepc h1 hm, h2⟩, keepc h.z hm⟩
theorem tSom.start {w : World} : tSom w (w.alloc (.cells tsomA 9)) w.heap.size :=
  ⟨(Mod.refl _ _).alloc _, fun j hj => by
    obtain ⟨s, h1, h2⟩ := tsom_at j hj
    exact ⟨s, (World.cell?_alloc_at _ _ _ _ rfl).trans h1, h2⟩, World.cell?_alloc_at _ _ _ _ rfl⟩

set_option maxRecDepth 100000 in
set_option maxHeartbeats 4000000 in
theorem tsome_any (w : World) (a : Option Addr) (len cap : Nat) (zs : List Int) (hA : IsRow .u8 w a len cap zs) (hlen : len ≤ 12) :
    Calls Tryz.prog 15 #[.slice a len cap] w fun e w' => ∃ s : ByteArray, e = .returned (.string s) ∧ s.size ≤ 400 ∧ Mod w w' NoB := by
  have hmx := mixed
  have HA := Lib.hid hA
  clear hA
  have HS0 := Lib.hid (tSom.start (w := w))
  obtain ⟨g, hg⟩ : ∃ g, g = w.heap.size := ⟨_, rfl⟩
  obtain ⟨W, hW⟩ : ∃ W, W = w.alloc (.cells #[.string ⟨#[116, 97, 98, 108, 101, 32, 53, 10]⟩, .string ⟨#[48, 32, 49, 32, 48, 32, 51, 10]⟩, .string ⟨#[48, 32, 49, 32, 52, 32, 45, 10]⟩, .string ⟨#[48, 32, 49, 32, 51, 32, 45, 10]⟩, .string ⟨#[49, 32, 50, 32, 48, 32, 45, 10]⟩, .string ⟨#[48, 32, 50, 32, 53, 32, 54, 10]⟩, .string ⟨#[50, 32, 49, 32, 48, 32, 45, 10]⟩, .string ⟨#[51, 32, 52, 32, 55, 32, 55, 10]⟩, .string ⟨#[51, 32, 52, 32, 48, 55, 32, 56, 10]⟩, .string ⟨#[51, 32, 52, 32, 49, 32, 52, 54, 49, 49, 54, 56, 54, 48, 49, 56, 52, 50, 55, 51, 56, 55, 57, 48, 52, 10]⟩, .string ⟨#[52, 32, 53, 32, 48, 32, 49, 10]⟩, .string ⟨#[48, 32, 49, 32, 48, 32, 45]⟩, .string ⟨#[10]⟩, .string ⟨#[48, 32, 52, 50, 57, 52, 57, 54, 55, 50, 57, 54, 32, 48, 32, 45, 10]⟩, .string ⟨#[49, 32, 51, 32, 48, 32, 120, 10]⟩] 9) := ⟨_, rfl⟩
  have HS : Hid (tSom w W g) := by show tSom w W g; rw [hW, hg]; exact HS0.out
  go_enter Tryz.func15, Tryz.ntmps15
  go_upto_region 2 with (fail)
  rw [← hW, ← hg]
  clear hW hg HS0
  have z0 := HS.out.z
  by_cases hl0 : len = 0
  focus
    have hli : decide ((0 : Int) < (len : Int)) = false := decide_eq_false (by omega)
    have hln : decide (0 < len) = false := decide_eq_false (by omega)
    clear hl0
    go_upto_region 6 with (fail)
    obtain ⟨s0, hs0⟩ : ∃ s0 : ByteArray, s0 = ⟨#[116, 97, 98, 108, 101, 32, 53, 10]⟩ := ⟨_, rfl⟩
    have hsz : s0.size ≤ 10 := by rw [hs0]; decide
    rw [← hs0]
    clear hs0
  rotate_left
  focus
    have hli : decide ((0 : Int) < (len : Int)) = true := decide_eq_true (by omega)
    have hlj : (0 : Int) < (len : Int) := by omega
    obtain ⟨b, off, hab, hbw, hz0, hwf0⟩ := isrow_at HA.out (show 0 < len by omega)
    subst hab
    clear hl0
    have c0 := (HS.out.mod.cell hbw (by simp [NoB])).trans hz0
    obtain ⟨z, hz⟩ : ∃ z, zs.getD 0 0 = z := ⟨_, rfl⟩
    rw [hz] at c0 hwf0
    have hzb := bounds_u8 hwf0
    clear hz hz0 hwf0 hbw
    simp only [Nat.add_zero] at c0
    by_cases h4 : z % 5 = 4
    focus
      go_upto_region 6 with (fail)
      obtain ⟨s0, hs0⟩ : ∃ s0 : ByteArray, s0 = ⟨#[]⟩ := ⟨_, rfl⟩
      have hsz : s0.size ≤ 10 := by rw [hs0]; decide
      rw [← hs0]
      clear hs0
    rotate_left
    focus
      go_upto_region 6 with (fail)
      obtain ⟨s0, hs0⟩ : ∃ s0 : ByteArray, s0 = ⟨#[116, 97, 98, 108, 101, 32, 53, 10]⟩ := ⟨_, rfl⟩
      have hsz : s0.size ≤ 10 := by rw [hs0]; decide
      rw [← hs0]
      clear hs0
    all_goals clear c0 h4 hzb
  all_goals
    clear z0 hli
    try clear hln
    go_loopw [4, 5] (fun v4 v5 wr => ∃ (k : Nat) (s : ByteArray), k ≤ len ∧ v4 = .string s ∧ v5 = .int .i64 k ∧ s.size ≤ 10 + 26 * k ∧ Hid (tSom w wr g)) (fun _ v5 _ => len - (intOf v5).toNat)
    case atStart => exact ⟨0, _, Nat.zero_le _, rfl, rfl, hsz, HS⟩
    case round =>
      obtain ⟨k, s, hk, rfl, rfl, hs, HI⟩ := hrel
      by_cases hlt : k < len
      · have hki : (k : Int) < len := by omega
        obtain ⟨b, off, hab, hbw, hz1, hwf1⟩ := isrow_at HA.out hlt
        first | subst hab | cases hab
        have c1 := (HI.out.mod.cell (p := ⟨b, off + k, none⟩) hbw (by simp [NoB])).trans hz1
        obtain ⟨z, hz⟩ : ∃ z, zs.getD k 0 = z := ⟨_, rfl⟩
        rw [hz] at c1 hwf1
        have hzb := bounds_u8 hwf1
        obtain ⟨m, hm⟩ : ∃ m : Nat, z % 15 = (m : Int) := ⟨(z % 15).toNat, by omega⟩
        have hm15 : m < 15 := by omega
        have hmi : (m : Int) < 15 := by omega
        obtain ⟨u, hu, hus⟩ := HI.out.at' m hm15
        have hadd := sadd (P := Tryz.prog) s u (by omega)
        have hsu : (s ++ u).size ≤ 10 + 26 * (k + 1) := by rw [ByteArray.size_append]; omega
        obtain ⟨su, hsu2⟩ : ∃ su, su = s ++ u := ⟨_, rfl⟩
        rw [← hsu2] at hadd hsu
        clear hz hz1 hwf1 hbw hsu2
        go_wp2_with fail
        go_roundw
        case rel => exact ⟨k + 1, su, by omega, rfl, by go_num, hsu, HI⟩
        case measure => simp [intOf]; omega
      · have hki : ¬ (k : Int) < len := by omega
        go_wp2_with fail
        go_ret
        exact ⟨s, rfl, by omega, HI.out.mod⟩
end Go.Proofs.YtppambkffgmkgaaGreatDoor
end

section
/- The walk of TableReads. -/
namespace Go.Proofs.YtppambkffgmkgaaGreatDoor
open Go.RowKit Go.Maps
set_option linter.unusedVariables false

/-- Texts in a block. -/
def SRow (w : World) (g : Nat) (H : List ByteArray) : Prop := ∀ (j : Nat) (x : ByteArray), H[j]? = some x → w.cell? ⟨g, j, none⟩ = some (.string x) ∧ x.size ≤ 4500
theorem SRow.mod {w w' : World} {g : Nat} {H : List ByteArray} (h : SRow w g H) (hm : Mod w w' NoB) : SRow w' g H := fun j x hx => by
  obtain ⟨h1, h2⟩ := h j x hx
  exact ⟨keepc h1 hm, h2⟩
/-- A text, as bytes of one's own. -/
theorem bytes_made {P : Program} (w : World) (src dst e : TypeId) (s : ByteArray) (hs : P.underlying src = some .string) (hd : P.underlying dst = some (.slice e)) (he : P.underlying e = some (.int .u8)) :
    ∃ (W : World) (c : Nat), (convert src dst (.string s)).run P w = .ok (.slice (some ⟨w.heap.size, 0, none⟩) (L s).length c) W ∧ Byt W (some ⟨w.heap.size, 0, none⟩) (L s) ∧ (L s).length ≤ c ∧ Mod w W NoB := by
  have h := run_bytes_of_string (P := P) w src dst e s hs hd he
  refine ⟨_, _, by rw [L_len]; exact h, Byt.made w s _ e _, by rw [L_len]; exact grownCap_ge _ _ _ _, (Mod.drew (Mod.refl _ _)).alloc _⟩

set_option maxRecDepth 100000 in
set_option maxHeartbeats 8000000 in
theorem treads_walk (raw : ByteArray) (a1 : Option Addr) (len1 cap1 : Nat) (z1 : List Int) (a2 : Int) (a3 : Option Addr) (len3 cap3 : Nat) (z3 : List Int) (a4 a5 a6 : Int) (more : ByteArray) (w : World)
    (h80 : raw.size ≤ 80) (h12 : len1 ≤ 12) (h45 : len3 ≤ 45) (h20 : more.size ≤ 20) (w1 : IsRow .u8 w a1 len1 cap1 z1) (w2 : (Lit.int .u8 a2).wf = true) (w3 : IsRow .u8 w a3 len3 cap3 z3) (w4 : (Lit.int .u8 a4).wf = true) (w5 : (Lit.int .u16 a5).wf = true) (w6 : (Lit.int .u8 a6).wf = true)
    (htab : Lib.TabIs Tryz.prog w "internal/strconv.uint64pow10" .u64 Lib.pow10Tab) :
    Calls Tryz.prog 4 #[.string raw, .slice a1 len1 cap1, .int .u8 a2, .slice a3 len3 cap3, .int .u8 a4, .int .u16 a5, .int .u8 a6, .string more] w fun e w' => e = .returned (.bool true) ∧ Mod w w' NoB := by
  have hd0 : decide ((80 : Int) < (raw.size : Int)) = false := decide_eq_false (by omega)
  have hd1 : decide ((12 : Int) < (len1 : Int)) = false := decide_eq_false (by omega)
  have hd2 : decide ((45 : Int) < (len3 : Int)) = false := decide_eq_false (by omega)
  have hd3 : decide ((20 : Int) < (more.size : Int)) = false := decide_eq_false (by omega)
  have hb2 := bounds_u8 w2
  have hb4 := bounds_u8 w4
  have hb5 := bounds_u16 w5
  have hb6 := bounds_u8 w6
  have HA := Lib.hid w1
  have HB := Lib.hid w3
  have HT := Lib.hid htab
  have hmx := mixed
  clear w1 w2 w3 w4 w5 w6 htab
  go_enter Tryz.func4, Tryz.ntmps4
  go_wp2_with fail
  refine (tknown_any _ HT.out).mono ?_
  rintro e w1 ⟨rfl, hm⟩
  have H1 := Lib.hid hm
  clear hm
  go_wp2_with fail
  refine (hist_any _ a2 a3 len3 cap3 z3 hb2 (HB.out.mod H1.out) (by omega)).mono ?_
  rintro r w2 ⟨T, top, a, cap, rfl, hT, htop, hT40, hE, hpl, hcap, hm⟩
  have hnb := vertsOf_bd a2.toNat
  obtain ⟨n, hn⟩ : ∃ n, vertsOf a2.toNat = n := ⟨_, rfl⟩
  rw [hn] at hT hnb ⊢
  obtain ⟨F, hF⟩ : ∃ F, flag (fun _ => false) T = F := ⟨_, rfl⟩
  have hFT : T.length = F.length := by rw [← hF, flag_len]
  have hevb : ∀ x ∈ F, EvB x := by rw [← hF]; exact flag_evb hT hnb.2
  rw [hFT] at hT40 hcap ⊢
  rw [hF] at hE
  have H2 := Lib.hid (H1.out.trans hm (fun _ _ c => c))
  have HE := Lib.hid (And.intro hE hevb)
  have hsz := prT_sz (n := n) (F := F) (by omega) hevb hT40
  have HP := trprint_any w2 n a cap F (by omega) hE (by omega) hevb
  obtain ⟨s, hs⟩ : ∃ s, s = prT n F := ⟨_, rfl⟩
  obtain ⟨er, her⟩ : ∃ er, er = (chk n F).2 := ⟨_, rfl⟩
  rw [← hs, ← her] at HP
  rw [← hs] at hsz
  have HPh := Lib.hid HP
  clear hm hT htop hF hFT hevb hpl hE hn hnb H1 hcap HP hs her hT40
  go_wp2_with fail
  refine HPh.out.mono ?_
  rintro e w3 ⟨rfl, hm⟩
  have H3 := Lib.hid (H2.out.trans hm (fun _ _ c => c))
  clear hm HPh HE H2
  go_upto_region 6 with (fail)
  obtain ⟨W4, k4, e4, y4, y4c, m4⟩ := bytes_made (P := Tryz.prog) w3 9 26 5 s Tryz.underlying9 Tryz.underlying26 Tryz.underlying5
  obtain ⟨W5, k5, e5, y5, y5c, m5⟩ := bytes_made (P := Tryz.prog) W4 9 26 5 more Tryz.underlying9 Tryz.underlying26 Tryz.underlying5
  have hL1 : (L s).length = s.size := L_len s
  have hL2 : (L more).length = more.size := L_len more
  have HCh := change_any W5 (some ⟨w3.heap.size, 0, none⟩) (some ⟨W4.heap.size, 0, none⟩) k4 k5 (L s) (L more) a4 a5 a6 (y4.mod m5) y5 y4c (by omega) (by omega) hb4 hb5 hb6
  have H5 := Lib.hid (H3.out.trans (m4.trans m5 (fun _ _ c => c)) (fun _ _ c => c))
  have HChh := Lib.hid HCh
  clear HCh y4 y4c m4 y5 y5c m5 H3
  go_wp2_with fail
  refine HChh.out.mono ?_
  rintro e w6 ⟨a6', c6, R, rfl, hR, hRl, hRc, hm⟩
  have H6 := Lib.hid (H5.out.trans hm (fun _ _ c => c))
  have e6 := hR.conv (P := Tryz.prog) c6 26 9 5 Tryz.underlying26 Tryz.underlying9 Tryz.underlying5
  obtain ⟨d, hd⟩ : ∃ d : ByteArray, d = ⟨R.toArray⟩ := ⟨_, rfl⟩
  have hdsz : d.size ≤ 3600 := by rw [hd]; show R.toArray.size ≤ _; rw [List.size_toArray]; omega
  rw [← hd] at e6
  clear hm hR hRc hd HChh H5 e4 e5
  go_wp2_with fail
  refine (tsome_any _ a1 len1 cap1 z1 (HA.out.mod H6.out) h12).mono ?_
  rintro e w7 ⟨p1, rfl, hp1, hm⟩
  have H7 := Lib.hid (H6.out.trans hm (fun _ _ c => c))
  have ea1 := sadd (P := Tryz.prog) s more (by omega)
  clear hm H6 e6
  go_wp2_with fail
  refine (tsome_any _ a1 len1 cap1 z1 (HA.out.mod H7.out) h12).mono ?_
  rintro e w8 ⟨p2, rfl, hp2, hm⟩
  have H8 := Lib.hid (H7.out.trans hm (fun _ _ c => c))
  have ea2 := sadd (P := Tryz.prog) s p2 (by omega)
  obtain ⟨x1, hx1⟩ : ∃ x, x = s ++ more := ⟨_, rfl⟩
  obtain ⟨x2, hx2⟩ : ∃ x, x = s ++ p2 := ⟨_, rfl⟩
  have hx1s : x1.size ≤ 4500 := by rw [hx1, ByteArray.size_append]; omega
  have hx2s : x2.size ≤ 4500 := by rw [hx2, ByteArray.size_append]; omega
  rw [← hx1] at ea1 ⊢
  rw [← hx2] at ea2
  clear hm H7 hx1 hx2
  obtain ⟨H, hH⟩ : ∃ H : List ByteArray, H = [raw, p1, s, d, x1, x2] := ⟨_, rfl⟩
  have hHl : H.length = 6 := by rw [hH]; rfl
  obtain ⟨Z, hZ⟩ : ∃ Z, Z = w8.alloc (.cells #[.string raw, .string p1, .string s, .string d, .string x1, .string x2] 9) := ⟨_, rfl⟩
  obtain ⟨gs, hgs⟩ : ∃ gs, gs = w8.heap.size := ⟨_, rfl⟩
  have HS : Hid (Mod w Z NoB ∧ SRow Z gs H) := by
    show _ ∧ _
    rw [hZ, hgs]
    refine ⟨H8.out.alloc _, ?_⟩
    rw [hH]
    intro j x hx
    have hj : j = 0 ∨ j = 1 ∨ j = 2 ∨ j = 3 ∨ j = 4 ∨ j = 5 := by have := (List.getElem?_eq_some_iff.1 hx).1; simp at this; omega
    rcases hj with rfl | rfl | rfl | rfl | rfl | rfl
    all_goals
      cases hx
      exact ⟨World.cell?_alloc_at _ _ _ _ rfl, by omega⟩
  go_upto_region 7 with (fail)
  rw [← hZ, ← hgs]
  clear hZ hgs H8 ea1 ea2 hH hx1s hx2s hp1 hp2 hdsz hsz hRl hL1 hL2
  go_wp2_with fail
  go_loopw [80] (fun v80 wr => ∃ k : Nat, k ≤ 6 ∧ v80 = .int .i64 k ∧ Hid (Mod w wr NoB ∧ SRow wr gs H)) (fun v80 _ => 6 - (intOf v80).toNat)
  case atStart => exact ⟨0, by omega, rfl, HS.out⟩
  case round =>
    obtain ⟨k, hk, rfl, HI⟩ := hrel
    by_cases hlt : k < 6
    · have hki : (k : Int) < 6 := by omega
      have hk0 : (0 : Int) ≤ k := by omega
      obtain ⟨x, hx⟩ : ∃ x, H[k]? = some x := ⟨H[k]'(by omega), List.getElem?_eq_getElem _⟩
      obtain ⟨c0, hxs⟩ := HI.out.2 k x hx
      have HP1 := tparse_any (s := x) (hs := by omega)
      have HP2 := trparse_any (s := x) (hs := by omega)
      have hinv := prT_inv (x := x) hxs
      have hbadl : (parseT (L x)).2.2 ≠ 0 → parseTE (L x) = [] := fun h => if_neg h
      obtain ⟨X, hX⟩ : ∃ X, X = parseTE (L x) := ⟨_, rfl⟩
      obtain ⟨N, hN⟩ : ∃ N, N = parseTN (L x) := ⟨_, rfl⟩
      obtain ⟨Q, hQ⟩ : ∃ Q, Q = (parseT (L x)).2 := ⟨_, rfl⟩
      rw [← hX, ← hN, ← hQ] at hinv HP1 HP2
      rw [← hX, ← hQ] at hbadl
      obtain ⟨⟨pl, pc⟩, er⟩ := Q
      dsimp only at hinv HP1 HP2 hbadl
      have hXl : X.length ≤ 9000 := by
        by_cases h0 : er = 0
        · exact (hinv h0).2.2.2.1
        · rw [hbadl h0]; simp
      have HIN := Lib.hid hinv
      have HP1h : Hid (∀ z, _) := HP1
      have HP2h : Hid (∀ z, _) := HP2
      clear hinv HP1 HP2 hbadl hQ hN hX hx
      go_wp2_with fail
      refine (HP1h.out _).mono ?_
      rintro e w3 ⟨a3', c3, rfl, hE3, hm3⟩
      have HE3 := Lib.hid hE3
      have HM3 := Lib.hid (HI.out.1.trans hm3 (fun _ _ c => c))
      have HM3' := Lib.hid hm3
      clear hE3 hm3 HP1h c0
      go_upto_region 11 with (fail)
      have HB := Lib.hid (HPl.start (w := w3) (n := N) (v := .slice a3' X.length c3) (x := pl) (y := pc))
      obtain ⟨g1, hg1⟩ : ∃ g, g = w3.heap.size := ⟨_, rfl⟩
      obtain ⟨g2, hg2⟩ : ∃ g, g = w3.heap.size + 1 := ⟨_, rfl⟩
      obtain ⟨W4, hW4⟩ : ∃ W, W = ((w3.alloc (.cells #[.int .u64 N, .slice a3' X.length c3] 25)).alloc (.cells #[.int .i64 pl, .int .i64 pc] 38)) := ⟨_, rfl⟩
      rw [← hW4, ← hg2, ← hg1] at HB ⊢
      clear hW4 hg2 hg1
      go_wp2_with fail
      refine (HP2h.out _).mono ?_
      rintro e w5 ⟨a5', c5, rfl, hE5, hm5⟩
      have HE5 := Lib.hid hE5
      have HB5 := Lib.hid (HB.out.next hm5)
      have HE3' := Lib.hid ((HE3.out.mod HB.out.mod).mod hm5)
      clear hE5 hm5 HP2h HB HE3
      go_upto_region 12 with (fail)
      have HC := Lib.hid (HPl.start (w := w5) (n := N) (v := .slice a5' X.length c5) (x := pl) (y := pc))
      obtain ⟨g3, hg3⟩ : ∃ g, g = w5.heap.size := ⟨_, rfl⟩
      obtain ⟨g4, hg4⟩ : ∃ g, g = w5.heap.size + 1 := ⟨_, rfl⟩
      obtain ⟨W6, hW6⟩ : ∃ W, W = ((w5.alloc (.cells #[.int .u64 N, .slice a5' X.length c5] 25)).alloc (.cells #[.int .i64 pl, .int .i64 pc] 38)) := ⟨_, rfl⟩
      rw [← hW6, ← hg4, ← hg3] at HC ⊢
      clear hW6 hg4 hg3
      have HB6 := Lib.hid (HB5.out.next HC.out.mod)
      have HE36 := Lib.hid (HE3'.out.mod HC.out.mod)
      have HE56 := Lib.hid (HE5.out.mod HC.out.mod)
      have u0 := HB6.out.h0
      have u1 := HB6.out.h1
      have u2 := HB6.out.p0
      have u3 := HB6.out.p1
      have v0 := HC.out.h0
      have v1 := HC.out.h1
      have v2 := HC.out.p0
      have v3 := HC.out.p1
      have HM6 := Lib.hid (HM3.out.trans HB6.out.mod (fun _ _ c => c))
      clear HB5 HE3' HE5
      go_wp2_with fail
      refine (same_any _ N a3' a5' c3 c5 X HE36.out HE56.out (by omega)).mono ?_
      rintro e w7 ⟨rfl, hm7⟩
      have HB7 := Lib.hid (HB6.out.next hm7)
      have HE37 := Lib.hid (HE36.out.mod hm7)
      have HM7 := Lib.hid (HM6.out.trans hm7 (fun _ _ c => c))
      have HSR := Lib.hid (((HI.out.2.mod HM3'.out).mod HB6.out.mod).mod hm7)
      clear hm7 u0 u1 u2 u3 v0 v1 v2 v3 HB6 HC HE36 HE56 HM6
      by_cases her : er = 0
      · have HZ := Lib.hid (HIN.out her)
        subst her
        clear HIN
        have u0 := HB7.out.h0
        have u1 := HB7.out.h1
        have HPr := tprint_any w7 N a3' c3 X HZ.out.2.2.2.2 HE37.out (by omega) HZ.out.2.2.1 (tab_mod HT.out HM7.out)
        rw [HZ.out.1, HZ.out.2.1] at HPr
        have HPr' := Lib.hid HPr
        clear HPr HZ
        go_wp2_with fail
        refine HPr'.out.mono ?_
        rintro e w8 ⟨rfl, hm8⟩
        have HSR8 := Lib.hid (HSR.out.mod hm8)
        have HM8 := Lib.hid (HM7.out.trans hm8 (fun _ _ c => c))
        clear hm8 HPr' HSR HM7
        go_wp2_with fail
        go_roundw
        case rel => exact ⟨k + 1, by omega, by go_num, HM8.out, HSR8.out⟩
        case measure => simp [intOf]; omega
      · have heri : (er == 0) = false := by simpa using her
        clear her
        go_wp2_with fail
        go_roundw
        case rel => exact ⟨k + 1, by omega, by go_num, HM7.out, HSR.out⟩
        case measure => simp [intOf]; omega
    · have hk3 : k = 6 := by omega
      subst hk3
      go_wp2_with fail
      go_ret
      exact ⟨rfl, HI.out.1⟩

set_option maxRecDepth 100000 in
set_option maxHeartbeats 8000000 in
theorem treads_all (raw : ByteArray) (a1 : Option Addr) (len1 cap1 : Nat) (z1 : List Int) (a2 : Int) (a3 : Option Addr) (len3 cap3 : Nat) (z3 : List Int) (a4 a5 a6 : Int) (more : ByteArray) (w : World)
    (w0 : raw.size ≤ maxLen) (w1 : IsRow .u8 w a1 len1 cap1 z1) (w2 : (Lit.int .u8 a2).wf = true) (w3 : IsRow .u8 w a3 len3 cap3 z3) (w4 : (Lit.int .u8 a4).wf = true) (w5 : (Lit.int .u16 a5).wf = true) (w6 : (Lit.int .u8 a6).wf = true) (w7 : more.size ≤ maxLen)
    (htab : Lib.TabIs Tryz.prog w "internal/strconv.uint64pow10" .u64 Lib.pow10Tab) :
    Calls Tryz.prog 4 #[.string raw, .slice a1 len1 cap1, .int .u8 a2, .slice a3 len3 cap3, .int .u8 a4, .int .u16 a5, .int .u8 a6, .string more] w fun e w' => e = .returned (.bool true) ∧ Below w.heap.size w w' := by
  suffices h : Calls Tryz.prog 4 #[.string raw, .slice a1 len1 cap1, .int .u8 a2, .slice a3 len3 cap3, .int .u8 a4, .int .u16 a5, .int .u8 a6, .string more] w fun e w' => e = .returned (.bool true) ∧ Mod w w' NoB from
    h.mono fun e w' h => ⟨h.1, h.2.below (Nat.le_refl _) (fun _ h => h.elim)⟩
  have HT := Lib.hid htab
  by_cases h0 : 80 < raw.size
  · have d0 : decide ((80 : Int) < (raw.size : Int)) = true := decide_eq_true (by omega)
    have n0 : (80 : Int) < (raw.size : Int) := by omega
    clear w0 w1 w2 w3 w4 w5 w6 w7 htab
    go_enter Tryz.func4, Tryz.ntmps4
    go_wp2_with fail
    refine (tknown_any _ HT.out).mono ?_
    rintro e w1 ⟨rfl, hm⟩
    have H1 := Lib.hid hm
    clear hm
    go_wp2_with fail
    go_ret
    exact ⟨rfl, H1.out⟩
  by_cases h1 : 12 < len1
  · have d1 : decide ((12 : Int) < (len1 : Int)) = true := decide_eq_true (by omega)
    have n1 : (12 : Int) < (len1 : Int) := by omega
    have d0 : decide ((80 : Int) < (raw.size : Int)) = false := decide_eq_false (by omega)
    clear w0 w1 w2 w3 w4 w5 w6 w7 htab
    go_enter Tryz.func4, Tryz.ntmps4
    go_wp2_with fail
    refine (tknown_any _ HT.out).mono ?_
    rintro e w1 ⟨rfl, hm⟩
    have H1 := Lib.hid hm
    clear hm
    go_wp2_with fail
    go_ret
    exact ⟨rfl, H1.out⟩
  by_cases h2 : 45 < len3
  · have d2 : decide ((45 : Int) < (len3 : Int)) = true := decide_eq_true (by omega)
    have n2 : (45 : Int) < (len3 : Int) := by omega
    have d0 : decide ((80 : Int) < (raw.size : Int)) = false := decide_eq_false (by omega)
    have d1 : decide ((12 : Int) < (len1 : Int)) = false := decide_eq_false (by omega)
    clear w0 w1 w2 w3 w4 w5 w6 w7 htab
    go_enter Tryz.func4, Tryz.ntmps4
    go_wp2_with fail
    refine (tknown_any _ HT.out).mono ?_
    rintro e w1 ⟨rfl, hm⟩
    have H1 := Lib.hid hm
    clear hm
    go_wp2_with fail
    go_ret
    exact ⟨rfl, H1.out⟩
  by_cases h3 : 20 < more.size
  · have d3 : decide ((20 : Int) < (more.size : Int)) = true := decide_eq_true (by omega)
    have n3 : (20 : Int) < (more.size : Int) := by omega
    have d0 : decide ((80 : Int) < (raw.size : Int)) = false := decide_eq_false (by omega)
    have d1 : decide ((12 : Int) < (len1 : Int)) = false := decide_eq_false (by omega)
    have d2 : decide ((45 : Int) < (len3 : Int)) = false := decide_eq_false (by omega)
    clear w0 w1 w2 w3 w4 w5 w6 w7 htab
    go_enter Tryz.func4, Tryz.ntmps4
    go_wp2_with fail
    refine (tknown_any _ HT.out).mono ?_
    rintro e w1 ⟨rfl, hm⟩
    have H1 := Lib.hid hm
    clear hm
    go_wp2_with fail
    go_ret
    exact ⟨rfl, H1.out⟩
  exact treads_walk raw a1 len1 cap1 z1 a2 a3 len3 cap3 z3 a4 a5 a6 more w (by omega) (by omega) (by omega) (by omega) w1 w2 w3 w4 w5 w6 htab
end Go.Proofs.YtppambkffgmkgaaGreatDoor
end
