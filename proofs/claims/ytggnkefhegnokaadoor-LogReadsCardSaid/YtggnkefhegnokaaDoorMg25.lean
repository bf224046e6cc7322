/- Merged: LfTl LgPp LgLi2 -/
import Derived.Test.YtggnkefhegnokaaDoorMg13
import Derived.Test.YtggnkefhegnokaaDoorMg12
import Derived.Test.YtggnkefhegnokaaDoorMg24
import Derived.Test.YtggnkefhegnokaaDoorMg22
import Derived.Test.YtggnkefhegnokaaDoorMg21
import Derived.Test.YtggnkefhegnokaaDoorMg10
import Derived.Test.YtggnkefhegnokaaDoorMg16
import Derived.Test.YtggnkefhegnokaaDoorMg09
section
/- The walk of LifeTells. -/
namespace Go.Proofs.YtggnkefhegnokaaDoor
open Go.RowKit
set_option linter.unusedVariables false

/-- A history as a value: its number, its slice, its events. -/
structure Hst where
  n : Int
  a : Option Addr
  cap : Nat
  l : List Ev
/-- A row of histories in a block. -/
def HRow (w : World) (g : Nat) (H : List Hst) : Prop := ∀ (j : Nat) (x : Hst), H[j]? = some x → w.cell? ⟨g, j * 2, none⟩ = some (.int .u64 x.n) ∧ w.cell? ⟨g, j * 2 + 1, none⟩ = some (.slice x.a x.l.length x.cap) ∧ Evs w x.a x.l ∧ (∀ e ∈ x.l, EvB e) ∧ x.l.length ≤ 40
theorem HRow.mod {w w' : World} {g : Nat} {H : List Hst} (h : HRow w g H) (hm : Mod w w' NoB) : HRow w' g H := fun j x hx => by
  obtain ⟨h1, h2, h3, h4⟩ := h j x hx
  exact ⟨keepc h1 hm, keepc h2 hm, h3.mod hm, h4⟩

end Go.Proofs.YtggnkefhegnokaaDoor
end

section
/- The walk of LogPrints. -/
namespace Go.Proofs.YtggnkefhegnokaaDoor
open Go.RowKit Go.Maps
set_option linter.unusedVariables false

theorem prS_ok {n : Int} {F : List Ev} (h : (chk n F).2 = 0) (hn0 : 0 ≤ n) (hb : ∀ x ∈ F, EvB x) (hl : F.length ≤ 40) : L (prS n F) = logL n F ∧ (prS n F).size ≤ 40000 := by
  have hpr : prS n F = ⟨(logL n F).toArray⟩ := if_pos h
  rw [hpr]
  refine ⟨by simp [L], ?_⟩
  show (logL n F).toArray.size ≤ _
  have hbd := chk_ok_bd h
  have := logL_len (n := n) (F := F) ⟨hn0, hbd.1⟩ (fun y hy => ⟨allOk_tt hbd.2 y hy, hb y hy⟩)
  simp only [List.size_toArray]
  omega
set_option maxRecDepth 100000 in
set_option maxHeartbeats 8000000 in
theorem lprints_walk (n0 : Int) (ra : Option Addr) (rcap : Nat) (rl : List Ev) (a0 : Int) (a1 : Option Addr) (len1 cap1 : Nat) (z1 : List Int) (a2 a3 v : Int) (w : World) (hn0 : 0 ≤ n0 ∧ n0 ≤ 18446744073709551615) (hrl : rl.length ≤ 20) (hRE : Evs w ra rl) (hRB : ∀ x ∈ rl, EvB x)
    (w0 : (Lit.int .u8 a0).wf = true) (w1 : IsRow .u8 w a1 len1 cap1 z1) (w2 : (Lit.int .u8 a2).wf = true) (w3 : (Lit.int .u8 a3).wf = true) (h60 : len1 ≤ 60) (htab : Lib.TabIs Tryd.prog w "internal/strconv.uint64pow10" .u64 Lib.pow10Tab) :
    Calls Tryd.prog 3 #[.agg #[.int .u64 n0, .slice ra rl.length rcap], .int .u8 a0, .slice a1 len1 cap1, .int .u8 a2, .int .u8 a3, .int .i64 v] w fun e w' => e = .returned (.bool true) ∧ Below w.heap.size w w' := by
  have hd0 : decide ((60 : Int) < (len1 : Int)) = false := decide_eq_false (by omega)
  have hd1 : decide ((20 : Int) < (rl.length : Int)) = false := decide_eq_false (by omega)
  have hb0 := bounds_u8 w0
  have hb2 := bounds_u8 w2
  have hb3 := bounds_u8 w3
  have HA := Lib.hid w1
  have HR := Lib.hid (And.intro hRE hRB)
  have HT := Lib.hid htab
  have hmx := mixed
  clear w0 w1 w2 w3 htab
  obtain ⟨g6, hg6⟩ : ∃ g6, g6 = w.heap.size := ⟨_, rfl⟩
  obtain ⟨W, hW⟩ : ∃ W, W = w.alloc (.cells #[.int .u64 n0, .slice ra rl.length rcap] 25) := ⟨_, rfl⟩
  have HW : Hid (HAt w W g6 n0 ra rl.length rcap rl) := by
    show HAt _ _ _ _ _ _ _ _
    rw [hW, hg6]
    exact HAt.start hRE
  go_enter Tryd.func3, Tryd.ntmps3
  go_wp2_with fail
  rw [← hW, ← hg6]
  clear hW hg6 hRE hRB
  refine (lknown_any _ (tab_mod HT.out HW.out.mod)).mono ?_
  rintro e w1 ⟨rfl, hm⟩
  have H1 := Lib.hid (HW.out.next hm)
  have c0 := H1.out.c0
  have c1 := H1.out.c1
  clear hm HW
  go_wp2_with fail
  refine (hist_top _ a0 a1 len1 cap1 z1 hb0 (HA.out.mod H1.out.mod) (by omega)).mono ?_
  rintro r w2 ⟨T, top, a, cap, rfl, hT, htop, hT40, hE, hpl, hcap, hm⟩
  have hnb := vertsOf_bd a0.toNat
  obtain ⟨n, hn⟩ : ∃ n, vertsOf a0.toNat = n := ⟨_, rfl⟩
  rw [hn] at hT hnb ⊢
  obtain ⟨F, hF⟩ : ∃ F, flag (fun _ => false) T = F := ⟨_, rfl⟩
  have hFT : T.length = F.length := by rw [← hF, flag_len]
  have hevb : ∀ x ∈ F, EvB x := by rw [← hF]; exact flag_evb hT hnb.2
  have hchk : chk n F = (0, 0) := by rw [← hF]; exact chk_flag hT (Int.le_of_lt htop) hnb.2 (by omega)
  have hlast : (∀ x ∈ F, 0 ≤ x.t ∧ x.t ≤ lastT F) ∧ lastT F ≤ maxT := by
    have hok := (chk_ok_bd (by rw [hchk])).2
    refine ⟨fun x hx => ⟨(allOk_tt hok x hx).1, allOk_last hok x hx⟩, ?_⟩
    by_cases hF0 : F = []
    · rw [hF0]; decide
    · obtain ⟨y, hy, hyt⟩ := lastT_mem hF0
      rw [← hyt]
      exact (allOk_tt hok y hy).2
  rw [hFT] at hT40 hcap ⊢
  rw [hF] at hE
  have hnB : 0 ≤ n ∧ n ≤ 18446744073709551615 := ⟨by omega, by omega⟩
  have H2 := Lib.hid (H1.out.next hm)
  have HE := Lib.hid (And.intro hE hevb)
  have HL := Lib.hid hlast
  clear hm hT htop hF hFT hevb hpl hE hn hnb H1 c0 c1 hchk hlast
  go_upto_region 6 with (fail)
  obtain ⟨Y, hY⟩ : ∃ Y, Y = w2.alloc (.cells #[.int .u64 n, .slice a F.length cap] 25) := ⟨_, rfl⟩
  obtain ⟨g13, hg13⟩ : ∃ g13, g13 = w2.heap.size := ⟨_, rfl⟩
  have HY2 : Hid (HAt w2 Y g13 n a F.length cap F) := by
    show HAt _ _ _ _ _ _ _ _
    rw [hY, hg13]
    exact HAt.start HE.out.1
  rw [← hY, ← hg13]
  clear hY hg13
  have HY1 := Lib.hid (H2.out.next HY2.out.mod)
  have c0 := HY1.out.c0
  have c1 := HY1.out.c1
  have d0 := HY2.out.c0
  have d1 := HY2.out.c1
  have HBt : Hid (∀ z, Mod Y z NoB → Calls Tryd.prog 11 #[.agg #[.int .u64 n, .slice a F.length cap], .int .u8 a2, .int .u8 a3, .int .i64 v] z fun e w' => ∃ n' a' cap' l', e = .returned (.agg #[.int .u64 n', .slice a' l'.length cap']) ∧ Evs w' a' l' ∧ (∀ x ∈ l', EvB x) ∧ l'.length ≤ F.length ∧ (0 ≤ n' ∧ n' ≤ 18446744073709551615) ∧ Mod z w' NoB) := fun z hz =>
    bent_any z n a cap F a2 a3 v hnB (HY2.out.evs.mod hz) (by omega) HE.out.2 hb2 hb3
  have HLt : Hid (∀ z, Mod Y z NoB → Calls Tryd.prog 10 #[.agg #[.int .u64 n, .slice a F.length cap]] z fun e w' => ∃ a' cap', e = .returned (.agg #[.int .u64 n, .slice a' F.length cap']) ∧ Evs w' a' (lateL F) ∧ Mod z w' NoB) := fun z hz =>
    late_any z n a cap F (HY2.out.evs.mod hz) hT40 HL.out.1 HL.out.2
  have HST : Hid (∀ z, Mod Y z NoB → (z.cell? ⟨g6, 0, none⟩ = some (.int .u64 n0) ∧ z.cell? ⟨g6, 1, none⟩ = some (.slice ra rl.length rcap) ∧ z.cell? ⟨g13, 0, none⟩ = some (.int .u64 n) ∧ z.cell? ⟨g13, 1, none⟩ = some (.slice a F.length cap))) := fun z hz => ⟨keepc c0 hz, keepc c1 hz, keepc d0 hz, keepc d1 hz⟩
  go_region_held3 (fun z => z.cell? ⟨g6, 0, none⟩ = some (.int .u64 n0) ∧ z.cell? ⟨g6, 1, none⟩ = some (.slice ra rl.length rcap) ∧ z.cell? ⟨g13, 0, none⟩ = some (.int .u64 n) ∧ z.cell? ⟨g13, 1, none⟩ = some (.slice a F.length cap))
    (first | exact ⟨c0, c1, d0, d1⟩ | exact HST.out _ H5.out.2.2 | exact HST.out _ H4.out.2 | exact HST.out _ (H5.out.2.2.alloc _) | exact HST.out _ (H4.out.2.alloc _))
    (first
      | (go_at_call 11; have hq := H4; clear hq; refine (HBt.out _ H4.out.2).mono ?_; rintro r w5 ⟨n5, a5, c5, l5, rfl, k1, k2, k3, k6, hm5⟩; have H5 := Lib.hid (And.intro k1 (And.intro (And.intro k2 (And.intro k3 k6)) (Mod.trans H4.out.2 hm5 (fun _ _ c => c)))); have H4' := Lib.hid (And.intro (H4.out.1.mod hm5) H5.out.2.2); clear k1 k2 k3 k6 hm5)
      | (go_at_call 10; refine (HLt.out _ (Mod.drew (Mod.refl _ NoB))).mono ?_; rintro r w4 ⟨a4, c4, rfl, k1, hm4⟩; have H4 := Lib.hid (And.intro k1 (Mod.trans (Mod.drew (Mod.refl _ NoB)) hm4 (fun _ _ c => c))); clear k1 hm4))
  have hlen5 : l5.length ≤ 40 := by have := H5.out.2.1.2.1; omega
  have hllen : (lateL F).length = F.length := lateL_len F
  obtain ⟨FL, hFL⟩ : ∃ FL, FL = lateL F := ⟨_, rfl⟩
  have hFLb : ∀ x ∈ FL, EvB x := by rw [hFL]; exact lateL_evb HE.out.2
  rw [← hFL] at H4 H4' hllen
  obtain ⟨CS, hCS⟩ : ∃ CS : Array Value, CS = #[.int .u64 n0, .slice ra rl.length rcap, .int .u64 n, .slice a F.length cap, .int .u64 n, .slice a4 F.length c4, .int .u64 n5, .slice a5 l5.length c5] := ⟨_, rfl⟩
  obtain ⟨H, hH⟩ : ∃ H : List Hst, H = [⟨n0, ra, rcap, rl⟩, ⟨n, a, cap, F⟩, ⟨n, a4, c4, FL⟩, ⟨n5, a5, c5, l5⟩] := ⟨_, rfl⟩
  have hH3 : H.length = 4 := by rw [hH]; rfl
  have hHn : ∀ x ∈ H, 0 ≤ x.n := by
    rw [hH]
    intro x hx
    simp only [List.mem_cons, List.not_mem_nil, or_false] at hx
    rcases hx with rfl | rfl | rfl | rfl
    · exact hn0.1
    · exact hnB.1
    · exact hnB.1
    · exact H5.out.2.1.2.2.1
  have HHN := Lib.hid hHn
  have HS : Hid (Mod w (w5.alloc (.cells CS 25)) NoB ∧ HRow (w5.alloc (.cells CS 25)) w5.heap.size H) := by
    have hm := H5.out.2.2.alloc (.cells CS 25)
    refine ⟨HY1.out.mod.trans hm (fun _ _ c => c), ?_⟩
    rw [hH]
    intro j x hx
    have hj : j = 0 ∨ j = 1 ∨ j = 2 ∨ j = 3 := by have := (List.getElem?_eq_some_iff.1 hx).1; simp at this; omega
    have hat : ∀ j v, CS[j]? = some v → (w5.alloc (.cells CS 25)).cell? ⟨w5.heap.size, j, none⟩ = some v := fun j v h => (World.cell?_alloc_at _ _ _ _ rfl).trans h
    rcases hj with rfl | rfl | rfl | rfl
    · cases hx
      exact ⟨hat _ _ (by rw [hCS]; rfl), hat _ _ (by rw [hCS]; rfl), HR.out.1.mod (HY1.out.mod.trans hm (fun _ _ c => c)), HR.out.2, by show rl.length ≤ 40; omega⟩
    · cases hx
      exact ⟨hat _ _ (by rw [hCS]; rfl), hat _ _ (by rw [hCS]; rfl), HY2.out.evs.mod hm, HE.out.2, hT40⟩
    · cases hx
      exact ⟨hat _ _ (by rw [hCS]; rfl), hat _ _ (by rw [hCS, ← hllen]; rfl), H4'.out.1.mod ((Mod.refl _ _).alloc _), hFLb, by show FL.length ≤ 40; omega⟩
    · cases hx
      exact ⟨hat _ _ (by rw [hCS]; rfl), hat _ _ (by rw [hCS]; rfl), H5.out.1.mod ((Mod.refl _ _).alloc _), H5.out.2.1.1, hlen5⟩
  rw [← hCS]
  obtain ⟨gs, hgs⟩ : ∃ gs, gs = w5.heap.size := ⟨_, rfl⟩
  obtain ⟨Z, hZ⟩ : ∃ Z, Z = w5.alloc (.cells CS 25) := ⟨_, rfl⟩
  rw [← hZ, ← hgs] at HS ⊢
  clear hZ hgs H5 H4 H4' HY1 HY2 HBt HLt HST HE HR HL H2 c0 c1 d0 d1 hH hHn hCS hFL hFLb hllen hnB hlen5
  go_wp2_with fail
  go_loopw [48] (fun v48 wr => ∃ k : Nat, k ≤ 4 ∧ v48 = .int .i64 k ∧ Hid (Mod w wr NoB ∧ HRow wr gs H)) (fun v48 _ => 4 - (intOf v48).toNat)
  case atStart => exact ⟨0, by omega, rfl, HS.out⟩
  case round =>
    obtain ⟨k, hk, rfl, HI⟩ := hrel
    by_cases hlt : k < 4
    · have hki : (k : Int) < 4 := by omega
      have hk0 : (0 : Int) ≤ k := by omega
      obtain ⟨x, hx⟩ : ∃ x, H[k]? = some x := ⟨H[k]'(by omega), List.getElem?_eq_getElem _⟩
      obtain ⟨c0, c1, e1, e2, e3⟩ := HI.out.2 k x hx
      have HX := Lib.hid (And.intro e1 (And.intro e2 (HHN.out x (List.mem_of_getElem? hx))))
      clear e1 e2 hx
      go_upto_region 9 with (fail)
      have HB0 := Lib.hid (HAt.start (w := wr) (n := x.n) (len := x.l.length) (cap := x.cap) HX.out.1)
      obtain ⟨gb, hgb⟩ : ∃ gb, gb = wr.heap.size := ⟨_, rfl⟩
      obtain ⟨V, hV⟩ : ∃ V, V = wr.alloc (.cells #[.int .u64 x.n, .slice x.a x.l.length x.cap] 25) := ⟨_, rfl⟩
      rw [← hV, ← hgb] at HB0 ⊢
      have HP1 : Hid (∀ z, Evs z x.a x.l → Lib.TabIs Tryd.prog z "internal/strconv.uint64pow10" .u64 Lib.pow10Tab → Calls Tryd.prog 12 #[.agg #[.int .u64 x.n, .slice x.a x.l.length x.cap]] z fun e w' => e = .returned (.tuple #[.string (prS x.n x.l), .int .i64 (chk x.n x.l).2]) ∧ Mod z w' NoB) := fun z hz ht => print_any z x.n x.a x.cap x.l HX.out.2.2 hz (by omega) HX.out.2.1 ht
      have HP2 : Hid (∀ z, Evs z x.a x.l → Calls Tryd.prog 13 #[.agg #[.int .u64 x.n, .slice x.a x.l.length x.cap]] z fun e w' => e = .returned (.tuple #[.string (prS x.n x.l), .int .i64 (chk x.n x.l).2]) ∧ Mod z w' NoB) := fun z hz => rprint_any z x.n x.a x.cap x.l HX.out.2.2 hz (by omega) HX.out.2.1
      have HPS : Hid ((chk x.n x.l).2 = 0 → (parseR (L (prS x.n x.l)) = (x.l, (0, 0), 0) ∧ parseN (L (prS x.n x.l)) = x.n) ∧ (prS x.n x.l).size ≤ 40000) := fun h => by
        obtain ⟨q1, q2⟩ := prS_ok h HX.out.2.2 HX.out.2.1 e3
        rw [q1]
        exact ⟨parse_log HX.out.2.2 h HX.out.2.1, q2⟩
      obtain ⟨PS, hPS⟩ : ∃ PS, prS x.n x.l = PS := ⟨_, rfl⟩
      obtain ⟨E, hE⟩ : ∃ E, (chk x.n x.l).2 = E := ⟨_, rfl⟩
      rw [hPS] at HP1 HP2 HPS
      rw [hE] at HP1 HP2 HPS
      have d0 := HB0.out.c0
      have d1 := HB0.out.c1
      clear hV hgb c0 c1 hPS hE
      go_wp2_with fail
      refine (HP1.out _ HB0.out.evs (tab_mod HT.out (HI.out.1.trans HB0.out.mod (fun _ _ c => c)))).mono ?_
      rintro r w3 ⟨rfl, hm3⟩
      have HB3 := Lib.hid (HB0.out.next hm3)
      have f0 := HB3.out.c0
      have f1 := HB3.out.c1
      clear d0 d1 hm3 HB0 HP1
      go_wp2_with fail
      refine (HP2.out _ HB3.out.evs).mono ?_
      rintro r w4 ⟨rfl, hm4⟩
      have HB4 := Lib.hid (HB3.out.next hm4)
      have d0 := HB4.out.c0
      have d1 := HB4.out.c1
      clear f0 f1 hm4 HB3 HP2
      by_cases hE0 : E = 0
      · have HQ := Lib.hid (HPS.out hE0)
        subst hE0
        clear HPS
        have HPa := parse_any w4 PS HQ.out.2
        rw [HQ.out.1.1, HQ.out.1.2] at HPa
        have HPb := Lib.hid HPa
        clear HPa HQ
        go_wp2_with fail
        refine HPb.out.mono ?_
        rintro r w5 ⟨a5, c5, rfl, hE5, hm5⟩
        have HB5 := Lib.hid (HB4.out.next hm5)
        have HE5 := Lib.hid hE5
        clear hE5 hm5 HPb HB4 d0 d1
        go_upto_region 15 with (fail)
        have HPl := Lib.hid (HPl.start (w := w5) (n := x.n) (v := .slice a5 x.l.length c5) (x := 0) (y := 0))
        obtain ⟨g1, hg1⟩ : ∃ g, g = w5.heap.size := ⟨_, rfl⟩
        obtain ⟨g2, hg2⟩ : ∃ g, g = w5.heap.size + 1 := ⟨_, rfl⟩
        obtain ⟨W6, hW6⟩ : ∃ W, W = ((w5.alloc (.cells #[.int .u64 x.n, .slice a5 x.l.length c5] 25)).alloc (.cells #[.int .i64 0, .int .i64 0] 38)) := ⟨_, rfl⟩
        rw [← hW6, ← hg2, ← hg1] at HPl ⊢
        clear hW6 hg1 hg2
        have HB6 := Lib.hid (HB5.out.next HPl.out.mod)
        have HE6 := Lib.hid (HE5.out.mod HPl.out.mod)
        have d0 := HB6.out.c0
        have d1 := HB6.out.c1
        have u0 := HPl.out.h0
        have u1 := HPl.out.h1
        have u2 := HPl.out.p0
        have u3 := HPl.out.p1
        clear HB5 HE5
        go_wp2_with fail
        refine (same_any _ x.n x.a a5 x.cap c5 x.l HB6.out.evs HE6.out (by omega)).mono ?_
        rintro r w7 ⟨rfl, hm7⟩
        have HB7 := Lib.hid (HB6.out.next hm7)
        clear hm7
        go_wp2_with fail
        go_roundw
        case rel => exact ⟨k + 1, by omega, by go_num, HI.out.1.trans HB7.out.mod (fun _ _ c => c), HI.out.2.mod HB7.out.mod⟩
        case measure => simp [intOf]; omega
      · have hEi : ¬ (E : Int) = 0 := by omega
        clear HPS hE0
        go_wp2_with fail
        go_roundw
        case rel => exact ⟨k + 1, by omega, by go_num, HI.out.1.trans HB4.out.mod (fun _ _ c => c), HI.out.2.mod HB4.out.mod⟩
        case measure => simp [intOf]; omega
    · have hk3 : k = 4 := by omega
      subst hk3
      go_wp2_with fail
      go_ret
      exact ⟨rfl, HI.out.1.below (Nat.le_refl _) (fun _ h => h.elim)⟩

set_option maxRecDepth 100000 in
set_option maxHeartbeats 4000000 in
theorem lprints_all (n0 : Int) (ra : Option Addr) (rlen rcap : Nat) (rl : List Ev) (a0 : Int) (a1 : Option Addr) (len1 cap1 : Nat) (z1 : List Int) (a2 a3 v : Int) (w : World) (hn0 : (Lit.int .u64 n0).wf = true) (hrl : rl.length = rlen) (hRE : Evs w ra rl) (hRB : ∀ x ∈ rl, EvB x)
    (w0 : (Lit.int .u8 a0).wf = true) (w1 : IsRow .u8 w a1 len1 cap1 z1) (w2 : (Lit.int .u8 a2).wf = true) (w3 : (Lit.int .u8 a3).wf = true) (w4 : (Lit.int .i64 v).wf = true) (htab : Lib.TabIs Tryd.prog w "internal/strconv.uint64pow10" .u64 Lib.pow10Tab) :
    Calls Tryd.prog 3 #[.agg #[.int .u64 n0, .slice ra rlen rcap], .int .u8 a0, .slice a1 len1 cap1, .int .u8 a2, .int .u8 a3, .int .i64 v] w fun e w' => e = .returned (.bool true) ∧ Below w.heap.size w w' := by
  subst hrl
  by_cases hr : rl.length ≤ 20
  · by_cases h60 : len1 ≤ 60
    · exact lprints_walk n0 ra rcap rl a0 a1 len1 cap1 z1 a2 a3 v w (bounds_u64 hn0) hr hRE hRB w0 w1 w2 w3 h60 htab
    · have hd0 : decide ((60 : Int) < (len1 : Int)) = true := decide_eq_true (by omega)
      have hd1 : decide ((20 : Int) < (rl.length : Int)) = false := decide_eq_false (by omega)
      have hd2 : (60 : Int) < (len1 : Int) := by omega
      have HT := Lib.hid htab
      clear w0 w1 w2 w3 w4 htab
      go_enter Tryd.func3, Tryd.ntmps3
      go_wp2_with fail
      have HH := Lib.hid (HAt.start (n := n0) (len := rl.length) (cap := rcap) hRE)
      refine (lknown_any _ (tab_mod HT.out HH.out.mod)).mono ?_
      rintro e w1 ⟨rfl, hm⟩
      have H1 := Lib.hid (HH.out.next hm)
      have c0 := H1.out.c0
      have c1 := H1.out.c1
      clear hm
      go_wp2_with fail
      go_ret
      exact ⟨rfl, H1.out.mod.below (Nat.le_refl _) (fun _ h => h.elim)⟩
  · have hd1 : decide ((20 : Int) < (rl.length : Int)) = true := decide_eq_true (by omega)
    have hd2 : (20 : Int) < (rl.length : Int) := by omega
    have HT := Lib.hid htab
    clear w0 w1 w2 w3 w4 htab
    go_enter Tryd.func3, Tryd.ntmps3
    go_wp2_with fail
    have HH := Lib.hid (HAt.start (n := n0) (len := rl.length) (cap := rcap) hRE)
    refine (lknown_any _ (tab_mod HT.out HH.out.mod)).mono ?_
    rintro e w1 ⟨rfl, hm⟩
    have H1 := Lib.hid (HH.out.next hm)
    have c0 := H1.out.c0
    have c1 := H1.out.c1
    clear hm
    go_wp2_with fail
    go_ret
    exact ⟨rfl, H1.out.mod.below (Nat.le_refl _) (fun _ h => h.elim)⟩
end Go.Proofs.YtggnkefhegnokaaDoor
end

section
/- The walk of LogLines. (Printed by gen_lglines.py.) -/
namespace Go.Proofs.YtggnkefhegnokaaDoor
open Go.RowKit Go.Maps
set_option linter.unusedVariables false

def tensK (s : ByteArray) (k : Nat) : Nat := tens ((L s).take k)
theorem tensK_succ (s : ByteArray) (k : Nat) (h : k < s.size) : tensK s (k + 1) = if s[k].toNat = 10 then tensK s k + 1 else tensK s k := by
  unfold tensK
  have hb : (L s)[k]? = some s[k] := at_byte s k h
  rw [List.take_add_one, hb, tens_app]
  by_cases h10 : s[k].toNat = 10
  · rw [if_pos h10]; simp [tens, h10]
  · rw [if_neg h10]; simp [tens, h10]
theorem tensK_le (s : ByteArray) (k : Nat) : tensK s k ≤ k := by
  unfold tensK tens
  exact Nat.le_trans (List.length_filter_le _ _) (by rw [List.length_take]; omega)
theorem tensK_all (s : ByteArray) : tensK s s.size = tens (L s) := by
  unfold tensK
  rw [List.take_of_length_le (by rw [L_len]; exact Nat.le_refl _)]
def badS (d : ByteArray) : Nat → ByteArray
  | 0 => ⟨#[48, 32, 43, 32, 49, 32, 49, 10]⟩
  | 1 => d ++ ⟨#[32, 43, 32, 49, 32, 48, 10]⟩
  | 2 => d ++ ⟨#[32, 43, 32, 48, 32, 52, 50, 57, 52, 57, 54, 55, 50, 57, 53, 10]⟩
  | 3 => ⟨#[52, 54, 49, 49, 54, 56, 54, 48, 49, 56, 52, 50, 55, 51, 56, 55, 57, 48, 51, 32, 45, 32, 48, 32, 49, 10]⟩
  | 4 => ⟨#[120, 10]⟩
  | 5 => ⟨#[52, 54, 49, 49, 54, 56, 54, 48, 49, 56, 52, 50, 55, 51, 56, 55, 57, 48, 52, 32, 43, 32, 48, 32, 49, 10]⟩
  | 6 => ⟨#[32, 53, 32, 43, 32, 48, 32, 49, 10]⟩
  | _ => ⟨#[53, 32, 43, 32, 48, 32, 49, 32, 10]⟩
theorem badS_L (t : Nat) (m : Nat) : L (badS (dec t) m) = badL (decL t) m := by
  rcases (by omega : m = 0 ∨ m = 1 ∨ m = 2 ∨ m = 3 ∨ m = 4 ∨ m = 5 ∨ m = 6 ∨ 7 ≤ m) with rfl | rfl | rfl | rfl | rfl | rfl | rfl | h
  · rfl
  · show L (dec t ++ _) = _
    rw [app_L, dec_L]; rfl
  · show L (dec t ++ _) = _
    rw [app_L, dec_L]; rfl
  · rfl
  · rfl
  · rfl
  · rfl
  · obtain ⟨k, rfl⟩ : ∃ k, m = k + 7 := ⟨m - 7, by omega⟩
    rfl
theorem badS_sz {t : Nat} (ht : t < 18446744073709551616) (m : Nat) : (badS (dec t) m).size ≤ 40 := by
  have hd := dec_sz ht
  rcases (by omega : m = 0 ∨ m = 1 ∨ m = 2 ∨ m = 3 ∨ m = 4 ∨ m = 5 ∨ m = 6 ∨ 7 ≤ m) with rfl | rfl | rfl | rfl | rfl | rfl | rfl | h
  · show ByteArray.size ⟨#[48, 32, 43, 32, 49, 32, 49, 10]⟩ ≤ 40
    decide
  · show (dec t ++ _).size ≤ 40
    rw [ByteArray.size_append]; show (dec t).size + 7 ≤ 40; omega
  · show (dec t ++ _).size ≤ 40
    rw [ByteArray.size_append]; show (dec t).size + 16 ≤ 40; omega
  · show ByteArray.size ⟨#[52, 54, 49, 49, 54, 56, 54, 48, 49, 56, 52, 50, 55, 51, 56, 55, 57, 48, 51, 32, 45, 32, 48, 32, 49, 10]⟩ ≤ 40
    decide
  · show ByteArray.size ⟨#[120, 10]⟩ ≤ 40
    decide
  · show ByteArray.size ⟨#[52, 54, 49, 49, 54, 56, 54, 48, 49, 56, 52, 50, 55, 51, 56, 55, 57, 48, 52, 32, 43, 32, 48, 32, 49, 10]⟩ ≤ 40
    decide
  · show ByteArray.size ⟨#[32, 53, 32, 43, 32, 48, 32, 49, 10]⟩ ≤ 40
    decide
  · obtain ⟨k, rfl⟩ : ∃ k, m = k + 7 := ⟨m - 7, by omega⟩
    show ByteArray.size ⟨#[53, 32, 43, 32, 48, 32, 49, 32, 10]⟩ ≤ 40
    decide

set_option maxRecDepth 100000 in
set_option maxHeartbeats 8000000 in
theorem llines_any (w : World) (k bad : Int) (a1 : Option Addr) (len1 cap1 : Nat) (z1 : List Int) (hk : 0 ≤ k ∧ k ≤ 255) (hbad : 0 ≤ bad ∧ bad ≤ 255) (hA : IsRow .u8 w a1 len1 cap1 z1) (htab : Lib.TabIs Tryd.prog w "internal/strconv.uint64pow10" .u64 Lib.pow10Tab) :
    Calls Tryd.prog 6 #[.int .u8 k, .slice a1 len1 cap1, .int .u8 bad] w fun e w' => e = .returned (.bool true) ∧ Mod w w' NoB := by
  have hmx := mixed
  have HA := Lib.hid hA
  have HT := Lib.hid htab
  clear hA htab
  go_enter Tryd.func6, Tryd.ntmps6
  go_wp2_with fail
  refine (lknown_any _ HT.out).mono ?_
  rintro e w1 ⟨rfl, hm⟩
  have H1 := Lib.hid hm
  clear hm
  by_cases h60 : len1 ≤ 60
  rotate_left
  · have h60' : (60 : Int) < len1 := by omega
    go_wp2_with fail
    go_ret
    exact ⟨rfl, H1.out⟩
  have h60' : ¬ (60 : Int) < len1 := by omega
  go_wp2_with fail
  refine (hist_top _ k a1 len1 cap1 z1 hk (HA.out.mod H1.out) (by omega)).mono ?_
  rintro r w2 ⟨T, top, a, cap, rfl, hT, htop, hT40, hE, hpl, hcap, hm⟩
  have hnb := vertsOf_bd k.toNat
  obtain ⟨n, hn⟩ : ∃ n, vertsOf k.toNat = n := ⟨_, rfl⟩
  rw [hn] at hT hnb ⊢
  obtain ⟨F, hF⟩ : ∃ F, flag (fun _ => false) T = F := ⟨_, rfl⟩
  have hFT : T.length = F.length := by rw [← hF, flag_len]
  have hevb : ∀ x ∈ F, EvB x := by rw [← hF]; exact flag_evb hT hnb.2
  have hchk : chk n F = (0, 0) := by rw [← hF]; exact chk_flag hT (Int.le_of_lt htop) hnb.2 (by omega)
  have hlast : (-1 ≤ lastT F) ∧ lastT F < maxT := by
    by_cases hF0 : F = []
    · rw [hF0]; decide
    · obtain ⟨y, hy, hyt⟩ := lastT_mem hF0
      rw [← hyt]
      have h1 := allOk_tt (chk_ok_bd (by rw [hchk])).2 y hy
      rw [← hF] at hy
      obtain ⟨x, hx, h2, h3⟩ := flag_mem hy
      have h4 := hT.bd x hx
      exact ⟨by omega, by rw [h3]; exact Int.lt_of_le_of_lt h4.2.1 htop⟩
  rw [hFT] at hT40 hcap ⊢
  rw [hF] at hE
  have H2 := Lib.hid (H1.out.trans hm (fun _ _ c => c))
  have HE := Lib.hid (And.intro hE hevb)
  have HC := Lib.hid (And.intro hchk (And.intro hnb hlast))
  clear hm hT htop hF hFT hevb hpl hE hn hnb H1 hchk h60 h60' hlast
  go_upto_region 6 with (fail)
  obtain ⟨Y, hY⟩ : ∃ Y, Y = w2.alloc (.cells #[.int .u64 n, .slice a F.length cap] 25) := ⟨_, rfl⟩
  obtain ⟨g7, hg7⟩ : ∃ g, g = w2.heap.size := ⟨_, rfl⟩
  have HY2 : Hid (HAt w2 Y g7 n a F.length cap F) := by
    show HAt _ _ _ _ _ _ _ _
    rw [hY, hg7]
    exact HAt.start HE.out.1
  rw [← hY, ← hg7]
  clear hY hg7
  have HY1 := Lib.hid (H2.out.trans HY2.out.mod (fun _ _ c => c))
  have c0 := HY2.out.c0
  have c1 := HY2.out.c1
  have HP := print_any Y n a cap F (by have := HC.out.2; omega) HY2.out.evs (by omega) HE.out.2 (tab_mod HT.out HY1.out)
  rw [HC.out.1] at HP
  have hpr : prS n F = ⟨(logL n F).toArray⟩ := by unfold prS; rw [HC.out.1]; rfl
  rw [hpr] at HP
  obtain ⟨s, hs⟩ : ∃ s : ByteArray, s = ⟨(logL n F).toArray⟩ := ⟨_, rfl⟩
  rw [← hs] at HP
  have hsL : L s = logL n F := by rw [hs]; simp [L]
  have hsz : s.size ≤ 25 + 65 * 40 := by
    rw [hs]
    show (logL n F).toArray.size ≤ _
    have hbd := chk_ok_bd (n := n) (F := F) (by rw [HC.out.1])
    have := logL_len (n := n) (F := F) ⟨by have := HC.out.2; omega, hbd.1⟩ (fun y hy => ⟨allOk_tt hbd.2 y hy, HE.out.2 y hy⟩)
    simp only [List.size_toArray]
    omega
  have HPh := Lib.hid HP
  have HSL := Lib.hid hsL
  clear hs hsL hpr HP
  go_wp2_with fail
  refine HPh.out.mono ?_
  rintro e w3 ⟨rfl, hm⟩
  have HH3 : Hid (HAt w w3 g7 n a F.length cap F) := by
    have := HY2.out.next hm
    exact ⟨H2.out.trans this.mod (fun _ _ c => c), this.c0, this.c1, this.evs⟩
  clear hm HPh HY1 HY2 c0 c1 H2
  have c0 := HH3.out.c0
  have c1 := HH3.out.c1
  go_wp2_with fail
  go_loopw [10, 11] (fun v10 v11 wr => ∃ j : Nat, j ≤ s.size ∧ v10 = .int .i64 (tensK s j) ∧ v11 = .int .i64 j ∧ w3 = wr) (fun _ v11 _ => s.size - (intOf v11).toNat)
  case atStart => exact ⟨0, Nat.zero_le _, rfl, rfl, rfl⟩
  case round =>
    obtain ⟨j, hj, rfl, rfl, rfl⟩ := hrel
    have htle := tensK_le s j
    by_cases hlt : j < s.size
    · have hji : (j : Int) < s.size := by omega
      have hsucc := tensK_succ s j hlt
      by_cases h10 : s[j].toNat = 10
      · rw [if_pos h10] at hsucc
        have hsc := Lib.hid hsucc
        clear hsucc
        have h10' : ((s[j].toNat : Nat) : Int) = 10 := by omega
        go_wp2_with fail
        go_roundw
        case rel => exact ⟨j + 1, by omega, by rw [hsc.out]; go_num, by go_num, trivial⟩
        case measure => simp [intOf]; omega
      · rw [if_neg h10] at hsucc
        have hsc := Lib.hid hsucc
        clear hsucc
        have h10' : ¬ ((s[j].toNat : Nat) : Int) = 10 := by omega
        go_wp2_with fail
        go_roundw
        case rel => exact ⟨j + 1, by omega, by rw [hsc.out], by go_num, trivial⟩
        case measure => simp [intOf]; omega
    · have hje : j = s.size := by omega
      subst hje
      have htn : tensK s s.size = F.length + 1 := by rw [tensK_all, HSL.out, tens_log]
      rw [htn]
      clear htn htle hlt
      have hji : ¬ (s.size : Int) < s.size := by omega
      have HHi : Hid (∀ z, Evs z a F → Calls Tryd.prog 20 #[.agg #[.int .u64 n, .slice a F.length cap]] z fun e w' => e = .returned (.int .i64 (lastT F)) ∧ Mod z w' NoB) := fun z hz => lhist_any z n a cap F hz (by omega)
      have HTh : Hid (∀ z, Evs z a F → Calls Tryd.prog 21 #[.agg #[.int .u64 n, .slice a F.length cap], .agg #[.int .u32 0, .int .u32 1]] z fun e w' => e = .returned (.bool (thereOf F ⟨0, 1⟩)) ∧ Mod z w' NoB) := fun z hz => lthere_any z n a cap F ⟨0, 1⟩ hz (by omega) HE.out.2 HC.out.1
      have HLP : Hid (∀ (t : Int) (b : Nat), 0 ≤ t ∧ t ≤ maxT → b < 8 → (b = 2 → n ≠ 4294967296) → (b = 3 → thereOf F ⟨0, 1⟩ = false) → parseR (logL n F ++ badL (decL t.toNat) b) = ([], ((F.length : Int) + 2, badC b), badE b)) := fun t b h1 h2 h3 h4 => lines_plain HC.out.2.1.1 (by rw [HC.out.1]) HE.out.2 HC.out.2.2.2 t h1 b h2 h3 h4
      obtain ⟨lt, hlt⟩ : ∃ lt, lt = lastT F := ⟨_, rfl⟩
      rw [← hlt] at HHi
      have hltb : -1 ≤ lt ∧ lt < 4611686018427387903 := by rw [hlt]; exact HC.out.2.2
      clear hlt
      obtain ⟨tn, htn⟩ : ∃ tn : Nat, max lt 0 = (tn : Int) := ⟨(max lt 0).toNat, by omega⟩
      have htnb : tn < 4611686018427387903 := by omega
      have hq : (if lt ≤ 0 then (0 : Int) else lt) = (tn : Int) := by omega
      go_wp2_with fail
      refine (HHi.out _ HH3.out.evs).mono ?_
      rintro e w4 ⟨rfl, hm⟩
      have HH4 := Lib.hid (HH3.out.next hm)
      clear hm c0 c1 HH3
      have c0 := HH4.out.c0
      have c1 := HH4.out.c1
      go_wp2_with fail
      refine (decimal_mod tn _ (by omega)).mono ?_
      rintro e w5 ⟨rfl, hm⟩
      have HH5 := Lib.hid (HH4.out.next hm)
      clear hm c0 c1 HH4
      have hdz := dec_sz (n := tn) (by omega)
      have HBS : Hid (∀ m, L (badS (dec tn) m) = badL (decL tn) m ∧ (badS (dec tn) m).size ≤ 40) := fun m => ⟨badS_L tn m, badS_sz (by omega) m⟩
      obtain ⟨d, hd⟩ : ∃ d, d = dec tn := ⟨_, rfl⟩
      rw [← hd] at HBS hdz ⊢
      clear hd
      have e1 := sadd (P := Tryd.prog) d ⟨#[32, 43, 32, 49, 32, 48, 10]⟩ (by show d.size + 7 ≤ _; omega)
      have e2 := sadd (P := Tryd.prog) d ⟨#[32, 43, 32, 48, 32, 52, 50, 57, 52, 57, 54, 55, 50, 57, 53, 10]⟩ (by show d.size + 16 ≤ _; omega)
      have HHT : Hid ((tn : Int) ≤ maxT) := by show (tn : Int) ≤ maxT; unfold maxT; omega
      have hm8 : bad % 8 = 0 ∨ bad % 8 = 1 ∨ bad % 8 = 2 ∨ bad % 8 = 3 ∨ bad % 8 = 4 ∨ bad % 8 = 5 ∨ bad % 8 = 6 ∨ bad % 8 = 7 := by omega
      have c0 := HH5.out.c0
      have c1 := HH5.out.c1
      clear htn hq htnb
      rcases hm8 with h8 | h8 | h8 | h8 | h8 | h8 | h8 | h8
      · have X0 := HBS.out 0
        obtain ⟨X, hX⟩ : ∃ X, X = badS d 0 := ⟨_, rfl⟩
        rw [← hX] at X0
        have hX' : ⟨#[48, 32, 43, 32, 49, 32, 49, 10]⟩ = X := by rw [hX]; rfl
        have hadd := sadd (P := Tryd.prog) s X (by omega)
        have hSL : L (s ++ X) = logL n F ++ badL (decL tn) 0 := by rw [app_L, X0.1, HSL.out]
        have hSz : (s ++ X).size ≤ 40000 := by rw [ByteArray.size_append]; omega
        obtain ⟨SX, hSX⟩ : ∃ SX, SX = s ++ X := ⟨_, rfl⟩
        rw [← hSX] at hadd hSL hSz
        have HSX := Lib.hid (And.intro hSL hSz)
        clear hSX hSL hSz X0 hX
        go_upto_region 17 with (fail)
        try rw [hX']
        clear hX' e1 e2
        obtain ⟨V, hV⟩ : ∃ V, V = (((w5.alloc (.cells #[.string X, .string (d ++ ⟨#[32, 43, 32, 49, 32, 48, 10]⟩), .string (d ++ ⟨#[32, 43, 32, 48, 32, 52, 50, 57, 52, 57, 54, 55, 50, 57, 53, 10]⟩), .string ⟨#[52, 54, 49, 49, 54, 56, 54, 48, 49, 56, 52, 50, 55, 51, 56, 55, 57, 48, 51, 32, 45, 32, 48, 32, 49, 10]⟩, .string ⟨#[120, 10]⟩, .string ⟨#[52, 54, 49, 49, 54, 56, 54, 48, 49, 56, 52, 50, 55, 51, 56, 55, 57, 48, 52, 32, 43, 32, 48, 32, 49, 10]⟩, .string ⟨#[32, 53, 32, 43, 32, 48, 32, 49, 10]⟩, .string ⟨#[53, 32, 43, 32, 48, 32, 49, 32, 10]⟩] 9)).alloc (.cells #[.int .i64 24, .int .i64 24, .int .i64 24, .int .i64 25, .int .i64 21, .int .i64 22, .int .i64 21, .int .i64 21] 3)).alloc (.cells #[.int .i64 1, .int .i64 1, .int .i64 1, .int .i64 1, .int .i64 1, .int .i64 1, .int .i64 1, .int .i64 8] 3)) := ⟨_, rfl⟩
        have HV : Hid (HAt w V g7 n a F.length cap F) := by
          show HAt _ _ _ _ _ _ _ _
          rw [hV]
          exact HH5.out.next ((((Mod.refl _ _).alloc _).alloc _).alloc _)
        rw [← hV]
        clear hV c0 c1
        have c0 := HV.out.c0
        have c1 := HV.out.c1
        go_wp2_with fail
        refine (HHi.out _ HV.out.evs).mono ?_
        rintro e w6 ⟨rfl, hm⟩
        have HH6 := Lib.hid (HV.out.next hm)
        clear hm c0 c1
        have c0 := HH6.out.c0
        have c1 := HH6.out.c1
        by_cases hlt0 : 0 < lt
        all_goals
          have HPa := fun z => parse_any z SX HSX.out.2
          obtain ⟨N, hN⟩ : ∃ N, N = parseN (L SX) := ⟨_, rfl⟩
          rw [← hN, HSX.out.1, show parseR (logL n F ++ badL (decL tn) 0) = ([], ((F.length : Int) + 2, 1), 24) from HLP.out (tn : Int) 0 ⟨by omega, HHT.out⟩ (by decide) (fun h => absurd h (by decide)) (fun h => absurd h (by decide))] at HPa
          have HPb : Hid (∀ z, _) := HPa
          clear hN HPa
          go_wp2_with fail
          refine (HPb.out _).mono ?_
          rintro e w7 ⟨a7, c7, rfl, _, hm⟩
          have HH7 := Lib.hid (HH6.out.next hm)
          clear hm c0 c1 HPb
          go_upto_region 24 with (fail)
          have HB := Lib.hid (HPl.start (w := w7) (n := N) (v := .slice a7 0 c7) (x := (F.length : Int) + 2) (y := 1))
          obtain ⟨g1, hg1⟩ : ∃ g, g = w7.heap.size := ⟨_, rfl⟩
          obtain ⟨g2, hg2⟩ : ∃ g, g = w7.heap.size + 1 := ⟨_, rfl⟩
          obtain ⟨W8, hW8⟩ : ∃ W, W = ((w7.alloc (.cells #[.int .u64 N, .slice a7 0 c7] 25)).alloc (.cells #[.int .i64 ((F.length : Int) + 2), .int .i64 1] 38)) := ⟨_, rfl⟩
          rw [← hW8, ← hg2, ← hg1] at HB ⊢
          clear hW8 hg2 hg1
          have HH8 := Lib.hid (HH7.out.next HB.out.mod)
          have c0 := HH8.out.c0
          have c1 := HH8.out.c1
          have p0 := HB.out.p0
          have p1 := HB.out.p1
          go_wp2_with fail
          go_ret
          exact ⟨rfl, HH8.out.mod⟩
      · have X0 := HBS.out 1
        obtain ⟨X, hX⟩ : ∃ X, X = badS d 1 := ⟨_, rfl⟩
        rw [← hX] at X0
        have hX' : d ++ ⟨#[32, 43, 32, 49, 32, 48, 10]⟩ = X := by rw [hX]; rfl
        have hadd := sadd (P := Tryd.prog) s X (by omega)
        have hSL : L (s ++ X) = logL n F ++ badL (decL tn) 1 := by rw [app_L, X0.1, HSL.out]
        have hSz : (s ++ X).size ≤ 40000 := by rw [ByteArray.size_append]; omega
        obtain ⟨SX, hSX⟩ : ∃ SX, SX = s ++ X := ⟨_, rfl⟩
        rw [← hSX] at hadd hSL hSz
        have HSX := Lib.hid (And.intro hSL hSz)
        clear hSX hSL hSz X0 hX
        go_upto_region 17 with (fail)
        try rw [hX']
        clear hX' e1 e2
        obtain ⟨V, hV⟩ : ∃ V, V = (((w5.alloc (.cells #[.string ⟨#[48, 32, 43, 32, 49, 32, 49, 10]⟩, .string X, .string (d ++ ⟨#[32, 43, 32, 48, 32, 52, 50, 57, 52, 57, 54, 55, 50, 57, 53, 10]⟩), .string ⟨#[52, 54, 49, 49, 54, 56, 54, 48, 49, 56, 52, 50, 55, 51, 56, 55, 57, 48, 51, 32, 45, 32, 48, 32, 49, 10]⟩, .string ⟨#[120, 10]⟩, .string ⟨#[52, 54, 49, 49, 54, 56, 54, 48, 49, 56, 52, 50, 55, 51, 56, 55, 57, 48, 52, 32, 43, 32, 48, 32, 49, 10]⟩, .string ⟨#[32, 53, 32, 43, 32, 48, 32, 49, 10]⟩, .string ⟨#[53, 32, 43, 32, 48, 32, 49, 32, 10]⟩] 9)).alloc (.cells #[.int .i64 24, .int .i64 24, .int .i64 24, .int .i64 25, .int .i64 21, .int .i64 22, .int .i64 21, .int .i64 21] 3)).alloc (.cells #[.int .i64 1, .int .i64 1, .int .i64 1, .int .i64 1, .int .i64 1, .int .i64 1, .int .i64 1, .int .i64 8] 3)) := ⟨_, rfl⟩
        have HV : Hid (HAt w V g7 n a F.length cap F) := by
          show HAt _ _ _ _ _ _ _ _
          rw [hV]
          exact HH5.out.next ((((Mod.refl _ _).alloc _).alloc _).alloc _)
        rw [← hV]
        clear hV c0 c1
        have c0 := HV.out.c0
        have c1 := HV.out.c1
        have HPa := fun z => parse_any z SX HSX.out.2
        obtain ⟨N, hN⟩ : ∃ N, N = parseN (L SX) := ⟨_, rfl⟩
        rw [← hN, HSX.out.1, show parseR (logL n F ++ badL (decL tn) 1) = ([], ((F.length : Int) + 2, 1), 24) from HLP.out (tn : Int) 1 ⟨by omega, HHT.out⟩ (by decide) (fun h => absurd h (by decide)) (fun h => absurd h (by decide))] at HPa
        have HPb : Hid (∀ z, _) := HPa
        clear hN HPa
        go_wp2_with fail
        refine (HPb.out _).mono ?_
        rintro e w7 ⟨a7, c7, rfl, _, hm⟩
        have HH7 := Lib.hid (HV.out.next hm)
        clear hm c0 c1 HPb
        go_upto_region 24 with (fail)
        have HB := Lib.hid (HPl.start (w := w7) (n := N) (v := .slice a7 0 c7) (x := (F.length : Int) + 2) (y := 1))
        obtain ⟨g1, hg1⟩ : ∃ g, g = w7.heap.size := ⟨_, rfl⟩
        obtain ⟨g2, hg2⟩ : ∃ g, g = w7.heap.size + 1 := ⟨_, rfl⟩
        obtain ⟨W8, hW8⟩ : ∃ W, W = ((w7.alloc (.cells #[.int .u64 N, .slice a7 0 c7] 25)).alloc (.cells #[.int .i64 ((F.length : Int) + 2), .int .i64 1] 38)) := ⟨_, rfl⟩
        rw [← hW8, ← hg2, ← hg1] at HB ⊢
        clear hW8 hg2 hg1
        have HH8 := Lib.hid (HH7.out.next HB.out.mod)
        have c0 := HH8.out.c0
        have c1 := HH8.out.c1
        have p0 := HB.out.p0
        have p1 := HB.out.p1
        go_wp2_with fail
        go_ret
        exact ⟨rfl, HH8.out.mod⟩
      · have X0 := HBS.out 2
        obtain ⟨X, hX⟩ : ∃ X, X = badS d 2 := ⟨_, rfl⟩
        rw [← hX] at X0
        have hX' : d ++ ⟨#[32, 43, 32, 48, 32, 52, 50, 57, 52, 57, 54, 55, 50, 57, 53, 10]⟩ = X := by rw [hX]; rfl
        have hadd := sadd (P := Tryd.prog) s X (by omega)
        have hSL : L (s ++ X) = logL n F ++ badL (decL tn) 2 := by rw [app_L, X0.1, HSL.out]
        have hSz : (s ++ X).size ≤ 40000 := by rw [ByteArray.size_append]; omega
        obtain ⟨SX, hSX⟩ : ∃ SX, SX = s ++ X := ⟨_, rfl⟩
        rw [← hSX] at hadd hSL hSz
        have HSX := Lib.hid (And.intro hSL hSz)
        clear hSX hSL hSz X0 hX
        go_upto_region 17 with (fail)
        try rw [hX']
        clear hX' e1 e2
        obtain ⟨V, hV⟩ : ∃ V, V = (((w5.alloc (.cells #[.string ⟨#[48, 32, 43, 32, 49, 32, 49, 10]⟩, .string (d ++ ⟨#[32, 43, 32, 49, 32, 48, 10]⟩), .string X, .string ⟨#[52, 54, 49, 49, 54, 56, 54, 48, 49, 56, 52, 50, 55, 51, 56, 55, 57, 48, 51, 32, 45, 32, 48, 32, 49, 10]⟩, .string ⟨#[120, 10]⟩, .string ⟨#[52, 54, 49, 49, 54, 56, 54, 48, 49, 56, 52, 50, 55, 51, 56, 55, 57, 48, 52, 32, 43, 32, 48, 32, 49, 10]⟩, .string ⟨#[32, 53, 32, 43, 32, 48, 32, 49, 10]⟩, .string ⟨#[53, 32, 43, 32, 48, 32, 49, 32, 10]⟩] 9)).alloc (.cells #[.int .i64 24, .int .i64 24, .int .i64 24, .int .i64 25, .int .i64 21, .int .i64 22, .int .i64 21, .int .i64 21] 3)).alloc (.cells #[.int .i64 1, .int .i64 1, .int .i64 1, .int .i64 1, .int .i64 1, .int .i64 1, .int .i64 1, .int .i64 8] 3)) := ⟨_, rfl⟩
        have HV : Hid (HAt w V g7 n a F.length cap F) := by
          show HAt _ _ _ _ _ _ _ _
          rw [hV]
          exact HH5.out.next ((((Mod.refl _ _).alloc _).alloc _).alloc _)
        rw [← hV]
        clear hV c0 c1
        have c0 := HV.out.c0
        have c1 := HV.out.c1
        by_cases hn2 : n = 4294967296
        · go_wp2_with fail
          go_ret
          exact ⟨rfl, HV.out.mod⟩
        have HN2 : Hid (n ≠ 4294967296) := hn2
        have hn2b : (n == 4294967296) = false := by simpa using hn2
        have HPa := fun z => parse_any z SX HSX.out.2
        obtain ⟨N, hN⟩ : ∃ N, N = parseN (L SX) := ⟨_, rfl⟩
        rw [← hN, HSX.out.1, show parseR (logL n F ++ badL (decL tn) 2) = ([], ((F.length : Int) + 2, 1), 24) from HLP.out (tn : Int) 2 ⟨by omega, HHT.out⟩ (by decide) (fun _ => HN2.out) (fun h => absurd h (by decide))] at HPa
        have HPb : Hid (∀ z, _) := HPa
        clear hN HPa
        go_wp2_with fail
        refine (HPb.out _).mono ?_
        rintro e w7 ⟨a7, c7, rfl, _, hm⟩
        have HH7 := Lib.hid (HV.out.next hm)
        clear hm c0 c1 HPb
        go_upto_region 24 with (fail)
        have HB := Lib.hid (HPl.start (w := w7) (n := N) (v := .slice a7 0 c7) (x := (F.length : Int) + 2) (y := 1))
        obtain ⟨g1, hg1⟩ : ∃ g, g = w7.heap.size := ⟨_, rfl⟩
        obtain ⟨g2, hg2⟩ : ∃ g, g = w7.heap.size + 1 := ⟨_, rfl⟩
        obtain ⟨W8, hW8⟩ : ∃ W, W = ((w7.alloc (.cells #[.int .u64 N, .slice a7 0 c7] 25)).alloc (.cells #[.int .i64 ((F.length : Int) + 2), .int .i64 1] 38)) := ⟨_, rfl⟩
        rw [← hW8, ← hg2, ← hg1] at HB ⊢
        clear hW8 hg2 hg1
        have HH8 := Lib.hid (HH7.out.next HB.out.mod)
        have c0 := HH8.out.c0
        have c1 := HH8.out.c1
        have p0 := HB.out.p0
        have p1 := HB.out.p1
        go_wp2_with fail
        go_ret
        exact ⟨rfl, HH8.out.mod⟩
      · have X0 := HBS.out 3
        obtain ⟨X, hX⟩ : ∃ X, X = badS d 3 := ⟨_, rfl⟩
        rw [← hX] at X0
        have hX' : ⟨#[52, 54, 49, 49, 54, 56, 54, 48, 49, 56, 52, 50, 55, 51, 56, 55, 57, 48, 51, 32, 45, 32, 48, 32, 49, 10]⟩ = X := by rw [hX]; rfl
        have hadd := sadd (P := Tryd.prog) s X (by omega)
        have hSL : L (s ++ X) = logL n F ++ badL (decL tn) 3 := by rw [app_L, X0.1, HSL.out]
        have hSz : (s ++ X).size ≤ 40000 := by rw [ByteArray.size_append]; omega
        obtain ⟨SX, hSX⟩ : ∃ SX, SX = s ++ X := ⟨_, rfl⟩
        rw [← hSX] at hadd hSL hSz
        have HSX := Lib.hid (And.intro hSL hSz)
        clear hSX hSL hSz X0 hX
        go_upto_region 17 with (fail)
        try rw [hX']
        clear hX' e1 e2
        obtain ⟨V, hV⟩ : ∃ V, V = (((w5.alloc (.cells #[.string ⟨#[48, 32, 43, 32, 49, 32, 49, 10]⟩, .string (d ++ ⟨#[32, 43, 32, 49, 32, 48, 10]⟩), .string (d ++ ⟨#[32, 43, 32, 48, 32, 52, 50, 57, 52, 57, 54, 55, 50, 57, 53, 10]⟩), .string X, .string ⟨#[120, 10]⟩, .string ⟨#[52, 54, 49, 49, 54, 56, 54, 48, 49, 56, 52, 50, 55, 51, 56, 55, 57, 48, 52, 32, 43, 32, 48, 32, 49, 10]⟩, .string ⟨#[32, 53, 32, 43, 32, 48, 32, 49, 10]⟩, .string ⟨#[53, 32, 43, 32, 48, 32, 49, 32, 10]⟩] 9)).alloc (.cells #[.int .i64 24, .int .i64 24, .int .i64 24, .int .i64 25, .int .i64 21, .int .i64 22, .int .i64 21, .int .i64 21] 3)).alloc (.cells #[.int .i64 1, .int .i64 1, .int .i64 1, .int .i64 1, .int .i64 1, .int .i64 1, .int .i64 1, .int .i64 8] 3)) := ⟨_, rfl⟩
        have HV : Hid (HAt w V g7 n a F.length cap F) := by
          show HAt _ _ _ _ _ _ _ _
          rw [hV]
          exact HH5.out.next ((((Mod.refl _ _).alloc _).alloc _).alloc _)
        rw [← hV]
        clear hV c0 c1
        have c0 := HV.out.c0
        have c1 := HV.out.c1
        go_wp2_with fail
        refine (HTh.out _ HV.out.evs).mono ?_
        rintro e w6 ⟨rfl, hm⟩
        have HH6 := Lib.hid (HV.out.next hm)
        clear hm c0 c1
        have c0 := HH6.out.c0
        have c1 := HH6.out.c1
        cases hth : thereOf F ⟨0, 1⟩ with
        | true =>
          clear hth
          go_wp2_with fail
          go_ret
          exact ⟨rfl, HH6.out.mod⟩
        | false =>
        have HTF : Hid (thereOf F ⟨0, 1⟩ = false) := hth
        clear hth
        have HPa := fun z => parse_any z SX HSX.out.2
        obtain ⟨N, hN⟩ : ∃ N, N = parseN (L SX) := ⟨_, rfl⟩
        rw [← hN, HSX.out.1, show parseR (logL n F ++ badL (decL tn) 3) = ([], ((F.length : Int) + 2, 1), 25) from HLP.out (tn : Int) 3 ⟨by omega, HHT.out⟩ (by decide) (fun h => absurd h (by decide)) (fun _ => HTF.out)] at HPa
        have HPb : Hid (∀ z, _) := HPa
        clear hN HPa
        go_wp2_with fail
        refine (HPb.out _).mono ?_
        rintro e w7 ⟨a7, c7, rfl, _, hm⟩
        have HH7 := Lib.hid (HH6.out.next hm)
        clear hm c0 c1 HPb
        go_upto_region 24 with (fail)
        have HB := Lib.hid (HPl.start (w := w7) (n := N) (v := .slice a7 0 c7) (x := (F.length : Int) + 2) (y := 1))
        obtain ⟨g1, hg1⟩ : ∃ g, g = w7.heap.size := ⟨_, rfl⟩
        obtain ⟨g2, hg2⟩ : ∃ g, g = w7.heap.size + 1 := ⟨_, rfl⟩
        obtain ⟨W8, hW8⟩ : ∃ W, W = ((w7.alloc (.cells #[.int .u64 N, .slice a7 0 c7] 25)).alloc (.cells #[.int .i64 ((F.length : Int) + 2), .int .i64 1] 38)) := ⟨_, rfl⟩
        rw [← hW8, ← hg2, ← hg1] at HB ⊢
        clear hW8 hg2 hg1
        have HH8 := Lib.hid (HH7.out.next HB.out.mod)
        have c0 := HH8.out.c0
        have c1 := HH8.out.c1
        have p0 := HB.out.p0
        have p1 := HB.out.p1
        go_wp2_with fail
        go_ret
        exact ⟨rfl, HH8.out.mod⟩
      · have X0 := HBS.out 4
        obtain ⟨X, hX⟩ : ∃ X, X = badS d 4 := ⟨_, rfl⟩
        rw [← hX] at X0
        have hX' : ⟨#[120, 10]⟩ = X := by rw [hX]; rfl
        have hadd := sadd (P := Tryd.prog) s X (by omega)
        have hSL : L (s ++ X) = logL n F ++ badL (decL tn) 4 := by rw [app_L, X0.1, HSL.out]
        have hSz : (s ++ X).size ≤ 40000 := by rw [ByteArray.size_append]; omega
        obtain ⟨SX, hSX⟩ : ∃ SX, SX = s ++ X := ⟨_, rfl⟩
        rw [← hSX] at hadd hSL hSz
        have HSX := Lib.hid (And.intro hSL hSz)
        clear hSX hSL hSz X0 hX
        go_upto_region 17 with (fail)
        try rw [hX']
        clear hX' e1 e2
        obtain ⟨V, hV⟩ : ∃ V, V = (((w5.alloc (.cells #[.string ⟨#[48, 32, 43, 32, 49, 32, 49, 10]⟩, .string (d ++ ⟨#[32, 43, 32, 49, 32, 48, 10]⟩), .string (d ++ ⟨#[32, 43, 32, 48, 32, 52, 50, 57, 52, 57, 54, 55, 50, 57, 53, 10]⟩), .string ⟨#[52, 54, 49, 49, 54, 56, 54, 48, 49, 56, 52, 50, 55, 51, 56, 55, 57, 48, 51, 32, 45, 32, 48, 32, 49, 10]⟩, .string X, .string ⟨#[52, 54, 49, 49, 54, 56, 54, 48, 49, 56, 52, 50, 55, 51, 56, 55, 57, 48, 52, 32, 43, 32, 48, 32, 49, 10]⟩, .string ⟨#[32, 53, 32, 43, 32, 48, 32, 49, 10]⟩, .string ⟨#[53, 32, 43, 32, 48, 32, 49, 32, 10]⟩] 9)).alloc (.cells #[.int .i64 24, .int .i64 24, .int .i64 24, .int .i64 25, .int .i64 21, .int .i64 22, .int .i64 21, .int .i64 21] 3)).alloc (.cells #[.int .i64 1, .int .i64 1, .int .i64 1, .int .i64 1, .int .i64 1, .int .i64 1, .int .i64 1, .int .i64 8] 3)) := ⟨_, rfl⟩
        have HV : Hid (HAt w V g7 n a F.length cap F) := by
          show HAt _ _ _ _ _ _ _ _
          rw [hV]
          exact HH5.out.next ((((Mod.refl _ _).alloc _).alloc _).alloc _)
        rw [← hV]
        clear hV c0 c1
        have c0 := HV.out.c0
        have c1 := HV.out.c1
        have HPa := fun z => parse_any z SX HSX.out.2
        obtain ⟨N, hN⟩ : ∃ N, N = parseN (L SX) := ⟨_, rfl⟩
        rw [← hN, HSX.out.1, show parseR (logL n F ++ badL (decL tn) 4) = ([], ((F.length : Int) + 2, 1), 21) from HLP.out (tn : Int) 4 ⟨by omega, HHT.out⟩ (by decide) (fun h => absurd h (by decide)) (fun h => absurd h (by decide))] at HPa
        have HPb : Hid (∀ z, _) := HPa
        clear hN HPa
        go_wp2_with fail
        refine (HPb.out _).mono ?_
        rintro e w7 ⟨a7, c7, rfl, _, hm⟩
        have HH7 := Lib.hid (HV.out.next hm)
        clear hm c0 c1 HPb
        go_upto_region 24 with (fail)
        have HB := Lib.hid (HPl.start (w := w7) (n := N) (v := .slice a7 0 c7) (x := (F.length : Int) + 2) (y := 1))
        obtain ⟨g1, hg1⟩ : ∃ g, g = w7.heap.size := ⟨_, rfl⟩
        obtain ⟨g2, hg2⟩ : ∃ g, g = w7.heap.size + 1 := ⟨_, rfl⟩
        obtain ⟨W8, hW8⟩ : ∃ W, W = ((w7.alloc (.cells #[.int .u64 N, .slice a7 0 c7] 25)).alloc (.cells #[.int .i64 ((F.length : Int) + 2), .int .i64 1] 38)) := ⟨_, rfl⟩
        rw [← hW8, ← hg2, ← hg1] at HB ⊢
        clear hW8 hg2 hg1
        have HH8 := Lib.hid (HH7.out.next HB.out.mod)
        have c0 := HH8.out.c0
        have c1 := HH8.out.c1
        have p0 := HB.out.p0
        have p1 := HB.out.p1
        go_wp2_with fail
        go_ret
        exact ⟨rfl, HH8.out.mod⟩
      · have X0 := HBS.out 5
        obtain ⟨X, hX⟩ : ∃ X, X = badS d 5 := ⟨_, rfl⟩
        rw [← hX] at X0
        have hX' : ⟨#[52, 54, 49, 49, 54, 56, 54, 48, 49, 56, 52, 50, 55, 51, 56, 55, 57, 48, 52, 32, 43, 32, 48, 32, 49, 10]⟩ = X := by rw [hX]; rfl
        have hadd := sadd (P := Tryd.prog) s X (by omega)
        have hSL : L (s ++ X) = logL n F ++ badL (decL tn) 5 := by rw [app_L, X0.1, HSL.out]
        have hSz : (s ++ X).size ≤ 40000 := by rw [ByteArray.size_append]; omega
        obtain ⟨SX, hSX⟩ : ∃ SX, SX = s ++ X := ⟨_, rfl⟩
        rw [← hSX] at hadd hSL hSz
        have HSX := Lib.hid (And.intro hSL hSz)
        clear hSX hSL hSz X0 hX
        go_upto_region 17 with (fail)
        try rw [hX']
        clear hX' e1 e2
        obtain ⟨V, hV⟩ : ∃ V, V = (((w5.alloc (.cells #[.string ⟨#[48, 32, 43, 32, 49, 32, 49, 10]⟩, .string (d ++ ⟨#[32, 43, 32, 49, 32, 48, 10]⟩), .string (d ++ ⟨#[32, 43, 32, 48, 32, 52, 50, 57, 52, 57, 54, 55, 50, 57, 53, 10]⟩), .string ⟨#[52, 54, 49, 49, 54, 56, 54, 48, 49, 56, 52, 50, 55, 51, 56, 55, 57, 48, 51, 32, 45, 32, 48, 32, 49, 10]⟩, .string ⟨#[120, 10]⟩, .string X, .string ⟨#[32, 53, 32, 43, 32, 48, 32, 49, 10]⟩, .string ⟨#[53, 32, 43, 32, 48, 32, 49, 32, 10]⟩] 9)).alloc (.cells #[.int .i64 24, .int .i64 24, .int .i64 24, .int .i64 25, .int .i64 21, .int .i64 22, .int .i64 21, .int .i64 21] 3)).alloc (.cells #[.int .i64 1, .int .i64 1, .int .i64 1, .int .i64 1, .int .i64 1, .int .i64 1, .int .i64 1, .int .i64 8] 3)) := ⟨_, rfl⟩
        have HV : Hid (HAt w V g7 n a F.length cap F) := by
          show HAt _ _ _ _ _ _ _ _
          rw [hV]
          exact HH5.out.next ((((Mod.refl _ _).alloc _).alloc _).alloc _)
        rw [← hV]
        clear hV c0 c1
        have c0 := HV.out.c0
        have c1 := HV.out.c1
        have HPa := fun z => parse_any z SX HSX.out.2
        obtain ⟨N, hN⟩ : ∃ N, N = parseN (L SX) := ⟨_, rfl⟩
        rw [← hN, HSX.out.1, show parseR (logL n F ++ badL (decL tn) 5) = ([], ((F.length : Int) + 2, 1), 22) from HLP.out (tn : Int) 5 ⟨by omega, HHT.out⟩ (by decide) (fun h => absurd h (by decide)) (fun h => absurd h (by decide))] at HPa
        have HPb : Hid (∀ z, _) := HPa
        clear hN HPa
        go_wp2_with fail
        refine (HPb.out _).mono ?_
        rintro e w7 ⟨a7, c7, rfl, _, hm⟩
        have HH7 := Lib.hid (HV.out.next hm)
        clear hm c0 c1 HPb
        go_upto_region 24 with (fail)
        have HB := Lib.hid (HPl.start (w := w7) (n := N) (v := .slice a7 0 c7) (x := (F.length : Int) + 2) (y := 1))
        obtain ⟨g1, hg1⟩ : ∃ g, g = w7.heap.size := ⟨_, rfl⟩
        obtain ⟨g2, hg2⟩ : ∃ g, g = w7.heap.size + 1 := ⟨_, rfl⟩
        obtain ⟨W8, hW8⟩ : ∃ W, W = ((w7.alloc (.cells #[.int .u64 N, .slice a7 0 c7] 25)).alloc (.cells #[.int .i64 ((F.length : Int) + 2), .int .i64 1] 38)) := ⟨_, rfl⟩
        rw [← hW8, ← hg2, ← hg1] at HB ⊢
        clear hW8 hg2 hg1
        have HH8 := Lib.hid (HH7.out.next HB.out.mod)
        have c0 := HH8.out.c0
        have c1 := HH8.out.c1
        have p0 := HB.out.p0
        have p1 := HB.out.p1
        go_wp2_with fail
        go_ret
        exact ⟨rfl, HH8.out.mod⟩
      · have X0 := HBS.out 6
        obtain ⟨X, hX⟩ : ∃ X, X = badS d 6 := ⟨_, rfl⟩
        rw [← hX] at X0
        have hX' : ⟨#[32, 53, 32, 43, 32, 48, 32, 49, 10]⟩ = X := by rw [hX]; rfl
        have hadd := sadd (P := Tryd.prog) s X (by omega)
        have hSL : L (s ++ X) = logL n F ++ badL (decL tn) 6 := by rw [app_L, X0.1, HSL.out]
        have hSz : (s ++ X).size ≤ 40000 := by rw [ByteArray.size_append]; omega
        obtain ⟨SX, hSX⟩ : ∃ SX, SX = s ++ X := ⟨_, rfl⟩
        rw [← hSX] at hadd hSL hSz
        have HSX := Lib.hid (And.intro hSL hSz)
        clear hSX hSL hSz X0 hX
        go_upto_region 17 with (fail)
        try rw [hX']
        clear hX' e1 e2
        obtain ⟨V, hV⟩ : ∃ V, V = (((w5.alloc (.cells #[.string ⟨#[48, 32, 43, 32, 49, 32, 49, 10]⟩, .string (d ++ ⟨#[32, 43, 32, 49, 32, 48, 10]⟩), .string (d ++ ⟨#[32, 43, 32, 48, 32, 52, 50, 57, 52, 57, 54, 55, 50, 57, 53, 10]⟩), .string ⟨#[52, 54, 49, 49, 54, 56, 54, 48, 49, 56, 52, 50, 55, 51, 56, 55, 57, 48, 51, 32, 45, 32, 48, 32, 49, 10]⟩, .string ⟨#[120, 10]⟩, .string ⟨#[52, 54, 49, 49, 54, 56, 54, 48, 49, 56, 52, 50, 55, 51, 56, 55, 57, 48, 52, 32, 43, 32, 48, 32, 49, 10]⟩, .string X, .string ⟨#[53, 32, 43, 32, 48, 32, 49, 32, 10]⟩] 9)).alloc (.cells #[.int .i64 24, .int .i64 24, .int .i64 24, .int .i64 25, .int .i64 21, .int .i64 22, .int .i64 21, .int .i64 21] 3)).alloc (.cells #[.int .i64 1, .int .i64 1, .int .i64 1, .int .i64 1, .int .i64 1, .int .i64 1, .int .i64 1, .int .i64 8] 3)) := ⟨_, rfl⟩
        have HV : Hid (HAt w V g7 n a F.length cap F) := by
          show HAt _ _ _ _ _ _ _ _
          rw [hV]
          exact HH5.out.next ((((Mod.refl _ _).alloc _).alloc _).alloc _)
        rw [← hV]
        clear hV c0 c1
        have c0 := HV.out.c0
        have c1 := HV.out.c1
        have HPa := fun z => parse_any z SX HSX.out.2
        obtain ⟨N, hN⟩ : ∃ N, N = parseN (L SX) := ⟨_, rfl⟩
        rw [← hN, HSX.out.1, show parseR (logL n F ++ badL (decL tn) 6) = ([], ((F.length : Int) + 2, 1), 21) from HLP.out (tn : Int) 6 ⟨by omega, HHT.out⟩ (by decide) (fun h => absurd h (by decide)) (fun h => absurd h (by decide))] at HPa
        have HPb : Hid (∀ z, _) := HPa
        clear hN HPa
        go_wp2_with fail
        refine (HPb.out _).mono ?_
        rintro e w7 ⟨a7, c7, rfl, _, hm⟩
        have HH7 := Lib.hid (HV.out.next hm)
        clear hm c0 c1 HPb
        go_upto_region 24 with (fail)
        have HB := Lib.hid (HPl.start (w := w7) (n := N) (v := .slice a7 0 c7) (x := (F.length : Int) + 2) (y := 1))
        obtain ⟨g1, hg1⟩ : ∃ g, g = w7.heap.size := ⟨_, rfl⟩
        obtain ⟨g2, hg2⟩ : ∃ g, g = w7.heap.size + 1 := ⟨_, rfl⟩
        obtain ⟨W8, hW8⟩ : ∃ W, W = ((w7.alloc (.cells #[.int .u64 N, .slice a7 0 c7] 25)).alloc (.cells #[.int .i64 ((F.length : Int) + 2), .int .i64 1] 38)) := ⟨_, rfl⟩
        rw [← hW8, ← hg2, ← hg1] at HB ⊢
        clear hW8 hg2 hg1
        have HH8 := Lib.hid (HH7.out.next HB.out.mod)
        have c0 := HH8.out.c0
        have c1 := HH8.out.c1
        have p0 := HB.out.p0
        have p1 := HB.out.p1
        go_wp2_with fail
        go_ret
        exact ⟨rfl, HH8.out.mod⟩
      · have X0 := HBS.out 7
        obtain ⟨X, hX⟩ : ∃ X, X = badS d 7 := ⟨_, rfl⟩
        rw [← hX] at X0
        have hX' : ⟨#[53, 32, 43, 32, 48, 32, 49, 32, 10]⟩ = X := by rw [hX]; rfl
        have hadd := sadd (P := Tryd.prog) s X (by omega)
        have hSL : L (s ++ X) = logL n F ++ badL (decL tn) 7 := by rw [app_L, X0.1, HSL.out]
        have hSz : (s ++ X).size ≤ 40000 := by rw [ByteArray.size_append]; omega
        obtain ⟨SX, hSX⟩ : ∃ SX, SX = s ++ X := ⟨_, rfl⟩
        rw [← hSX] at hadd hSL hSz
        have HSX := Lib.hid (And.intro hSL hSz)
        clear hSX hSL hSz X0 hX
        go_upto_region 17 with (fail)
        try rw [hX']
        clear hX' e1 e2
        obtain ⟨V, hV⟩ : ∃ V, V = (((w5.alloc (.cells #[.string ⟨#[48, 32, 43, 32, 49, 32, 49, 10]⟩, .string (d ++ ⟨#[32, 43, 32, 49, 32, 48, 10]⟩), .string (d ++ ⟨#[32, 43, 32, 48, 32, 52, 50, 57, 52, 57, 54, 55, 50, 57, 53, 10]⟩), .string ⟨#[52, 54, 49, 49, 54, 56, 54, 48, 49, 56, 52, 50, 55, 51, 56, 55, 57, 48, 51, 32, 45, 32, 48, 32, 49, 10]⟩, .string ⟨#[120, 10]⟩, .string ⟨#[52, 54, 49, 49, 54, 56, 54, 48, 49, 56, 52, 50, 55, 51, 56, 55, 57, 48, 52, 32, 43, 32, 48, 32, 49, 10]⟩, .string ⟨#[32, 53, 32, 43, 32, 48, 32, 49, 10]⟩, .string X] 9)).alloc (.cells #[.int .i64 24, .int .i64 24, .int .i64 24, .int .i64 25, .int .i64 21, .int .i64 22, .int .i64 21, .int .i64 21] 3)).alloc (.cells #[.int .i64 1, .int .i64 1, .int .i64 1, .int .i64 1, .int .i64 1, .int .i64 1, .int .i64 1, .int .i64 8] 3)) := ⟨_, rfl⟩
        have HV : Hid (HAt w V g7 n a F.length cap F) := by
          show HAt _ _ _ _ _ _ _ _
          rw [hV]
          exact HH5.out.next ((((Mod.refl _ _).alloc _).alloc _).alloc _)
        rw [← hV]
        clear hV c0 c1
        have c0 := HV.out.c0
        have c1 := HV.out.c1
        have HPa := fun z => parse_any z SX HSX.out.2
        obtain ⟨N, hN⟩ : ∃ N, N = parseN (L SX) := ⟨_, rfl⟩
        rw [← hN, HSX.out.1, show parseR (logL n F ++ badL (decL tn) 7) = ([], ((F.length : Int) + 2, 8), 21) from HLP.out (tn : Int) 7 ⟨by omega, HHT.out⟩ (by decide) (fun h => absurd h (by decide)) (fun h => absurd h (by decide))] at HPa
        have HPb : Hid (∀ z, _) := HPa
        clear hN HPa
        go_wp2_with fail
        refine (HPb.out _).mono ?_
        rintro e w7 ⟨a7, c7, rfl, _, hm⟩
        have HH7 := Lib.hid (HV.out.next hm)
        clear hm c0 c1 HPb
        go_upto_region 24 with (fail)
        have HB := Lib.hid (HPl.start (w := w7) (n := N) (v := .slice a7 0 c7) (x := (F.length : Int) + 2) (y := 8))
        obtain ⟨g1, hg1⟩ : ∃ g, g = w7.heap.size := ⟨_, rfl⟩
        obtain ⟨g2, hg2⟩ : ∃ g, g = w7.heap.size + 1 := ⟨_, rfl⟩
        obtain ⟨W8, hW8⟩ : ∃ W, W = ((w7.alloc (.cells #[.int .u64 N, .slice a7 0 c7] 25)).alloc (.cells #[.int .i64 ((F.length : Int) + 2), .int .i64 8] 38)) := ⟨_, rfl⟩
        rw [← hW8, ← hg2, ← hg1] at HB ⊢
        clear hW8 hg2 hg1
        have HH8 := Lib.hid (HH7.out.next HB.out.mod)
        have c0 := HH8.out.c0
        have c1 := HH8.out.c1
        have p0 := HB.out.p0
        have p1 := HB.out.p1
        go_wp2_with fail
        go_ret
        exact ⟨rfl, HH8.out.mod⟩
theorem llines_all (a0 : Int) (a1 : Option Addr) (len1 cap1 : Nat) (z1 : List Int) (a2 : Int) (w : World) (w0 : (Lit.int .u8 a0).wf = true) (w1 : IsRow .u8 w a1 len1 cap1 z1) (w2 : (Lit.int .u8 a2).wf = true) (htab : Lib.TabIs Tryd.prog w "internal/strconv.uint64pow10" .u64 Lib.pow10Tab) :
    Calls Tryd.prog 6 #[.int .u8 a0, .slice a1 len1 cap1, .int .u8 a2] w fun e w' => e = .returned (.bool true) ∧ Below w.heap.size w w' :=
  (llines_any w a0 a2 a1 len1 cap1 z1 (bounds_u8 w0) (bounds_u8 w2) w1 htab).mono fun e w' h => ⟨h.1, h.2.below (Nat.le_refl _) (fun k hk => hk.elim)⟩
end Go.Proofs.YtggnkefhegnokaaDoor
end
