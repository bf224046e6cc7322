/- The walk of LifeTells. -/
import Derived.Test.YthncgmmfnghliaaLfBe
import Derived.Test.YthncgmmfnghliaaLfLi
namespace Go.Proofs.Ythncgmmfnghliaa
open Go.RowKit
set_option linter.unusedVariables false

/-- A history as a value: its number, its slice, its events. -/
structure Hst where
  n : Int
  a : Option Addr
  cap : Nat
  l : List Ev
/-- A row of histories in a block. -/
def HRow (w : World) (g : Nat) (H : List Hst) : Prop := ∀ (j : Nat) (x : Hst), H[j]? = some x → w.cell? ⟨g, j * 2, none⟩ = some (.int .u64 x.n) ∧ w.cell? ⟨g, j * 2 + 1, none⟩ = some (.slice x.a x.l.length x.cap) ∧ Evs w x.a x.l ∧ (∀ e ∈ x.l, EvB e) ∧ x.l.length ≤ 40
theorem HRow.mod {w w' : World} {g : Nat} {H : List Hst} (h : HRow w g H) (hm : Mod w w' NoB) : HRow w' g H := fun j x hx => by
  obtain ⟨h1, h2, h3, h4⟩ := h j x hx
  exact ⟨keepc h1 hm, keepc h2 hm, h3.mod hm, h4⟩

set_option maxRecDepth 100000 in
set_option maxHeartbeats 8000000 in
theorem tells_walk (n0 : Int) (ra : Option Addr) (rcap : Nat) (rl : List Ev) (a0 : Int) (a1 : Option Addr) (len1 cap1 : Nat) (z1 : List Int) (a2 a3 v : Int) (w : World) (hn0 : 0 ≤ n0 ∧ n0 ≤ 18446744073709551615) (hrl : rl.length ≤ 20) (hRE : Evs w ra rl) (hRB : ∀ x ∈ rl, EvB x)
    (w0 : (Lit.int .u8 a0).wf = true) (w1 : IsRow .u8 w a1 len1 cap1 z1) (w2 : (Lit.int .u8 a2).wf = true) (w3 : (Lit.int .u8 a3).wf = true) (h60 : len1 ≤ 60) :
    Calls Try.prog 3 #[.agg #[.int .u64 n0, .slice ra rl.length rcap], .int .u8 a0, .slice a1 len1 cap1, .int .u8 a2, .int .u8 a3, .int .i64 v] w fun e w' => e = .returned (.bool true) ∧ Below w.heap.size w w' := by
  have hd0 : decide ((60 : Int) < (len1 : Int)) = false := decide_eq_false (by omega)
  have hd1 : decide ((20 : Int) < (rl.length : Int)) = false := decide_eq_false (by omega)
  have hb0 := bounds_u8 w0
  have hb2 := bounds_u8 w2
  have hb3 := bounds_u8 w3
  have HA := Lib.hid w1
  have HR := Lib.hid (And.intro hRE hRB)
  have hmx := mixed
  clear w0 w1 w2 w3
  obtain ⟨g6, hg6⟩ : ∃ g6, g6 = w.heap.size := ⟨_, rfl⟩
  obtain ⟨W, hW⟩ : ∃ W, W = w.alloc (.cells #[.int .u64 n0, .slice ra rl.length rcap] 25) := ⟨_, rfl⟩
  have HW : Hid (HAt w W g6 n0 ra rl.length rcap rl) := by
    show HAt _ _ _ _ _ _ _ _
    rw [hW, hg6]
    exact HAt.start hRE
  go_enter Try.func3, Try.ntmps3
  go_wp2_with fail
  rw [← hW, ← hg6]
  clear hW hg6 hRE hRB
  refine (known_any _).mono ?_
  rintro e w1 ⟨rfl, hm⟩
  have H1 := Lib.hid (HW.out.next hm)
  have c0 := H1.out.c0
  have c1 := H1.out.c1
  clear hm HW
  go_wp2_with fail
  refine (hist_any _ a0 a1 len1 cap1 z1 hb0 (HA.out.mod H1.out.mod) (by omega)).mono ?_
  rintro r w2 ⟨T, top, a, cap, rfl, hT, htop, hT40, hE, hpl, hcap, hm⟩
  have hnb := vertsOf_bd a0.toNat
  obtain ⟨n, hn⟩ : ∃ n, vertsOf a0.toNat = n := ⟨_, rfl⟩
  rw [hn] at hT hnb ⊢
  obtain ⟨F, hF⟩ : ∃ F, flag (fun _ => false) T = F := ⟨_, rfl⟩
  have hFT : T.length = F.length := by rw [← hF, flag_len]
  have hevb : ∀ x ∈ F, EvB x := by rw [← hF]; exact flag_evb hT hnb.2
  rw [hFT] at hT40 hcap ⊢
  rw [hF] at hE
  have hnB : 0 ≤ n ∧ n ≤ 18446744073709551615 := ⟨by omega, by omega⟩
  have H2 := Lib.hid (H1.out.next hm)
  have HE := Lib.hid (And.intro hE hevb)
  clear hm hT htop hF hFT hevb hpl hE hn hnb H1 c0 c1
  go_upto_region 6 with (fail)
  obtain ⟨Y, hY⟩ : ∃ Y, Y = w2.alloc (.cells #[.int .u64 n, .slice a F.length cap] 25) := ⟨_, rfl⟩
  obtain ⟨g13, hg13⟩ : ∃ g13, g13 = w2.heap.size := ⟨_, rfl⟩
  have HY2 : Hid (HAt w2 Y g13 n a F.length cap F) := by
    show HAt _ _ _ _ _ _ _ _
    rw [hY, hg13]
    exact HAt.start HE.out.1
  rw [← hY, ← hg13]
  clear hY hg13
  have HY1 := Lib.hid (H2.out.next HY2.out.mod)
  have c0 := HY1.out.c0
  have c1 := HY1.out.c1
  have d0 := HY2.out.c0
  have d1 := HY2.out.c1
  have HBt : Hid (∀ z, Mod Y z NoB → Calls Try.prog 10 #[.agg #[.int .u64 n, .slice a F.length cap], .int .u8 a2, .int .u8 a3, .int .i64 v] z fun e w' => ∃ n' a' cap' l', e = .returned (.agg #[.int .u64 n', .slice a' l'.length cap']) ∧ Evs w' a' l' ∧ (∀ x ∈ l', EvB x) ∧ l'.length ≤ F.length ∧ (0 ≤ n' ∧ n' ≤ 18446744073709551615) ∧ Mod z w' NoB) := fun z hz =>
    bent_any z n a cap F a2 a3 v hnB (HY2.out.evs.mod hz) (by omega) HE.out.2 hb2 hb3
  go_region_held3 (fun z => z.cell? ⟨g6, 0, none⟩ = some (.int .u64 n0) ∧ z.cell? ⟨g6, 1, none⟩ = some (.slice ra rl.length rcap) ∧ z.cell? ⟨g13, 0, none⟩ = some (.int .u64 n) ∧ z.cell? ⟨g13, 1, none⟩ = some (.slice a F.length cap))
    (first | exact ⟨c0, c1, d0, d1⟩ | exact ⟨keepc c0 H5.out.2.2, keepc c1 H5.out.2.2, keepc d0 H5.out.2.2, keepc d1 H5.out.2.2⟩ | exact ⟨keepc c0 (H5.out.2.2.alloc _), keepc c1 (H5.out.2.2.alloc _), keepc d0 (H5.out.2.2.alloc _), keepc d1 (H5.out.2.2.alloc _)⟩)
    (first
      | (go_at_call 10; refine (HBt.out _ (Mod.drew (Mod.refl _ NoB))).mono ?_; rintro r w5 ⟨n5, a5, c5, l5, rfl, k1, k2, k3, _, hm5⟩; have H5 := Lib.hid (And.intro k1 (And.intro (And.intro k2 k3) (Mod.trans (Mod.drew (Mod.refl _ NoB)) hm5 (fun _ _ c => c)))); clear k1 k2 k3 hm5))
  have hlen5 : l5.length ≤ 40 := by have := H5.out.2.1.2; omega
  obtain ⟨H, hH⟩ : ∃ H : List Hst, H = [⟨n0, ra, rcap, rl⟩, ⟨n, a, cap, F⟩, ⟨n5, a5, c5, l5⟩] := ⟨_, rfl⟩
  have hH3 : H.length = 3 := by rw [hH]; rfl
  have HS : Hid (Mod w (w5.alloc (.cells #[.int .u64 n0, .slice ra rl.length rcap, .int .u64 n, .slice a F.length cap, .int .u64 n5, .slice a5 l5.length c5] 25)) NoB ∧ HRow (w5.alloc (.cells #[.int .u64 n0, .slice ra rl.length rcap, .int .u64 n, .slice a F.length cap, .int .u64 n5, .slice a5 l5.length c5] 25)) w5.heap.size H) := by
    have hm := H5.out.2.2.alloc (.cells #[.int .u64 n0, .slice ra rl.length rcap, .int .u64 n, .slice a F.length cap, .int .u64 n5, .slice a5 l5.length c5] 25)
    refine ⟨HY1.out.mod.trans hm (fun _ _ c => c), ?_⟩
    rw [hH]
    intro j x hx
    have hj : j = 0 ∨ j = 1 ∨ j = 2 := by have := (List.getElem?_eq_some_iff.1 hx).1; simp at this; omega
    rcases hj with rfl | rfl | rfl
    · cases hx
      exact ⟨World.cell?_alloc_at _ _ _ _ rfl, World.cell?_alloc_at _ _ _ _ rfl, HR.out.1.mod (HY1.out.mod.trans hm (fun _ _ c => c)), HR.out.2, by show rl.length ≤ 40; omega⟩
    · cases hx
      exact ⟨World.cell?_alloc_at _ _ _ _ rfl, World.cell?_alloc_at _ _ _ _ rfl, HY2.out.evs.mod hm, HE.out.2, hT40⟩
    · cases hx
      exact ⟨World.cell?_alloc_at _ _ _ _ rfl, World.cell?_alloc_at _ _ _ _ rfl, H5.out.1.mod ((Mod.refl _ _).alloc _), H5.out.2.1.1, hlen5⟩
  obtain ⟨gs, hgs⟩ : ∃ gs, gs = w5.heap.size := ⟨_, rfl⟩
  obtain ⟨Z, hZ⟩ : ∃ Z, Z = w5.alloc (.cells #[.int .u64 n0, .slice ra rl.length rcap, .int .u64 n, .slice a F.length cap, .int .u64 n5, .slice a5 l5.length c5] 25) := ⟨_, rfl⟩
  rw [← hZ, ← hgs] at HS ⊢
  clear hZ hgs H5 HY1 HY2 HBt HE HR H2 c0 c1 d0 d1 hH
  go_wp2_with fail
  go_loopw [43] (fun v43 wr => ∃ k : Nat, k ≤ 3 ∧ v43 = .int .i64 k ∧ Hid (Mod w wr NoB ∧ HRow wr gs H)) (fun v43 _ => 3 - (intOf v43).toNat)
  case atStart => exact ⟨0, by omega, rfl, HS.out⟩
  case round =>
    obtain ⟨k, hk, rfl, HI⟩ := hrel
    by_cases hlt : k < 3
    · have hki : (k : Int) < 3 := by omega
      have hk0 : (0 : Int) ≤ k := by omega
      obtain ⟨x, hx⟩ : ∃ x, H[k]? = some x := ⟨H[k]'(by omega), List.getElem?_eq_getElem _⟩
      obtain ⟨c0, c1, e1, e2, e3⟩ := HI.out.2 k x hx
      have HX := Lib.hid (And.intro e1 e2)
      clear e1 e2 hx
      go_upto_region 9 with (fail)
      have HB0 := Lib.hid (HAt.start (w := wr) (n := x.n) (len := x.l.length) (cap := x.cap) HX.out.1)
      obtain ⟨gb, hgb⟩ : ∃ gb, gb = wr.heap.size := ⟨_, rfl⟩
      obtain ⟨V, hV⟩ : ∃ V, V = wr.alloc (.cells #[.int .u64 x.n, .slice x.a x.l.length x.cap] 25) := ⟨_, rfl⟩
      rw [← hV, ← hgb] at HB0 ⊢
      have HOf : Hid (∀ z, Evs z x.a x.l → Calls Try.prog 11 #[.agg #[.int .u64 x.n, .slice x.a x.l.length x.cap]] z fun e w' => ∃ a' cap', e = .returned (.tuple #[.slice a' (ofL x.n x.l).length cap', .int .i64 (chk x.n x.l).2]) ∧ Lvs w' a' (ofL x.n x.l) ∧ Mod z w' NoB) := fun z hz => of_any z x.n x.a x.cap x.l hz (by omega) HX.out.2
      have HLi : Hid (∀ z, Evs z x.a x.l → Calls Try.prog 12 #[.agg #[.int .u64 x.n, .slice x.a x.l.length x.cap]] z fun e w' => ∃ a' cap', e = .returned (.tuple #[.slice a' (ofL x.n x.l).length cap', .int .i64 (chk x.n x.l).2]) ∧ Lvs w' a' (ofL x.n x.l) ∧ Mod z w' NoB) := fun z hz => lives_any z x.n x.a x.cap x.l hz (by omega) HX.out.2
      have hXl : (ofL x.n x.l).length ≤ 40 := by
        unfold ofL
        split
        · rw [(putAll_perm _).length_eq]; exact Nat.le_trans (raw_len _) e3
        · simp
      obtain ⟨X, hX⟩ : ∃ X, ofL x.n x.l = X := ⟨_, rfl⟩
      obtain ⟨E, hE⟩ : ∃ E, (chk x.n x.l).2 = E := ⟨_, rfl⟩
      rw [hX] at HOf HLi hXl
      rw [hE] at HOf HLi
      have d0 := HB0.out.c0
      have d1 := HB0.out.c1
      clear hV hgb c0 c1 hX hE
      go_wp2_with fail
      refine (HOf.out _ HB0.out.evs).mono ?_
      rintro r w3 ⟨a3', c3', rfl, l3, hm3⟩
      have HB3 := Lib.hid (HB0.out.next hm3)
      have HL3 := Lib.hid l3
      have f0 := HB3.out.c0
      have f1 := HB3.out.c1
      clear d0 d1 l3 hm3 HB0
      go_wp2_with fail
      refine (HLi.out _ HB3.out.evs).mono ?_
      rintro r w4 ⟨a4', c4', rfl, l4, hm4⟩
      have HB4 := Lib.hid (HB3.out.next hm4)
      have HL4 := Lib.hid (And.intro (HL3.out.mod hm4) l4)
      clear f0 f1 l4 hm4 HB3 HL3
      go_wp2_with fail
      refine (samelives_any _ a3' a4' c3' c4' X HL4.out.1 HL4.out.2 (by omega)).mono ?_
      rintro r w5' ⟨rfl, hm5⟩
      have HB5 := Lib.hid (HB4.out.next hm5)
      clear hm5
      go_wp2_with fail
      go_roundw
      case rel => exact ⟨k + 1, by omega, by go_num, HI.out.1.trans HB5.out.mod (fun _ _ c => c), HI.out.2.mod HB5.out.mod⟩
      case measure => simp [intOf]; omega
    · have hk3 : k = 3 := by omega
      subst hk3
      go_wp2_with fail
      go_ret
      exact ⟨rfl, HI.out.1.below (Nat.le_refl _) (fun _ h => h.elim)⟩

set_option maxRecDepth 100000 in
set_option maxHeartbeats 4000000 in
theorem tells_all (n0 : Int) (ra : Option Addr) (rlen rcap : Nat) (rl : List Ev) (a0 : Int) (a1 : Option Addr) (len1 cap1 : Nat) (z1 : List Int) (a2 a3 v : Int) (w : World) (hn0 : (Lit.int .u64 n0).wf = true) (hrl : rl.length = rlen) (hRE : Evs w ra rl) (hRB : ∀ x ∈ rl, EvB x)
    (w0 : (Lit.int .u8 a0).wf = true) (w1 : IsRow .u8 w a1 len1 cap1 z1) (w2 : (Lit.int .u8 a2).wf = true) (w3 : (Lit.int .u8 a3).wf = true) :
    Calls Try.prog 3 #[.agg #[.int .u64 n0, .slice ra rlen rcap], .int .u8 a0, .slice a1 len1 cap1, .int .u8 a2, .int .u8 a3, .int .i64 v] w fun e w' => e = .returned (.bool true) ∧ Below w.heap.size w w' := by
  subst hrl
  by_cases hr : rl.length ≤ 20
  · by_cases h60 : len1 ≤ 60
    · exact tells_walk n0 ra rcap rl a0 a1 len1 cap1 z1 a2 a3 v w (bounds_u64 hn0) hr hRE hRB w0 w1 w2 w3 h60
    · have hd0 : decide ((60 : Int) < (len1 : Int)) = true := decide_eq_true (by omega)
      have hd1 : decide ((20 : Int) < (rl.length : Int)) = false := decide_eq_false (by omega)
      have hd2 : (60 : Int) < (len1 : Int) := by omega
      clear w0 w1 w2 w3
      go_enter Try.func3, Try.ntmps3
      go_wp2_with fail
      have HH := Lib.hid (HAt.start (n := n0) (len := rl.length) (cap := rcap) hRE)
      refine (known_any _).mono ?_
      rintro e w1 ⟨rfl, hm⟩
      have H1 := Lib.hid (HH.out.next hm)
      have c0 := H1.out.c0
      have c1 := H1.out.c1
      clear hm
      go_wp2_with fail
      go_ret
      exact ⟨rfl, H1.out.mod.below (Nat.le_refl _) (fun _ h => h.elim)⟩
  · have hd1 : decide ((20 : Int) < (rl.length : Int)) = true := decide_eq_true (by omega)
    have hd2 : (20 : Int) < (rl.length : Int) := by omega
    clear w0 w1 w2 w3
    go_enter Try.func3, Try.ntmps3
    go_wp2_with fail
    have HH := Lib.hid (HAt.start (n := n0) (len := rl.length) (cap := rcap) hRE)
    refine (known_any _).mono ?_
    rintro e w1 ⟨rfl, hm⟩
    have H1 := Lib.hid (HH.out.next hm)
    have c0 := H1.out.c0
    have c1 := H1.out.c1
    clear hm
    go_wp2_with fail
    go_ret
    exact ⟨rfl, H1.out.mod.below (Nat.le_refl _) (fun _ h => h.elim)⟩
end Go.Proofs.Ythncgmmfnghliaa
