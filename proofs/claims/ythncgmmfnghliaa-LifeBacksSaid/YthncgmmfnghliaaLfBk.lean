/- The walk of LifeBacks. -/
import Derived.Test.YthncgmmfnghliaaLfBl
import Derived.Test.YthncgmmfnghliaaLfLi
import Derived.Test.YthncgmmfnghliaaLfRf
namespace Go.Proofs.Ythncgmmfnghliaa
open Go.RowKit
set_option linter.unusedVariables false

/-- The lives of a history that may be give it back. -/
theorem back_of_lives {n : Int} {F : List Ev} (h : AllOk n none (fun _ => false) F) (hn : n ≤ maxN) (hl : F.length ≤ 100000) : backE n (putAll lfLt (raw F)) = F ∧ backN n (putAll lfLt (raw F)) = n ∧ (lchk n (putAll lfLt (raw F))).2 = 0 := by
  obtain ⟨_, x2, _, _⟩ := lives_ok h hn hl
  have h0 : (lchk n (putAll lfLt (raw F))).2 = 0 := by rw [x2]
  have hb := (allOk_before h).1
  have hp : (evs (putAll lfLt (raw F))).Perm F := (evs_perm (putAll_perm (raw F))).trans (evs_raw_all h)
  have hc : (evs (putAll lfLt (raw F))).Pairwise (fun a b => before a b ∨ before b a) := by
    refine (hp.pairwise_iff (fun hab => hab.symm)).2 (hb.imp (fun hab => Or.inl hab))
  obtain ⟨k1, k2⟩ := putAll_sorted (lt := before) before_trans hc
  refine ⟨?_, ?_, h0⟩
  · unfold backE
    rw [if_pos h0]
    exact sorted_unique before_irrefl before_trans k1 hb (k2.trans hp)
  · unfold backN
    rw [if_pos h0]
/-- Lives as a value. -/
structure Lst where
  a : Option Addr
  cap : Nat
  l : List Lf
/-- A row of slices of lives in a block. -/
def LRow (w : World) (g : Nat) (L : List Lst) : Prop := ∀ (j : Nat) (x : Lst), L[j]? = some x → w.cell? ⟨g, j, none⟩ = some (.slice x.a x.l.length x.cap) ∧ Lvs w x.a x.l ∧ (∀ y ∈ x.l, EdB y.e) ∧ x.l.length ≤ 60
theorem LRow.mod {w w' : World} {g : Nat} {L : List Lst} (h : LRow w g L) (hm : Mod w w' NoB) : LRow w' g L := fun j x hx => by
  obtain ⟨h1, h2, h3⟩ := h j x hx
  exact ⟨keepc h1 hm, h2.mod hm, h3⟩
/-- What stands at the loops. -/
structure WSt (w wr : World) (gh : Nat) (n : Int) (a : Option Addr) (len cap : Nat) (F : List Ev) (xa : Option Addr) (X : List Lf) (gs : Nat) (L : List Lst) : Prop where
  h : HAt w wr gh n a len cap F
  lvs : Lvs wr xa X
  row : LRow wr gs L
theorem WSt.next {w wr w' : World} {gh : Nat} {n : Int} {a : Option Addr} {len cap : Nat} {F : List Ev} {xa : Option Addr} {X : List Lf} {gs : Nat} {L : List Lst} (h : WSt w wr gh n a len cap F xa X gs L) (hm : Mod wr w' NoB) : WSt w w' gh n a len cap F xa X gs L :=
  ⟨h.h.next hm, h.lvs.mod hm, h.row.mod hm⟩

set_option maxRecDepth 100000 in
set_option maxHeartbeats 8000000 in
theorem backs_walk (n0 : Int) (ra : Option Addr) (rcap : Nat) (rl : List Lf) (a2 : Int) (a3 : Option Addr) (len3 cap3 : Nat) (z3 : List Int) (a4 a5 v : Int) (w : World) (hrl : rl.length ≤ 20) (hRE : Lvs w ra rl) (hRB : ∀ y ∈ rl, EdB y.e)
    (w2 : (Lit.int .u8 a2).wf = true) (w3 : IsRow .u8 w a3 len3 cap3 z3) (w4 : (Lit.int .u8 a4).wf = true) (w5 : (Lit.int .u8 a5).wf = true) (h60 : len3 ≤ 60) :
    Calls Try.prog 4 #[.int .u64 n0, .slice ra rl.length rcap, .int .u8 a2, .slice a3 len3 cap3, .int .u8 a4, .int .u8 a5, .int .i64 v] w fun e w' => e = .returned (.bool true) ∧ Below w.heap.size w w' := by
  have hd0 : decide ((60 : Int) < (len3 : Int)) = false := decide_eq_false (by omega)
  have hd1 : decide ((20 : Int) < (rl.length : Int)) = false := decide_eq_false (by omega)
  have hb2 := bounds_u8 w2
  have hb4 := bounds_u8 w4
  have hb5 := bounds_u8 w5
  have HA := Lib.hid w3
  have HR := Lib.hid (And.intro hRE hRB)
  have hmx := mixed
  clear w2 w3 w4 w5 hRE hRB
  go_enter Try.func4, Try.ntmps4
  go_wp2_with fail
  refine (known_any _).mono ?_
  rintro e w1 ⟨rfl, hm⟩
  have H1 := Lib.hid hm
  clear hm
  go_wp2_with fail
  refine (hist_any _ a2 a3 len3 cap3 z3 hb2 (HA.out.mod H1.out) (by omega)).mono ?_
  rintro r w2 ⟨T, top, a, cap, rfl, hT, htop, hT40, hE, hpl, hcap, hm⟩
  have hnb := vertsOf_bd a2.toNat
  obtain ⟨n, hn⟩ : ∃ n, vertsOf a2.toNat = n := ⟨_, rfl⟩
  rw [hn] at hT hnb ⊢
  obtain ⟨F, hF⟩ : ∃ F, flag (fun _ => false) T = F := ⟨_, rfl⟩
  have hFT : T.length = F.length := by rw [← hF, flag_len]
  have hevb : ∀ x ∈ F, EvB x := by rw [← hF]; exact flag_evb hT hnb.2
  have hok : AllOk n none (fun _ => false) F := by rw [← hF]; exact hist_ok hT htop
  have hchk : chk n F = (0, 0) := by rw [← hF]; exact chk_flag hT htop (by unfold maxN; omega) (by omega)
  rw [hFT] at hT40 hcap ⊢
  rw [hF] at hE
  obtain ⟨q1, q2, q3⟩ := back_of_lives hok (by unfold maxN; omega) (by omega)
  have hXp : (putAll lfLt (raw F)).Perm (raw F) := putAll_perm (raw F)
  have hX40 : (putAll lfLt (raw F)).length ≤ 40 := by rw [hXp.length_eq]; exact Nat.le_trans (raw_len _) hT40
  have hXB : ∀ y ∈ putAll lfLt (raw F), EdB y.e := fun y hy => raw_evb hevb y (hXp.subset hy)
  have hofl : ofL n F = putAll lfLt (raw F) := by unfold ofL; rw [hchk]; rfl
  obtain ⟨X, hX⟩ : ∃ X, putAll lfLt (raw F) = X := ⟨_, rfl⟩
  rw [hX] at q1 q2 q3 hX40 hXB hofl
  have HLi : Hid (∀ z, Evs z a F → Calls Try.prog 12 #[.agg #[.int .u64 n, .slice a F.length cap]] z fun e w' => ∃ a' cap', e = .returned (.tuple #[.slice a' X.length cap', .int .i64 0]) ∧ Lvs w' a' X ∧ Mod z w' NoB) := fun z hz => by
    have := lives_any z n a cap F hz (by omega) hevb
    rw [hofl, hchk] at this
    exact this
  have HQ := Lib.hid (And.intro q1 (And.intro q2 (And.intro q3 hXB)))
  have H2 := Lib.hid (H1.out.trans hm (fun _ _ c => c))
  have HE := Lib.hid hE
  clear hm hT htop hF hFT hevb hpl hE hn hnb H1 hok hchk q1 q2 q3 hXp hXB hofl hX
  obtain ⟨Y, hY⟩ : ∃ Y, Y = w2.alloc (.cells #[.int .u64 n, .slice a F.length cap] 25) := ⟨_, rfl⟩
  obtain ⟨gh, hgh⟩ : ∃ gh, gh = w2.heap.size := ⟨_, rfl⟩
  have HY : Hid (HAt w Y gh n a F.length cap F) := by
    show HAt _ _ _ _ _ _ _ _
    rw [hY, hgh]
    have := HAt.start (n := n) (len := F.length) (cap := cap) HE.out
    exact ⟨H2.out.trans this.mod (fun _ _ h => h), this.c0, this.c1, this.evs⟩
  have c0 := HY.out.c0
  have c1 := HY.out.c1
  go_wp2_with fail
  rw [← hY, ← hgh]
  clear hY hgh
  refine (HLi.out _ HY.out.evs).mono ?_
  rintro r w3 ⟨xa, xc, rfl, hlx, hm⟩
  have HY3 := Lib.hid (HY.out.next hm)
  have HX3 := Lib.hid hlx
  clear hm hlx c0 c1 HY HLi
  go_wp2_with fail
  refine (bentL_any _ xa xc X a4 a5 v HX3.out (by omega) HQ.out.2.2.2 hb4 hb5).mono ?_
  rintro r w4 ⟨e1a, e1c, l1, rfl, k1, k2, k3, hm⟩
  have HY4 := Lib.hid (HY3.out.next hm)
  have HX4 := Lib.hid (HX3.out.mod hm)
  have HL1 := Lib.hid (And.intro k1 (And.intro k2 k3))
  clear hm k1 k2 k3 HY3 HX3
  go_wp2_with fail
  refine (bentL_any _ xa xc X a4 a5 _ HX4.out (by omega) HQ.out.2.2.2 hb4 hb5).mono ?_
  rintro r w5 ⟨e2a, e2c, l2, rfl, k1, k2, k3, hm⟩
  have HY5 := Lib.hid (HY4.out.next hm)
  have HX5 := Lib.hid (HX4.out.mod hm)
  have HL2 := Lib.hid (And.intro (HL1.out.1.mod hm) (And.intro k1 (And.intro (And.intro HL1.out.2.1 HL1.out.2.2) (And.intro k2 k3))))
  clear hm k1 k2 k3 HY4 HX4 HL1
  go_wp2_with fail
  refine (bentL_any _ xa xc X a4 a5 _ HX5.out (by omega) HQ.out.2.2.2 hb4 hb5).mono ?_
  rintro r w6 ⟨e3a, e3c, l3, rfl, k1, k2, k3, hm⟩
  have HY6 := Lib.hid (HY5.out.next hm)
  have HX6 := Lib.hid (HX5.out.mod hm)
  have HL3 := Lib.hid (And.intro (HL2.out.1.mod hm) (And.intro (HL2.out.2.1.mod hm) HL2.out.2.2))
  have h3l : l3.length ≤ 41 := by omega
  clear hm k3 HY5 HX5 HL2
  go_wp2_with fail
  refine (bentL_any _ e3a e3c l3 _ _ _ k1 (by omega) k2 (by omega) (by omega)).mono ?_
  rintro r w7 ⟨e4a, e4c, l4, rfl, m1, m2, m3, hm⟩
  have HY7 := Lib.hid (HY6.out.next hm)
  have HX7 := Lib.hid (HX6.out.mod hm)
  have h4l : l4.length ≤ 42 := by omega
  have HL4 := Lib.hid (And.intro (HL3.out.1.mod hm) (And.intro (HL3.out.2.1.mod hm) (And.intro HL3.out.2.2 (And.intro m1 m2))))
  clear hm k1 k2 m1 m2 m3 HY6 HX6 HL3
  go_wp2_with fail
  obtain ⟨L, hL⟩ : ∃ L : List Lst, L = [⟨ra, rcap, rl⟩, ⟨xa, xc, X⟩, ⟨e1a, e1c, l1⟩, ⟨e2a, e2c, l2⟩, ⟨e4a, e4c, l4⟩] := ⟨_, rfl⟩
  have hL5 : L.length = 5 := by rw [hL]; rfl
  have HS : Hid (WSt w (w7.alloc (.cells #[.slice ra rl.length rcap, .slice xa X.length xc, .slice e1a l1.length e1c, .slice e2a l2.length e2c, .slice e4a l4.length e4c] 31)) gh n a F.length cap F xa X w7.heap.size L) := by
    have hm : Mod w7 (w7.alloc (.cells #[.slice ra rl.length rcap, .slice xa X.length xc, .slice e1a l1.length e1c, .slice e2a l2.length e2c, .slice e4a l4.length e4c] 31)) NoB := (Mod.refl _ _).alloc _
    refine ⟨HY7.out.next hm, HX7.out.mod hm, ?_⟩
    rw [hL]
    intro j x hx
    have hj : j = 0 ∨ j = 1 ∨ j = 2 ∨ j = 3 ∨ j = 4 := by have := (List.getElem?_eq_some_iff.1 hx).1; simp at this; omega
    rcases hj with rfl | rfl | rfl | rfl | rfl
    · cases hx
      exact ⟨World.cell?_alloc_at _ _ _ _ rfl, HR.out.1.mod (HY7.out.mod.trans hm (fun _ _ c => c)), HR.out.2, by show rl.length ≤ 60; omega⟩
    · cases hx
      exact ⟨World.cell?_alloc_at _ _ _ _ rfl, HX7.out.mod hm, HQ.out.2.2.2, by show X.length ≤ 60; omega⟩
    · cases hx
      exact ⟨World.cell?_alloc_at _ _ _ _ rfl, HL4.out.1.mod hm, HL4.out.2.2.1.1.1, by show l1.length ≤ 60; have := HL4.out.2.2.1.1.2; omega⟩
    · cases hx
      exact ⟨World.cell?_alloc_at _ _ _ _ rfl, HL4.out.2.1.mod hm, HL4.out.2.2.1.2.1, by show l2.length ≤ 60; have := HL4.out.2.2.1.2.2; omega⟩
    · cases hx
      exact ⟨World.cell?_alloc_at _ _ _ _ rfl, HL4.out.2.2.2.1.mod hm, HL4.out.2.2.2.2, by show l4.length ≤ 60; omega⟩
  obtain ⟨gs, hgs⟩ : ∃ gs, gs = w7.heap.size := ⟨_, rfl⟩
  obtain ⟨Z, hZ⟩ : ∃ Z, Z = w7.alloc (.cells #[.slice ra rl.length rcap, .slice xa X.length xc, .slice e1a l1.length e1c, .slice e2a l2.length e2c, .slice e4a l4.length e4c] 31) := ⟨_, rfl⟩
  rw [← hZ, ← hgs] at HS ⊢
  clear hZ hgs HY7 HX7 HL4 hL h3l h4l HR
  go_loopw [78] (fun v78 wr => ∃ k : Nat, k ≤ 5 ∧ v78 = .int .i64 k ∧ Hid (WSt w wr gh n a F.length cap F xa X gs L)) (fun v78 _ => 5 - (intOf v78).toNat)
  case atStart => exact ⟨0, by omega, rfl, HS.out⟩
  case round =>
    obtain ⟨k, hk, rfl, HI⟩ := hrel
    by_cases hlt : k < 5
    · have hki : (k : Int) < 5 := by omega
      have hk0 : (0 : Int) ≤ k := by omega
      obtain ⟨x, hx⟩ : ∃ x, L[k]? = some x := ⟨L[k]'(by omega), List.getElem?_eq_getElem _⟩
      obtain ⟨c0, e1, e2, e3⟩ := HI.out.row k x hx
      have HX := Lib.hid (And.intro e1 hx)
      have d0 := HI.out.h.c0
      clear e1 e2 hx
      go_wp2_with fail
      have HM0 : Hid (Mod wr (wr.alloc (.cells #[.int .u64 n0, .int .u64 n] 22)) NoB ∧ (wr.alloc (.cells #[.int .u64 n0, .int .u64 n] 22)).cell? ⟨wr.heap.size, 0, none⟩ = some (.int .u64 n0) ∧ (wr.alloc (.cells #[.int .u64 n0, .int .u64 n] 22)).cell? ⟨wr.heap.size, 1, none⟩ = some (.int .u64 n)) :=
        ⟨(Mod.refl _ _).alloc _, World.cell?_alloc_at _ _ _ _ rfl, World.cell?_alloc_at _ _ _ _ rfl⟩
      obtain ⟨V, hV⟩ : ∃ V, V = wr.alloc (.cells #[.int .u64 n0, .int .u64 n] 22) := ⟨_, rfl⟩
      obtain ⟨gm, hgm⟩ : ∃ gm, gm = wr.heap.size := ⟨_, rfl⟩
      rw [← hV, ← hgm] at HM0 ⊢
      clear hV hgm c0 d0
      go_loopw [87] (fun v87 wz => ∃ j : Nat, j ≤ 2 ∧ v87 = .int .i64 j ∧ Hid (Mod wr wz NoB ∧ wz.cell? ⟨gm, 0, none⟩ = some (.int .u64 n0) ∧ wz.cell? ⟨gm, 1, none⟩ = some (.int .u64 n))) (fun v87 _ => 2 - (intOf v87).toNat)
      case atStart => exact ⟨0, by omega, rfl, HM0.out⟩
      case round =>
        obtain ⟨j, hj, rfl, HJ⟩ := hrel
        by_cases hjt : j < 2
        · have hji : (j : Int) < 2 := by omega
          have hj0 : (0 : Int) ≤ j := by omega
          obtain ⟨m, hc⟩ : ∃ m, wr.cell? ⟨gm, j, none⟩ = some (.int .u64 m) := by
            have hjj : j = 0 ∨ j = 1 := by omega
            rcases hjj with rfl | rfl
            · exact ⟨_, HJ.out.2.1⟩
            · exact ⟨_, HJ.out.2.2⟩
          have hxl : x.l.length ≤ 60 := e3
          have HXB : Hid (∀ y ∈ x.l, EdB y.e) := (HI.out.row k x HX.out.2).2.2.1
          have C1 : Hid (∀ z, Lvs z x.a x.l → Calls Try.prog 15 #[.int .u64 m, .slice x.a x.l.length x.cap] z fun e w' => e = .returned (.tuple #[.int .i64 (lchk m x.l).1, .int .i64 (lchk m x.l).2]) ∧ Mod z w' NoB) := fun z hz => lcheck_any z m x.a x.cap x.l hz (by omega) HXB.out
          have C2 : Hid (∀ z, Lvs z x.a x.l → Calls Try.prog 16 #[.int .u64 m, .slice x.a x.l.length x.cap] z fun e w' => e = .returned (.tuple #[.int .i64 (lchk m x.l).1, .int .i64 (lchk m x.l).2]) ∧ Mod z w' NoB) := fun z hz => rlcheck_any z m x.a x.cap x.l hz (by omega) HXB.out
          have C3 : Hid (∀ z, Lvs z x.a x.l → Calls Try.prog 17 #[.int .u64 m, .slice x.a x.l.length x.cap] z fun e w' => ∃ a' cap', e = .returned (.tuple #[.agg #[.int .u64 (backN m x.l), .slice a' (backE m x.l).length cap'], .int .i64 (lchk m x.l).2]) ∧ Evs w' a' (backE m x.l) ∧ Mod z w' NoB) := fun z hz => back_any z m x.a x.cap x.l hz (by omega) HXB.out
          have C4 : Hid (∀ z, Lvs z x.a x.l → Calls Try.prog 18 #[.int .u64 m, .slice x.a x.l.length x.cap] z fun e w' => ∃ a' cap', e = .returned (.tuple #[.agg #[.int .u64 (backN m x.l), .slice a' (backE m x.l).length cap'], .int .i64 (lchk m x.l).2]) ∧ Evs w' a' (backE m x.l) ∧ Mod z w' NoB) := fun z hz => rback_any z m x.a x.cap x.l hz (by omega) HXB.out
          have hbl : (backE m x.l).length ≤ 120 := by
            unfold backE
            split
            · rw [(putAll_perm _).length_eq]; have := evs_len x.l; omega
            · simp
          obtain ⟨R1, hR1⟩ : ∃ R1, (lchk m x.l).1 = R1 := ⟨_, rfl⟩
          obtain ⟨R2, hR2⟩ : ∃ R2, (lchk m x.l).2 = R2 := ⟨_, rfl⟩
          obtain ⟨BE, hBE⟩ : ∃ BE, backE m x.l = BE := ⟨_, rfl⟩
          obtain ⟨bn, hbn⟩ : ∃ bn, backN m x.l = bn := ⟨_, rfl⟩
          rw [hR1, hR2] at C1 C2
          rw [hR2, hBE, hbn] at C3 C4
          rw [hBE] at hbl
          have HZ := Lib.hid (Mod.refl wr NoB)
          have HXL := Lib.hid (HX.out.1.mod HJ.out.1)
          clear hR1 hR2 hBE hbn HXB
          go_wp2_with fail
          refine (C1.out _ (HXL.out.mod HZ.out)).mono ?_
          rintro r y1 ⟨rfl, hm⟩
          have HZ1 := Lib.hid (HZ.out.trans hm (fun _ _ c => c))
          clear hm hc
          go_wp2_with fail
          refine (C2.out _ (HXL.out.mod HZ1.out)).mono ?_
          rintro r y2 ⟨rfl, hm⟩
          have HZ2 := Lib.hid (HZ1.out.trans hm (fun _ _ c => c))
          have HM2 := Lib.hid hm
          clear hm
          go_wp2_with fail
          refine (C3.out _ (HXL.out.mod HZ2.out)).mono ?_
          rintro r y3 ⟨b1, bc1, rfl, hev, hm⟩
          have HZ3 := Lib.hid (HZ2.out.trans hm (fun _ _ c => c))
          have HV3 := Lib.hid hev
          clear hm hev
          go_upto_region 16 with (fail)
          have HK : Hid (HAt y3 (y3.alloc (.cells #[.int .u64 bn, .slice b1 BE.length bc1] 25)) y3.heap.size bn b1 BE.length bc1 BE) := HAt.start HV3.out
          obtain ⟨V4, hV4⟩ : ∃ V4, V4 = y3.alloc (.cells #[.int .u64 bn, .slice b1 BE.length bc1] 25) := ⟨_, rfl⟩
          obtain ⟨g26, hg26⟩ : ∃ g26, g26 = y3.heap.size := ⟨_, rfl⟩
          rw [← hV4, ← hg26] at HK ⊢
          clear hV4 hg26
          have HZ4 := Lib.hid (HZ3.out.trans HK.out.mod (fun _ _ c => c))
          go_wp2_with fail
          refine (C4.out _ (HXL.out.mod HZ4.out)).mono ?_
          rintro r y5 ⟨b2, bc2, rfl, hev, hm⟩
          have HZ5 := Lib.hid (HZ4.out.trans hm (fun _ _ c => c))
          have HK5 := Lib.hid (HK.out.next hm)
          have HV5 := Lib.hid hev
          clear hm hev HK HZ4 HZ3 HZ2 HZ1 HM2
          go_upto_region 17 with (fail)
          have HK2 : Hid (HAt y5 (y5.alloc (.cells #[.int .u64 bn, .slice b2 BE.length bc2] 25)) y5.heap.size bn b2 BE.length bc2 BE) := HAt.start HV5.out
          obtain ⟨V6, hV6⟩ : ∃ V6, V6 = y5.alloc (.cells #[.int .u64 bn, .slice b2 BE.length bc2] 25) := ⟨_, rfl⟩
          obtain ⟨g28, hg28⟩ : ∃ g28, g28 = y5.heap.size := ⟨_, rfl⟩
          rw [← hV6, ← hg28] at HK2 ⊢
          clear hV6 hg28
          have HZ6 := Lib.hid (HZ5.out.trans HK2.out.mod (fun _ _ c => c))
          have HK6 := Lib.hid (HK5.out.next HK2.out.mod)
          have f0 := HK6.out.c0
          have f1 := HK6.out.c1
          have f2 := HK2.out.c0
          have f3 := HK2.out.c1
          have HSm : Hid (Calls Try.prog 19 #[.agg #[.int .u64 bn, .slice b1 BE.length bc1], .agg #[.int .u64 bn, .slice b2 BE.length bc2]] V6 fun e w' => e = .returned (.bool true) ∧ Mod V6 w' NoB) := same_any V6 bn b1 b2 bc1 bc2 BE HK6.out.evs HK2.out.evs (by omega)
          go_wp2_with fail
          refine HSm.out.mono ?_
          rintro r y7 ⟨rfl, hm⟩
          have HZ7 := Lib.hid (HZ6.out.trans hm (fun _ _ c => c))
          clear hm f0 f1 f2 f3
          go_wp2_with fail
          go_roundw
          case rel => exact ⟨j + 1, by omega, by go_num, HJ.out.1.trans HZ7.out (fun _ _ c => c), keepc HJ.out.2.1 HZ7.out, keepc HJ.out.2.2 HZ7.out⟩
          case measure => simp [intOf]; omega
        · have hj2 : j = 2 := by omega
          subst hj2
          go_wp2_with fail
          go_roundw
          case rel => exact ⟨k + 1, by omega, by go_num, HI.out.next HJ.out.1⟩
          case measure => simp [intOf]; omega
    · have hk5 : k = 5 := by omega
      subst hk5
      have c0 := HI.out.h.c0
      have c1 := HI.out.h.c1
      have HBk : Hid (∀ z, Lvs z xa X → Calls Try.prog 17 #[.int .u64 n, .slice xa X.length xc] z fun e w' => ∃ a' cap', e = .returned (.tuple #[.agg #[.int .u64 n, .slice a' F.length cap'], .int .i64 0]) ∧ Evs w' a' F ∧ Mod z w' NoB) := fun z hz => by
        have := back_any z n xa xc X hz (by omega) HQ.out.2.2.2
        rw [HQ.out.1, HQ.out.2.1, HQ.out.2.2.1] at this
        exact this
      go_wp2_with fail
      refine (HBk.out _ HI.out.lvs).mono ?_
      rintro r w8 ⟨ba, bc, rfl, hbe, hm⟩
      have HJ := Lib.hid (And.intro (HI.out.next hm) hbe)
      clear hm hbe c0 c1
      go_upto_region 22 with (fail)
      have HK : Hid (HAt w8 (w8.alloc (.cells #[.int .u64 n, .slice ba F.length bc] 25)) w8.heap.size n ba F.length bc F) := HAt.start HJ.out.2
      obtain ⟨V8, hV8⟩ : ∃ V8, V8 = w8.alloc (.cells #[.int .u64 n, .slice ba F.length bc] 25) := ⟨_, rfl⟩
      obtain ⟨g30, hg30⟩ : ∃ g30, g30 = w8.heap.size := ⟨_, rfl⟩
      rw [← hV8, ← hg30] at HK ⊢
      clear hV8 hg30
      have HJ2 := Lib.hid (HJ.out.1.next HK.out.mod)
      have c0 := HJ2.out.h.c0
      have c1 := HJ2.out.h.c1
      have d0 := HK.out.c0
      have d1 := HK.out.c1
      have HSm : Hid (∀ z, Mod w8 z NoB → Calls Try.prog 19 #[.agg #[.int .u64 n, .slice ba F.length bc], .agg #[.int .u64 n, .slice a F.length cap]] z fun e w' => e = .returned (.bool true) ∧ Mod z w' NoB) := fun z hz => same_any z n ba a bc cap F (HJ.out.2.mod hz) (HJ.out.1.h.evs.mod hz) (by omega)
      go_wp2_with fail
      refine (HSm.out _ HK.out.mod).mono ?_
      rintro r w9 ⟨rfl, hm⟩
      have H9 := Lib.hid (HJ2.out.h.mod.trans hm (fun _ _ c => c))
      clear hm
      go_wp2_with fail
      go_ret
      exact ⟨rfl, H9.out.below (Nat.le_refl _) (fun _ h => h.elim)⟩

set_option maxRecDepth 100000 in
set_option maxHeartbeats 4000000 in
theorem backs_all (n0 : Int) (ra : Option Addr) (rlen rcap : Nat) (rl : List Lf) (a2 : Int) (a3 : Option Addr) (len3 cap3 : Nat) (z3 : List Int) (a4 a5 v : Int) (w : World) (hrl : rl.length = rlen) (hRE : Lvs w ra rl) (hRB : ∀ y ∈ rl, EdB y.e)
    (w2 : (Lit.int .u8 a2).wf = true) (w3 : IsRow .u8 w a3 len3 cap3 z3) (w4 : (Lit.int .u8 a4).wf = true) (w5 : (Lit.int .u8 a5).wf = true) :
    Calls Try.prog 4 #[.int .u64 n0, .slice ra rlen rcap, .int .u8 a2, .slice a3 len3 cap3, .int .u8 a4, .int .u8 a5, .int .i64 v] w fun e w' => e = .returned (.bool true) ∧ Below w.heap.size w w' := by
  subst hrl
  by_cases hr : rl.length ≤ 20
  · by_cases h60 : len3 ≤ 60
    · exact backs_walk n0 ra rcap rl a2 a3 len3 cap3 z3 a4 a5 v w hr hRE hRB w2 w3 w4 w5 h60
    · have hd0 : decide ((60 : Int) < (len3 : Int)) = true := decide_eq_true (by omega)
      have hd1 : decide ((20 : Int) < (rl.length : Int)) = false := decide_eq_false (by omega)
      have hd2 : (60 : Int) < (len3 : Int) := by omega
      clear w2 w3 w4 w5 hRE hRB
      go_enter Try.func4, Try.ntmps4
      go_wp2_with fail
      refine (known_any _).mono ?_
      rintro e w1 ⟨rfl, hm⟩
      have H1 := Lib.hid hm
      clear hm
      go_wp2_with fail
      go_ret
      exact ⟨rfl, H1.out.below (Nat.le_refl _) (fun _ h => h.elim)⟩
  · have hd1 : decide ((20 : Int) < (rl.length : Int)) = true := decide_eq_true (by omega)
    have hd2 : (20 : Int) < (rl.length : Int) := by omega
    clear w2 w3 w4 w5 hRE hRB
    go_enter Try.func4, Try.ntmps4
    go_wp2_with fail
    refine (known_any _).mono ?_
    rintro e w1 ⟨rfl, hm⟩
    have H1 := Lib.hid hm
    clear hm
    go_wp2_with fail
    go_ret
    exact ⟨rfl, H1.out.below (Nat.le_refl _) (fun _ h => h.elim)⟩
end Go.Proofs.Ythncgmmfnghliaa
