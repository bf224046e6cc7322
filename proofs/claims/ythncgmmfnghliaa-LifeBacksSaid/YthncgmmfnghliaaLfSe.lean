/- The reference: SameLives, SameEvents, Same, of what is the same. -/
import Derived.Test.YthncgmmfnghliaaLfTb
namespace Go.Proofs.Ythncgmmfnghliaa
open Go.RowKit
set_option linter.unusedVariables false

set_option maxRecDepth 100000 in
set_option maxHeartbeats 4000000 in
theorem samelives_any (w : World) (a b : Option Addr) (ca cb : Nat) (X : List Lf) (hA : Lvs w a X) (hB : Lvs w b X) (hl : X.length ≤ 100000) :
    Calls Try.prog 13 #[.slice a X.length ca, .slice b X.length cb] w fun e w' => e = .returned (.bool true) ∧ Mod w w' NoB := by
  have HA := Lib.hid hA
  have HB := Lib.hid hB
  have hmx := mixed
  clear hA hB
  go_enter Try.func13, Try.ntmps13
  go_wp2_with fail
  go_loopw [5] (fun v5 wr => ∃ k : Nat, k ≤ X.length ∧ v5 = .int .i64 k ∧ Hid (Mod w wr NoB)) (fun v5 _ => X.length - (intOf v5).toNat)
  case atStart => exact ⟨0, Nat.zero_le _, rfl, Mod.refl _ _⟩
  case round =>
    obtain ⟨k, hk, rfl, HI⟩ := hrel
    by_cases hlt : k < X.length
    · obtain ⟨b1, off1, x, rfl, hbw1, hx, hC1⟩ := (HA.out.mod HI.out).at hlt
      obtain ⟨b2, off2, y, rfl, hbw2, hy, hC2⟩ := (HB.out.mod HI.out).at hlt
      have hyx : y = x := by rw [hx] at hy; exact (Option.some.inj hy).symm
      subst hyx
      have hki : (k : Int) < X.length := by omega
      obtain ⟨c0, c1, c2, c3⟩ := hC1
      obtain ⟨e0, e1, e2, e3⟩ := hC2
      clear hx hy
      go_upto_region 6 with (fail)
      go_quiet (fail)
      go_wp2_with fail
      go_roundw
      case rel => exact ⟨k + 1, by omega, by go_num, HI.out.drewN _⟩
      case measure => simp [intOf]; omega
    · have hkl : k = X.length := by omega
      clear hkl
      go_wp2_with fail
      go_ret
      exact ⟨rfl, HI.out⟩

set_option maxRecDepth 100000 in
set_option maxHeartbeats 4000000 in
theorem sameevents_any (w : World) (a b : Option Addr) (ca cb : Nat) (X : List Ev) (hA : Evs w a X) (hB : Evs w b X) (hl : X.length ≤ 100000) :
    Calls Try.prog 46 #[.slice a X.length ca, .slice b X.length cb] w fun e w' => e = .returned (.bool true) ∧ Mod w w' NoB := by
  have HA := Lib.hid hA
  have HB := Lib.hid hB
  have hmx := mixed
  clear hA hB
  go_enter Try.func46, Try.ntmps46
  go_wp2_with fail
  go_loopw [5] (fun v5 wr => ∃ k : Nat, k ≤ X.length ∧ v5 = .int .i64 k ∧ Hid (Mod w wr NoB)) (fun v5 _ => X.length - (intOf v5).toNat)
  case atStart => exact ⟨0, Nat.zero_le _, rfl, Mod.refl _ _⟩
  case round =>
    obtain ⟨k, hk, rfl, HI⟩ := hrel
    by_cases hlt : k < X.length
    · obtain ⟨b1, off1, x, rfl, hbw1, hx, hC1⟩ := (HA.out.mod HI.out).at hlt
      obtain ⟨b2, off2, y, rfl, hbw2, hy, hC2⟩ := (HB.out.mod HI.out).at hlt
      have hyx : y = x := by rw [hx] at hy; exact (Option.some.inj hy).symm
      subst hyx
      have hki : (k : Int) < X.length := by omega
      obtain ⟨c0, c1, c2, c3⟩ := hC1
      obtain ⟨e0, e1, e2, e3⟩ := hC2
      clear hx hy
      go_upto_region 6 with (fail)
      go_quiet (fail)
      go_wp2_with fail
      go_roundw
      case rel => exact ⟨k + 1, by omega, by go_num, HI.out.drewN _⟩
      case measure => simp [intOf]; omega
    · have hkl : k = X.length := by omega
      clear hkl
      go_wp2_with fail
      go_ret
      exact ⟨rfl, HI.out⟩

set_option maxRecDepth 100000 in
set_option maxHeartbeats 4000000 in
theorem same_any (w : World) (n : Int) (a b : Option Addr) (ca cb : Nat) (X : List Ev) (hA : Evs w a X) (hB : Evs w b X) (hl : X.length ≤ 100000) :
    Calls Try.prog 19 #[.agg #[.int .u64 n, .slice a X.length ca], .agg #[.int .u64 n, .slice b X.length cb]] w fun e w' => e = .returned (.bool true) ∧ Mod w w' NoB := by
  have hm : Mod w ((w.alloc (.cells #[.int .u64 n, .slice a X.length ca] 25)).alloc (.cells #[.int .u64 n, .slice b X.length cb] 25)) NoB := ((Mod.refl _ _).alloc _).alloc _
  have HS : Hid (Calls Try.prog 46 #[.slice a X.length ca, .slice b X.length cb] ((w.alloc (.cells #[.int .u64 n, .slice a X.length ca] 25)).alloc (.cells #[.int .u64 n, .slice b X.length cb] 25))
      fun e w' => e = .returned (.bool true) ∧ Mod w w' NoB) :=
    (sameevents_any _ a b ca cb X (hA.mod hm) (hB.mod hm) hl).mono fun _ _ h => ⟨h.1, hm.trans h.2 (fun _ _ c => c)⟩
  have hmx := mixed
  clear hA hB hm
  go_enter Try.func19, Try.ntmps19
  go_wp2_with fail
  refine HS.out.mono ?_
  rintro r w1 ⟨rfl, hm⟩
  have HM := Lib.hid hm
  clear hm
  go_wp2_with fail
  go_ret
  exact ⟨rfl, HM.out⟩
end Go.Proofs.Ythncgmmfnghliaa
