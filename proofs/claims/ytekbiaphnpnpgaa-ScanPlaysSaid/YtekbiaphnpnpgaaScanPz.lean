/- The law ScanPlays: every input. -/
import Derived.Test.YtekbiaphnpnpgaaScanPy
namespace Go.Proofs.Ytekbiaphnpnpgaa
open Go.RowKit
set_option linter.unusedVariables false

set_option maxRecDepth 100000 in
theorem plays_all (a0 : ByteArray) (a1 : Option Addr) (len1 cap1 : Nat) (z1 : List Int) (a2 : Option Addr) (len2 cap2 : Nat) (w : World) (w0 : a0.size ≤ maxLen) (w1 : IsRow .u8 w a1 len1 cap1 z1) (w2 : IsActs w a2 len2) :
    Calls Try.prog 5 #[.string a0, .slice a1 len1 cap1, .slice a2 len2 cap2] w fun e w' => e = .returned (.bool true) ∧ Below w.heap.size w w' := by
  by_cases h60 : a0.size ≤ 60
  · by_cases h20 : len1 ≤ 20
    · by_cases h40 : len2 ≤ 40
      · exact plays_walk a0 a1 len1 cap1 z1 a2 len2 cap2 w w0 w1 w2 h60 h20 h40
      · have hd0 : decide ((60 : Int) < (a0.size : Int)) = false := by simp; omega
        have hd1 : decide ((20 : Int) < (len1 : Int)) = false := by simp; omega
        have hd2 : decide ((40 : Int) < (len2 : Int)) = true := by simp; omega
        go_enter Try.func5, Try.ntmps5
        go_wp2_with fail
        refine (known_any _).mono ?_
        rintro e w1 ⟨rfl, hM1⟩
        go_wp2_with fail
        go_ret
        exact ⟨rfl, hM1.below (Nat.le_refl _) (by simp [NoB])⟩
    · have hd0 : decide ((60 : Int) < (a0.size : Int)) = false := by simp; omega
      have hd1 : decide ((20 : Int) < (len1 : Int)) = true := by simp; omega
      go_enter Try.func5, Try.ntmps5
      go_wp2_with fail
      refine (known_any _).mono ?_
      rintro e w1 ⟨rfl, hM1⟩
      go_wp2_with fail
      go_ret
      exact ⟨rfl, hM1.below (Nat.le_refl _) (by simp [NoB])⟩
  · have hd0 : decide ((60 : Int) < (a0.size : Int)) = true := by simp; omega
    go_enter Try.func5, Try.ntmps5
    go_wp2_with fail
    refine (known_any _).mono ?_
    rintro e w1 ⟨rfl, hM1⟩
    go_wp2_with fail
    go_ret
    exact ⟨rfl, hM1.below (Nat.le_refl _) (by simp [NoB])⟩
end Go.Proofs.Ytekbiaphnpnpgaa
