/- The contract of the reference's Decimal. -/
import Derived.Test.YtekbiaphnpnpgaaRefN
namespace Go.Proofs.Ytekbiaphnpnpgaa
open Go.RowKit
set_option linter.unusedVariables false

/-- The digits of a number. -/
def decL (n : Nat) : List UInt8 := if n < 10 then [UInt8.ofNat (48 + n)] else decL (n / 10) ++ [UInt8.ofNat (48 + n % 10)]
def dec (n : Nat) : ByteArray := ⟨(decL n).toArray⟩
def tenS : ByteArray := ⟨#[48, 49, 50, 51, 52, 53, 54, 55, 56, 57]⟩

theorem decL_small {n : Nat} (h : n < 10) : decL n = [UInt8.ofNat (48 + n)] := by rw [decL, if_pos h]
theorem decL_big {n : Nat} (h : ¬ n < 10) : decL n = decL (n / 10) ++ [UInt8.ofNat (48 + n % 10)] := by rw [decL, if_neg h]
theorem ten_extract {n : Nat} (h : n < 10) : tenS.extract n (n + 1) = ⟨#[UInt8.ofNat (48 + n)]⟩ := by
  rcases (by omega : n = 0 ∨ n = 1 ∨ n = 2 ∨ n = 3 ∨ n = 4 ∨ n = 5 ∨ n = 6 ∨ n = 7 ∨ n = 8 ∨ n = 9) with rfl | rfl | rfl | rfl | rfl | rfl | rfl | rfl | rfl | rfl <;> rfl
theorem dec_small {n : Nat} (h : n < 10) : dec n = tenS.extract n (n + 1) := by rw [ten_extract h, dec, decL_small h]
theorem dec_big {n : Nat} (h : ¬ n < 10) : dec n = dec (n / 10) ++ tenS.extract (n % 10) (n % 10 + 1) := by
  rw [ten_extract (Nat.mod_lt _ (by decide)), dec, decL_big h]
  apply ByteArray.ext
  simp [dec]

theorem decL_len (n : Nat) : 1 ≤ (decL n).length ∧ (decL n).length ≤ n + 1 := by
  induction n using Nat.strongRecOn with
  | _ n ih =>
    by_cases h : n < 10
    · rw [decL_small h]; simp
    · rw [decL_big h]
      have := ih (n / 10) (by omega)
      simp only [List.length_append, List.length_singleton]
      omega
theorem dec_size (n : Nat) : (dec n).size = (decL n).length := by simp [dec, ByteArray.size]

theorem decimal_any (n : Nat) : ∀ (w : World), n < 18446744073709551616 → Calls Try.prog 9 #[.int .u64 n] w fun e w' => e = .returned (.string (dec n)) ∧ ∃ m, w' = w.drewN m := by
  induction n using Nat.strongRecOn with
  | _ n ih =>
    intro w hn
    by_cases h : n < 10
    · rw [dec_small h]
      have h1 : (n : Int) < 10 := by omega
      go_enter Try.func9, Try.ntmps9
      go_wp2_with fail
      go_ret
      exact ⟨rfl, 0, rfl⟩
    · rw [dec_big h]
      have h1 : ¬ ((n : Int) < 10) := by omega
      have ih' := fun w => ih (n / 10) (by omega) w (by omega)
      have e1 : ((n / 10 : Nat) : Int) = (n : Int) / 10 := by omega
      rw [e1] at ih'
      have HI := Lib.hid ih'
      have q0 : (0 : Int) ≤ (n : Int) % 10 := by omega
      have q1 : (n : Int) % 10 < 10 := by omega
      have q2 : ((n : Int) % 10).toNat = n % 10 := by omega
      have q3 : IntKind.u64.wrap ((n : Int) % 10 + 1) = (n : Int) % 10 + 1 := by rw [IntKind.wrap_u64]; omega
      have q4 : ((n : Int) % 10 + 1).toNat = n % 10 + 1 := by omega
      have q5 : IntKind.u64.wrap ((n : Int) / 10) = (n : Int) / 10 := by rw [IntKind.wrap_u64]; omega
      have hsl : ∀ W : World, (Instr.slice 9 (.string ⟨#[48, 49, 50, 51, 52, 53, 54, 55, 56, 57]⟩) (some (.int .u64 ((n : Int) % 10))) (some (.int .u64 ((n : Int) % 10 + 1))) none).run Try.prog W = .ok (.string (tenS.extract (n % 10) (n % 10 + 1))) W := fun W => by
        have h9 := run_slice_string (P := Try.prog) (w := W) 9 tenS .u64 .u64 ((n : Int) % 10) ((n : Int) % 10 + 1) Try.underlying9 q0 (by omega) (by show (n : Int) % 10 + 1 ≤ 10; omega)
        rw [q2, q4] at h9
        exact h9
      have q7 : (n : Int).tmod 10 = (n : Int) % 10 := Int.tmod_eq_emod_of_nonneg (by omega)
      have hadd : ∀ W : World, (Op.stringOp .add (dec (n / 10)) (tenS.extract (n % 10) (n % 10 + 1))).run Try.prog W = .ok (.string (dec (n / 10) ++ tenS.extract (n % 10) (n % 10 + 1))) W := fun W =>
        run_string_add_sum W _ _ (by
          have h9 := decL_len (n / 10)
          rw [dec_size, ten_extract (Nat.mod_lt _ (by decide))]
          show (decL (n / 10)).length + 1 ≤ _
          omega)
      clear ih ih' e1 hn q2 q4
      go_enter Try.func9, Try.ntmps9
      go_wp2_with fail
      go_quiet ((go_at_call 9; exact quietD (HI.out _)))
      go_wp2_with fail
      go_ret
      exact ⟨rfl, _, rfl⟩
end Go.Proofs.Ytekbiaphnpnpgaa
