/- A time to look at; There, at rest. -/
import Derived.Test.YthncgmmfnghliaaLfTa
namespace Go.Proofs.Ythncgmmfnghliaa
open Go.RowKit
set_option linter.unusedVariables false

set_option maxRecDepth 100000 in
set_option maxHeartbeats 4000000 in
theorem time_any (w : World) (n k : Int) (hk : 0 ≤ k ∧ k ≤ 255) (a : Option Addr) (cap : Nat) (l : List Ev) (hE : Evs w a l) (hl : l.length ≤ 100000) :
    Calls Try.prog 21 #[.agg #[.int .u64 n, .slice a l.length cap], .int .u8 k] w fun e w' => ∃ t : Int, e = .returned (.int .i64 t) ∧ Mod w w' NoB := by
  have HH0 := Lib.hid (HAt.start (n := n) (len := l.length) (cap := cap) hE)
  obtain ⟨h0, hh0⟩ : ∃ h0, h0 = w.heap.size := ⟨_, rfl⟩
  obtain ⟨W, hW⟩ : ∃ W, W = w.alloc (.cells #[.int .u64 n, .slice a l.length cap] 25) := ⟨_, rfl⟩
  rw [← hW, ← hh0] at HH0
  have hmx := mixed
  clear hE
  have c1 := HH0.out.c1
  have hmod : k % 6 = 0 ∨ k % 6 = 1 ∨ k % 6 = 2 ∨ k % 6 = 3 ∨ k % 6 = 4 ∨ k % 6 = 5 := by omega
  by_cases hl0 : l.length = 0
  · rw [hl0] at c1 HH0 hW ⊢
    rcases hmod with h6 | h6 | h6 | h6 | h6 | h6
    all_goals
      go_enter Try.func21, Try.ntmps21
      go_wp2_with fail
      go_ret
      exact ⟨_, rfl, ((Mod.refl _ _).alloc _).alloc _⟩
  · have hlp : (0 : Int) < l.length := by omega
    have hli : ¬ (l.length : Int) = 0 := by omega
    by_cases hk5 : 245 < k
    · rcases hmod with h6 | h6 | h6 | h6 | h6 | h6
      all_goals
        go_enter Try.func21, Try.ntmps21
        go_wp2_with fail
        go_ret
        exact ⟨_, rfl, ((Mod.refl _ _).alloc _).alloc _⟩
    · obtain ⟨q, hq⟩ : ∃ q : Nat, k / 3 = (q : Int) := ⟨(k / 3).toNat, by omega⟩
      have hq2 : (q : Int) ≤ 85 := by omega
      obtain ⟨j, hj⟩ : ∃ j : Nat, (q : Int) % (l.length : Int) = (j : Int) := ⟨((q : Int) % (l.length : Int)).toNat, by have := Int.emod_nonneg (q : Int) hli; omega⟩
      have hjl : j < l.length := by have := Int.emod_lt_of_pos (q : Int) hlp; omega
      have hjl2 : (j : Int) < l.length := by omega
      obtain ⟨b, off, x, rfl, hbw, hx, hC⟩ := HH0.out.evs.at hjl
      obtain ⟨c0, _⟩ := hC
      clear hx hbw hmod
      go_enter Try.func21, Try.ntmps21
      go_wp2_with fail
      rw [← hW, ← hh0]
      clear hW hh0
      go_quiet (fail)
      go_wp2_with fail
      go_ret
      exact ⟨_, rfl, (HH0.out.next ((Mod.refl _ _).drewN _)).mod⟩
set_option maxHeartbeats 1000000 in
theorem there_grw (w : World) (u v fr ti t : Int) : Calls Try.prog 20 #[.agg #[.int .u32 u, .int .u32 v, .int .i64 fr, .int .i64 ti], .int .i64 t] w fun e w' => e = .returned (.bool (decide (fr ≤ t ∧ (ti < 0 ∨ t < ti)))) ∧ Grw w w' := by
  by_cases h1 : fr ≤ t
  · by_cases h2 : ti < 0
    · rw [show decide (fr ≤ t ∧ (ti < 0 ∨ t < ti)) = true by simp [h1, h2]]
      go_enter Try.func20, Try.ntmps20
      go_wp2_with fail
      go_ret
      exact ⟨rfl, (Grw.refl _).alloc _⟩
    · by_cases h3 : t < ti
      · rw [show decide (fr ≤ t ∧ (ti < 0 ∨ t < ti)) = true by simp [h1, h3]]
        go_enter Try.func20, Try.ntmps20
        go_wp2_with fail
        go_ret
        exact ⟨rfl, (Grw.refl _).alloc _⟩
      · rw [show decide (fr ≤ t ∧ (ti < 0 ∨ t < ti)) = false by simp [h2, h3]]
        go_enter Try.func20, Try.ntmps20
        go_wp2_with fail
        go_ret
        exact ⟨rfl, (Grw.refl _).alloc _⟩
  · rw [show decide (fr ≤ t ∧ (ti < 0 ∨ t < ti)) = false by simp [h1]]
    go_enter Try.func20, Try.ntmps20
    go_wp2_with fail
    go_ret
    exact ⟨rfl, (Grw.refl _).alloc _⟩
end Go.Proofs.Ythncgmmfnghliaa
