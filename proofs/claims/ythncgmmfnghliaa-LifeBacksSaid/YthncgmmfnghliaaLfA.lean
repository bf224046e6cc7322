/- The contracts of cmp and of package edge. -/
import Derived.Test.YthncgmmfnghliaaProg
import Derived.Test.YthncgmmfnghliaaMem
import Derived.Test.YthncgmmfnghliaaLfP
import Derived.WalkSpells
import Derived.WalkLawsBesides
import Derived.Lib.Hide
import Derived.BigQuiet
import Derived.Outline
namespace Go.Proofs.Ythncgmmfnghliaa
open Go.RowKit
set_option linter.unusedVariables false

/-- w' is w with draws, and new blocks behind. -/
def Grw (w w' : World) : Prop := ∃ (q : Nat) (os : Array Obj), w' = { w with heap := w.heap ++ os, drawn := w.drawn + q }
namespace Grw
variable {a b c w : World}
theorem refl (w : World) : Grw w w := ⟨0, #[], by simp⟩
theorem alloc (h : Grw a w) (o : Obj) : Grw a (w.alloc o) := by
  obtain ⟨q, os, rfl⟩ := h
  exact ⟨q, os.push o, by unfold World.alloc; rw [Array.append_push]⟩
theorem drew (h : Grw a w) : Grw a w.drew := by
  obtain ⟨q, os, rfl⟩ := h
  exact ⟨q + 1, os, rfl⟩
theorem trans (h : Grw a b) (k : Grw b c) : Grw a c := by
  obtain ⟨q, os, rfl⟩ := h
  obtain ⟨q', os', rfl⟩ := k
  exact ⟨q + q', os ++ os', by simp [Array.append_assoc, Nat.add_assoc]⟩
theorem mod (h : Grw a b) : Mod a b NoB := by
  obtain ⟨q, os, rfl⟩ := h
  exact ⟨rfl, rfl, rfl, by simp, fun k hk _ => by simp [Array.getElem?_append, hk]⟩
end Grw

/-- How two numbers stand. -/
def cmpI (x y : Int) : Int := if x < y then -1 else if y < x then 1 else 0

theorem nan64_any (w : World) (x : Int) : Calls Try.prog 56 #[.int .i64 x] w fun e w' => e = .returned (.bool false) ∧ w = w' := by
  have hb : (x != x) = false := by simp
  go_enter Try.func56, Try.ntmps56
  go_wp2_with fail
  go_ret
  exact ⟨rfl, rfl⟩
theorem nan32_any (w : World) (x : Int) : Calls Try.prog 78 #[.int .u32 x] w fun e w' => e = .returned (.bool false) ∧ w = w' := by
  have hb : (x != x) = false := by simp
  go_enter Try.func78, Try.ntmps78
  go_wp2_with fail
  go_ret
  exact ⟨rfl, rfl⟩
theorem cmp64_any (w : World) (x y : Int) : Calls Try.prog 35 #[.int .i64 x, .int .i64 y] w fun e w' => e = .returned (.int .i64 (cmpI x y)) ∧ w = w' := by
  unfold cmpI
  by_cases h1 : x < y
  · rw [if_pos h1]
    go_enter Try.func35, Try.ntmps35
    go_wp2_with fail
    refine (nan64_any _ _).mono ?_
    rintro e w1 ⟨rfl, rfl⟩
    go_wp2_with fail
    refine (nan64_any _ _).mono ?_
    rintro e w1 ⟨rfl, rfl⟩
    go_wp2_with fail
    go_ret
    exact ⟨rfl, rfl⟩
  · rw [if_neg h1]
    by_cases h2 : y < x
    · rw [if_pos h2]
      go_enter Try.func35, Try.ntmps35
      go_wp2_with fail
      refine (nan64_any _ _).mono ?_
      rintro e w1 ⟨rfl, rfl⟩
      go_wp2_with fail
      refine (nan64_any _ _).mono ?_
      rintro e w1 ⟨rfl, rfl⟩
      go_wp2_with fail
      go_ret
      exact ⟨rfl, rfl⟩
    · rw [if_neg h2]
      go_enter Try.func35, Try.ntmps35
      go_wp2_with fail
      refine (nan64_any _ _).mono ?_
      rintro e w1 ⟨rfl, rfl⟩
      go_wp2_with fail
      refine (nan64_any _ _).mono ?_
      rintro e w1 ⟨rfl, rfl⟩
      go_wp2_with fail
      go_ret
      exact ⟨rfl, rfl⟩
theorem cmp32_any (w : World) (x y : Int) : Calls Try.prog 59 #[.int .u32 x, .int .u32 y] w fun e w' => e = .returned (.int .i64 (cmpI x y)) ∧ w = w' := by
  unfold cmpI
  by_cases h1 : x < y
  · rw [if_pos h1]
    go_enter Try.func59, Try.ntmps59
    go_wp2_with fail
    refine (nan32_any _ _).mono ?_
    rintro e w1 ⟨rfl, rfl⟩
    go_wp2_with fail
    refine (nan32_any _ _).mono ?_
    rintro e w1 ⟨rfl, rfl⟩
    go_wp2_with fail
    go_ret
    exact ⟨rfl, rfl⟩
  · rw [if_neg h1]
    by_cases h2 : y < x
    · rw [if_pos h2]
      go_enter Try.func59, Try.ntmps59
      go_wp2_with fail
      refine (nan32_any _ _).mono ?_
      rintro e w1 ⟨rfl, rfl⟩
      go_wp2_with fail
      refine (nan32_any _ _).mono ?_
      rintro e w1 ⟨rfl, rfl⟩
      go_wp2_with fail
      go_ret
      exact ⟨rfl, rfl⟩
    · rw [if_neg h2]
      go_enter Try.func59, Try.ntmps59
      go_wp2_with fail
      refine (nan32_any _ _).mono ?_
      rintro e w1 ⟨rfl, rfl⟩
      go_wp2_with fail
      refine (nan32_any _ _).mono ?_
      rintro e w1 ⟨rfl, rfl⟩
      go_wp2_with fail
      go_ret
      exact ⟨rfl, rfl⟩

/-- The first of two that is not 0. -/
def orI (x y : Int) : Int := if x = 0 then y else x
theorem or2_any (w : World) (b : Nat) (x y : Int) (c0 : w.cell? ⟨b, 0, none⟩ = some (.int .i64 x)) (c1 : w.cell? ⟨b, 1, none⟩ = some (.int .i64 y)) :
    Calls Try.prog 34 #[.slice (some ⟨b, 0, none⟩) 2 2] w fun e w' => e = .returned (.int .i64 (orI x y)) ∧ w = w' := by
  have hb := World.block_lt_of_cell? _ _ c0
  have HX : Hid (x = 0 → orI x y = y) := fun h => if_pos h
  have HY : Hid (x ≠ 0 → orI x y = x) := fun h => if_neg h
  obtain ⟨wo, rfl⟩ : ∃ wo, wo = w := ⟨_, rfl⟩
  go_enter Try.func34, Try.ntmps34
  go_wp2_with fail
  go_loopw [8] (fun i wr => wr = wo ∧ (i = .int .i64 0 ∨ (i = .int .i64 1 ∧ Hid (x = 0)) ∨ (i = .int .i64 2 ∧ Hid (x = 0 ∧ y = 0)))) (fun i _ => 2 - (intOf i).toNat)
  case atStart => exact ⟨rfl, Or.inl rfl⟩
  case round =>
    obtain ⟨rfl, rfl | ⟨rfl, HZ⟩ | ⟨rfl, HZ⟩⟩ := hrel
    · by_cases hx : x = 0
      · have hb1 : (x != 0) = false := by simp [hx]
        have HZ := Lib.hid hx
        clear hx
        go_wp2_with fail
        go_roundw
        case rel => exact ⟨by first | rfl | trivial, Or.inr (Or.inl ⟨rfl, HZ⟩)⟩
        case measure => simp [intOf]
      · have hb1 : (x != 0) = true := by simp [hx]
        have HZ := Lib.hid hx
        clear hx
        go_wp2_with fail
        go_ret
        exact ⟨by rw [HY.out HZ.out]; rfl, rfl⟩
    · by_cases hy : y = 0
      · have hb1 : (y != 0) = false := by simp [hy]
        have HW := Lib.hid hy
        clear hy
        go_wp2_with fail
        go_roundw
        case rel => exact ⟨by first | rfl | trivial, Or.inr (Or.inr ⟨rfl, HZ.out, HW.out⟩)⟩
        case measure => simp [intOf]
      · have hb1 : (y != 0) = true := by simp [hy]
        clear hy
        go_wp2_with fail
        go_ret
        exact ⟨by rw [HX.out HZ.out]; rfl, rfl⟩
    · go_wp2_with fail
      go_ret
      exact ⟨by rw [HX.out HZ.out.1, HZ.out.2]; rfl, rfl⟩

theorem right_any (w : World) (u v n : Int) (hv : 0 ≤ v ∧ v ≤ 4294967295) : Calls Try.prog 38 #[.agg #[.int .u32 u, .int .u32 v], .int .u64 n] w fun e w' => e = .returned (.bool (decide (right ⟨u, v⟩ n))) ∧ Mod w w' NoB := by
  unfold right
  have hwr : IntKind.u64.wrap v = v := IntWalk.u64_in _ (by omega)
  by_cases h1 : u < v
  · by_cases h2 : v < n
    · rw [show decide (u < v ∧ v < n) = true by simp [h1, h2]]
      go_enter Try.func38, Try.ntmps38
      go_wp2_with fail
      go_ret
      exact ⟨rfl, (Mod.refl _ _).alloc _⟩
    · rw [show decide (u < v ∧ v < n) = false by simp [h2]]
      go_enter Try.func38, Try.ntmps38
      go_wp2_with fail
      go_ret
      exact ⟨rfl, (Mod.refl _ _).alloc _⟩
  · rw [show decide (u < v ∧ v < n) = false by simp [h1]]
    go_enter Try.func38, Try.ntmps38
    go_wp2_with fail
    go_ret
    exact ⟨rfl, (Mod.refl _ _).alloc _⟩
end Go.Proofs.Ythncgmmfnghliaa
