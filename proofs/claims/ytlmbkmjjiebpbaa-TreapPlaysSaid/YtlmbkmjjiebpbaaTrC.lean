/- The contracts of join and split, whole. -/
import Derived.Test.YtlmbkmjjiebpbaaTrBr
import Derived.Test.YtlmbkmjjiebpbaaTrBl
namespace Go.Proofs.Ytlmbkmjjiebpbaa
open Go.RowKit
set_option linter.unusedVariables false

theorem join_any (g b n cap : Nat) : ∀ k : Nat, JoinsTo g b n cap k := by
  intro k
  induction k with
  | zero =>
    intro A B hk w f hP
    obtain rfl : A = .leaf := Tr.ids_nil.1 (List.length_eq_zero_iff.1 (by omega))
    refine (join_leafl w g B.root).mono ?_
    rintro e w1 ⟨rfl, rfl⟩
    exact ⟨B, rfl, f, ⟨hP.inn, Mod.refl _ _, rfl⟩, joined_leafl f hP.tb⟩
  | succ k ih =>
    intro A B hk w f hP
    match A, B with
    | .leaf, B =>
      refine (join_leafl w g B.root).mono ?_
      rintro e w1 ⟨rfl, rfl⟩
      exact ⟨B, rfl, f, ⟨hP.inn, Mod.refl _ _, rfl⟩, joined_leafl f hP.tb⟩
    | .node l x r, .leaf =>
      refine (join_leafr w g x).mono ?_
      rintro e w1 ⟨rfl, rfl⟩
      exact ⟨_, rfl, f, ⟨hP.inn, Mod.refl _ _, rfl⟩, joined_leafr f hP.ta⟩
    | .node l x r, .node l2 y r2 =>
      by_cases hpq : (f y).rank ≤ (f x).rank
      · exact join_first g b n cap k ih l r l2 r2 x y hk w f hP hpq
      · exact join_second g b n cap k ih l r l2 r2 x y hk w f hP hpq
end Go.Proofs.Ytlmbkmjjiebpbaa
