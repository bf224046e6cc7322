/- The reference's arena: the contracts of Same, Index, List, At. -/
import Derived.Test.YtlmbkmjjiebpbaaTrR
namespace Go.Proofs.Ytlmbkmjjiebpbaa
open Go.RowKit
set_option linter.unusedVariables false

theorem find_some {w : World} {T : Nat → Prop} {h n : Nat} {L : List (List Nat)} {x : Int} {i k : Nat} (hR : RA h n L w T) (hf : fnd L x = some (i, k)) :
    Calls Try.prog 29 #[.pointer (some ⟨h, 0, none⟩), .int .i64 x] w fun e w' => e = .returned (.tuple #[.int .i64 i, .int .i64 k]) ∧ w = w' := by
  have := find_any w T h n L x hR
  unfold fres at this
  rwa [hf] at this
theorem find_none {w : World} {T : Nat → Prop} {h n : Nat} {L : List (List Nat)} {x : Int} (hR : RA h n L w T) (hf : fnd L x = none) :
    Calls Try.prog 29 #[.pointer (some ⟨h, 0, none⟩), .int .i64 x] w fun e w' => e = .returned (.tuple #[.int .i64 (-1), .int .i64 (-1)]) ∧ w = w' := by
  have := find_any w T h n L x hR
  unfold fres at this
  rwa [hf] at this

theorem rindex_any (w : World) (T : Nat → Prop) (h n : Nat) (L : List (List Nat)) (x : Int) (hR : RA h n L w T) :
    Calls Try.prog 18 #[.pointer (some ⟨h, 0, none⟩), .int .i64 x] w fun e w' => e = .returned (.int .i64 (idx L x)) ∧ w = w' := by
  have HR := Lib.hid hR
  clear hR
  cases hf : fnd L x with
  | some p =>
    obtain ⟨i, k⟩ := p
    rw [show idx L x = k by unfold idx; rw [hf]]
    go_enter Try.func18, Try.ntmps18
    go_wp2_with fail
    refine (find_some HR.out hf).mono ?_
    rintro e w1 ⟨rfl, rfl⟩
    go_wp2_with fail
    go_ret
    exact ⟨rfl, rfl⟩
  | none =>
    rw [show idx L x = -1 by unfold idx; rw [hf]]
    go_enter Try.func18, Try.ntmps18
    go_wp2_with fail
    refine (find_none HR.out hf).mono ?_
    rintro e w1 ⟨rfl, rfl⟩
    go_wp2_with fail
    go_ret
    exact ⟨rfl, rfl⟩

theorem rsame_any (w : World) (T : Nat → Prop) (h n : Nat) (L : List (List Nat)) (x y : Int) (hR : RA h n L w T) :
    Calls Try.prog 16 #[.pointer (some ⟨h, 0, none⟩), .int .i64 x, .int .i64 y] w fun e w' => e = .returned (.bool (same L x y)) ∧ w = w' := by
  have HR := Lib.hid hR
  clear hR
  cases hf : fnd L x with
  | some p =>
    obtain ⟨i, k⟩ := p
    cases hg : fnd L y with
    | some q =>
      obtain ⟨j, m⟩ := q
      rw [show same L x y = ((i : Int) == (j : Int)) by unfold same; rw [hf, hg]; rw [Bool.eq_iff_iff]; simp; omega]
      go_enter Try.func16, Try.ntmps16
      go_wp2_with fail
      refine (find_some HR.out hf).mono ?_
      rintro e w1 ⟨rfl, rfl⟩
      go_wp2_with fail
      refine (find_some HR.out hg).mono ?_
      rintro e w1 ⟨rfl, rfl⟩
      go_wp2_with fail
      go_ret
      first | exact ⟨rfl, rfl⟩ | (refine ⟨?_, rfl⟩; simp [Act.put])
    | none =>
      rw [show same L x y = false by unfold same; rw [hf, hg]]
      have hb : ((i : Int) == -1) = false := by simp
      go_enter Try.func16, Try.ntmps16
      go_wp2_with fail
      refine (find_some HR.out hf).mono ?_
      rintro e w1 ⟨rfl, rfl⟩
      go_wp2_with fail
      refine (find_none HR.out hg).mono ?_
      rintro e w1 ⟨rfl, rfl⟩
      go_wp2_with fail
      go_ret
      exact ⟨rfl, rfl⟩
  | none =>
    rw [show same L x y = false by unfold same; rw [hf]]
    cases hg : fnd L y with
    | some q =>
      obtain ⟨j, m⟩ := q
      go_enter Try.func16, Try.ntmps16
      go_wp2_with fail
      refine (find_none HR.out hf).mono ?_
      rintro e w1 ⟨rfl, rfl⟩
      go_wp2_with fail
      refine (find_some HR.out hg).mono ?_
      rintro e w1 ⟨rfl, rfl⟩
      go_wp2_with fail
      go_ret
      exact ⟨rfl, rfl⟩
    | none =>
      go_enter Try.func16, Try.ntmps16
      go_wp2_with fail
      refine (find_none HR.out hf).mono ?_
      rintro e w1 ⟨rfl, rfl⟩
      go_wp2_with fail
      refine (find_none HR.out hg).mono ?_
      rintro e w1 ⟨rfl, rfl⟩
      go_wp2_with fail
      go_ret
      exact ⟨rfl, rfl⟩

theorem rlist_any (w : World) (T : Nat → Prop) (h n : Nat) (L : List (List Nat)) (x : Int) (hR : RA h n L w T) :
    Calls Try.prog 20 #[.pointer (some ⟨h, 0, none⟩), .int .i64 x] w fun e w' => ∃ a cap, e = .returned (.slice a (lst L x).length cap) ∧ Rd w T (.slice a (lst L x).length cap) (lst L x) ∧ w = w' := by
  have HR := Lib.hid hR
  obtain ⟨a, cap, c1, hh, hLl, hrows⟩ := hR.head
  clear hR
  cases hf : fnd L x with
  | some p =>
    obtain ⟨i, k⟩ := p
    obtain ⟨l, y, hl, _, _⟩ := fnd_some hf
    obtain ⟨ob, b, icap, rfl, q1, q2, q3, q4, q5, q6, q7, q8, qT, q9⟩ := hrows i l hl
    have hil : i < L.length := (List.getElem?_eq_some_iff.1 hl).1
    have hil' : (i : Int) < L.length := by omega
    have hlst : lst L x = l := by unfold lst; rw [hf]; simp only; rw [List.getD_eq_getElem?_getD, hl]; rfl
    rw [hlst]
    have HC := Lib.hid (And.intro q9 qT)
    clear hrows hlst hl q9
    go_enter Try.func20, Try.ntmps20
    go_wp2_with fail
    refine (find_some HR.out hf).mono ?_
    rintro e w1 ⟨rfl, rfl⟩
    go_wp2_with fail
    go_ret
    exact ⟨_, _, rfl, ⟨_, _, rfl, q7, Or.inr ⟨b, rfl, HC.out.2, q5, by unfold maxLen; exact q6, HC.out.1⟩⟩, rfl⟩
  | none =>
    have hlst : lst L x = [] := by unfold lst; rw [hf]
    rw [hlst]
    clear hlst hrows
    go_enter Try.func20, Try.ntmps20
    go_wp2_with fail
    refine (find_none HR.out hf).mono ?_
    rintro e w1 ⟨rfl, rfl⟩
    go_wp2_with fail
    go_ret
    exact ⟨none, 0, rfl, ⟨_, _, rfl, by simp, Or.inl rfl⟩, rfl⟩

theorem rat_any (w : World) (T : Nat → Prop) (h n : Nat) (L : List (List Nat)) (x i : Int) (hR : RA h n L w T) :
    Calls Try.prog 24 #[.pointer (some ⟨h, 0, none⟩), .int .i64 x, .int .i64 i] w fun e w' => e = .returned (.int .i64 (atL (lst L x) i)) ∧ w = w' := by
  have HR := Lib.hid hR
  clear hR
  obtain ⟨l, hl⟩ : ∃ l, lst L x = l := ⟨_, rfl⟩
  have hcall := rlist_any w T h n L x HR.out
  rw [hl] at hcall ⊢
  have HC := Lib.hid hcall
  clear hcall hl HR
  by_cases hi : 0 ≤ i ∧ i < l.length
  · have hres : atL l i = ((l.getD i.toNat 0 : Nat) : Int) := by unfold atL; rw [if_pos hi]
    have HS := Lib.hid hres
    have hi0 := hi.1
    have hi1 : ¬ ((l.length : Int) ≤ i) := by omega
    have hi2 := hi.2
    clear hres hi
    obtain ⟨k, rfl⟩ : ∃ k : Nat, i = k := ⟨i.toNat, by omega⟩
    go_enter Try.func24, Try.ntmps24
    go_wp2_with fail
    refine HC.out.mono ?_
    rintro e w1 ⟨a, cap, rfl, hrd, rfl⟩
    obtain ⟨b, rfl, r1, r2, r3⟩ : ∃ b, a = some ⟨b, 0, none⟩ ∧ l.length ≤ cap ∧ cap ≤ 2 ^ 63 - 1 ∧ w.cell? ⟨b, k, none⟩ = some (.int .i64 ((l.getD k 0 : Nat) : Int)) := by
      obtain ⟨a', cap', e, hle, hx⟩ := hrd
      simp only [Value.slice.injEq, true_and] at e
      obtain ⟨rfl, rfl⟩ := e
      rcases hx with h0 | ⟨b, hb, _, h1, h2, hc⟩
      · rw [h0] at hi2; simp at hi2; omega
      · exact ⟨b, hb, h1, by unfold maxLen at h2; exact h2, hc k (by omega)⟩
    clear hrd HC
    go_wp2_with fail
    go_ret
    exact ⟨by rw [HS.out]; rfl, rfl⟩
  · have hres : atL l i = -1 := by unfold atL; rw [if_neg hi]
    rw [hres]
    by_cases h0 : i < 0
    · clear hres hi
      go_enter Try.func24, Try.ntmps24
      go_wp2_with fail
      refine HC.out.mono ?_
      rintro e w1 ⟨a, cap, rfl, hrd, rfl⟩
      clear hrd HC
      go_wp2_with fail
      go_ret
      exact ⟨rfl, rfl⟩
    · have h1 : (l.length : Int) ≤ i := by omega
      clear hres hi
      go_enter Try.func24, Try.ntmps24
      go_wp2_with fail
      refine HC.out.mono ?_
      rintro e w1 ⟨a, cap, rfl, hrd, rfl⟩
      clear hrd HC
      go_wp2_with fail
      go_ret
      exact ⟨rfl, rfl⟩
end Go.Proofs.Ytlmbkmjjiebpbaa
