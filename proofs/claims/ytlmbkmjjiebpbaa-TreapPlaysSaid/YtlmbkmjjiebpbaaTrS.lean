/- The contract of split. -/
import Derived.Test.YtlmbkmjjiebpbaaTrB
namespace Go.Proofs.Ytlmbkmjjiebpbaa
open Go.RowKit
set_option linter.unusedVariables false

theorem split_leaf (w : World) (g : Nat) (z : Int) : Calls Try.prog 30 #[.pointer (some ⟨g, 0, none⟩), .int .i64 (-1), .int .i64 z] w fun e w' => e = .returned (.tuple #[.int .i64 (-1), .int .i64 (-1)]) ∧ w = w' := by
  go_enter Try.func30, Try.ntmps30
  go_wp2_with fail
  go_ret2
  exact ⟨rfl, rfl⟩

set_option maxHeartbeats 2000000 in
theorem split_any (g b n cap : Nat) : ∀ (T : Tr) (m : Nat), m ≤ 1048576 → ∀ (w : World) (f : Nat → Nd), Pre1 w g b n cap f T →
    Calls Try.prog 30 #[.pointer (some ⟨g, 0, none⟩), .int .i64 T.root, .int .i64 m] w fun e w' => ∃ A B, e = .returned (.tuple #[.int .i64 A.root, .int .i64 B.root]) ∧ SplitPost w w' g b n cap f T A B m := by
  intro T
  induction T with
  | leaf =>
    intro m hm w f hP
    refine (split_leaf w g m).mono ?_
    rintro e w1 ⟨rfl, rfl⟩
    exact ⟨.leaf, .leaf, rfl, f, ⟨hP.inn, Mod.refl _ _, rfl⟩, parted_leaf f m⟩
  | node l x r ihl ihr =>
    intro m hm w f hP
    show Calls Try.prog 30 #[.pointer (some ⟨g, 0, none⟩), .int .i64 (x : Int), .int .i64 m] w _
    have hx : x < n := hP.lt x (by simp [Tr.ids])
    have hxi : (x : Int) < n := by omega
    obtain ⟨_, cx1, cx2, _, _⟩ := hP.inn.cell hx
    have ex1 := hP.ta.1
    have ex2 := hP.ta.2.1
    rw [ex1] at cx1
    rw [ex2] at cx2
    have cg := hP.inn.c0
    have hg := hP.inn.gl
    have hb := hP.inn.bl
    have htop := hP.inn.top
    have hcap := hP.inn.capb (by omega)
    unfold maxLen at hcap
    have hnx : ((x : Int) == -1) = false := by simp
    have hl : l.ids.length ≤ 1048576 := Nat.le_trans (nodup_len n _ hP.left.nd hP.left.lt) htop
    have HO := Lib.hid (Ok.root (n := n) hP.left.lt)
    have HZ := Lib.hid hP.left.ta.sz
    have HP := Lib.hid hP
    have HL := Lib.hid ihl
    have HR := Lib.hid ihr
    clear ex1 ex2 hP ihl ihr
    by_cases hml : l.ids.length < m
    · have hmi : (l.ids.length : Int) < m := by omega
      go_enter Try.func30, Try.ntmps30
      go_wp2_with fail
      go_region
      go_wp2_with fail
      refine (size_any _ _ _ _ _ _ _ HP.out.drew.inn HO.out).mono ?_
      rintro e w1 ⟨rfl, rfl⟩
      rw [HZ.out]
      go_wp2_with fail
      have he : (m : Int) - (l.ids.length : Int) - 1 = ((m - l.ids.length - 1 : Nat) : Int) := by omega
      rw [he]
      refine (HR.out (m - l.ids.length - 1) (by omega) _ _ HP.out.drew.right).mono ?_
      rintro e w1 ⟨A, B, rfl, h5⟩
      obtain ⟨f1, q1, q2, q3, q4, q5, q6⟩ := smid_right HP.out.drew hml h5
      have H5 := Lib.hid (And.intro q1 (And.intro q2 (And.intro q3 (And.intro q4 (And.intro q5 q6)))))
      clear q1 q2 q3 q4 q5 q6 h5 he
      go_wp2_with fail
      refine (set_any _ _ _ _ _ _ _ _ _ H5.out.1 hx H5.out.2.1 H5.out.2.2.1 H5.out.2.2.2.1 H5.out.2.2.2.2.1).mono ?_
      rintro e w6 ⟨rfl, h6⟩
      have H6 := Lib.hid (H5.out.2.2.2.2.2 _ h6)
      clear h6
      go_wp2_with fail
      go_ret2
      obtain ⟨f9, s9, j9⟩ := H6.out
      exact ⟨_, B, rfl, f9, s9.drewL1, j9⟩
    · have hml2 : m ≤ l.ids.length := by omega
      have hmi : ¬ (l.ids.length : Int) < m := by omega
      clear hml
      go_enter Try.func30, Try.ntmps30
      go_wp2_with fail
      go_region
      go_wp2_with fail
      refine (size_any _ _ _ _ _ _ _ HP.out.drew.inn HO.out).mono ?_
      rintro e w1 ⟨rfl, rfl⟩
      rw [HZ.out]
      go_wp2_with fail
      refine (HL.out m hm _ _ HP.out.drew.left).mono ?_
      rintro e w1 ⟨A, B, rfl, h5⟩
      obtain ⟨f1, q1, q2, q3, q4, q5, q6⟩ := smid_left HP.out.drew hml2 h5
      have H5 := Lib.hid (And.intro q1 (And.intro q2 (And.intro q3 (And.intro q4 (And.intro q5 q6)))))
      clear q1 q2 q3 q4 q5 q6 h5
      go_wp2_with fail
      refine (set_any _ _ _ _ _ _ _ _ _ H5.out.1 hx H5.out.2.1 H5.out.2.2.1 H5.out.2.2.2.1 H5.out.2.2.2.2.1).mono ?_
      rintro e w6 ⟨rfl, h6⟩
      have H6 := Lib.hid (H5.out.2.2.2.2.2 _ h6)
      clear h6
      go_wp2_with fail
      go_ret2
      obtain ⟨f9, s9, j9⟩ := H6.out
      exact ⟨A, _, rfl, f9, s9.drewL1, j9⟩
end Go.Proofs.Ytlmbkmjjiebpbaa
