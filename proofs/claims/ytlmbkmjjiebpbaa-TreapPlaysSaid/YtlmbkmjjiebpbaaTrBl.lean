/- The contract of join: the root is of the second one. -/
import Derived.Test.YtlmbkmjjiebpbaaTrB
namespace Go.Proofs.Ytlmbkmjjiebpbaa
open Go.RowKit
set_option linter.unusedVariables false

set_option maxHeartbeats 2000000 in
theorem join_second (g b n cap k : Nat) (ih : JoinsTo g b n cap k) (l r l2 r2 : Tr) (x y : Nat) (hk : (Tr.node l x r).ids.length + (Tr.node l2 y r2).ids.length ≤ k + 1) (w : World) (f : Nat → Nd) (hP : Pre w g b n cap f (.node l x r) (.node l2 y r2)) (hpq : ¬ (f y).rank ≤ (f x).rank) :
    Calls Try.prog 28 #[.pointer (some ⟨g, 0, none⟩), .int .i64 (x : Int), .int .i64 (y : Int)] w fun e w' => ∃ C, e = .returned (.int .i64 C.root) ∧ JoinPost w w' g b n cap f (.node l x r) (.node l2 y r2) C := by
  have hx : x < n := hP.lt x (by simp [Tr.ids])
  have hy : y < n := hP.lt y (by simp [Tr.ids])
  have hxi : (x : Int) < n := by omega
  have hyi : (y : Int) < n := by omega
  obtain ⟨_, cx1, cx2, _, cx4⟩ := hP.inn.cell hx
  obtain ⟨_, cy1, cy2, _, cy4⟩ := hP.inn.cell hy
  have ex1 := hP.ta.1
  have ex2 := hP.ta.2.1
  have ey1 := hP.tb.1
  have ey2 := hP.tb.2.1
  rw [ex1] at cx1
  rw [ex2] at cx2
  rw [ey1] at cy1
  rw [ey2] at cy2
  have cg := hP.inn.c0
  have hg := hP.inn.gl
  have hb := hP.inn.bl
  have htop := hP.inn.top
  have hcap := hP.inn.capb (by omega)
  unfold maxLen at hcap
  have hnx : ((x : Int) == -1) = false := by simp
  have hny : ((y : Int) == -1) = false := by simp
  have hk1 : r.ids.length + (Tr.node l2 y r2).ids.length ≤ k := by simp [Tr.ids] at hk ⊢; omega
  have hk2 : (Tr.node l x r).ids.length + l2.ids.length ≤ k := by simp [Tr.ids] at hk ⊢; omega
  have HP := Lib.hid hP
  have IH := Lib.hid ih
  obtain ⟨p, hp⟩ : ∃ p, p = (f x).rank := ⟨_, rfl⟩
  obtain ⟨q, hq⟩ : ∃ q, q = (f y).rank := ⟨_, rfl⟩
  rw [← hp, ← hq] at hpq
  rw [← hp] at cx4
  rw [← hq] at cy4
  have hnb : ¬ OneB b g := by unfold OneB; exact fun e => hP.inn.ne e.symm
  clear hp hq ex1 ex2 ey1 ey2 hP ih hk
  go_enter Try.func28, Try.ntmps28
  go_wp2_with fail
  go_region
  have HD := Lib.hid HP.out.drew.drew.left
  go_wp2_with fail
  go_region_with (first
    | (go_at_call 28; refine (IH.out _ _ hk2 _ _ HD.out).mono ?_; rintro e w5 ⟨C, rfl, h5⟩; obtain ⟨f1, q1, q2, q3, q4, q5, q6, q7⟩ := mid_left HP.out.drew.drew h5; have qc := (q1.cell hy).2.2.1; rw [q2] at qc; have qg := q1.c0; have ql := q1.gl; have qb := q1.bl; have H5 := Lib.hid (And.intro q1 (And.intro q3 (And.intro q4 (And.intro q5 (And.intro q6 q7))))); clear q1 q2 q3 q4 q5 q6 q7 h5)
    | (go_at_call 33; refine (set_any _ _ _ _ _ _ _ _ _ H5.out.1 hy H5.out.2.1 H5.out.2.2.1 H5.out.2.2.2.1 H5.out.2.2.2.2.1).mono ?_; rintro e w6 ⟨rfl, h6⟩; have H6 := Lib.hid (H5.out.2.2.2.2.2 _ h6); clear h6))
  all_goals
    go_wp2_with fail
    go_ret
    obtain ⟨f9, s9, j9⟩ := H6.out
    exact ⟨_, rfl, f9, s9.drewL1.drewL1, j9⟩
end Go.Proofs.Ytlmbkmjjiebpbaa
