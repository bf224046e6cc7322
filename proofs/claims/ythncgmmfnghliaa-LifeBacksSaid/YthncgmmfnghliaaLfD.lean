/- The contract of edge.Before. -/
import Derived.Test.YthncgmmfnghliaaLfC
namespace Go.Proofs.Ythncgmmfnghliaa
open Go.RowKit
set_option linter.unusedVariables false

theorem cmp_before (t u v s x y : Int) (a b : Bool) : orI (cmpI t s) (orI (cmpI u x) (cmpI v y)) < 0 ↔ before ⟨t, ⟨u, v⟩, a⟩ ⟨s, ⟨x, y⟩, b⟩ := by
  have h := cmp_edLt u v x y
  unfold before
  simp only
  rw [← h]
  generalize orI (cmpI u x) (cmpI v y) = z
  unfold orI cmpI
  by_cases h1 : t < s
  · simp [h1]
  · by_cases h2 : s < t
    · simp [h1, h2]; omega
    · have h3 : t = s := by omega
      subst h3
      simp

set_option maxHeartbeats 2000000 in
theorem before_grw (w : World) (t u v s x y : Int) (a b : Bool) : Calls Try.prog 44 #[.agg #[.int .i64 t, .int .u32 u, .int .u32 v, .bool a], .agg #[.int .i64 s, .int .u32 x, .int .u32 y, .bool b]] w
    fun e w' => e = .returned (.bool (decide (before ⟨t, ⟨u, v⟩, a⟩ ⟨s, ⟨x, y⟩, b⟩))) ∧ Grw w w' := by
  have hb : decide (orI (cmpI t s) (orI (cmpI u x) (cmpI v y)) < 0) = decide (before ⟨t, ⟨u, v⟩, a⟩ ⟨s, ⟨x, y⟩, b⟩) := decide_eq_decide.2 (cmp_before t u v s x y a b)
  rw [← hb]
  clear hb
  go_enter Try.func44, Try.ntmps44
  go_wp2_with fail
  obtain ⟨p, hp⟩ : ∃ p, p = w.heap.size := ⟨_, rfl⟩
  obtain ⟨W, hW⟩ : ∃ W, W = (w.alloc (.cells #[.int .i64 t, .int .u32 u, .int .u32 v, .bool a] 65)).alloc (.cells #[.int .i64 s, .int .u32 x, .int .u32 y, .bool b] 65) := ⟨_, rfl⟩
  have HM : Hid (Grw w W) := by rw [hW]; exact ((Grw.refl _).alloc _).alloc _
  have hs1 : (w.alloc (.cells #[.int .i64 t, .int .u32 u, .int .u32 v, .bool a] 65)).heap.size = w.heap.size + 1 := by simp
  have lt1 : w.heap.size < (w.alloc (.cells #[.int .i64 t, .int .u32 u, .int .u32 v, .bool a] 65)).heap.size := by rw [hs1]; omega
  have hD : (W.cell? ⟨p, 0, none⟩ = some (.int .i64 t) ∧ W.cell? ⟨p, 1, none⟩ = some (.int .u32 u) ∧ W.cell? ⟨p, 2, none⟩ = some (.int .u32 v)) ∧
      W.cell? ⟨p + 1, 0, none⟩ = some (.int .i64 s) ∧ W.cell? ⟨p + 1, 1, none⟩ = some (.int .u32 x) ∧ W.cell? ⟨p + 1, 2, none⟩ = some (.int .u32 y) := by
    rw [hW, hp]
    exact ⟨⟨(World.cell?_alloc_lt _ _ _ lt1).trans (World.cell?_alloc_at _ _ _ _ rfl), (World.cell?_alloc_lt _ _ _ lt1).trans (World.cell?_alloc_at _ _ _ _ rfl), (World.cell?_alloc_lt _ _ _ lt1).trans (World.cell?_alloc_at _ _ _ _ rfl)⟩,
      World.cell?_alloc_at _ _ _ _ hs1.symm, World.cell?_alloc_at _ _ _ _ hs1.symm, World.cell?_alloc_at _ _ _ _ hs1.symm⟩
  rw [← hW, ← hp]
  clear hW hs1 hp lt1
  obtain ⟨⟨c0, c1, c2⟩, d0, d1, d2⟩ := hD
  have HC : Hid ((W.drew.cell? ⟨p, 0, none⟩ = some (.int .i64 t) ∧ W.drew.cell? ⟨p, 1, none⟩ = some (.int .u32 u) ∧ W.drew.cell? ⟨p, 2, none⟩ = some (.int .u32 v)) ∧
      W.drew.cell? ⟨p + 1, 0, none⟩ = some (.int .i64 s) ∧ W.drew.cell? ⟨p + 1, 1, none⟩ = some (.int .u32 x) ∧ W.drew.cell? ⟨p + 1, 2, none⟩ = some (.int .u32 y)) := ⟨⟨c0, c1, c2⟩, d0, d1, d2⟩
  go_region_held3 (fun z => (z.cell? ⟨p, 0, none⟩ = some (.int .i64 t) ∧ z.cell? ⟨p, 1, none⟩ = some (.int .u32 u) ∧ z.cell? ⟨p, 2, none⟩ = some (.int .u32 v)) ∧
      z.cell? ⟨p + 1, 0, none⟩ = some (.int .i64 s) ∧ z.cell? ⟨p + 1, 1, none⟩ = some (.int .u32 x) ∧ z.cell? ⟨p + 1, 2, none⟩ = some (.int .u32 y))
    (first | exact ⟨⟨c0, c1, c2⟩, d0, d1, d2⟩ | exact H5.out.1 | exact ⟨⟨keepc H5.out.1.1.1 ((Mod.refl _ NoB).alloc _), keepc H5.out.1.1.2.1 ((Mod.refl _ NoB).alloc _), keepc H5.out.1.1.2.2 ((Mod.refl _ NoB).alloc _)⟩, keepc H5.out.1.2.1 ((Mod.refl _ NoB).alloc _), keepc H5.out.1.2.2.1 ((Mod.refl _ NoB).alloc _), keepc H5.out.1.2.2.2 ((Mod.refl _ NoB).alloc _)⟩)
    (first
    | (go_at_call 35; refine (cmp64_any _ _ _).mono ?_; rintro e w2 ⟨rfl, rfl⟩)
    | (go_at_call 53; refine (compare_grw _ _ _ _ _).mono ?_; rintro e w5 ⟨rfl, hm5⟩; have H5 := Lib.hid (And.intro (And.intro (And.intro (keepc HC.out.1.1 hm5.mod) (And.intro (keepc HC.out.1.2.1 hm5.mod) (keepc HC.out.1.2.2 hm5.mod))) (And.intro (keepc HC.out.2.1 hm5.mod) (And.intro (keepc HC.out.2.2.1 hm5.mod) (keepc HC.out.2.2.2 hm5.mod)))) hm5); clear hm5)
    | (go_at_call 34; refine (or2_any _ _ (cmpI t s) (orI (cmpI u x) (cmpI v y)) (World.cell?_alloc_at _ _ _ _ rfl) (World.cell?_alloc_at _ _ _ _ rfl)).mono ?_; rintro e w2 ⟨rfl, rfl⟩))
  all_goals
    go_wp2_with fail
    go_ret
    exact ⟨rfl, (HM.out.drew.trans H5.out.2).alloc _⟩
theorem before_any (w : World) (t u v s x y : Int) (a b : Bool) : Calls Try.prog 44 #[.agg #[.int .i64 t, .int .u32 u, .int .u32 v, .bool a], .agg #[.int .i64 s, .int .u32 x, .int .u32 y, .bool b]] w
    fun e w' => e = .returned (.bool (decide (before ⟨t, ⟨u, v⟩, a⟩ ⟨s, ⟨x, y⟩, b⟩))) ∧ Mod w w' NoB :=
  (before_grw w t u v s x y a b).mono fun _ _ h => ⟨h.1, h.2.mod⟩
end Go.Proofs.Ythncgmmfnghliaa
