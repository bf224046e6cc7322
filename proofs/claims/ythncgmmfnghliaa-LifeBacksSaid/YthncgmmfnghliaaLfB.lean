/- The contracts of package edge: compare, Less. -/
import Derived.Test.YthncgmmfnghliaaLfA
import Derived.Deep.RegionHeld3
namespace Go.Proofs.Ythncgmmfnghliaa
open Go.RowKit
set_option linter.unusedVariables false

set_option maxHeartbeats 2000000 in
theorem compare_grw (w : World) (u v x y : Int) : Calls Try.prog 53 #[.agg #[.int .u32 u, .int .u32 v], .agg #[.int .u32 x, .int .u32 y]] w fun e w' => e = .returned (.int .i64 (orI (cmpI u x) (cmpI v y))) ∧ Grw w w' := by
  go_enter Try.func53, Try.ntmps53
  go_wp2_with fail
  obtain ⟨p, hp⟩ : ∃ p, p = w.heap.size := ⟨_, rfl⟩
  obtain ⟨W, hW⟩ : ∃ W, W = (w.alloc (.cells #[.int .u32 u, .int .u32 v] 54)).alloc (.cells #[.int .u32 x, .int .u32 y] 54) := ⟨_, rfl⟩
  have HM : Hid (Grw w W) := by rw [hW]; exact ((Grw.refl _).alloc _).alloc _
  have hs1 : (w.alloc (.cells #[.int .u32 u, .int .u32 v] 54)).heap.size = w.heap.size + 1 := by simp
  have d0 : W.cell? ⟨p + 1, 0, none⟩ = some (.int .u32 x) := by rw [hW, hp]; exact World.cell?_alloc_at _ _ _ _ hs1.symm
  have d1 : W.cell? ⟨p + 1, 1, none⟩ = some (.int .u32 y) := by rw [hW, hp]; exact World.cell?_alloc_at _ _ _ _ hs1.symm
  have c0 : W.cell? ⟨p, 0, none⟩ = some (.int .u32 u) := by
    rw [hW, hp, World.cell?_alloc_lt _ _ _ (by show w.heap.size < _; rw [hs1]; omega)]; exact World.cell?_alloc_at _ _ _ _ rfl
  have c1 : W.cell? ⟨p, 1, none⟩ = some (.int .u32 v) := by
    rw [hW, hp, World.cell?_alloc_lt _ _ _ (by show w.heap.size < _; rw [hs1]; omega)]; exact World.cell?_alloc_at _ _ _ _ rfl
  have l0 := World.block_lt_of_cell? _ _ c0
  have l1 := World.block_lt_of_cell? _ _ d0
  rw [← hW, ← hp]
  clear hW hs1 hp
  go_region_held3 (fun z => z.cell? ⟨p, 0, none⟩ = some (.int .u32 u) ∧ z.cell? ⟨p, 1, none⟩ = some (.int .u32 v) ∧ z.cell? ⟨p + 1, 0, none⟩ = some (.int .u32 x) ∧ z.cell? ⟨p + 1, 1, none⟩ = some (.int .u32 y))
    (first | exact ⟨c0, c1, d0, d1⟩ | exact ⟨(World.cell?_alloc_lt _ _ _ l0).trans c0, (World.cell?_alloc_lt _ _ _ l0).trans c1, (World.cell?_alloc_lt _ _ _ l1).trans d0, (World.cell?_alloc_lt _ _ _ l1).trans d1⟩)
    (first
    | (go_at_call_of 59 u; refine (cmp32_any _ _ _).mono ?_; rintro e w2 ⟨rfl, rfl⟩)
    | (go_at_call 59; refine (cmp32_any _ _ _).mono ?_; rintro e w2 ⟨rfl, rfl⟩)
    | (go_at_call 34; refine (or2_any _ _ (cmpI u x) (cmpI v y) (World.cell?_alloc_at _ _ _ _ rfl) (World.cell?_alloc_at _ _ _ _ rfl)).mono ?_; rintro e w2 ⟨rfl, rfl⟩))
  all_goals
    go_wp2_with fail
    go_ret
    exact ⟨rfl, HM.out.drew.alloc _⟩

theorem cmp_edLt (u v x y : Int) : orI (cmpI u x) (cmpI v y) < 0 ↔ edLt ⟨u, v⟩ ⟨x, y⟩ := by
  unfold orI cmpI edLt
  simp only
  by_cases h1 : u < x
  · simp [h1]
  · by_cases h2 : x < u
    · simp [h1, h2]; omega
    · have h3 : u = x := by omega
      subst h3
      by_cases h4 : v < y
      · simp [h4]
      · by_cases h5 : y < v
        · simp [h4, h5]
        · simp [h4, h5]

set_option maxHeartbeats 1000000 in
theorem less_grw (w : World) (u v x y : Int) : Calls Try.prog 31 #[.agg #[.int .u32 u, .int .u32 v], .agg #[.int .u32 x, .int .u32 y]] w fun e w' => e = .returned (.bool (decide (edLt ⟨u, v⟩ ⟨x, y⟩))) ∧ Grw w w' := by
  have hb : decide (orI (cmpI u x) (cmpI v y) < 0) = decide (edLt ⟨u, v⟩ ⟨x, y⟩) := decide_eq_decide.2 (cmp_edLt u v x y)
  rw [← hb]
  clear hb
  go_enter Try.func31, Try.ntmps31
  go_wp2_with fail
  refine (compare_grw _ _ _ _ _).mono ?_
  rintro e w1 ⟨rfl, hm⟩
  have HM : Hid (Grw w w1) := (((Grw.refl _).alloc _).alloc _).trans hm
  clear hm
  go_wp2_with fail
  go_ret
  exact ⟨rfl, HM.out⟩

theorem compare_any (w : World) (u v x y : Int) : Calls Try.prog 53 #[.agg #[.int .u32 u, .int .u32 v], .agg #[.int .u32 x, .int .u32 y]] w fun e w' => e = .returned (.int .i64 (orI (cmpI u x) (cmpI v y))) ∧ Mod w w' NoB :=
  (compare_grw w u v x y).mono fun _ _ h => ⟨h.1, h.2.mod⟩
theorem less_any (w : World) (u v x y : Int) : Calls Try.prog 31 #[.agg #[.int .u32 u, .int .u32 v], .agg #[.int .u32 x, .int .u32 y]] w fun e w' => e = .returned (.bool (decide (edLt ⟨u, v⟩ ⟨x, y⟩))) ∧ Mod w w' NoB :=
  (less_grw w u v x y).mono fun _ _ h => ⟨h.1, h.2.mod⟩

set_option maxHeartbeats 1000000 in
theorem there_any (w : World) (u v fr to t : Int) : Calls Try.prog 20 #[.agg #[.int .u32 u, .int .u32 v, .int .i64 fr, .int .i64 to], .int .i64 t] w fun e w' => e = .returned (.bool (decide (fr ≤ t ∧ (to < 0 ∨ t < to)))) ∧ Mod w w' NoB := by
  by_cases h1 : fr ≤ t
  · by_cases h2 : to < 0
    · rw [show decide (fr ≤ t ∧ (to < 0 ∨ t < to)) = true by simp [h1, h2]]
      go_enter Try.func20, Try.ntmps20
      go_wp2_with fail
      go_ret
      exact ⟨rfl, (Mod.refl _ _).alloc _⟩
    · by_cases h3 : t < to
      · rw [show decide (fr ≤ t ∧ (to < 0 ∨ t < to)) = true by simp [h1, h3]]
        go_enter Try.func20, Try.ntmps20
        go_wp2_with fail
        go_ret
        exact ⟨rfl, (Mod.refl _ _).alloc _⟩
      · rw [show decide (fr ≤ t ∧ (to < 0 ∨ t < to)) = false by simp [h2, h3]]
        go_enter Try.func20, Try.ntmps20
        go_wp2_with fail
        go_ret
        exact ⟨rfl, (Mod.refl _ _).alloc _⟩
  · rw [show decide (fr ≤ t ∧ (to < 0 ∨ t < to)) = false by simp [h1]]
    go_enter Try.func20, Try.ntmps20
    go_wp2_with fail
    go_ret
    exact ⟨rfl, (Mod.refl _ _).alloc _⟩
end Go.Proofs.Ythncgmmfnghliaa
