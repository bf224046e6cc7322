/- The contract of life's follows. -/
import Derived.Test.YthncgmmfnghliaaLfB
import Derived.Test.YthncgmmfnghliaaLfQ
namespace Go.Proofs.Ythncgmmfnghliaa
open Go.RowKit
set_option linter.unusedVariables false

theorem keepc {w w' : World} {p : Addr} {v : Value} (c : w.cell? p = some v) (m : Mod w w' NoB) : w'.cell? p = some v := (m.cell (World.block_lt_of_cell? _ _ c) (by simp [NoB])).trans c

set_option maxHeartbeats 2000000 in
theorem follows_grw (w : World) (u v f1 t1 x y f2 t2 : Int) :
    Calls Try.prog 39 #[.agg #[.int .u32 u, .int .u32 v, .int .i64 f1, .int .i64 t1], .agg #[.int .u32 x, .int .u32 y, .int .i64 f2, .int .i64 t2]] w
      fun e w' => e = .returned (.bool (decide (follows ⟨⟨u, v⟩, f1, t1⟩ ⟨⟨x, y⟩, f2, t2⟩))) ∧ Grw w w' := by
  obtain ⟨r, hr⟩ : ∃ r, decide (follows ⟨⟨u, v⟩, f1, t1⟩ ⟨⟨x, y⟩, f2, t2⟩) = r := ⟨_, rfl⟩
  rw [hr]
  unfold follows at hr
  simp only at hr
  have HRS := Lib.hid hr
  clear hr
  go_enter Try.func39, Try.ntmps39
  go_wp2_with fail
  obtain ⟨p, hp⟩ : ∃ p, p = w.heap.size := ⟨_, rfl⟩
  obtain ⟨W, hW⟩ : ∃ W, W = (w.alloc (.cells #[.int .u32 u, .int .u32 v, .int .i64 f1, .int .i64 t1] 56)).alloc (.cells #[.int .u32 x, .int .u32 y, .int .i64 f2, .int .i64 t2] 56) := ⟨_, rfl⟩
  have HM : Hid (Grw w W) := by rw [hW]; exact ((Grw.refl _).alloc _).alloc _
  have hs1 : (w.alloc (.cells #[.int .u32 u, .int .u32 v, .int .i64 f1, .int .i64 t1] 56)).heap.size = w.heap.size + 1 := by simp
  have lt1 : w.heap.size < (w.alloc (.cells #[.int .u32 u, .int .u32 v, .int .i64 f1, .int .i64 t1] 56)).heap.size := by rw [hs1]; omega
  have HD : Hid ((W.cell? ⟨p, 0, none⟩ = some (.int .u32 u) ∧ W.cell? ⟨p, 1, none⟩ = some (.int .u32 v) ∧ W.cell? ⟨p, 2, none⟩ = some (.int .i64 f1) ∧ W.cell? ⟨p, 3, none⟩ = some (.int .i64 t1)) ∧
      W.cell? ⟨p + 1, 0, none⟩ = some (.int .u32 x) ∧ W.cell? ⟨p + 1, 1, none⟩ = some (.int .u32 y) ∧ W.cell? ⟨p + 1, 2, none⟩ = some (.int .i64 f2) ∧ W.cell? ⟨p + 1, 3, none⟩ = some (.int .i64 t2)) := by
    rw [hW, hp]
    exact ⟨⟨(World.cell?_alloc_lt _ _ _ lt1).trans (World.cell?_alloc_at _ _ _ _ rfl), (World.cell?_alloc_lt _ _ _ lt1).trans (World.cell?_alloc_at _ _ _ _ rfl), (World.cell?_alloc_lt _ _ _ lt1).trans (World.cell?_alloc_at _ _ _ _ rfl), (World.cell?_alloc_lt _ _ _ lt1).trans (World.cell?_alloc_at _ _ _ _ rfl)⟩,
      World.cell?_alloc_at _ _ _ _ hs1.symm, World.cell?_alloc_at _ _ _ _ hs1.symm, World.cell?_alloc_at _ _ _ _ hs1.symm, World.cell?_alloc_at _ _ _ _ hs1.symm⟩
  rw [← hW, ← hp]
  clear hW hs1 hp lt1
  refine (less_grw _ _ _ _ _).mono ?_
  rintro e w1 ⟨rfl, hm⟩
  have a0 := keepc HD.out.1.1 hm.mod
  have a1 := keepc HD.out.1.2.1 hm.mod
  have a2 := keepc HD.out.1.2.2.1 hm.mod
  have a3 := keepc HD.out.1.2.2.2 hm.mod
  have b0 := keepc HD.out.2.1 hm.mod
  have b1 := keepc HD.out.2.2.1 hm.mod
  have b2 := keepc HD.out.2.2.2.1 hm.mod
  have b3 := keepc HD.out.2.2.2.2 hm.mod
  have HN : Hid (Grw w w1) := HM.out.trans hm
  clear hm HM HD
  by_cases h1 : edLt ⟨u, v⟩ ⟨x, y⟩
  · rw [show decide (edLt ⟨u, v⟩ ⟨x, y⟩) = true by simp [h1]]
    have hr : r = true := by rw [← HRS.out]; simp [h1]
    subst hr
    clear h1
    go_wp2_with fail
    go_ret
    exact ⟨rfl, HN.out⟩
  · rw [show decide (edLt ⟨u, v⟩ ⟨x, y⟩) = false by simp [h1]]
    by_cases hu : u = x
    · by_cases hv : v = y
      · subst hu hv
        by_cases ht : 0 ≤ t1
        · by_cases hf : t1 < f2
          · have hr : r = true := by rw [← HRS.out]; simp [h1, ht, hf]
            subst hr
            clear h1
            go_wp2_with fail
            go_ret
            exact ⟨rfl, HN.out⟩
          · have hr : r = false := by rw [← HRS.out]; simp [h1, hf]
            have hfb : decide (t1 < f2) = false := by simpa using hf
            subst hr
            clear h1
            go_wp2_with fail
            go_ret
            exact ⟨rfl, HN.out⟩
        · have hr : r = false := by rw [← HRS.out]; simp [h1, ht]
          subst hr
          clear h1
          go_wp2_with fail
          go_ret
          exact ⟨rfl, HN.out⟩
      · have hr : r = false := by rw [← HRS.out]; simp [h1, hv]
        have hvb : (v == y) = false := by simp [hv]
        subst hr hu
        clear h1 hv
        go_wp2_with fail
        go_ret
        exact ⟨rfl, HN.out⟩
    · have hr : r = false := by rw [← HRS.out]; simp [h1, hu]
      have hub : (u == x) = false := by simp [hu]
      subst hr
      clear h1 hu
      go_wp2_with fail
      go_ret
      exact ⟨rfl, HN.out⟩
theorem follows_any (w : World) (u v f1 t1 x y f2 t2 : Int) :
    Calls Try.prog 39 #[.agg #[.int .u32 u, .int .u32 v, .int .i64 f1, .int .i64 t1], .agg #[.int .u32 x, .int .u32 y, .int .i64 f2, .int .i64 t2]] w
      fun e w' => e = .returned (.bool (decide (follows ⟨⟨u, v⟩, f1, t1⟩ ⟨⟨x, y⟩, f2, t2⟩))) ∧ Mod w w' NoB :=
  (follows_grw w u v f1 t1 x y f2 t2).mono fun _ _ h => ⟨h.1, h.2.mod⟩
end Go.Proofs.Ythncgmmfnghliaa
