/- The reference's orders: Less, Before, LifeLess, Right; rows of edges; Find, Has, Rising. -/
import Derived.Test.YthncgmmfnghliaaLfL
import Derived.Test.YthncgmmfnghliaaLfN
namespace Go.Proofs.Ythncgmmfnghliaa
open Go.RowKit
set_option linter.unusedVariables false

set_option maxHeartbeats 1000000 in
theorem rless_grw (w : World) (u v x y : Int) : Calls Try.prog 41 #[.agg #[.int .u32 u, .int .u32 v], .agg #[.int .u32 x, .int .u32 y]] w fun e w' => e = .returned (.bool (decide (edLt ⟨u, v⟩ ⟨x, y⟩))) ∧ Grw w w' := by
  unfold edLt
  by_cases h1 : u < x
  · rw [show decide (u < x ∨ u = x ∧ v < y) = true by simp [h1]]
    go_enter Try.func41, Try.ntmps41
    go_wp2_with fail
    go_ret
    exact ⟨rfl, ((Grw.refl _).alloc _).alloc _⟩
  · have d1 : decide (u < x) = false := decide_eq_false h1
    by_cases h2 : u = x
    · subst h2
      by_cases h3 : v < y
      · rw [show decide (u < u ∨ u = u ∧ v < y) = true by simp [h3]]
        go_enter Try.func41, Try.ntmps41
        go_wp2_with fail
        go_ret
        exact ⟨rfl, ((Grw.refl _).alloc _).alloc _⟩
      · rw [show decide (u < u ∨ u = u ∧ v < y) = false by simp [h3]]
        have d3 : decide (v < y) = false := decide_eq_false h3
        go_enter Try.func41, Try.ntmps41
        go_wp2_with fail
        go_ret
        exact ⟨rfl, ((Grw.refl _).alloc _).alloc _⟩
    · rw [show decide (u < x ∨ u = x ∧ v < y) = false by simp [h1, h2]]
      have d2 : (u == x) = false := by simpa using h2
      go_enter Try.func41, Try.ntmps41
      go_wp2_with fail
      go_ret
      exact ⟨rfl, ((Grw.refl _).alloc _).alloc _⟩

set_option maxHeartbeats 2000000 in
theorem rbefore_grw (w : World) (t u v s x y : Int) (a b : Bool) : Calls Try.prog 50 #[.agg #[.int .i64 t, .int .u32 u, .int .u32 v, .bool a], .agg #[.int .i64 s, .int .u32 x, .int .u32 y, .bool b]] w
    fun e w' => e = .returned (.bool (decide (before ⟨t, ⟨u, v⟩, a⟩ ⟨s, ⟨x, y⟩, b⟩))) ∧ Grw w w' := by
  unfold before
  by_cases h1 : t < s
  · rw [show decide (t < s ∨ t = s ∧ edLt ⟨u, v⟩ ⟨x, y⟩) = true by simp [h1]]
    go_enter Try.func50, Try.ntmps50
    go_wp2_with fail
    go_ret
    exact ⟨rfl, ((Grw.refl _).alloc _).alloc _⟩
  · have d1 : decide (t < s) = false := decide_eq_false h1
    by_cases h2 : t = s
    · subst h2
      have hb : decide (t < t ∨ t = t ∧ edLt ⟨u, v⟩ ⟨x, y⟩) = decide (edLt ⟨u, v⟩ ⟨x, y⟩) := decide_eq_decide.2 (by simp)
      show Calls _ _ _ _ fun e w' => e = .returned (.bool (decide (t < t ∨ t = t ∧ edLt ⟨u, v⟩ ⟨x, y⟩))) ∧ Grw w w'
      rw [hb]
      obtain ⟨r, hr⟩ : ∃ r, decide (edLt ⟨u, v⟩ ⟨x, y⟩) = r := ⟨_, rfl⟩
      have HL : Hid (∀ z, Calls Try.prog 41 #[.agg #[.int .u32 u, .int .u32 v], .agg #[.int .u32 x, .int .u32 y]] z fun e w' => e = .returned (.bool r) ∧ Grw z w') := fun z => by rw [← hr]; exact rless_grw z u v x y
      rw [hr]
      clear hb hr
      go_enter Try.func50, Try.ntmps50
      go_wp2_with fail
      refine (HL.out _).mono ?_
      rintro e w1 ⟨rfl, hm⟩
      have HM : Hid (Grw w w1) := (((Grw.refl _).alloc _).alloc _).trans hm
      clear hm
      go_wp2_with fail
      go_ret
      exact ⟨rfl, HM.out⟩
    · rw [show decide (t < s ∨ t = s ∧ edLt ⟨u, v⟩ ⟨x, y⟩) = false by simp [h1, h2]]
      have d2 : (t == s) = false := by simpa using h2
      go_enter Try.func50, Try.ntmps50
      go_wp2_with fail
      go_ret
      exact ⟨rfl, ((Grw.refl _).alloc _).alloc _⟩

set_option maxHeartbeats 2000000 in
theorem lfless_grw (w : World) (u v f1 t1 x y f2 t2 : Int) : Calls Try.prog 24 #[.agg #[.int .u32 u, .int .u32 v, .int .i64 f1, .int .i64 t1], .agg #[.int .u32 x, .int .u32 y, .int .i64 f2, .int .i64 t2]] w
    fun e w' => e = .returned (.bool (decide (lfLt ⟨⟨u, v⟩, f1, t1⟩ ⟨⟨x, y⟩, f2, t2⟩))) ∧ Grw w w' := by
  obtain ⟨q, hq⟩ : ∃ q, q = w.heap.size := ⟨_, rfl⟩
  obtain ⟨W, hW⟩ : ∃ W, W = (w.alloc (.cells #[.int .u32 u, .int .u32 v, .int .i64 f1, .int .i64 t1] 56)).alloc (.cells #[.int .u32 x, .int .u32 y, .int .i64 f2, .int .i64 t2] 56) := ⟨_, rfl⟩
  have HM : Hid (Grw w W) := by rw [hW]; exact ((Grw.refl _).alloc _).alloc _
  have hs1 : (w.alloc (.cells #[.int .u32 u, .int .u32 v, .int .i64 f1, .int .i64 t1] 56)).heap.size = w.heap.size + 1 := by simp
  have lt1 : w.heap.size < (w.alloc (.cells #[.int .u32 u, .int .u32 v, .int .i64 f1, .int .i64 t1] 56)).heap.size := by rw [hs1]; omega
  have HC : Hid (LfAt W q 0 ⟨⟨u, v⟩, f1, t1⟩ ∧ LfAt W (q + 1) 0 ⟨⟨x, y⟩, f2, t2⟩) := by
    rw [hW, hq]
    exact ⟨⟨(World.cell?_alloc_lt _ _ _ lt1).trans (World.cell?_alloc_at _ _ _ _ rfl), (World.cell?_alloc_lt _ _ _ lt1).trans (World.cell?_alloc_at _ _ _ _ rfl), (World.cell?_alloc_lt _ _ _ lt1).trans (World.cell?_alloc_at _ _ _ _ rfl), (World.cell?_alloc_lt _ _ _ lt1).trans (World.cell?_alloc_at _ _ _ _ rfl)⟩,
      World.cell?_alloc_at _ _ _ _ hs1.symm, World.cell?_alloc_at _ _ _ _ hs1.symm, World.cell?_alloc_at _ _ _ _ hs1.symm, World.cell?_alloc_at _ _ _ _ hs1.symm⟩
  unfold lfLt
  simp only
  by_cases h1 : edLt ⟨u, v⟩ ⟨x, y⟩
  · have HL : Hid (∀ z, Calls Try.prog 41 #[.agg #[.int .u32 u, .int .u32 v], .agg #[.int .u32 x, .int .u32 y]] z fun e w' => e = .returned (.bool true) ∧ Grw z w') := fun z => by
      have := rless_grw z u v x y
      rwa [show decide (edLt ⟨u, v⟩ ⟨x, y⟩) = true by simp [h1]] at this
    rw [show decide (edLt ⟨u, v⟩ ⟨x, y⟩ ∨ (⟨u, v⟩ : Ed) = ⟨x, y⟩ ∧ f1 < f2) = true by simp [h1]]
    clear h1
    go_enter Try.func24, Try.ntmps24
    go_wp2_with fail
    rw [← hW, ← hq]
    clear hW hs1 hq lt1
    refine (HL.out _).mono ?_
    rintro e w1 ⟨rfl, hm⟩
    have HN : Hid (Grw w w1) := HM.out.trans hm
    clear hm
    go_wp2_with fail
    go_ret
    exact ⟨rfl, HN.out⟩
  · have HL : Hid (∀ z, Calls Try.prog 41 #[.agg #[.int .u32 u, .int .u32 v], .agg #[.int .u32 x, .int .u32 y]] z fun e w' => e = .returned (.bool false) ∧ Grw z w') := fun z => by
      have := rless_grw z u v x y
      rwa [show decide (edLt ⟨u, v⟩ ⟨x, y⟩) = false by simp [h1]] at this
    obtain ⟨r, hr⟩ : ∃ r, decide (edLt ⟨u, v⟩ ⟨x, y⟩ ∨ (⟨u, v⟩ : Ed) = ⟨x, y⟩ ∧ f1 < f2) = r := ⟨_, rfl⟩
    rw [hr]
    have HR := Lib.hid hr
    have H1 := Lib.hid h1
    clear h1 hr
    go_enter Try.func24, Try.ntmps24
    go_wp2_with fail
    rw [← hW, ← hq]
    clear hW hs1 hq lt1
    refine (HL.out _).mono ?_
    rintro e w1 ⟨rfl, hm⟩
    have HN : Hid (Grw w w1) := HM.out.trans hm
    obtain ⟨a0, a1, a2, a3⟩ := HC.out.1.mod hm.mod
    obtain ⟨b0, b1, b2, b3⟩ := HC.out.2.mod hm.mod
    simp only [Nat.zero_add] at a1 a2 a3 b1 b2 b3
    clear hm HM HC
    by_cases hu : u = x
    · by_cases hv : v = y
      · subst hu hv
        by_cases hf : f1 < f2
        · have hr : r = true := by rw [← HR.out]; simp [hf]
          subst hr
          go_wp2_with fail
          go_ret
          exact ⟨rfl, HN.out⟩
        · have hr : r = false := by rw [← HR.out]; simp [hf, edLt_irrefl]
          have hfb : decide (f1 < f2) = false := decide_eq_false hf
          subst hr
          go_wp2_with fail
          go_ret
          exact ⟨rfl, HN.out⟩
      · have hr : r = false := by rw [← HR.out]; simp [H1.out, hv]
        have hvb : (v == y) = false := by simp [hv]
        subst hr hu
        clear hv
        go_wp2_with fail
        go_ret
        exact ⟨rfl, HN.out⟩
    · have hr : r = false := by rw [← HR.out]; simp [H1.out, hu]
      have hub : (u == x) = false := by simp [hu]
      subst hr
      clear hu
      go_wp2_with fail
      go_ret
      exact ⟨rfl, HN.out⟩
end Go.Proofs.Ythncgmmfnghliaa
