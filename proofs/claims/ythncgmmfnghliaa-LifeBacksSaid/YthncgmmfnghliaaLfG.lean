/- The closures that tell how two stand: by's, and Of's own. -/
import Derived.Test.YthncgmmfnghliaaLfI
namespace Go.Proofs.Ythncgmmfnghliaa
open Go.RowKit
set_option linter.unusedVariables false

/-- How two stand, by an order. -/
def byI (lt gt : Prop) [Decidable lt] [Decidable gt] : Int := if lt then -1 else if gt then 1 else 0

set_option maxHeartbeats 2000000 in
theorem byE_grw (w : World) (p : Nat) (u v x y : Int) (hp : w.cell? ⟨p, 0, none⟩ = some (.func (.func 31) #[] #[])) :
    Calls Try.prog 52 #[.agg #[.int .u32 u, .int .u32 v], .agg #[.int .u32 x, .int .u32 y], .pointer (some ⟨p, 0, none⟩)] w
      fun e w' => e = .returned (.int .i64 (byI (edLt ⟨u, v⟩ ⟨x, y⟩) (edLt ⟨x, y⟩ ⟨u, v⟩))) ∧ Grw w w' := by
  obtain ⟨r, hr⟩ : ∃ r, byI (edLt ⟨u, v⟩ ⟨x, y⟩) (edLt ⟨x, y⟩ ⟨u, v⟩) = r := ⟨_, rfl⟩
  rw [hr]
  unfold byI at hr
  have HRS := Lib.hid hr
  clear hr
  have hpl := World.block_lt_of_cell? _ _ hp
  obtain ⟨q, hq⟩ : ∃ q, q = w.heap.size := ⟨_, rfl⟩
  obtain ⟨W, hW⟩ : ∃ W, W = (w.alloc (.cells #[.int .u32 u, .int .u32 v] 54)).alloc (.cells #[.int .u32 x, .int .u32 y] 54) := ⟨_, rfl⟩
  have HM : Hid (Grw w W) := by rw [hW]; exact ((Grw.refl _).alloc _).alloc _
  have hs1 : (w.alloc (.cells #[.int .u32 u, .int .u32 v] 54)).heap.size = w.heap.size + 1 := by simp
  have lt1 : w.heap.size < (w.alloc (.cells #[.int .u32 u, .int .u32 v] 54)).heap.size := by rw [hs1]; omega
  have HC : Hid (W.cell? ⟨p, 0, none⟩ = some (.func (.func 31) #[] #[]) ∧ (W.cell? ⟨q, 0, none⟩ = some (.int .u32 u) ∧ W.cell? ⟨q, 1, none⟩ = some (.int .u32 v)) ∧ W.cell? ⟨q + 1, 0, none⟩ = some (.int .u32 x) ∧ W.cell? ⟨q + 1, 1, none⟩ = some (.int .u32 y)) := by
    refine ⟨keepc hp HM.out.mod, ?_⟩
    rw [hW, hq]
    exact ⟨⟨(World.cell?_alloc_lt _ _ _ lt1).trans (World.cell?_alloc_at _ _ _ _ rfl), (World.cell?_alloc_lt _ _ _ lt1).trans (World.cell?_alloc_at _ _ _ _ rfl)⟩, World.cell?_alloc_at _ _ _ _ hs1.symm, World.cell?_alloc_at _ _ _ _ hs1.symm⟩
  go_enter Try.func52, Try.ntmps52
  go_wp2_with fail
  rw [← hW, ← hq]
  clear hW hs1 hq lt1 hp hpl
  refine (less_grw _ _ _ _ _).mono ?_
  rintro e w1 ⟨rfl, hm⟩
  have a0 := keepc HC.out.1 hm.mod
  have a1 := keepc HC.out.2.1.1 hm.mod
  have a2 := keepc HC.out.2.1.2 hm.mod
  have a3 := keepc HC.out.2.2.1 hm.mod
  have a4 := keepc HC.out.2.2.2 hm.mod
  have HN : Hid (Grw w w1) := HM.out.trans hm
  clear hm HM HC
  by_cases h1 : edLt ⟨u, v⟩ ⟨x, y⟩
  · rw [show decide (edLt ⟨u, v⟩ ⟨x, y⟩) = true by simp [h1]]
    have hr : r = -1 := by rw [← HRS.out, if_pos h1]
    subst hr
    clear h1
    go_wp2_with fail
    go_ret
    exact ⟨rfl, HN.out⟩
  · rw [show decide (edLt ⟨u, v⟩ ⟨x, y⟩) = false by simp [h1]]
    have HS : Hid ((if edLt ⟨x, y⟩ ⟨u, v⟩ then (1 : Int) else 0) = r) := by
      have := HRS.out
      rw [if_neg h1] at this
      exact this
    clear h1 HRS
    go_wp2_with fail
    refine (less_grw _ _ _ _ _).mono ?_
    rintro e w2 ⟨rfl, hm⟩
    have HK : Hid (Grw w w2) := HN.out.trans hm
    clear hm
    by_cases h2 : edLt ⟨x, y⟩ ⟨u, v⟩
    · rw [show decide (edLt ⟨x, y⟩ ⟨u, v⟩) = true by simp [h2]]
      have hr : r = 1 := by rw [← HS.out, if_pos h2]
      subst hr
      clear h2
      go_wp2_with fail
      go_ret
      exact ⟨rfl, HK.out⟩
    · rw [show decide (edLt ⟨x, y⟩ ⟨u, v⟩) = false by simp [h2]]
      have hr : r = 0 := by rw [← HS.out, if_neg h2]
      subst hr
      clear h2
      go_wp2_with fail
      go_ret
      exact ⟨rfl, HK.out⟩

set_option maxHeartbeats 2000000 in
theorem byV_grw (w : World) (p : Nat) (t u v s x y : Int) (a b : Bool) (hp : w.cell? ⟨p, 0, none⟩ = some (.func (.func 44) #[] #[])) :
    Calls Try.prog 58 #[.agg #[.int .i64 t, .int .u32 u, .int .u32 v, .bool a], .agg #[.int .i64 s, .int .u32 x, .int .u32 y, .bool b], .pointer (some ⟨p, 0, none⟩)] w
      fun e w' => e = .returned (.int .i64 (byI (before ⟨t, ⟨u, v⟩, a⟩ ⟨s, ⟨x, y⟩, b⟩) (before ⟨s, ⟨x, y⟩, b⟩ ⟨t, ⟨u, v⟩, a⟩))) ∧ Grw w w' := by
  obtain ⟨r, hr⟩ : ∃ r, byI (before ⟨t, ⟨u, v⟩, a⟩ ⟨s, ⟨x, y⟩, b⟩) (before ⟨s, ⟨x, y⟩, b⟩ ⟨t, ⟨u, v⟩, a⟩) = r := ⟨_, rfl⟩
  rw [hr]
  unfold byI at hr
  have HRS := Lib.hid hr
  clear hr
  have hpl := World.block_lt_of_cell? _ _ hp
  obtain ⟨q, hq⟩ : ∃ q, q = w.heap.size := ⟨_, rfl⟩
  obtain ⟨W, hW⟩ : ∃ W, W = (w.alloc (.cells #[.int .i64 t, .int .u32 u, .int .u32 v, .bool a] 65)).alloc (.cells #[.int .i64 s, .int .u32 x, .int .u32 y, .bool b] 65) := ⟨_, rfl⟩
  have HM : Hid (Grw w W) := by rw [hW]; exact ((Grw.refl _).alloc _).alloc _
  have hs1 : (w.alloc (.cells #[.int .i64 t, .int .u32 u, .int .u32 v, .bool a] 65)).heap.size = w.heap.size + 1 := by simp
  have lt1 : w.heap.size < (w.alloc (.cells #[.int .i64 t, .int .u32 u, .int .u32 v, .bool a] 65)).heap.size := by rw [hs1]; omega
  have HC : Hid (W.cell? ⟨p, 0, none⟩ = some (.func (.func 44) #[] #[]) ∧ (W.cell? ⟨q, 0, none⟩ = some (.int .i64 t) ∧ W.cell? ⟨q, 1, none⟩ = some (.int .u32 u) ∧ W.cell? ⟨q, 2, none⟩ = some (.int .u32 v) ∧ W.cell? ⟨q, 3, none⟩ = some (.bool a)) ∧ W.cell? ⟨q + 1, 0, none⟩ = some (.int .i64 s) ∧ W.cell? ⟨q + 1, 1, none⟩ = some (.int .u32 x) ∧ W.cell? ⟨q + 1, 2, none⟩ = some (.int .u32 y) ∧ W.cell? ⟨q + 1, 3, none⟩ = some (.bool b)) := by
    refine ⟨keepc hp HM.out.mod, ?_⟩
    rw [hW, hq]
    exact ⟨⟨(World.cell?_alloc_lt _ _ _ lt1).trans (World.cell?_alloc_at _ _ _ _ rfl), (World.cell?_alloc_lt _ _ _ lt1).trans (World.cell?_alloc_at _ _ _ _ rfl), (World.cell?_alloc_lt _ _ _ lt1).trans (World.cell?_alloc_at _ _ _ _ rfl), (World.cell?_alloc_lt _ _ _ lt1).trans (World.cell?_alloc_at _ _ _ _ rfl)⟩, World.cell?_alloc_at _ _ _ _ hs1.symm, World.cell?_alloc_at _ _ _ _ hs1.symm, World.cell?_alloc_at _ _ _ _ hs1.symm, World.cell?_alloc_at _ _ _ _ hs1.symm⟩
  go_enter Try.func58, Try.ntmps58
  go_wp2_with fail
  rw [← hW, ← hq]
  clear hW hs1 hq lt1 hp hpl
  refine (before_grw _ _ _ _ _ _ _ _ _).mono ?_
  rintro e w1 ⟨rfl, hm⟩
  have a0 := keepc HC.out.1 hm.mod
  have a1 := keepc HC.out.2.1.1 hm.mod
  have a2 := keepc HC.out.2.1.2.1 hm.mod
  have a3 := keepc HC.out.2.1.2.2.1 hm.mod
  have a4 := keepc HC.out.2.1.2.2.2 hm.mod
  have b1 := keepc HC.out.2.2.1 hm.mod
  have b2 := keepc HC.out.2.2.2.1 hm.mod
  have b3 := keepc HC.out.2.2.2.2.1 hm.mod
  have b4 := keepc HC.out.2.2.2.2.2 hm.mod
  have HN : Hid (Grw w w1) := HM.out.trans hm
  clear hm HM HC
  by_cases h1 : before ⟨t, ⟨u, v⟩, a⟩ ⟨s, ⟨x, y⟩, b⟩
  · rw [show decide (before ⟨t, ⟨u, v⟩, a⟩ ⟨s, ⟨x, y⟩, b⟩) = true by simp [h1]]
    have hr : r = -1 := by rw [← HRS.out, if_pos h1]
    subst hr
    clear h1
    go_wp2_with fail
    go_ret
    exact ⟨rfl, HN.out⟩
  · rw [show decide (before ⟨t, ⟨u, v⟩, a⟩ ⟨s, ⟨x, y⟩, b⟩) = false by simp [h1]]
    have HS : Hid ((if before ⟨s, ⟨x, y⟩, b⟩ ⟨t, ⟨u, v⟩, a⟩ then (1 : Int) else 0) = r) := by
      have := HRS.out
      rw [if_neg h1] at this
      exact this
    clear h1 HRS
    go_wp2_with fail
    refine (before_grw _ _ _ _ _ _ _ _ _).mono ?_
    rintro e w2 ⟨rfl, hm⟩
    have HK : Hid (Grw w w2) := HN.out.trans hm
    clear hm
    by_cases h2 : before ⟨s, ⟨x, y⟩, b⟩ ⟨t, ⟨u, v⟩, a⟩
    · rw [show decide (before ⟨s, ⟨x, y⟩, b⟩ ⟨t, ⟨u, v⟩, a⟩) = true by simp [h2]]
      have hr : r = 1 := by rw [← HS.out, if_pos h2]
      subst hr
      clear h2
      go_wp2_with fail
      go_ret
      exact ⟨rfl, HK.out⟩
    · rw [show decide (before ⟨s, ⟨x, y⟩, b⟩ ⟨t, ⟨u, v⟩, a⟩) = false by simp [h2]]
      have hr : r = 0 := by rw [← HS.out, if_neg h2]
      subst hr
      clear h2
      go_wp2_with fail
      go_ret
      exact ⟨rfl, HK.out⟩
end Go.Proofs.Ythncgmmfnghliaa
