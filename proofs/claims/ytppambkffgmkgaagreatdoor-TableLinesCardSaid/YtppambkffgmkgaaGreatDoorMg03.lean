/- Merged: LfA LfB LfC -/
import Derived.Test.YtppambkffgmkgaaGreatDoorProg
import Derived.Test.YtppambkffgmkgaaGreatDoorMg01
import Derived.WalkSpells
import Derived.WalkLawsBesides
import Derived.Lib.Hide
import Derived.BigQuiet
import Derived.Outline
import Derived.Deep.RegionHeld3
section
/- The contracts of cmp and of package edge. -/
namespace Go.Proofs.YtppambkffgmkgaaGreatDoor
open Go.RowKit
set_option linter.unusedVariables false

/-- w' is w with draws, and new blocks behind. -/
def Grw (w w' : World) : Prop := ∃ (q : Nat) (os : Array Obj), w' = { w with heap := w.heap ++ os, drawn := w.drawn + q }
namespace Grw
variable {a b c w : World}
theorem refl (w : World) : Grw w w := ⟨0, #[], by simp⟩
theorem alloc (h : Grw a w) (o : Obj) : Grw a (w.alloc o) := by
  obtain ⟨q, os, rfl⟩ := h
  exact ⟨q, os.push o, by unfold World.alloc; rw [Array.append_push]⟩
theorem drew (h : Grw a w) : Grw a w.drew := by
  obtain ⟨q, os, rfl⟩ := h
  exact ⟨q + 1, os, rfl⟩
theorem trans (h : Grw a b) (k : Grw b c) : Grw a c := by
  obtain ⟨q, os, rfl⟩ := h
  obtain ⟨q', os', rfl⟩ := k
  exact ⟨q + q', os ++ os', by simp [Array.append_assoc, Nat.add_assoc]⟩
theorem mod (h : Grw a b) : Mod a b NoB := by
  obtain ⟨q, os, rfl⟩ := h
  exact ⟨rfl, rfl, rfl, by simp, fun k hk _ => by simp [Array.getElem?_append, hk]⟩
end Grw

/-- How two numbers stand. -/
def cmpI (x y : Int) : Int := if x < y then -1 else if y < x then 1 else 0

theorem nan64_any (w : World) (x : Int) : Calls Tryz.prog 83 #[.int .i64 x] w fun e w' => e = .returned (.bool false) ∧ w = w' := by
  have hb : (x != x) = false := by simp
  go_enter Tryz.func83, Tryz.ntmps83
  go_wp2_with fail
  go_ret
  exact ⟨rfl, rfl⟩
theorem nan32_any (w : World) (x : Int) : Calls Tryz.prog 115 #[.int .u32 x] w fun e w' => e = .returned (.bool false) ∧ w = w' := by
  have hb : (x != x) = false := by simp
  go_enter Tryz.func115, Tryz.ntmps115
  go_wp2_with fail
  go_ret
  exact ⟨rfl, rfl⟩
theorem cmp64_any (w : World) (x y : Int) : Calls Tryz.prog 62 #[.int .i64 x, .int .i64 y] w fun e w' => e = .returned (.int .i64 (cmpI x y)) ∧ w = w' := by
  unfold cmpI
  by_cases h1 : x < y
  · rw [if_pos h1]
    go_enter Tryz.func62, Tryz.ntmps62
    go_wp2_with fail
    refine (nan64_any _ _).mono ?_
    rintro e w1 ⟨rfl, rfl⟩
    go_wp2_with fail
    refine (nan64_any _ _).mono ?_
    rintro e w1 ⟨rfl, rfl⟩
    go_wp2_with fail
    go_ret
    exact ⟨rfl, rfl⟩
  · rw [if_neg h1]
    by_cases h2 : y < x
    · rw [if_pos h2]
      go_enter Tryz.func62, Tryz.ntmps62
      go_wp2_with fail
      refine (nan64_any _ _).mono ?_
      rintro e w1 ⟨rfl, rfl⟩
      go_wp2_with fail
      refine (nan64_any _ _).mono ?_
      rintro e w1 ⟨rfl, rfl⟩
      go_wp2_with fail
      go_ret
      exact ⟨rfl, rfl⟩
    · rw [if_neg h2]
      go_enter Tryz.func62, Tryz.ntmps62
      go_wp2_with fail
      refine (nan64_any _ _).mono ?_
      rintro e w1 ⟨rfl, rfl⟩
      go_wp2_with fail
      refine (nan64_any _ _).mono ?_
      rintro e w1 ⟨rfl, rfl⟩
      go_wp2_with fail
      go_ret
      exact ⟨rfl, rfl⟩
theorem cmp32_any (w : World) (x y : Int) : Calls Tryz.prog 92 #[.int .u32 x, .int .u32 y] w fun e w' => e = .returned (.int .i64 (cmpI x y)) ∧ w = w' := by
  unfold cmpI
  by_cases h1 : x < y
  · rw [if_pos h1]
    go_enter Tryz.func92, Tryz.ntmps92
    go_wp2_with fail
    refine (nan32_any _ _).mono ?_
    rintro e w1 ⟨rfl, rfl⟩
    go_wp2_with fail
    refine (nan32_any _ _).mono ?_
    rintro e w1 ⟨rfl, rfl⟩
    go_wp2_with fail
    go_ret
    exact ⟨rfl, rfl⟩
  · rw [if_neg h1]
    by_cases h2 : y < x
    · rw [if_pos h2]
      go_enter Tryz.func92, Tryz.ntmps92
      go_wp2_with fail
      refine (nan32_any _ _).mono ?_
      rintro e w1 ⟨rfl, rfl⟩
      go_wp2_with fail
      refine (nan32_any _ _).mono ?_
      rintro e w1 ⟨rfl, rfl⟩
      go_wp2_with fail
      go_ret
      exact ⟨rfl, rfl⟩
    · rw [if_neg h2]
      go_enter Tryz.func92, Tryz.ntmps92
      go_wp2_with fail
      refine (nan32_any _ _).mono ?_
      rintro e w1 ⟨rfl, rfl⟩
      go_wp2_with fail
      refine (nan32_any _ _).mono ?_
      rintro e w1 ⟨rfl, rfl⟩
      go_wp2_with fail
      go_ret
      exact ⟨rfl, rfl⟩

/-- The first of two that is not 0. -/
def orI (x y : Int) : Int := if x = 0 then y else x
theorem or2_any (w : World) (b : Nat) (x y : Int) (c0 : w.cell? ⟨b, 0, none⟩ = some (.int .i64 x)) (c1 : w.cell? ⟨b, 1, none⟩ = some (.int .i64 y)) :
    Calls Tryz.prog 61 #[.slice (some ⟨b, 0, none⟩) 2 2] w fun e w' => e = .returned (.int .i64 (orI x y)) ∧ w = w' := by
  have hb := World.block_lt_of_cell? _ _ c0
  have HX : Hid (x = 0 → orI x y = y) := fun h => if_pos h
  have HY : Hid (x ≠ 0 → orI x y = x) := fun h => if_neg h
  obtain ⟨wo, rfl⟩ : ∃ wo, wo = w := ⟨_, rfl⟩
  go_enter Tryz.func61, Tryz.ntmps61
  go_wp2_with fail
  go_loopw [8] (fun i wr => wr = wo ∧ (i = .int .i64 0 ∨ (i = .int .i64 1 ∧ Hid (x = 0)) ∨ (i = .int .i64 2 ∧ Hid (x = 0 ∧ y = 0)))) (fun i _ => 2 - (intOf i).toNat)
  case atStart => exact ⟨rfl, Or.inl rfl⟩
  case round =>
    obtain ⟨rfl, rfl | ⟨rfl, HZ⟩ | ⟨rfl, HZ⟩⟩ := hrel
    · by_cases hx : x = 0
      · have hb1 : (x != 0) = false := by simp [hx]
        have HZ := Lib.hid hx
        clear hx
        go_wp2_with fail
        go_roundw
        case rel => exact ⟨by first | rfl | trivial, Or.inr (Or.inl ⟨rfl, HZ⟩)⟩
        case measure => simp [intOf]
      · have hb1 : (x != 0) = true := by simp [hx]
        have HZ := Lib.hid hx
        clear hx
        go_wp2_with fail
        go_ret
        exact ⟨by rw [HY.out HZ.out]; rfl, rfl⟩
    · by_cases hy : y = 0
      · have hb1 : (y != 0) = false := by simp [hy]
        have HW := Lib.hid hy
        clear hy
        go_wp2_with fail
        go_roundw
        case rel => exact ⟨by first | rfl | trivial, Or.inr (Or.inr ⟨rfl, HZ.out, HW.out⟩)⟩
        case measure => simp [intOf]
      · have hb1 : (y != 0) = true := by simp [hy]
        clear hy
        go_wp2_with fail
        go_ret
        exact ⟨by rw [HX.out HZ.out]; rfl, rfl⟩
    · go_wp2_with fail
      go_ret
      exact ⟨by rw [HX.out HZ.out.1, HZ.out.2]; rfl, rfl⟩

theorem right_any (w : World) (u v n : Int) (hv : 0 ≤ v ∧ v ≤ 4294967295) : Calls Tryz.prog 55 #[.agg #[.int .u32 u, .int .u32 v], .int .u64 n] w fun e w' => e = .returned (.bool (decide (right ⟨u, v⟩ n))) ∧ Mod w w' NoB := by
  unfold right
  have hwr : IntKind.u64.wrap v = v := IntWalk.u64_in _ (by omega)
  by_cases h1 : u < v
  · by_cases h2 : v < n
    · rw [show decide (u < v ∧ v < n) = true by simp [h1, h2]]
      go_enter Tryz.func55, Tryz.ntmps55
      go_wp2_with fail
      go_ret
      exact ⟨rfl, (Mod.refl _ _).alloc _⟩
    · rw [show decide (u < v ∧ v < n) = false by simp [h2]]
      go_enter Tryz.func55, Tryz.ntmps55
      go_wp2_with fail
      go_ret
      exact ⟨rfl, (Mod.refl _ _).alloc _⟩
  · rw [show decide (u < v ∧ v < n) = false by simp [h1]]
    go_enter Tryz.func55, Tryz.ntmps55
    go_wp2_with fail
    go_ret
    exact ⟨rfl, (Mod.refl _ _).alloc _⟩
end Go.Proofs.YtppambkffgmkgaaGreatDoor
end

section
/- The contracts of package edge: compare, Less. -/
namespace Go.Proofs.YtppambkffgmkgaaGreatDoor
open Go.RowKit
set_option linter.unusedVariables false

set_option maxRecDepth 100000 in
set_option maxHeartbeats 2000000 in
theorem compare_grw (w : World) (u v x y : Int) : Calls Tryz.prog 79 #[.agg #[.int .u32 u, .int .u32 v], .agg #[.int .u32 x, .int .u32 y]] w fun e w' => e = .returned (.int .i64 (orI (cmpI u x) (cmpI v y))) ∧ Grw w w' := by
  go_enter Tryz.func79, Tryz.ntmps79
  go_wp2_with fail
  obtain ⟨p, hp⟩ : ∃ p, p = w.heap.size := ⟨_, rfl⟩
  obtain ⟨W, hW⟩ : ∃ W, W = (w.alloc (.cells #[.int .u32 u, .int .u32 v] 57)).alloc (.cells #[.int .u32 x, .int .u32 y] 57) := ⟨_, rfl⟩
  have HM : Hid (Grw w W) := by rw [hW]; exact ((Grw.refl _).alloc _).alloc _
  have hs1 : (w.alloc (.cells #[.int .u32 u, .int .u32 v] 57)).heap.size = w.heap.size + 1 := by simp
  have d0 : W.cell? ⟨p + 1, 0, none⟩ = some (.int .u32 x) := by rw [hW, hp]; exact World.cell?_alloc_at _ _ _ _ hs1.symm
  have d1 : W.cell? ⟨p + 1, 1, none⟩ = some (.int .u32 y) := by rw [hW, hp]; exact World.cell?_alloc_at _ _ _ _ hs1.symm
  have c0 : W.cell? ⟨p, 0, none⟩ = some (.int .u32 u) := by
    rw [hW, hp, World.cell?_alloc_lt _ _ _ (by show w.heap.size < _; rw [hs1]; omega)]; exact World.cell?_alloc_at _ _ _ _ rfl
  have c1 : W.cell? ⟨p, 1, none⟩ = some (.int .u32 v) := by
    rw [hW, hp, World.cell?_alloc_lt _ _ _ (by show w.heap.size < _; rw [hs1]; omega)]; exact World.cell?_alloc_at _ _ _ _ rfl
  have l0 := World.block_lt_of_cell? _ _ c0
  have l1 := World.block_lt_of_cell? _ _ d0
  rw [← hW, ← hp]
  clear hW hs1 hp
  go_region_held3 (fun z => z.cell? ⟨p, 0, none⟩ = some (.int .u32 u) ∧ z.cell? ⟨p, 1, none⟩ = some (.int .u32 v) ∧ z.cell? ⟨p + 1, 0, none⟩ = some (.int .u32 x) ∧ z.cell? ⟨p + 1, 1, none⟩ = some (.int .u32 y))
    (first | exact ⟨c0, c1, d0, d1⟩ | exact ⟨(World.cell?_alloc_lt _ _ _ l0).trans c0, (World.cell?_alloc_lt _ _ _ l0).trans c1, (World.cell?_alloc_lt _ _ _ l1).trans d0, (World.cell?_alloc_lt _ _ _ l1).trans d1⟩)
    (first
    | (go_at_call_of 92 u; refine (cmp32_any _ _ _).mono ?_; rintro e w2 ⟨rfl, rfl⟩)
    | (go_at_call 92; refine (cmp32_any _ _ _).mono ?_; rintro e w2 ⟨rfl, rfl⟩)
    | (go_at_call 61; refine (or2_any _ _ (cmpI u x) (cmpI v y) (World.cell?_alloc_at _ _ _ _ rfl) (World.cell?_alloc_at _ _ _ _ rfl)).mono ?_; rintro e w2 ⟨rfl, rfl⟩))
  all_goals
    go_wp2_with fail
    go_ret
    exact ⟨rfl, HM.out.drew.alloc _⟩

theorem cmp_edLt (u v x y : Int) : orI (cmpI u x) (cmpI v y) < 0 ↔ edLt ⟨u, v⟩ ⟨x, y⟩ := by
  unfold orI cmpI edLt
  simp only
  by_cases h1 : u < x
  · simp [h1]
  · by_cases h2 : x < u
    · simp [h1, h2]; omega
    · have h3 : u = x := by omega
      subst h3
      by_cases h4 : v < y
      · simp [h4]
      · by_cases h5 : y < v
        · simp [h4, h5]
        · simp [h4, h5]

set_option maxRecDepth 100000 in
set_option maxHeartbeats 1000000 in
theorem less_grw (w : World) (u v x y : Int) : Calls Tryz.prog 58 #[.agg #[.int .u32 u, .int .u32 v], .agg #[.int .u32 x, .int .u32 y]] w fun e w' => e = .returned (.bool (decide (edLt ⟨u, v⟩ ⟨x, y⟩))) ∧ Grw w w' := by
  have hb : decide (orI (cmpI u x) (cmpI v y) < 0) = decide (edLt ⟨u, v⟩ ⟨x, y⟩) := decide_eq_decide.2 (cmp_edLt u v x y)
  rw [← hb]
  clear hb
  go_enter Tryz.func58, Tryz.ntmps58
  go_wp2_with fail
  refine (compare_grw _ _ _ _ _).mono ?_
  rintro e w1 ⟨rfl, hm⟩
  have HM : Hid (Grw w w1) := (((Grw.refl _).alloc _).alloc _).trans hm
  clear hm
  go_wp2_with fail
  go_ret
  exact ⟨rfl, HM.out⟩

theorem compare_any (w : World) (u v x y : Int) : Calls Tryz.prog 79 #[.agg #[.int .u32 u, .int .u32 v], .agg #[.int .u32 x, .int .u32 y]] w fun e w' => e = .returned (.int .i64 (orI (cmpI u x) (cmpI v y))) ∧ Mod w w' NoB :=
  (compare_grw w u v x y).mono fun _ _ h => ⟨h.1, h.2.mod⟩
theorem less_any (w : World) (u v x y : Int) : Calls Tryz.prog 58 #[.agg #[.int .u32 u, .int .u32 v], .agg #[.int .u32 x, .int .u32 y]] w fun e w' => e = .returned (.bool (decide (edLt ⟨u, v⟩ ⟨x, y⟩))) ∧ Mod w w' NoB :=
  (less_grw w u v x y).mono fun _ _ h => ⟨h.1, h.2.mod⟩

end Go.Proofs.YtppambkffgmkgaaGreatDoor
end

section
/- The contract of life's follows. -/
namespace Go.Proofs.YtppambkffgmkgaaGreatDoor
open Go.RowKit
set_option linter.unusedVariables false

theorem keepc {w w' : World} {p : Addr} {v : Value} (c : w.cell? p = some v) (m : Mod w w' NoB) : w'.cell? p = some v := (m.cell (World.block_lt_of_cell? _ _ c) (by simp [NoB])).trans c

set_option maxRecDepth 100000 in
set_option maxHeartbeats 2000000 in
theorem follows_grw (w : World) (u v f1 t1 x y f2 t2 : Int) :
    Calls Tryz.prog 70 #[.agg #[.int .u32 u, .int .u32 v, .int .i64 f1, .int .i64 t1], .agg #[.int .u32 x, .int .u32 y, .int .i64 f2, .int .i64 t2]] w
      fun e w' => e = .returned (.bool (decide (follows ⟨⟨u, v⟩, f1, t1⟩ ⟨⟨x, y⟩, f2, t2⟩))) ∧ Grw w w' := by
  obtain ⟨r, hr⟩ : ∃ r, decide (follows ⟨⟨u, v⟩, f1, t1⟩ ⟨⟨x, y⟩, f2, t2⟩) = r := ⟨_, rfl⟩
  rw [hr]
  unfold follows at hr
  simp only at hr
  have HRS := Lib.hid hr
  clear hr
  go_enter Tryz.func70, Tryz.ntmps70
  go_wp2_with fail
  obtain ⟨p, hp⟩ : ∃ p, p = w.heap.size := ⟨_, rfl⟩
  obtain ⟨W, hW⟩ : ∃ W, W = (w.alloc (.cells #[.int .u32 u, .int .u32 v, .int .i64 f1, .int .i64 t1] 81)).alloc (.cells #[.int .u32 x, .int .u32 y, .int .i64 f2, .int .i64 t2] 81) := ⟨_, rfl⟩
  have HM : Hid (Grw w W) := by rw [hW]; exact ((Grw.refl _).alloc _).alloc _
  have hs1 : (w.alloc (.cells #[.int .u32 u, .int .u32 v, .int .i64 f1, .int .i64 t1] 81)).heap.size = w.heap.size + 1 := by simp
  have lt1 : w.heap.size < (w.alloc (.cells #[.int .u32 u, .int .u32 v, .int .i64 f1, .int .i64 t1] 81)).heap.size := by rw [hs1]; omega
  have HD : Hid ((W.cell? ⟨p, 0, none⟩ = some (.int .u32 u) ∧ W.cell? ⟨p, 1, none⟩ = some (.int .u32 v) ∧ W.cell? ⟨p, 2, none⟩ = some (.int .i64 f1) ∧ W.cell? ⟨p, 3, none⟩ = some (.int .i64 t1)) ∧
      W.cell? ⟨p + 1, 0, none⟩ = some (.int .u32 x) ∧ W.cell? ⟨p + 1, 1, none⟩ = some (.int .u32 y) ∧ W.cell? ⟨p + 1, 2, none⟩ = some (.int .i64 f2) ∧ W.cell? ⟨p + 1, 3, none⟩ = some (.int .i64 t2)) := by
    rw [hW, hp]
    exact ⟨⟨(World.cell?_alloc_lt _ _ _ lt1).trans (World.cell?_alloc_at _ _ _ _ rfl), (World.cell?_alloc_lt _ _ _ lt1).trans (World.cell?_alloc_at _ _ _ _ rfl), (World.cell?_alloc_lt _ _ _ lt1).trans (World.cell?_alloc_at _ _ _ _ rfl), (World.cell?_alloc_lt _ _ _ lt1).trans (World.cell?_alloc_at _ _ _ _ rfl)⟩,
      World.cell?_alloc_at _ _ _ _ hs1.symm, World.cell?_alloc_at _ _ _ _ hs1.symm, World.cell?_alloc_at _ _ _ _ hs1.symm, World.cell?_alloc_at _ _ _ _ hs1.symm⟩
  rw [← hW, ← hp]
  clear hW hs1 hp lt1
  refine (less_grw _ _ _ _ _).mono ?_
  rintro e w1 ⟨rfl, hm⟩
  have a0 := keepc HD.out.1.1 hm.mod
  have a1 := keepc HD.out.1.2.1 hm.mod
  have a2 := keepc HD.out.1.2.2.1 hm.mod
  have a3 := keepc HD.out.1.2.2.2 hm.mod
  have b0 := keepc HD.out.2.1 hm.mod
  have b1 := keepc HD.out.2.2.1 hm.mod
  have b2 := keepc HD.out.2.2.2.1 hm.mod
  have b3 := keepc HD.out.2.2.2.2 hm.mod
  have HN : Hid (Grw w w1) := HM.out.trans hm
  clear hm HM HD
  by_cases h1 : edLt ⟨u, v⟩ ⟨x, y⟩
  · rw [show decide (edLt ⟨u, v⟩ ⟨x, y⟩) = true by simp [h1]]
    have hr : r = true := by rw [← HRS.out]; simp [h1]
    subst hr
    clear h1
    go_wp2_with fail
    go_ret
    exact ⟨rfl, HN.out⟩
  · rw [show decide (edLt ⟨u, v⟩ ⟨x, y⟩) = false by simp [h1]]
    by_cases hu : u = x
    · by_cases hv : v = y
      · subst hu hv
        by_cases ht : 0 ≤ t1
        · by_cases hf : t1 < f2
          · have hr : r = true := by rw [← HRS.out]; simp [h1, ht, hf]
            subst hr
            clear h1
            go_wp2_with fail
            go_ret
            exact ⟨rfl, HN.out⟩
          · have hr : r = false := by rw [← HRS.out]; simp [h1, hf]
            have hfb : decide (t1 < f2) = false := by simpa using hf
            subst hr
            clear h1
            go_wp2_with fail
            go_ret
            exact ⟨rfl, HN.out⟩
        · have hr : r = false := by rw [← HRS.out]; simp [h1, ht]
          subst hr
          clear h1
          go_wp2_with fail
          go_ret
          exact ⟨rfl, HN.out⟩
      · have hr : r = false := by rw [← HRS.out]; simp [h1, hv]
        have hvb : (v == y) = false := by simp [hv]
        subst hr hu
        clear h1 hv
        go_wp2_with fail
        go_ret
        exact ⟨rfl, HN.out⟩
    · have hr : r = false := by rw [← HRS.out]; simp [h1, hu]
      have hub : (u == x) = false := by simp [hu]
      subst hr
      clear h1 hu
      go_wp2_with fail
      go_ret
      exact ⟨rfl, HN.out⟩
theorem follows_any (w : World) (u v f1 t1 x y f2 t2 : Int) :
    Calls Tryz.prog 70 #[.agg #[.int .u32 u, .int .u32 v, .int .i64 f1, .int .i64 t1], .agg #[.int .u32 x, .int .u32 y, .int .i64 f2, .int .i64 t2]] w
      fun e w' => e = .returned (.bool (decide (follows ⟨⟨u, v⟩, f1, t1⟩ ⟨⟨x, y⟩, f2, t2⟩))) ∧ Mod w w' NoB :=
  (follows_grw w u v f1 t1 x y f2 t2).mono fun _ _ h => ⟨h.1, h.2.mod⟩
end Go.Proofs.YtppambkffgmkgaaGreatDoor
end
