/- The walk of LifeTouch. -/
import Derived.Test.YthncgmmfnghliaaLfV
import Derived.Test.YthncgmmfnghliaaArgs
namespace Go.Proofs.Ythncgmmfnghliaa
open Go.RowKit
set_option linter.unusedVariables false

theorem putAll_len {α : Type} {lt : α → α → Prop} [DecidableRel lt] (l : List α) : (putAll lt l).length = l.length := by
  have key : ∀ (l o : List α), (l.foldl (fun o x => putR lt x o) o).length = o.length + l.length := by
    intro l
    induction l with
    | nil => intro o; simp
    | cons a l ih =>
      intro o
      rw [List.foldl_cons, ih, (putR_perm lt a o).length_eq, List.length_cons, List.length_cons]
      omega
  simpa [putAll] using key l []

def tEd : Ed := ⟨1, 2⟩
def two (A B C D : Int) : List Lf := [⟨tEd, A, B⟩, ⟨tEd, C, D⟩]
theorem two_chk {A B C D : Int} (ha : 0 ≤ A ∧ A ≤ 7) (hb : 0 ≤ B ∧ B ≤ 7) (hc : 0 ≤ C ∧ C ≤ 7) (hd : D ≤ 7) : lchk 3 (two A B C D) = if B ≤ A then (0, 23) else if (0 ≤ D ∧ D ≤ C) ∨ C ≤ B then (1, 23) else (0, 0) := by
  have hr : right tEd 3 := by unfold right tEd; decide
  have hlt : ¬ edLt tEd tEd := edLt_irrefl _
  unfold lchk
  rw [if_neg (by have := evCount_le (two A B C D); simp [two] at this ⊢; unfold maxN; omega)]
  unfold two lchkFrom lchkFrom
  unfold lfErr maxT
  simp only [hr, not_true, if_false, Option.any_none, Option.any_some]
  by_cases h1 : B ≤ A
  · have e1 : ¬ (A < 0 ∨ 4611686018427387903 < A ∨ 4611686018427387903 < B) := by omega
    simp only [e1, if_false, h1, hb.1, true_and, true_or, if_true]
    simp
  · have e1 : ¬ (A < 0 ∨ 4611686018427387903 < A ∨ 4611686018427387903 < B) := by omega
    have e2 : ¬ (C < 0 ∨ 4611686018427387903 < C ∨ 4611686018427387903 < D) := by omega
    simp only [e1, e2, if_false, h1, and_false]
    by_cases h2 : 0 ≤ D ∧ D ≤ C
    · simp [h2]
    · by_cases h3 : C ≤ B
      · have : ¬ follows ⟨tEd, A, B⟩ ⟨tEd, C, D⟩ := by unfold follows; simp [hlt]; omega
        simp [h2, h3, this]
      · have : follows ⟨tEd, A, B⟩ ⟨tEd, C, D⟩ := by unfold follows; right; exact ⟨rfl, hb.1, by simp; omega⟩
        simp [h2, h3, this, lchkFrom]
theorem two_back {A B C D : Int} (h : (lchk 3 (two A B C D)).2 = 0) (hb : 0 ≤ B) : (backE 3 (two A B C D)).length = if 0 ≤ D then 4 else 3 := by
  unfold backE
  rw [if_pos h, putAll_len]
  unfold two evs evsOf
  by_cases hd : 0 ≤ D
  · simp [hb, hd]
  · simp [hb, hd]

theorem two_bd (A B C D : Int) : ∀ x ∈ two A B C D, EdB x.e := by
  intro x hx
  have : x.e = tEd := by simp [two] at hx; rcases hx with rfl | rfl <;> rfl
  rw [this]; unfold EdB tEd; simp

theorem t_check {z : World} {a : Option Addr} {cap R1 R2 : Nat} {A B C D : Int} (hR : lchk 3 (two A B C D) = (R1, R2)) (h : Lvs z a (two A B C D)) :
    Calls Try.prog 15 #[.int .u64 3, .slice a 2 cap] z fun e w' => e = .returned (.tuple #[.int .i64 R1, .int .i64 R2]) ∧ Mod z w' NoB := by
  have := lcheck_any z 3 a cap _ h (by simp [two]) (two_bd A B C D)
  rw [hR] at this
  exact this
theorem t_back {z : World} {a : Option Addr} {cap R2 N : Nat} {A B C D : Int} (hR : (lchk 3 (two A B C D)).2 = R2) (hN : (backE 3 (two A B C D)).length = N) (h : Lvs z a (two A B C D)) :
    Calls Try.prog 17 #[.int .u64 3, .slice a 2 cap] z fun e w' => ∃ n a' cap', e = .returned (.tuple #[.agg #[.int .u64 n, .slice a' N cap'], .int .i64 R2]) ∧ Mod z w' NoB := by
  have := back_any z 3 a cap _ h (by simp [two]) (two_bd A B C D)
  rw [hR, hN] at this
  refine this.mono ?_
  rintro e w' ⟨a', cap', rfl, _, hm⟩
  exact ⟨_, a', cap', rfl, hm⟩
theorem two_err {A B C D : Int} (h : (lchk 3 (two A B C D)).2 ≠ 0) : (backE 3 (two A B C D)).length = 0 := by
  unfold backE; rw [if_neg h]; rfl

/-- What stands ahead of the checks. -/
structure TSt (w z : World) (h2 h3 : Nat) (A B C D : Int) : Prop where
  mod : Mod w z NoB
  x : LfAt z h2 0 ⟨tEd, A, B⟩
  y : LfAt z h3 0 ⟨tEd, C, D⟩
theorem TSt.mono {w z z' : World} {h2 h3 : Nat} {A B C D : Int} (h : TSt w z h2 h3 A B C D) (hm : Mod z z' NoB) : TSt w z' h2 h3 A B C D := ⟨h.mod.trans hm (fun _ _ c => c), h.x.mod hm, h.y.mod hm⟩
theorem TSt.start {w w1 : World} {A B C D : Int} (hm : Mod w w1 NoB) : TSt w (((w1.alloc (.cells #[.int .u32 1, .int .u32 2] 54)).alloc (.cells #[.int .u32 1, .int .u32 2, .int .i64 A, .int .i64 B] 56)).alloc (.cells #[.int .u32 1, .int .u32 2, .int .i64 C, .int .i64 D] 56))
    (w1.heap.size + 1) (w1.heap.size + 1 + 1) A B C D := by
  have hs1 : (w1.alloc (.cells #[.int .u32 1, .int .u32 2] 54)).heap.size = w1.heap.size + 1 := by simp
  have hs2 : ((w1.alloc (.cells #[.int .u32 1, .int .u32 2] 54)).alloc (.cells #[.int .u32 1, .int .u32 2, .int .i64 A, .int .i64 B] 56)).heap.size = w1.heap.size + 1 + 1 := by simp
  have lt : w1.heap.size + 1 < ((w1.alloc (.cells #[.int .u32 1, .int .u32 2] 54)).alloc (.cells #[.int .u32 1, .int .u32 2, .int .i64 A, .int .i64 B] 56)).heap.size := by rw [hs2]; omega
  have a1 : ∀ j, (((w1.alloc (.cells #[.int .u32 1, .int .u32 2] 54)).alloc (.cells #[.int .u32 1, .int .u32 2, .int .i64 A, .int .i64 B] 56)).alloc (.cells #[.int .u32 1, .int .u32 2, .int .i64 C, .int .i64 D] 56)).cell? ⟨w1.heap.size + 1, j, none⟩ = (#[.int .u32 1, .int .u32 2, .int .i64 A, .int .i64 B] : Array Value)[j]? := fun j =>
    (World.cell?_alloc_lt _ _ _ lt).trans (World.cell?_alloc_at _ _ _ _ hs1.symm)
  have a2 : ∀ j, (((w1.alloc (.cells #[.int .u32 1, .int .u32 2] 54)).alloc (.cells #[.int .u32 1, .int .u32 2, .int .i64 A, .int .i64 B] 56)).alloc (.cells #[.int .u32 1, .int .u32 2, .int .i64 C, .int .i64 D] 56)).cell? ⟨w1.heap.size + 1 + 1, j, none⟩ = (#[.int .u32 1, .int .u32 2, .int .i64 C, .int .i64 D] : Array Value)[j]? := fun j =>
    World.cell?_alloc_at _ _ _ _ hs2.symm
  exact ⟨((hm.alloc _).alloc _).alloc _, ⟨(a1 0).trans rfl, (a1 1).trans rfl, (a1 2).trans rfl, (a1 3).trans rfl⟩, ⟨(a2 0).trans rfl, (a2 1).trans rfl, (a2 2).trans rfl, (a2 3).trans rfl⟩⟩
theorem TSt.froz {w1 : World} {A B C D : Int} : (((w1.alloc (.cells #[.int .u32 1, .int .u32 2] 54)).alloc (.cells #[.int .u32 1, .int .u32 2, .int .i64 A, .int .i64 B] 56)).alloc (.cells #[.int .u32 1, .int .u32 2, .int .i64 C, .int .i64 D] 56)).frozen? ⟨w1.heap.size + 1 + 1, 3, none⟩ = false := by
  have hs2 : ((w1.alloc (.cells #[.int .u32 1, .int .u32 2] 54)).alloc (.cells #[.int .u32 1, .int .u32 2, .int .i64 A, .int .i64 B] 56)).heap.size = w1.heap.size + 1 + 1 := by simp
  have hh := (MapKept.heap_alloc ((w1.alloc (.cells #[.int .u32 1, .int .u32 2] 54)).alloc (.cells #[.int .u32 1, .int .u32 2, .int .i64 A, .int .i64 B] 56)) (.cells #[.int .u32 1, .int .u32 2, .int .i64 C, .int .i64 D] 56)).1
  rw [hs2] at hh
  unfold World.frozen?
  rw [hh]
  rfl
theorem TSt.open' {w z : World} {h2 h3 : Nat} {A B C D : Int} (h : TSt w z h2 h3 A B C D) (hw : w.heap.size ≤ h3) (hne : h2 ≠ h3) (D' : Int) : TSt w (z.setCell ⟨h3, 3, none⟩ (.int .i64 D')) h2 h3 A B C D' := by
  have hm : Mod z (z.setCell ⟨h3, 3, none⟩ (.int .i64 D')) (OneB h3) := Mod.set1 z h3 3 _
  have nx : ¬ OneB h3 h2 := fun c => hne c
  refine ⟨h.mod.trans hm (fun i hi c => by
    have : i = h3 := c
    omega), ⟨keepS h.x.1 hm nx, keepS h.x.2.1 hm nx, keepS h.x.2.2.1 hm nx, keepS h.x.2.2.2 hm nx⟩, ?_, ?_, ?_, ?_⟩
  · rw [World.cell?_setCell_other _ _ _ _ (by simp)]; exact h.y.1
  · rw [World.cell?_setCell_other _ _ _ _ (by simp)]; exact h.y.2.1
  · rw [World.cell?_setCell_other _ _ _ _ (by simp)]; exact h.y.2.2.1
  · exact World.cell?_setCell_same _ _ _ h.y.2.2.2

set_option maxRecDepth 100000 in
set_option maxHeartbeats 4000000 in
theorem touch_all (a0 a1 a2 a3 : Int) (a4 : Bool) (w : World) (w0 : (Lit.int .u8 a0).wf = true) (w1 : (Lit.int .u8 a1).wf = true) (w2 : (Lit.int .u8 a2).wf = true) (w3 : (Lit.int .u8 a3).wf = true) :
    Calls Try.prog 7 #[.int .u8 a0, .int .u8 a1, .int .u8 a2, .int .u8 a3, .bool a4] w fun e w' => e = .returned (.bool true) ∧ Below w.heap.size w w' := by
  obtain ⟨p0, q0⟩ := bounds_u8 w0
  obtain ⟨p1, q1⟩ := bounds_u8 w1
  obtain ⟨p2, q2⟩ := bounds_u8 w2
  obtain ⟨p3, q3⟩ := bounds_u8 w3
  clear w0 w1 w2 w3
  go_enter Try.func7, Try.ntmps7
  go_wp2_with fail
  refine (known_any _).mono ?_
  rintro e w1 ⟨rfl, hm⟩
  have HM := Lib.hid hm
  clear hm
  have hw0 : w.heap.size ≤ w1.heap.size := HM.out.size
  have HS0 := Lib.hid (TSt.start (A := a0 % 8) (B := a1 % 8) (C := a2 % 8) (D := a3 % 8) HM.out)
  obtain ⟨h2, hh2⟩ : ∃ h2, h2 = w1.heap.size + 1 := ⟨_, rfl⟩
  obtain ⟨Z, hZ⟩ : ∃ Z, Z = (((w1.alloc (.cells #[.int .u32 1, .int .u32 2] 54)).alloc (.cells #[.int .u32 1, .int .u32 2, .int .i64 (a0 % 8), .int .i64 (a1 % 8)] 56)).alloc (.cells #[.int .u32 1, .int .u32 2, .int .i64 (a2 % 8), .int .i64 (a3 % 8)] 56)) := ⟨_, rfl⟩
  go_upto_region 6 with (fail)
  rw [← hZ, ← hh2]
  rw [← hZ, ← hh2] at HS0
  have HH3 : Hid (w.heap.size ≤ h2 + 1) := by show _ ≤ _; omega
  have HF : Hid (Z.frozen? ⟨h2 + 1, 3, none⟩ = false) := by
    show _ = _
    rw [hZ, hh2]; exact TSt.froz
  clear hZ hh2 hw0
  cases a4 with
  | false =>
    have HS := HS0
    go_upto_region 8 with (fail)
    by_cases c1 : a1 % 8 ≤ a0 % 8
    · have HR : Hid (lchk 3 (two (a0 % 8) (a1 % 8) (a2 % 8) (a3 % 8)) = (0, 23) ∧ (lchk 3 (two (a0 % 8) (a1 % 8) (a2 % 8) (a3 % 8))).2 = 23 ∧ (backE 3 (two (a0 % 8) (a1 % 8) (a2 % 8) (a3 % 8))).length = 0) := by
        have h1 : lchk 3 (two (a0 % 8) (a1 % 8) (a2 % 8) (a3 % 8)) = (0, 23) := by
          rw [two_chk (by omega) (by omega) (by omega) (by omega)]; rw [if_pos c1]
        refine ⟨h1, by rw [h1], ?_⟩
        exact two_err (by rw [h1]; simp)
      have b0 := HS.out.x.1
      have b1 := HS.out.x.2.1
      have b2 := HS.out.x.2.2.1
      have b3 := HS.out.x.2.2.2
      have d0 := HS.out.y.1
      have d1 := HS.out.y.2.1
      have d2 := HS.out.y.2.2.1
      have d3 := HS.out.y.2.2.2
      simp only [Nat.zero_add] at b1 b2 b3 d1 d2 d3
      go_wp2_with fail
      refine (t_check HR.out.1 (lvs_of_block (MapKept.heap_alloc _ _).1 rfl)).mono ?_
      rintro e z2 ⟨rfl, hm⟩
      have HT := Lib.hid (HS.out.mono (((Mod.refl _ NoB).alloc _).trans hm (fun _ _ c => c)))
      clear hm b0 b1 b2 b3 d0 d1 d2 d3 HS
      have b0 := HT.out.x.1
      have b1 := HT.out.x.2.1
      have b2 := HT.out.x.2.2.1
      have b3 := HT.out.x.2.2.2
      have d0 := HT.out.y.1
      have d1 := HT.out.y.2.1
      have d2 := HT.out.y.2.2.1
      have d3 := HT.out.y.2.2.2
      simp only [Nat.zero_add] at b1 b2 b3 d1 d2 d3
      go_wp2_with fail
      refine (t_back HR.out.2.1 HR.out.2.2 (lvs_of_block (MapKept.heap_alloc _ _).1 rfl)).mono ?_
      rintro e z3 ⟨hn, ha, hcap, rfl, hm⟩
      have HU := Lib.hid (HT.out.mono (((Mod.refl _ NoB).alloc _).trans hm (fun _ _ c => c)))
      clear hm b0 b1 b2 b3 d0 d1 d2 d3 HT
      go_wp2_with fail
      go_ret
      exact ⟨rfl, (HU.out.mod.alloc _).below (Nat.le_refl _) (fun _ h => h.elim)⟩
    · have c1d : decide (a1 % 8 ≤ a0 % 8) = false := decide_eq_false c1
      by_cases c2 : a3 % 8 ≤ a2 % 8
      · have HR : Hid (lchk 3 (two (a0 % 8) (a1 % 8) (a2 % 8) (a3 % 8)) = (1, 23) ∧ (lchk 3 (two (a0 % 8) (a1 % 8) (a2 % 8) (a3 % 8))).2 = 23 ∧ (backE 3 (two (a0 % 8) (a1 % 8) (a2 % 8) (a3 % 8))).length = 0) := by
          have h1 : lchk 3 (two (a0 % 8) (a1 % 8) (a2 % 8) (a3 % 8)) = (1, 23) := by
            rw [two_chk (by omega) (by omega) (by omega) (by omega)]; rw [if_neg c1, if_pos (by omega)]
          refine ⟨h1, by rw [h1], ?_⟩
          exact two_err (by rw [h1]; simp)
        have b0 := HS.out.x.1
        have b1 := HS.out.x.2.1
        have b2 := HS.out.x.2.2.1
        have b3 := HS.out.x.2.2.2
        have d0 := HS.out.y.1
        have d1 := HS.out.y.2.1
        have d2 := HS.out.y.2.2.1
        have d3 := HS.out.y.2.2.2
        simp only [Nat.zero_add] at b1 b2 b3 d1 d2 d3
        go_wp2_with fail
        refine (t_check HR.out.1 (lvs_of_block (MapKept.heap_alloc _ _).1 rfl)).mono ?_
        rintro e z2 ⟨rfl, hm⟩
        have HT := Lib.hid (HS.out.mono (((Mod.refl _ NoB).alloc _).trans hm (fun _ _ c => c)))
        clear hm b0 b1 b2 b3 d0 d1 d2 d3 HS
        have b0 := HT.out.x.1
        have b1 := HT.out.x.2.1
        have b2 := HT.out.x.2.2.1
        have b3 := HT.out.x.2.2.2
        have d0 := HT.out.y.1
        have d1 := HT.out.y.2.1
        have d2 := HT.out.y.2.2.1
        have d3 := HT.out.y.2.2.2
        simp only [Nat.zero_add] at b1 b2 b3 d1 d2 d3
        go_wp2_with fail
        refine (t_back HR.out.2.1 HR.out.2.2 (lvs_of_block (MapKept.heap_alloc _ _).1 rfl)).mono ?_
        rintro e z3 ⟨hn, ha, hcap, rfl, hm⟩
        have HU := Lib.hid (HT.out.mono (((Mod.refl _ NoB).alloc _).trans hm (fun _ _ c => c)))
        clear hm b0 b1 b2 b3 d0 d1 d2 d3 HT
        go_wp2_with fail
        go_ret
        exact ⟨rfl, (HU.out.mod.alloc _).below (Nat.le_refl _) (fun _ h => h.elim)⟩
      · have c2d : decide (a3 % 8 ≤ a2 % 8) = false := decide_eq_false c2
        by_cases c3 : a2 % 8 ≤ a1 % 8
        · have HR : Hid (lchk 3 (two (a0 % 8) (a1 % 8) (a2 % 8) (a3 % 8)) = (1, 23) ∧ (lchk 3 (two (a0 % 8) (a1 % 8) (a2 % 8) (a3 % 8))).2 = 23 ∧ (backE 3 (two (a0 % 8) (a1 % 8) (a2 % 8) (a3 % 8))).length = 0) := by
            have h1 : lchk 3 (two (a0 % 8) (a1 % 8) (a2 % 8) (a3 % 8)) = (1, 23) := by
              rw [two_chk (by omega) (by omega) (by omega) (by omega)]; rw [if_neg c1, if_pos (by omega)]
            refine ⟨h1, by rw [h1], ?_⟩
            exact two_err (by rw [h1]; simp)
          have b0 := HS.out.x.1
          have b1 := HS.out.x.2.1
          have b2 := HS.out.x.2.2.1
          have b3 := HS.out.x.2.2.2
          have d0 := HS.out.y.1
          have d1 := HS.out.y.2.1
          have d2 := HS.out.y.2.2.1
          have d3 := HS.out.y.2.2.2
          simp only [Nat.zero_add] at b1 b2 b3 d1 d2 d3
          go_wp2_with fail
          refine (t_check HR.out.1 (lvs_of_block (MapKept.heap_alloc _ _).1 rfl)).mono ?_
          rintro e z2 ⟨rfl, hm⟩
          have HT := Lib.hid (HS.out.mono (((Mod.refl _ NoB).alloc _).trans hm (fun _ _ c => c)))
          clear hm b0 b1 b2 b3 d0 d1 d2 d3 HS
          have b0 := HT.out.x.1
          have b1 := HT.out.x.2.1
          have b2 := HT.out.x.2.2.1
          have b3 := HT.out.x.2.2.2
          have d0 := HT.out.y.1
          have d1 := HT.out.y.2.1
          have d2 := HT.out.y.2.2.1
          have d3 := HT.out.y.2.2.2
          simp only [Nat.zero_add] at b1 b2 b3 d1 d2 d3
          go_wp2_with fail
          refine (t_back HR.out.2.1 HR.out.2.2 (lvs_of_block (MapKept.heap_alloc _ _).1 rfl)).mono ?_
          rintro e z3 ⟨hn, ha, hcap, rfl, hm⟩
          have HU := Lib.hid (HT.out.mono (((Mod.refl _ NoB).alloc _).trans hm (fun _ _ c => c)))
          clear hm b0 b1 b2 b3 d0 d1 d2 d3 HT
          go_wp2_with fail
          go_ret
          exact ⟨rfl, (HU.out.mod.alloc _).below (Nat.le_refl _) (fun _ h => h.elim)⟩
        · have c3d : decide (a2 % 8 ≤ a1 % 8) = false := decide_eq_false c3
          have HR : Hid (lchk 3 (two (a0 % 8) (a1 % 8) (a2 % 8) (a3 % 8)) = (0, 0) ∧ (lchk 3 (two (a0 % 8) (a1 % 8) (a2 % 8) (a3 % 8))).2 = 0 ∧ (backE 3 (two (a0 % 8) (a1 % 8) (a2 % 8) (a3 % 8))).length = 4) := by
            have h1 : lchk 3 (two (a0 % 8) (a1 % 8) (a2 % 8) (a3 % 8)) = (0, 0) := by
              rw [two_chk (by omega) (by omega) (by omega) (by omega)]; rw [if_neg c1, if_neg (by omega)]
            refine ⟨h1, by rw [h1], ?_⟩
            rw [two_back (by rw [h1]) (by omega)]; rw [if_pos (by omega)]
          have b0 := HS.out.x.1
          have b1 := HS.out.x.2.1
          have b2 := HS.out.x.2.2.1
          have b3 := HS.out.x.2.2.2
          have d0 := HS.out.y.1
          have d1 := HS.out.y.2.1
          have d2 := HS.out.y.2.2.1
          have d3 := HS.out.y.2.2.2
          simp only [Nat.zero_add] at b1 b2 b3 d1 d2 d3
          go_wp2_with fail
          refine (t_check HR.out.1 (lvs_of_block (MapKept.heap_alloc _ _).1 rfl)).mono ?_
          rintro e z2 ⟨rfl, hm⟩
          have HT := Lib.hid (HS.out.mono (((Mod.refl _ NoB).alloc _).trans hm (fun _ _ c => c)))
          clear hm b0 b1 b2 b3 d0 d1 d2 d3 HS
          have b0 := HT.out.x.1
          have b1 := HT.out.x.2.1
          have b2 := HT.out.x.2.2.1
          have b3 := HT.out.x.2.2.2
          have d0 := HT.out.y.1
          have d1 := HT.out.y.2.1
          have d2 := HT.out.y.2.2.1
          have d3 := HT.out.y.2.2.2
          simp only [Nat.zero_add] at b1 b2 b3 d1 d2 d3
          go_wp2_with fail
          refine (t_back HR.out.2.1 HR.out.2.2 (lvs_of_block (MapKept.heap_alloc _ _).1 rfl)).mono ?_
          rintro e z3 ⟨hn, ha, hcap, rfl, hm⟩
          have HU := Lib.hid (HT.out.mono (((Mod.refl _ NoB).alloc _).trans hm (fun _ _ c => c)))
          clear hm b0 b1 b2 b3 d0 d1 d2 d3 HT
          go_wp2_with fail
          go_ret
          exact ⟨rfl, (HU.out.mod.alloc _).below (Nat.le_refl _) (fun _ h => h.elim)⟩
  | true =>
    have hn1 : IntKind.i64.wrap (-a3) = -a3 := IntWalk.i64_in _ (by omega)
    have hn2 : IntKind.i64.wrap (-a3 - 1) = -a3 - 1 := IntWalk.i64_in _ (by omega)
    have e3 : Z.cell? ⟨h2 + 1, 3, none⟩ = some (.int .i64 (a3 % 8)) := HS0.out.y.2.2.2
    have f3 : Z.frozen? ⟨h2 + 1, 3, none⟩ = false := HF.out
    have HS := Lib.hid (HS0.out.open' HH3.out (by omega) (-a3 - 1))
    go_upto_region 8 with (fail)
    clear hn1 hn2 e3 f3
    obtain ⟨Y, hY⟩ : ∃ Y, Y = Z.setCell ⟨h2 + 1, 3, none⟩ (.int .i64 (-a3 - 1)) := ⟨_, rfl⟩
    rw [← hY]
    rw [← hY] at HS
    clear hY
    by_cases c1 : a1 % 8 ≤ a0 % 8
    · have HR : Hid (lchk 3 (two (a0 % 8) (a1 % 8) (a2 % 8) (-a3 - 1)) = (0, 23) ∧ (lchk 3 (two (a0 % 8) (a1 % 8) (a2 % 8) (-a3 - 1))).2 = 23 ∧ (backE 3 (two (a0 % 8) (a1 % 8) (a2 % 8) (-a3 - 1))).length = 0) := by
        have h1 : lchk 3 (two (a0 % 8) (a1 % 8) (a2 % 8) (-a3 - 1)) = (0, 23) := by
          rw [two_chk (by omega) (by omega) (by omega) (by omega)]; rw [if_pos c1]
        refine ⟨h1, by rw [h1], ?_⟩
        exact two_err (by rw [h1]; simp)
      have b0 := HS.out.x.1
      have b1 := HS.out.x.2.1
      have b2 := HS.out.x.2.2.1
      have b3 := HS.out.x.2.2.2
      have d0 := HS.out.y.1
      have d1 := HS.out.y.2.1
      have d2 := HS.out.y.2.2.1
      have d3 := HS.out.y.2.2.2
      simp only [Nat.zero_add] at b1 b2 b3 d1 d2 d3
      go_wp2_with fail
      refine (t_check HR.out.1 (lvs_of_block (MapKept.heap_alloc _ _).1 rfl)).mono ?_
      rintro e z2 ⟨rfl, hm⟩
      have HT := Lib.hid (HS.out.mono (((Mod.refl _ NoB).alloc _).trans hm (fun _ _ c => c)))
      clear hm b0 b1 b2 b3 d0 d1 d2 d3 HS
      have b0 := HT.out.x.1
      have b1 := HT.out.x.2.1
      have b2 := HT.out.x.2.2.1
      have b3 := HT.out.x.2.2.2
      have d0 := HT.out.y.1
      have d1 := HT.out.y.2.1
      have d2 := HT.out.y.2.2.1
      have d3 := HT.out.y.2.2.2
      simp only [Nat.zero_add] at b1 b2 b3 d1 d2 d3
      go_wp2_with fail
      refine (t_back HR.out.2.1 HR.out.2.2 (lvs_of_block (MapKept.heap_alloc _ _).1 rfl)).mono ?_
      rintro e z3 ⟨hn, ha, hcap, rfl, hm⟩
      have HU := Lib.hid (HT.out.mono (((Mod.refl _ NoB).alloc _).trans hm (fun _ _ c => c)))
      clear hm b0 b1 b2 b3 d0 d1 d2 d3 HT
      go_wp2_with fail
      go_ret
      exact ⟨rfl, (HU.out.mod.alloc _).below (Nat.le_refl _) (fun _ h => h.elim)⟩
    · have c1d : decide (a1 % 8 ≤ a0 % 8) = false := decide_eq_false c1
      by_cases c3 : a2 % 8 ≤ a1 % 8
      · have HR : Hid (lchk 3 (two (a0 % 8) (a1 % 8) (a2 % 8) (-a3 - 1)) = (1, 23) ∧ (lchk 3 (two (a0 % 8) (a1 % 8) (a2 % 8) (-a3 - 1))).2 = 23 ∧ (backE 3 (two (a0 % 8) (a1 % 8) (a2 % 8) (-a3 - 1))).length = 0) := by
          have h1 : lchk 3 (two (a0 % 8) (a1 % 8) (a2 % 8) (-a3 - 1)) = (1, 23) := by
            rw [two_chk (by omega) (by omega) (by omega) (by omega)]; rw [if_neg c1, if_pos (by omega)]
          refine ⟨h1, by rw [h1], ?_⟩
          exact two_err (by rw [h1]; simp)
        have b0 := HS.out.x.1
        have b1 := HS.out.x.2.1
        have b2 := HS.out.x.2.2.1
        have b3 := HS.out.x.2.2.2
        have d0 := HS.out.y.1
        have d1 := HS.out.y.2.1
        have d2 := HS.out.y.2.2.1
        have d3 := HS.out.y.2.2.2
        simp only [Nat.zero_add] at b1 b2 b3 d1 d2 d3
        go_wp2_with fail
        refine (t_check HR.out.1 (lvs_of_block (MapKept.heap_alloc _ _).1 rfl)).mono ?_
        rintro e z2 ⟨rfl, hm⟩
        have HT := Lib.hid (HS.out.mono (((Mod.refl _ NoB).alloc _).trans hm (fun _ _ c => c)))
        clear hm b0 b1 b2 b3 d0 d1 d2 d3 HS
        have b0 := HT.out.x.1
        have b1 := HT.out.x.2.1
        have b2 := HT.out.x.2.2.1
        have b3 := HT.out.x.2.2.2
        have d0 := HT.out.y.1
        have d1 := HT.out.y.2.1
        have d2 := HT.out.y.2.2.1
        have d3 := HT.out.y.2.2.2
        simp only [Nat.zero_add] at b1 b2 b3 d1 d2 d3
        go_wp2_with fail
        refine (t_back HR.out.2.1 HR.out.2.2 (lvs_of_block (MapKept.heap_alloc _ _).1 rfl)).mono ?_
        rintro e z3 ⟨hn, ha, hcap, rfl, hm⟩
        have HU := Lib.hid (HT.out.mono (((Mod.refl _ NoB).alloc _).trans hm (fun _ _ c => c)))
        clear hm b0 b1 b2 b3 d0 d1 d2 d3 HT
        go_wp2_with fail
        go_ret
        exact ⟨rfl, (HU.out.mod.alloc _).below (Nat.le_refl _) (fun _ h => h.elim)⟩
      · have c3d : decide (a2 % 8 ≤ a1 % 8) = false := decide_eq_false c3
        have HR : Hid (lchk 3 (two (a0 % 8) (a1 % 8) (a2 % 8) (-a3 - 1)) = (0, 0) ∧ (lchk 3 (two (a0 % 8) (a1 % 8) (a2 % 8) (-a3 - 1))).2 = 0 ∧ (backE 3 (two (a0 % 8) (a1 % 8) (a2 % 8) (-a3 - 1))).length = 3) := by
          have h1 : lchk 3 (two (a0 % 8) (a1 % 8) (a2 % 8) (-a3 - 1)) = (0, 0) := by
            rw [two_chk (by omega) (by omega) (by omega) (by omega)]; rw [if_neg c1, if_neg (by omega)]
          refine ⟨h1, by rw [h1], ?_⟩
          rw [two_back (by rw [h1]) (by omega)]; rw [if_neg (by omega)]
        have b0 := HS.out.x.1
        have b1 := HS.out.x.2.1
        have b2 := HS.out.x.2.2.1
        have b3 := HS.out.x.2.2.2
        have d0 := HS.out.y.1
        have d1 := HS.out.y.2.1
        have d2 := HS.out.y.2.2.1
        have d3 := HS.out.y.2.2.2
        simp only [Nat.zero_add] at b1 b2 b3 d1 d2 d3
        go_wp2_with fail
        refine (t_check HR.out.1 (lvs_of_block (MapKept.heap_alloc _ _).1 rfl)).mono ?_
        rintro e z2 ⟨rfl, hm⟩
        have HT := Lib.hid (HS.out.mono (((Mod.refl _ NoB).alloc _).trans hm (fun _ _ c => c)))
        clear hm b0 b1 b2 b3 d0 d1 d2 d3 HS
        have b0 := HT.out.x.1
        have b1 := HT.out.x.2.1
        have b2 := HT.out.x.2.2.1
        have b3 := HT.out.x.2.2.2
        have d0 := HT.out.y.1
        have d1 := HT.out.y.2.1
        have d2 := HT.out.y.2.2.1
        have d3 := HT.out.y.2.2.2
        simp only [Nat.zero_add] at b1 b2 b3 d1 d2 d3
        go_wp2_with fail
        refine (t_back HR.out.2.1 HR.out.2.2 (lvs_of_block (MapKept.heap_alloc _ _).1 rfl)).mono ?_
        rintro e z3 ⟨hn, ha, hcap, rfl, hm⟩
        have HU := Lib.hid (HT.out.mono (((Mod.refl _ NoB).alloc _).trans hm (fun _ _ c => c)))
        clear hm b0 b1 b2 b3 d0 d1 d2 d3 HT
        go_wp2_with fail
        go_ret
        exact ⟨rfl, (HU.out.mod.alloc _).below (Nat.le_refl _) (fun _ h => h.elim)⟩
end Go.Proofs.Ythncgmmfnghliaa
