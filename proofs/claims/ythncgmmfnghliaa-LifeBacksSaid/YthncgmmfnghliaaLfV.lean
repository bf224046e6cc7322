/- The law's known. -/
import Derived.Test.YthncgmmfnghliaaLfR
namespace Go.Proofs.Ythncgmmfnghliaa
open Go.RowKit
set_option linter.unusedVariables false

theorem evs_of_block {w : World} {b : Nat} {cs : Array Value} {t : TypeId} {fr : Nat × Nat} {l : List Ev} (hb : w.heap[b]? = some (.cells cs t fr)) (hcs : cs.toList = l.flatMap encV) : Evs w (some ⟨b, 0, none⟩) l := by
  have hc : ∀ j u, (l.flatMap encV)[j]? = some u → w.cell? ⟨b, j, none⟩ = some u := fun j u hu => by
    rw [cell_of_row w b j cs t fr hb, ← Array.getElem?_toList, hcs]; exact hu
  refine Or.inr ⟨b, 0, rfl, (Array.getElem?_eq_some_iff.1 hb).1, fun i x hx => ?_⟩
  rw [Nat.zero_add]
  have g0 := enc4_get encV_len l i x 0 hx (by omega)
  have g1 := enc4_get encV_len l i x 1 hx (by omega)
  have g2 := enc4_get encV_len l i x 2 hx (by omega)
  have g3 := enc4_get encV_len l i x 3 hx (by omega)
  exact ⟨hc _ _ g0, hc _ _ g1, hc _ _ g2, hc _ _ g3⟩
theorem lvs_of_block {w : World} {b : Nat} {cs : Array Value} {t : TypeId} {fr : Nat × Nat} {l : List Lf} (hb : w.heap[b]? = some (.cells cs t fr)) (hcs : cs.toList = l.flatMap encL) : Lvs w (some ⟨b, 0, none⟩) l := by
  have hc : ∀ j u, (l.flatMap encL)[j]? = some u → w.cell? ⟨b, j, none⟩ = some u := fun j u hu => by
    rw [cell_of_row w b j cs t fr hb, ← Array.getElem?_toList, hcs]; exact hu
  refine Or.inr ⟨b, 0, rfl, (Array.getElem?_eq_some_iff.1 hb).1, fun i x hx => ?_⟩
  rw [Nat.zero_add]
  have g0 := enc4_get encL_len l i x 0 hx (by omega)
  have g1 := enc4_get encL_len l i x 1 hx (by omega)
  have g2 := enc4_get encL_len l i x 2 hx (by omega)
  have g3 := enc4_get encL_len l i x 3 hx (by omega)
  exact ⟨hc _ _ g0, hc _ _ g1, hc _ _ g2, hc _ _ g3⟩

def kEd : Ed := ⟨0, 1⟩
def kEv : List Ev := [⟨1, kEd, true⟩, ⟨3, kEd, false⟩, ⟨4, kEd, true⟩]
def kLf : List Lf := [⟨kEd, 1, 3⟩, ⟨kEd, 4, -1⟩]
def kBad : List Lf := [⟨kEd, 1, 3⟩, ⟨kEd, 3, -1⟩]
theorem k_chk : chk 2 kEv = (0, 0) := by decide
theorem k_of : ofL 2 kEv = kLf := by decide
theorem k_lchk : lchk 2 kLf = (0, 0) := by decide
theorem k_backN : backN 2 kLf = 2 := by decide
theorem k_back : (backE 2 kLf).length = 3 := by decide
theorem k_bad : lchk 2 kBad = (1, 23) := by decide
theorem k_edb : ∀ x ∈ kEv, EvB x := by
  intro x hx
  have : x.e = kEd := by simp [kEv] at hx; rcases hx with rfl | rfl | rfl <;> rfl
  unfold EvB; rw [this]; unfold EdB kEd; simp
theorem k_ldb : ∀ x ∈ kLf, EdB x.e := by
  intro x hx
  have : x.e = kEd := by simp [kLf] at hx; rcases hx with rfl | rfl <;> rfl
  rw [this]; unfold EdB kEd; simp
theorem k_bdb : ∀ x ∈ kBad, EdB x.e := by
  intro x hx
  have : x.e = kEd := by simp [kBad] at hx; rcases hx with rfl | rfl <;> rfl
  rw [this]; unfold EdB kEd; simp

theorem k_Of (w : World) (a : Option Addr) (cap : Nat) (h : Evs w a kEv) : Calls Try.prog 11 #[.agg #[.int .u64 2, .slice a 3 cap]] w fun e w' => ∃ b' o' cap', e = .returned (.tuple #[.slice (some ⟨b', o', none⟩) 2 cap', .int .i64 0]) ∧ Lvs w' (some ⟨b', o', none⟩) kLf ∧ Mod w w' NoB := by
  have := of_any w 2 a cap kEv h (by decide) k_edb
  rw [k_of, k_chk] at this
  refine this.mono ?_
  rintro e w' ⟨a', cap', rfl, h1, h2⟩
  rcases id h1 with h0 | ⟨b, off, rfl, _⟩
  · cases h0
  · exact ⟨b, off, cap', rfl, h1, h2⟩
theorem k_Back (w : World) (a : Option Addr) (cap : Nat) (h : Lvs w a kLf) : Calls Try.prog 17 #[.int .u64 2, .slice a 2 cap] w fun e w' => ∃ a' cap', e = .returned (.tuple #[.agg #[.int .u64 2, .slice a' 3 cap'], .int .i64 0]) ∧ Mod w w' NoB := by
  have := back_any w 2 a cap kLf h (by decide) k_ldb
  rw [k_backN, k_lchk, k_back] at this
  refine this.mono ?_
  rintro e w' ⟨a', cap', rfl, h1, h2⟩
  exact ⟨a', cap', rfl, h2⟩
theorem k_Check (w : World) (a : Option Addr) (cap : Nat) (h : Lvs w a kBad) : Calls Try.prog 15 #[.int .u64 2, .slice a 2 cap] w fun e w' => e = .returned (.tuple #[.int .i64 1, .int .i64 23]) ∧ Mod w w' NoB := by
  have := lcheck_any w 2 a cap kBad h (by decide) k_bdb
  rw [k_bad] at this
  exact this
theorem k_There {w : World} {fr tt t : Int} {r : Bool} (h : decide (fr ≤ t ∧ (tt < 0 ∨ t < tt)) = r) : Calls Try.prog 20 #[.agg #[.int .u32 0, .int .u32 1, .int .i64 fr, .int .i64 tt], .int .i64 t] w fun e w' => e = .returned (.bool r) ∧ Mod w w' NoB := by
  have := there_any w 0 1 fr tt t
  rwa [h] at this

set_option maxRecDepth 100000 in
set_option maxHeartbeats 4000000 in
theorem known_any (w : World) : Calls Try.prog 8 #[] w fun e w' => e = .returned (.bool true) ∧ Mod w w' NoB := by
  go_enter Try.func8, Try.ntmps8
  go_wp2_with fail
  obtain ⟨g0, hg0⟩ : ∃ g0, g0 = w.heap.size := ⟨_, rfl⟩
  have hb : (((w.alloc (.cells #[.int .u32 0, .int .u32 1] 54)).alloc (.cells #[.int .i64 1, .int .u32 0, .int .u32 1, .bool true, .int .i64 3, .int .u32 0, .int .u32 1, .bool false, .int .i64 4, .int .u32 0, .int .u32 1, .bool true] 65)).alloc
      (.cells #[.int .u64 2, .slice (some ⟨w.heap.size + 1, 0, none⟩) 3 3] 25)).heap[w.heap.size + 1]? = some (.cells #[.int .i64 1, .int .u32 0, .int .u32 1, .bool true, .int .i64 3, .int .u32 0, .int .u32 1, .bool false, .int .i64 4, .int .u32 0, .int .u32 1, .bool true] 65) := by
    rw [Below.heap_alloc _ _ _ (by simp)]
    have := (MapKept.heap_alloc (w.alloc (.cells #[.int .u32 0, .int .u32 1] 54)) (.cells #[.int .i64 1, .int .u32 0, .int .u32 1, .bool true, .int .i64 3, .int .u32 0, .int .u32 1, .bool false, .int .i64 4, .int .u32 0, .int .u32 1, .bool true] 65)).1
    simpa using this
  have hc0 : (((w.alloc (.cells #[.int .u32 0, .int .u32 1] 54)).alloc (.cells #[.int .i64 1, .int .u32 0, .int .u32 1, .bool true, .int .i64 3, .int .u32 0, .int .u32 1, .bool false, .int .i64 4, .int .u32 0, .int .u32 1, .bool true] 65)).alloc
      (.cells #[.int .u64 2, .slice (some ⟨w.heap.size + 1, 0, none⟩) 3 3] 25)).heap[w.heap.size]? = some (.cells #[.int .u32 0, .int .u32 1] 54) := by
    rw [Below.heap_alloc _ _ _ (by simp; omega), Below.heap_alloc _ _ _ (by simp)]
    exact (MapKept.heap_alloc w _).1
  obtain ⟨Z, hZ⟩ : ∃ Z, Z = (((w.alloc (.cells #[.int .u32 0, .int .u32 1] 54)).alloc (.cells #[.int .i64 1, .int .u32 0, .int .u32 1, .bool true, .int .i64 3, .int .u32 0, .int .u32 1, .bool false, .int .i64 4, .int .u32 0, .int .u32 1, .bool true] 65)).alloc
      (.cells #[.int .u64 2, .slice (some ⟨w.heap.size + 1, 0, none⟩) 3 3] 25)) := ⟨_, rfl⟩
  have HZ : Hid (Mod w Z NoB) := by rw [hZ]; exact (((Mod.refl _ _).alloc _).alloc _).alloc _
  rw [← hZ] at hb hc0 ⊢
  rw [← hg0] at hc0 ⊢
  have c0 : Z.cell? ⟨g0, 0, none⟩ = some (.int .u32 0) := by rw [cell_of_row _ _ _ _ _ _ hc0]; rfl
  have c1 : Z.cell? ⟨g0, 1, none⟩ = some (.int .u32 1) := by rw [cell_of_row _ _ _ _ _ _ hc0]; rfl
  have HB : Hid (Evs Z (some ⟨g0 + 1, 0, none⟩) kEv) := by rw [hg0]; exact evs_of_block hb rfl
  clear hb hc0 hZ hg0
  refine (k_Of _ _ _ HB.out).mono ?_
  rintro e z1 ⟨b1, o1, cp1, rfl, hl1, hm1⟩
  have d0 := keepc c0 hm1
  have d1 := keepc c1 hm1
  have H1 : Hid (Mod w z1 NoB) := HZ.out.trans hm1 (fun _ _ h => h)
  have HL1 := Lib.hid hl1
  clear c0 c1 hm1 hl1 HB HZ
  go_wp2_with fail
  refine (k_Back _ _ _ HL1.out).mono ?_
  rintro e z2 ⟨a2, cp2, rfl, hm2⟩
  have c0 := keepc d0 hm2
  have c1 := keepc d1 hm2
  have cl := World.block_lt_of_cell? _ _ c0
  have H2 : Hid (Mod w z2 NoB) := H1.out.trans hm2 (fun _ _ h => h)
  have HL2 := Lib.hid (HL1.out.mod hm2)
  clear d0 d1 hm2 HL1 H1
  go_wp2_with fail
  have hs2 : (z2.alloc (.cells #[.int .u64 2, .slice a2 3 cp2] 25)).heap.size = z2.heap.size + 1 := by simp
  obtain ⟨h5, hh5⟩ : ∃ h5, h5 = z2.heap.size := ⟨_, rfl⟩
  obtain ⟨Y, hY⟩ : ∃ Y, Y = (z2.alloc (.cells #[.int .u64 2, .slice a2 3 cp2] 25)).alloc (.cells #[.int .u32 0, .int .u32 1, .int .i64 1, .int .i64 3, .int .u32 0, .int .u32 1, .int .i64 3, .int .i64 (-1)] 56) := ⟨_, rfl⟩
  have HY : Hid (Mod z2 Y NoB) := by rw [hY]; exact ((Mod.refl _ _).alloc _).alloc _
  have hb2 : Lvs Y (some ⟨h5 + 1, 0, none⟩) kBad := by
    have := (MapKept.heap_alloc (z2.alloc (.cells #[.int .u64 2, .slice a2 3 cp2] 25)) (.cells #[.int .u32 0, .int .u32 1, .int .i64 1, .int .i64 3, .int .u32 0, .int .u32 1, .int .i64 3, .int .i64 (-1)] 56)).1
    rw [hs2] at this
    rw [hY, hh5]
    exact lvs_of_block this rfl
  have hy1 : Y.cell? ⟨h5, 1, none⟩ = some (.slice a2 3 cp2) := by
    rw [hY, hh5]
    exact (World.cell?_alloc_lt _ _ _ (by show z2.heap.size < _; rw [hs2]; omega)).trans (World.cell?_alloc_at _ _ _ _ rfl)
  rw [← hY, ← hh5]
  clear hY hh5 hs2 c0 c1 cl
  refine (k_Check _ _ _ hb2).mono ?_
  rintro e z3 ⟨rfl, hm3⟩
  have y1 := keepc hy1 hm3
  have H3 : Hid (Mod w z3 NoB) := (H2.out.trans HY.out (fun _ _ h => h)).trans hm3 (fun _ _ h => h)
  have HL3 := Lib.hid ((HL2.out.mod HY.out).mod hm3)
  clear hm3 hb2 hy1 HL2 HY H2
  obtain ⟨u0, u1, u2, u3, v0, v1, v2, v3⟩ : z3.cell? ⟨b1, o1, none⟩ = some (.int .u32 0) ∧ z3.cell? ⟨b1, o1 + 1, none⟩ = some (.int .u32 1) ∧ z3.cell? ⟨b1, o1 + 2, none⟩ = some (.int .i64 1) ∧ z3.cell? ⟨b1, o1 + 3, none⟩ = some (.int .i64 3) ∧
      z3.cell? ⟨b1, o1 + 4, none⟩ = some (.int .u32 0) ∧ z3.cell? ⟨b1, o1 + 4 + 1, none⟩ = some (.int .u32 1) ∧ z3.cell? ⟨b1, o1 + 4 + 2, none⟩ = some (.int .i64 4) ∧ z3.cell? ⟨b1, o1 + 4 + 3, none⟩ = some (.int .i64 (-1)) := by
    rcases HL3.out with h | ⟨b, off, hab, _, h⟩
    · cases h
    · cases hab
      obtain ⟨p0, p1, p2, p3⟩ := h 0 _ rfl
      obtain ⟨q0, q1, q2, q3⟩ := h 1 _ rfl
      exact ⟨p0, p1, p2, p3, q0, q1, q2, q3⟩
  go_wp2_with fail
  refine (k_There (r := true) (by decide)).mono ?_
  rintro e z4 ⟨rfl, hm4⟩
  have s0 := keepc u0 hm4
  have s1 := keepc u1 hm4
  have s2 := keepc u2 hm4
  have s3 := keepc u3 hm4
  have t0 := keepc v0 hm4
  have t1 := keepc v1 hm4
  have t2 := keepc v2 hm4
  have t3 := keepc v3 hm4
  have H4 : Hid (Mod w z4 NoB) := H3.out.trans hm4 (fun _ _ h => h)
  clear hm4 H3 u0 u1 u2 u3 v0 v1 v2 v3 y1 HL3
  go_wp2_with fail
  refine (k_There (r := false) (by decide)).mono ?_
  rintro e z5 ⟨rfl, hm5⟩
  have u0 := keepc t0 hm5
  have u1 := keepc t1 hm5
  have u2 := keepc t2 hm5
  have u3 := keepc t3 hm5
  have H5 : Hid (Mod w z5 NoB) := H4.out.trans hm5 (fun _ _ h => h)
  clear hm5 H4 s0 s1 s2 s3 t0 t1 t2 t3
  go_wp2_with fail
  refine (k_There (r := true) (by decide)).mono ?_
  rintro e z6 ⟨rfl, hm6⟩
  have H6 : Hid (Mod w z6 NoB) := H5.out.trans hm6 (fun _ _ h => h)
  clear hm6 H5
  go_wp2_with fail
  go_ret
  exact ⟨rfl, H6.out⟩
end Go.Proofs.Ythncgmmfnghliaa
