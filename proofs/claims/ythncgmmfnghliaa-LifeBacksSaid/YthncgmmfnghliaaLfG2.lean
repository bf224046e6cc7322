/- The closure by which Of sorts lives. -/
import Derived.Test.YthncgmmfnghliaaLfG
namespace Go.Proofs.Ythncgmmfnghliaa
open Go.RowKit
set_option linter.unusedVariables false

/-- How two lives stand. -/
def lfI (a b : Lf) : Int := orI (byI (edLt a.e b.e) (edLt b.e a.e)) (cmpI a.fr b.fr)
theorem lfI_lt (a b : Lf) : lfI a b < 0 ↔ lfLt a b := by
  unfold lfI lfLt byI orI cmpI
  by_cases h1 : edLt a.e b.e
  · simp [h1]
  · by_cases h2 : edLt b.e a.e
    · have h3 : a.e ≠ b.e := fun h => by rw [h] at h2; exact edLt_irrefl _ h2
      simp [h1, h2, h3]
    · have h3 : a.e = b.e := by
        rcases edLt_total a.e b.e with c | c | c
        · exact absurd c h1
        · exact c
        · exact absurd c h2
      rw [if_neg h1, if_neg h2, if_pos rfl]
      by_cases h4 : a.fr < b.fr
      · simp [h3, h4]
      · by_cases h5 : b.fr < a.fr
        · simp [h4, h5, h3, edLt_irrefl]
        · simp [h4, h5, h3, edLt_irrefl]

set_option maxHeartbeats 4000000 in
theorem of1_grw (w : World) (p1 p2 : Nat) (u v f1 t1 x y f2 t2 : Int) (h1 : w.cell? ⟨p1, 0, none⟩ = some (.func (.func 31) #[] #[]))
    (h2 : w.cell? ⟨p2, 0, none⟩ = some (.func (.func 52) #[] #[.pointer (some ⟨p1, 0, none⟩)])) :
    Calls Try.prog 33 #[.agg #[.int .u32 u, .int .u32 v, .int .i64 f1, .int .i64 t1], .agg #[.int .u32 x, .int .u32 y, .int .i64 f2, .int .i64 t2], .pointer (some ⟨p2, 0, none⟩)] w
      fun e w' => e = .returned (.int .i64 (lfI ⟨⟨u, v⟩, f1, t1⟩ ⟨⟨x, y⟩, f2, t2⟩)) ∧ Grw w w' := by
  unfold lfI
  simp only
  obtain ⟨rb, hrb⟩ : ∃ rb, byI (edLt ⟨u, v⟩ ⟨x, y⟩) (edLt ⟨x, y⟩ ⟨u, v⟩) = rb := ⟨_, rfl⟩
  obtain ⟨rc, hrc⟩ : ∃ rc, cmpI f1 f2 = rc := ⟨_, rfl⟩
  rw [hrb, hrc]
  have HB : Hid (∀ z p, z.cell? ⟨p, 0, none⟩ = some (.func (.func 31) #[] #[]) → Calls Try.prog 52 #[.agg #[.int .u32 u, .int .u32 v], .agg #[.int .u32 x, .int .u32 y], .pointer (some ⟨p, 0, none⟩)] z
      fun e w' => e = .returned (.int .i64 rb) ∧ Grw z w') := fun z p hz => by rw [← hrb]; exact byE_grw z p u v x y hz
  have HC : Hid (∀ z, Calls Try.prog 35 #[.int .i64 f1, .int .i64 f2] z fun e w' => e = .returned (.int .i64 rc) ∧ z = w') := fun z => by rw [← hrc]; exact cmp64_any z f1 f2
  clear hrb hrc
  go_enter Try.func33, Try.ntmps33
  go_wp2_with fail
  obtain ⟨q, hq⟩ : ∃ q, q = w.heap.size := ⟨_, rfl⟩
  obtain ⟨W, hW⟩ : ∃ W, W = (w.alloc (.cells #[.int .u32 u, .int .u32 v, .int .i64 f1, .int .i64 t1] 56)).alloc (.cells #[.int .u32 x, .int .u32 y, .int .i64 f2, .int .i64 t2] 56) := ⟨_, rfl⟩
  have HM : Hid (Grw w W) := by rw [hW]; exact ((Grw.refl _).alloc _).alloc _
  have hs1 : (w.alloc (.cells #[.int .u32 u, .int .u32 v, .int .i64 f1, .int .i64 t1] 56)).heap.size = w.heap.size + 1 := by simp
  have lt1 : w.heap.size < (w.alloc (.cells #[.int .u32 u, .int .u32 v, .int .i64 f1, .int .i64 t1] 56)).heap.size := by rw [hs1]; omega
  have hD : ((W.cell? ⟨q, 0, none⟩ = some (.int .u32 u) ∧ W.cell? ⟨q, 1, none⟩ = some (.int .u32 v) ∧ W.cell? ⟨q, 2, none⟩ = some (.int .i64 f1)) ∧
      W.cell? ⟨q + 1, 0, none⟩ = some (.int .u32 x) ∧ W.cell? ⟨q + 1, 1, none⟩ = some (.int .u32 y) ∧ W.cell? ⟨q + 1, 2, none⟩ = some (.int .i64 f2)) := by
    rw [hW, hq]
    exact ⟨⟨(World.cell?_alloc_lt _ _ _ lt1).trans (World.cell?_alloc_at _ _ _ _ rfl), (World.cell?_alloc_lt _ _ _ lt1).trans (World.cell?_alloc_at _ _ _ _ rfl), (World.cell?_alloc_lt _ _ _ lt1).trans (World.cell?_alloc_at _ _ _ _ rfl)⟩,
      World.cell?_alloc_at _ _ _ _ hs1.symm, World.cell?_alloc_at _ _ _ _ hs1.symm, World.cell?_alloc_at _ _ _ _ hs1.symm⟩
  have e1 := keepc h1 HM.out.mod
  have e2 := keepc h2 HM.out.mod
  rw [← hW, ← hq]
  clear hW hs1 hq lt1 h1 h2
  obtain ⟨⟨c0, c1, c2⟩, d0, d1, d2⟩ := hD
  have H0 : Hid ((W.drew.cell? ⟨p1, 0, none⟩ = some (.func (.func 31) #[] #[]) ∧ W.drew.cell? ⟨p2, 0, none⟩ = some (.func (.func 52) #[] #[.pointer (some ⟨p1, 0, none⟩)])) ∧
      (W.drew.cell? ⟨q, 0, none⟩ = some (.int .u32 u) ∧ W.drew.cell? ⟨q, 1, none⟩ = some (.int .u32 v) ∧ W.drew.cell? ⟨q, 2, none⟩ = some (.int .i64 f1)) ∧
      W.drew.cell? ⟨q + 1, 0, none⟩ = some (.int .u32 x) ∧ W.drew.cell? ⟨q + 1, 1, none⟩ = some (.int .u32 y) ∧ W.drew.cell? ⟨q + 1, 2, none⟩ = some (.int .i64 f2)) := ⟨⟨e1, e2⟩, ⟨c0, c1, c2⟩, d0, d1, d2⟩
  have H5 : Hid (∀ z, Mod W.drew z NoB → (z.cell? ⟨p1, 0, none⟩ = some (.func (.func 31) #[] #[]) ∧ z.cell? ⟨p2, 0, none⟩ = some (.func (.func 52) #[] #[.pointer (some ⟨p1, 0, none⟩)])) ∧
      (z.cell? ⟨q, 0, none⟩ = some (.int .u32 u) ∧ z.cell? ⟨q, 1, none⟩ = some (.int .u32 v) ∧ z.cell? ⟨q, 2, none⟩ = some (.int .i64 f1)) ∧
      z.cell? ⟨q + 1, 0, none⟩ = some (.int .u32 x) ∧ z.cell? ⟨q + 1, 1, none⟩ = some (.int .u32 y) ∧ z.cell? ⟨q + 1, 2, none⟩ = some (.int .i64 f2)) := fun z hz =>
    ⟨⟨keepc H0.out.1.1 hz, keepc H0.out.1.2 hz⟩, ⟨keepc H0.out.2.1.1 hz, keepc H0.out.2.1.2.1 hz, keepc H0.out.2.1.2.2 hz⟩, keepc H0.out.2.2.1 hz, keepc H0.out.2.2.2.1 hz, keepc H0.out.2.2.2.2 hz⟩
  have HR : Hid (Mod W.drew W.drew NoB) := Mod.refl _ _
  go_region_held3 (fun z => (z.cell? ⟨p1, 0, none⟩ = some (.func (.func 31) #[] #[]) ∧ z.cell? ⟨p2, 0, none⟩ = some (.func (.func 52) #[] #[.pointer (some ⟨p1, 0, none⟩)])) ∧
      (z.cell? ⟨q, 0, none⟩ = some (.int .u32 u) ∧ z.cell? ⟨q, 1, none⟩ = some (.int .u32 v) ∧ z.cell? ⟨q, 2, none⟩ = some (.int .i64 f1)) ∧
      z.cell? ⟨q + 1, 0, none⟩ = some (.int .u32 x) ∧ z.cell? ⟨q + 1, 1, none⟩ = some (.int .u32 y) ∧ z.cell? ⟨q + 1, 2, none⟩ = some (.int .i64 f2))
    (first | exact ⟨⟨e1, e2⟩, ⟨c0, c1, c2⟩, d0, d1, d2⟩ | exact H5.out _ H6.out.mod | exact H5.out _ (H6.out.mod.alloc _))
    (first
    | (go_at_call 35; refine (HC.out _).mono ?_; rintro e w2 ⟨rfl, rfl⟩)
    | (go_at_call 34; refine (or2_any _ _ rb rc (World.cell?_alloc_at _ _ _ _ rfl) (World.cell?_alloc_at _ _ _ _ rfl)).mono ?_; rintro e w2 ⟨rfl, rfl⟩)
    | (refine (HB.out _ _ H0.out.1.1).mono ?_; rintro e w5 ⟨rfl, hm5⟩; have H6 := Lib.hid hm5; clear hm5))
  all_goals
    go_wp2_with fail
    go_ret
    exact ⟨rfl, (HM.out.drew.trans H6.out).alloc _⟩
end Go.Proofs.Ythncgmmfnghliaa
