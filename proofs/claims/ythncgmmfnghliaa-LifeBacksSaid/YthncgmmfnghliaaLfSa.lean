/- The statements' own: Vertices, Edge. -/
import Derived.Test.YthncgmmfnghliaaLfRd
import Derived.Test.YthncgmmfnghliaaLfH
namespace Go.Proofs.Ythncgmmfnghliaa
open Go.RowKit
set_option linter.unusedVariables false

theorem verts_any (w : World) (k : Int) (hk : 0 ≤ k ∧ k ≤ 255) : Calls Try.prog 25 #[.int .u8 k] w fun e w' => e = .returned (.int .u64 (vertsOf k.toNat)) ∧ Mod w w' NoB := by
  obtain ⟨r, hr⟩ : ∃ r, vertsOf k.toNat = r := ⟨_, rfl⟩
  rw [hr]
  have h8 : k % 8 = 0 ∨ k % 8 = 1 ∨ k % 8 = 2 ∨ k % 8 = 3 ∨ k % 8 = 4 ∨ k % 8 = 5 ∨ k % 8 = 6 ∨ k % 8 = 7 := by omega
  have hv : ∀ c : Nat, k % 8 = (c : Int) → [8, 5, 2, 4294967296, 300, 12, 1048576, 3].getD c 0 = r := fun c hc => by
    rw [← hr]; unfold vertsOf
    rw [show k.toNat % 8 = c by omega]
  rcases h8 with h | h | h | h | h | h | h | h
  · have hr' := hv 0 (by omega); subst hr'
    clear hr hv
    go_enter Try.func25, Try.ntmps25
    go_wp2_with fail
    go_ret
    exact ⟨rfl, (Mod.refl _ _).alloc _⟩
  · have hr' := hv 1 (by omega); subst hr'
    clear hr hv
    go_enter Try.func25, Try.ntmps25
    go_wp2_with fail
    go_ret
    exact ⟨rfl, (Mod.refl _ _).alloc _⟩
  · have hr' := hv 2 (by omega); subst hr'
    clear hr hv
    go_enter Try.func25, Try.ntmps25
    go_wp2_with fail
    go_ret
    exact ⟨rfl, (Mod.refl _ _).alloc _⟩
  · have hr' := hv 3 (by omega); subst hr'
    clear hr hv
    go_enter Try.func25, Try.ntmps25
    go_wp2_with fail
    go_ret
    exact ⟨rfl, (Mod.refl _ _).alloc _⟩
  · have hr' := hv 4 (by omega); subst hr'
    clear hr hv
    go_enter Try.func25, Try.ntmps25
    go_wp2_with fail
    go_ret
    exact ⟨rfl, (Mod.refl _ _).alloc _⟩
  · have hr' := hv 5 (by omega); subst hr'
    clear hr hv
    go_enter Try.func25, Try.ntmps25
    go_wp2_with fail
    go_ret
    exact ⟨rfl, (Mod.refl _ _).alloc _⟩
  · have hr' := hv 6 (by omega); subst hr'
    clear hr hv
    go_enter Try.func25, Try.ntmps25
    go_wp2_with fail
    go_ret
    exact ⟨rfl, (Mod.refl _ _).alloc _⟩
  · have hr' := hv 7 (by omega); subst hr'
    clear hr hv
    go_enter Try.func25, Try.ntmps25
    go_wp2_with fail
    go_ret
    exact ⟨rfl, (Mod.refl _ _).alloc _⟩

theorem edge_end {w z : World} {h6 : Nat} {x y : Value} (hz : Mod w z NoB ∧ w.heap.size ≤ h6) (d0 : z.cell? ⟨h6, 0, none⟩ = some x) (d1 : z.cell? ⟨h6, 1, none⟩ = some y) (X Y : Value) :
    ((z.setCell ⟨h6, 0, none⟩ X).setCell ⟨h6, 1, none⟩ Y).cell? ⟨h6, 0, none⟩ = some X ∧ ((z.setCell ⟨h6, 0, none⟩ X).setCell ⟨h6, 1, none⟩ Y).cell? ⟨h6, 1, none⟩ = some Y ∧ Mod w ((z.setCell ⟨h6, 0, none⟩ X).setCell ⟨h6, 1, none⟩ Y) NoB := by
  refine ⟨?_, ?_, (hz.1.setCell (p := ⟨h6, 0, none⟩) (fun c => absurd c (Nat.not_lt.2 hz.2)) _).setCell (p := ⟨h6, 1, none⟩) (fun c => absurd c (Nat.not_lt.2 hz.2)) _⟩
  · rw [World.cell?_setCell_other _ _ _ _ (by simp)]; exact World.cell?_setCell_same _ _ _ d0
  · exact World.cell?_setCell_same _ _ _ (by rw [World.cell?_setCell_other _ _ _ _ (by simp)]; exact d1)

def edgeOr (a b n : Int) : Ed := (edgeOf a b n).getD ⟨0, 0⟩

set_option maxHeartbeats 4000000 in
theorem edge_any (w : World) (a b n : Int) (ha : 0 ≤ a ∧ a ≤ 255) (hb : 0 ≤ b ∧ b ≤ 255) (hn : 2 ≤ n ∧ n ≤ 4294967296) :
    Calls Try.prog 26 #[.int .u8 a, .int .u8 b, .int .u64 n] w fun e w' => e = .returned (.tuple #[.agg #[.int .u32 (edgeOr a b n).u, .int .u32 (edgeOr a b n).v], .bool (edgeOf a b n).isSome]) ∧ Mod w w' NoB := by
  have hmx := mixed
  obtain ⟨h6, hh6⟩ : ∃ h6, h6 = w.heap.size := ⟨_, rfl⟩
  obtain ⟨W, hW⟩ : ∃ W, W = w.alloc (.cells #[.int .u32 0, .int .u32 0] 54) := ⟨_, rfl⟩
  have HW : Hid (Mod w W NoB ∧ w.heap.size ≤ h6) := ⟨by rw [hW]; exact (Mod.refl _ _).alloc _, by omega⟩
  have c0 : W.cell? ⟨h6, 0, none⟩ = some (.int .u32 0) := by rw [hW, hh6]; exact World.cell?_alloc_at _ _ _ _ rfl
  have c1 : W.cell? ⟨h6, 1, none⟩ = some (.int .u32 0) := by rw [hW, hh6]; exact World.cell?_alloc_at _ _ _ _ rfl
  have f0 : W.frozen? ⟨h6, 0, none⟩ = false := by rw [hW, hh6]; simp
  have f1 : W.frozen? ⟨h6, 1, none⟩ = false := by rw [hW, hh6]; simp
  obtain ⟨F, hF⟩ : ∃ F, min n 9 = F := ⟨_, rfl⟩
  have hF2 : 2 ≤ F ∧ F ≤ 9 ∧ F ≤ n := by omega
  have hFz : (F == 0) = false := by simp; omega
  obtain ⟨A0, hA0⟩ : ∃ A0, a % F = A0 := ⟨_, rfl⟩
  obtain ⟨B0, hB0⟩ : ∃ B0, b % F = B0 := ⟨_, rfl⟩
  have bA : 0 ≤ A0 ∧ A0 < F := by rw [← hA0]; exact ⟨Int.emod_nonneg _ (by omega), Int.emod_lt_of_pos _ (by omega)⟩
  have bB : 0 ≤ B0 ∧ B0 < F := by rw [← hB0]; exact ⟨Int.emod_nonneg _ (by omega), Int.emod_lt_of_pos _ (by omega)⟩
  have tA : a.tmod F = A0 := by rw [Int.tmod_eq_emod_of_nonneg ha.1]; exact hA0
  have tB : b.tmod F = B0 := by rw [Int.tmod_eq_emod_of_nonneg hb.1]; exact hB0
  have HE : Hid (edgeOf a b n = if endOf a n (decide (230 < a)) = endOf b n (decide (240 < b)) then none else some ⟨min (endOf a n (decide (230 < a))) (endOf b n (decide (240 < b))), max (endOf a n (decide (230 < a))) (endOf b n (decide (240 < b)))⟩) := rfl
  have HU1 : Hid (endOf a n true = n - 1 - A0 ∧ endOf a n false = A0 ∧ endOf b n true = n - 1 - B0 ∧ endOf b n false = B0) := by
    show _ ∧ _
    unfold endOf; rw [hF, hA0, hB0]; exact ⟨rfl, rfl, rfl, rfl⟩
  go_enter Try.func26, Try.ntmps26
  have hFi : (if 9 < n then 9 else n) = F := by rw [← hF]; split <;> omega
  have hwa : IntKind.u64.wrap a = a := IntWalk.u64_in _ (by omega)
  have hwb : IntKind.u64.wrap b = b := IntWalk.u64_in _ (by omega)
  have hwn : IntKind.u64.wrap (n - 1) = n - 1 := IntWalk.u64_in _ (by omega)
  clear hF hA0 hB0
  go_upto_region 2 with (fail)
  rw [← hW, ← hh6]
  clear hW hh6 hFi
  go_quiet (fail)
  generalize hzz : World.drewN W _ = z
  have HZ : Hid (Mod w z NoB ∧ w.heap.size ≤ h6) := by
    rw [← hzz]; exact ⟨HW.out.1.drewN _, HW.out.2⟩
  have d0 : z.cell? ⟨h6, 0, none⟩ = some (.int .u32 0) := by rw [← hzz]; exact c0
  have d1 : z.cell? ⟨h6, 1, none⟩ = some (.int .u32 0) := by rw [← hzz]; exact c1
  have g0 : z.frozen? ⟨h6, 0, none⟩ = false := by rw [← hzz]; exact f0
  have g1 : z.frozen? ⟨h6, 1, none⟩ = false := by rw [← hzz]; exact f1
  clear hzz c0 c1 f0 f1 HW tA tB hFz hwa hwb
  by_cases pa : 230 < a
  · by_cases pb : 240 < b
    · skip
      obtain ⟨U, hU⟩ : ∃ U, n - 1 - A0 = U := ⟨_, rfl⟩
      obtain ⟨V, hV⟩ : ∃ V, n - 1 - B0 = V := ⟨_, rfl⟩
      have bU : 0 ≤ U ∧ U < n := by omega
      have bV : 0 ≤ V ∧ V < n := by omega
      have hw2 : IntKind.u64.wrap (n - 1 - A0) = U := by rw [IntWalk.u64_in _ (by omega)]; exact hU
      have hw3 : IntKind.u64.wrap (n - 1 - B0) = V := by rw [IntWalk.u64_in _ (by omega)]; exact hV
      have HR : Hid (edgeOf a b n = if U = V then none else some ⟨min U V, max U V⟩) := by
        show _ = _
        rw [HE.out, show decide (230 < a) = true by simp; omega, show decide (240 < b) = true by simp; omega, HU1.out.1, HU1.out.2.2.1, hU, hV]
      clear HE HU1
      go_upto_region 7 with (fail)
      by_cases huv : U = V
      · have hr : edgeOf a b n = none := by rw [HR.out, if_pos huv]
        have HF : Hid (edgeOr a b n = ⟨0, 0⟩ ∧ edgeOf a b n = none) := ⟨by unfold edgeOr; rw [hr]; rfl, hr⟩
        clear hr HR
        go_wp2_with fail
        obtain ⟨k0, k1, k2⟩ := edge_end HZ.out d0 d1 (.int .u32 0) (.int .u32 0)
        generalize hzz : (z.setCell ⟨h6, 0, none⟩ (.int .u32 0)).setCell ⟨h6, 1, none⟩ (.int .u32 0) = z9 at k0 k1 k2
        clear d0 d1 g0 g1
        exact bodyPost_ret (v := .tuple #[.agg #[.int .u32 0, .int .u32 0], .bool false]) (by simp [results, Try.results26, go_sem, k0, k1]) rfl ⟨by rw [HF.out.1, HF.out.2]; rfl, k2⟩
      · have hr : edgeOf a b n = some ⟨min U V, max U V⟩ := by rw [HR.out, if_neg huv]
        have hub : (U == V) = false := by simpa using huv
        have HF : Hid (edgeOr a b n = ⟨min U V, max U V⟩ ∧ edgeOf a b n = some ⟨min U V, max U V⟩) := ⟨by unfold edgeOr; rw [hr]; rfl, hr⟩
        clear hr HR
        by_cases hlt : U < V
        · go_wp2_with fail
          obtain ⟨k0, k1, k2⟩ := edge_end HZ.out d0 d1 (.int .u32 U) (.int .u32 V)
          generalize hzz : (z.setCell ⟨h6, 0, none⟩ (.int .u32 U)).setCell ⟨h6, 1, none⟩ (.int .u32 V) = z9 at k0 k1 k2
          clear d0 d1 g0 g1
          exact bodyPost_ret (v := .tuple #[.agg #[.int .u32 U, .int .u32 V], .bool true]) (by simp [results, Try.results26, go_sem, k0, k1]) rfl ⟨by rw [HF.out.1, HF.out.2]; simp; omega, k2⟩
        · have hlt2 : V < U := by omega
          go_wp2_with fail
          obtain ⟨k0, k1, k2⟩ := edge_end HZ.out d0 d1 (.int .u32 V) (.int .u32 U)
          generalize hzz : (z.setCell ⟨h6, 0, none⟩ (.int .u32 V)).setCell ⟨h6, 1, none⟩ (.int .u32 U) = z9 at k0 k1 k2
          clear d0 d1 g0 g1
          exact bodyPost_ret (v := .tuple #[.agg #[.int .u32 V, .int .u32 U], .bool true]) (by simp [results, Try.results26, go_sem, k0, k1]) rfl ⟨by rw [HF.out.1, HF.out.2]; simp; omega, k2⟩
    · skip
      obtain ⟨U, hU⟩ : ∃ U, n - 1 - A0 = U := ⟨_, rfl⟩
      obtain ⟨V, hV⟩ : ∃ V, B0 = V := ⟨_, rfl⟩
      have bU : 0 ≤ U ∧ U < n := by omega
      have bV : 0 ≤ V ∧ V < n := by omega
      have hw2 : IntKind.u64.wrap (n - 1 - A0) = U := by rw [IntWalk.u64_in _ (by omega)]; exact hU
      have hw3 : B0 = V := hV
      have HR : Hid (edgeOf a b n = if U = V then none else some ⟨min U V, max U V⟩) := by
        show _ = _
        rw [HE.out, show decide (230 < a) = true by simp; omega, show decide (240 < b) = false by simp; omega, HU1.out.1, HU1.out.2.2.2, hU, hV]
      clear HE HU1
      go_upto_region 7 with (fail)
      by_cases huv : U = V
      · have hr : edgeOf a b n = none := by rw [HR.out, if_pos huv]
        have HF : Hid (edgeOr a b n = ⟨0, 0⟩ ∧ edgeOf a b n = none) := ⟨by unfold edgeOr; rw [hr]; rfl, hr⟩
        clear hr HR
        go_wp2_with fail
        obtain ⟨k0, k1, k2⟩ := edge_end HZ.out d0 d1 (.int .u32 0) (.int .u32 0)
        generalize hzz : (z.setCell ⟨h6, 0, none⟩ (.int .u32 0)).setCell ⟨h6, 1, none⟩ (.int .u32 0) = z9 at k0 k1 k2
        clear d0 d1 g0 g1
        exact bodyPost_ret (v := .tuple #[.agg #[.int .u32 0, .int .u32 0], .bool false]) (by simp [results, Try.results26, go_sem, k0, k1]) rfl ⟨by rw [HF.out.1, HF.out.2]; rfl, k2⟩
      · have hr : edgeOf a b n = some ⟨min U V, max U V⟩ := by rw [HR.out, if_neg huv]
        have hub : (U == V) = false := by simpa using huv
        have HF : Hid (edgeOr a b n = ⟨min U V, max U V⟩ ∧ edgeOf a b n = some ⟨min U V, max U V⟩) := ⟨by unfold edgeOr; rw [hr]; rfl, hr⟩
        clear hr HR
        by_cases hlt : U < V
        · go_wp2_with fail
          obtain ⟨k0, k1, k2⟩ := edge_end HZ.out d0 d1 (.int .u32 U) (.int .u32 V)
          generalize hzz : (z.setCell ⟨h6, 0, none⟩ (.int .u32 U)).setCell ⟨h6, 1, none⟩ (.int .u32 V) = z9 at k0 k1 k2
          clear d0 d1 g0 g1
          exact bodyPost_ret (v := .tuple #[.agg #[.int .u32 U, .int .u32 V], .bool true]) (by simp [results, Try.results26, go_sem, k0, k1]) rfl ⟨by rw [HF.out.1, HF.out.2]; simp; omega, k2⟩
        · have hlt2 : V < U := by omega
          go_wp2_with fail
          obtain ⟨k0, k1, k2⟩ := edge_end HZ.out d0 d1 (.int .u32 V) (.int .u32 U)
          generalize hzz : (z.setCell ⟨h6, 0, none⟩ (.int .u32 V)).setCell ⟨h6, 1, none⟩ (.int .u32 U) = z9 at k0 k1 k2
          clear d0 d1 g0 g1
          exact bodyPost_ret (v := .tuple #[.agg #[.int .u32 V, .int .u32 U], .bool true]) (by simp [results, Try.results26, go_sem, k0, k1]) rfl ⟨by rw [HF.out.1, HF.out.2]; simp; omega, k2⟩
  · by_cases pb : 240 < b
    · skip
      obtain ⟨U, hU⟩ : ∃ U, A0 = U := ⟨_, rfl⟩
      obtain ⟨V, hV⟩ : ∃ V, n - 1 - B0 = V := ⟨_, rfl⟩
      have bU : 0 ≤ U ∧ U < n := by omega
      have bV : 0 ≤ V ∧ V < n := by omega
      have hw2 : A0 = U := hU
      have hw3 : IntKind.u64.wrap (n - 1 - B0) = V := by rw [IntWalk.u64_in _ (by omega)]; exact hV
      have HR : Hid (edgeOf a b n = if U = V then none else some ⟨min U V, max U V⟩) := by
        show _ = _
        rw [HE.out, show decide (230 < a) = false by simp; omega, show decide (240 < b) = true by simp; omega, HU1.out.2.1, HU1.out.2.2.1, hU, hV]
      clear HE HU1
      go_upto_region 7 with (fail)
      by_cases huv : U = V
      · have hr : edgeOf a b n = none := by rw [HR.out, if_pos huv]
        have HF : Hid (edgeOr a b n = ⟨0, 0⟩ ∧ edgeOf a b n = none) := ⟨by unfold edgeOr; rw [hr]; rfl, hr⟩
        clear hr HR
        go_wp2_with fail
        obtain ⟨k0, k1, k2⟩ := edge_end HZ.out d0 d1 (.int .u32 0) (.int .u32 0)
        generalize hzz : (z.setCell ⟨h6, 0, none⟩ (.int .u32 0)).setCell ⟨h6, 1, none⟩ (.int .u32 0) = z9 at k0 k1 k2
        clear d0 d1 g0 g1
        exact bodyPost_ret (v := .tuple #[.agg #[.int .u32 0, .int .u32 0], .bool false]) (by simp [results, Try.results26, go_sem, k0, k1]) rfl ⟨by rw [HF.out.1, HF.out.2]; rfl, k2⟩
      · have hr : edgeOf a b n = some ⟨min U V, max U V⟩ := by rw [HR.out, if_neg huv]
        have hub : (U == V) = false := by simpa using huv
        have HF : Hid (edgeOr a b n = ⟨min U V, max U V⟩ ∧ edgeOf a b n = some ⟨min U V, max U V⟩) := ⟨by unfold edgeOr; rw [hr]; rfl, hr⟩
        clear hr HR
        by_cases hlt : U < V
        · go_wp2_with fail
          obtain ⟨k0, k1, k2⟩ := edge_end HZ.out d0 d1 (.int .u32 U) (.int .u32 V)
          generalize hzz : (z.setCell ⟨h6, 0, none⟩ (.int .u32 U)).setCell ⟨h6, 1, none⟩ (.int .u32 V) = z9 at k0 k1 k2
          clear d0 d1 g0 g1
          exact bodyPost_ret (v := .tuple #[.agg #[.int .u32 U, .int .u32 V], .bool true]) (by simp [results, Try.results26, go_sem, k0, k1]) rfl ⟨by rw [HF.out.1, HF.out.2]; simp; omega, k2⟩
        · have hlt2 : V < U := by omega
          go_wp2_with fail
          obtain ⟨k0, k1, k2⟩ := edge_end HZ.out d0 d1 (.int .u32 V) (.int .u32 U)
          generalize hzz : (z.setCell ⟨h6, 0, none⟩ (.int .u32 V)).setCell ⟨h6, 1, none⟩ (.int .u32 U) = z9 at k0 k1 k2
          clear d0 d1 g0 g1
          exact bodyPost_ret (v := .tuple #[.agg #[.int .u32 V, .int .u32 U], .bool true]) (by simp [results, Try.results26, go_sem, k0, k1]) rfl ⟨by rw [HF.out.1, HF.out.2]; simp; omega, k2⟩
    · skip
      obtain ⟨U, hU⟩ : ∃ U, A0 = U := ⟨_, rfl⟩
      obtain ⟨V, hV⟩ : ∃ V, B0 = V := ⟨_, rfl⟩
      have bU : 0 ≤ U ∧ U < n := by omega
      have bV : 0 ≤ V ∧ V < n := by omega
      have hw2 : A0 = U := hU
      have hw3 : B0 = V := hV
      have HR : Hid (edgeOf a b n = if U = V then none else some ⟨min U V, max U V⟩) := by
        show _ = _
        rw [HE.out, show decide (230 < a) = false by simp; omega, show decide (240 < b) = false by simp; omega, HU1.out.2.1, HU1.out.2.2.2, hU, hV]
      clear HE HU1
      go_upto_region 7 with (fail)
      by_cases huv : U = V
      · have hr : edgeOf a b n = none := by rw [HR.out, if_pos huv]
        have HF : Hid (edgeOr a b n = ⟨0, 0⟩ ∧ edgeOf a b n = none) := ⟨by unfold edgeOr; rw [hr]; rfl, hr⟩
        clear hr HR
        go_wp2_with fail
        obtain ⟨k0, k1, k2⟩ := edge_end HZ.out d0 d1 (.int .u32 0) (.int .u32 0)
        generalize hzz : (z.setCell ⟨h6, 0, none⟩ (.int .u32 0)).setCell ⟨h6, 1, none⟩ (.int .u32 0) = z9 at k0 k1 k2
        clear d0 d1 g0 g1
        exact bodyPost_ret (v := .tuple #[.agg #[.int .u32 0, .int .u32 0], .bool false]) (by simp [results, Try.results26, go_sem, k0, k1]) rfl ⟨by rw [HF.out.1, HF.out.2]; rfl, k2⟩
      · have hr : edgeOf a b n = some ⟨min U V, max U V⟩ := by rw [HR.out, if_neg huv]
        have hub : (U == V) = false := by simpa using huv
        have HF : Hid (edgeOr a b n = ⟨min U V, max U V⟩ ∧ edgeOf a b n = some ⟨min U V, max U V⟩) := ⟨by unfold edgeOr; rw [hr]; rfl, hr⟩
        clear hr HR
        by_cases hlt : U < V
        · go_wp2_with fail
          obtain ⟨k0, k1, k2⟩ := edge_end HZ.out d0 d1 (.int .u32 U) (.int .u32 V)
          generalize hzz : (z.setCell ⟨h6, 0, none⟩ (.int .u32 U)).setCell ⟨h6, 1, none⟩ (.int .u32 V) = z9 at k0 k1 k2
          clear d0 d1 g0 g1
          exact bodyPost_ret (v := .tuple #[.agg #[.int .u32 U, .int .u32 V], .bool true]) (by simp [results, Try.results26, go_sem, k0, k1]) rfl ⟨by rw [HF.out.1, HF.out.2]; simp; omega, k2⟩
        · have hlt2 : V < U := by omega
          go_wp2_with fail
          obtain ⟨k0, k1, k2⟩ := edge_end HZ.out d0 d1 (.int .u32 V) (.int .u32 U)
          generalize hzz : (z.setCell ⟨h6, 0, none⟩ (.int .u32 V)).setCell ⟨h6, 1, none⟩ (.int .u32 U) = z9 at k0 k1 k2
          clear d0 d1 g0 g1
          exact bodyPost_ret (v := .tuple #[.agg #[.int .u32 V, .int .u32 U], .bool true]) (by simp [results, Try.results26, go_sem, k0, k1]) rfl ⟨by rw [HF.out.1, HF.out.2]; simp; omega, k2⟩
end Go.Proofs.Ythncgmmfnghliaa
