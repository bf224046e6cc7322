/- The law TreapMiddles: the walk. -/
import Derived.Test.YtlmbkmjjiebpbaaTrK
import Derived.Test.YtlmbkmjjiebpbaaTrM
namespace Go.Proofs.Ytlmbkmjjiebpbaa
open Go.RowKit
set_option linter.unusedVariables false

set_option maxHeartbeats 8000000 in
set_option maxRecDepth 100000 in
theorem middles_all (a0 : Int) (a1 : Int) (a2 : Int) (a3 : Int) (w : World) (w0 : (Lit.int .u64 a0).wf = true) (w1 : (Lit.int .u8 a1).wf = true) (w2 : (Lit.int .u8 a2).wf = true) (w3 : (Lit.int .u8 a3).wf = true) :
    Calls Try.prog 6 #[.int .u64 a0, .int .u8 a1, .int .u8 a2, .int .u8 a3] w fun e w' => e = .returned (.bool true) ∧ Below w.heap.size w w' := by
  obtain ⟨b10, b11⟩ := bounds_u8 w1
  obtain ⟨b20, b21⟩ := bounds_u8 w2
  obtain ⟨b30, b31⟩ := bounds_u8 w3
  clear w0 w1 w2 w3
  obtain ⟨k, hk⟩ : ∃ k : Nat, (k : Int) = a1 % 200 + 3 := ⟨(a1 % 200 + 3).toNat, by omega⟩
  have hk3 : 3 ≤ k := by omega
  have hk2 : k ≤ 202 := by omega
  have htm : (a1).tmod 200 = a1 % 200 := Int.tmod_eq_emod_of_nonneg b10
  go_enter Try.func6, Try.ntmps6
  go_wp2_with fail
  refine (known_any _).mono ?_
  rintro e w1 ⟨rfl, hM1⟩
  have HM1 := Lib.hid hM1
  clear hM1
  go_wp2_with fail
  refine (d_new w _ HM1.out _).mono ?_
  rintro e w2 ⟨g, rfl, h1, -, -⟩
  have H := Lib.hid h1
  clear h1 HM1
  rw [← hk]
  clear hk htm
  go_wp2_with fail
  go_loopw [11] (fun i wr => ∃ (j : Nat), j ≤ k ∧ i = .int .i64 j ∧ Hid (Duo w wr (ArT g j (chain j)) Nil)) (fun i _ => k - (intOf i).toNat)
  case atStart => exact ⟨0, Nat.zero_le _, rfl, H.out⟩
  case round =>
    clear H
    obtain ⟨j, hj, rfl, HR⟩ := hrel
    by_cases hlt : j < k
    · have hlt2 : (j : Int) < k := by omega
      have hjj : ((j : Int) != (j : Int)) = false := by simp
      by_cases h0 : j = 0
      · have H0 : Hid (Duo w wr (ArT g 0 []) Nil) := by
          have := HR.out; rw [h0] at this; exact this
        have hj0 : (j : Int) = 0 := by omega
        have hdj : decide ((0 : Int) < (j : Int)) = false := by simp; omega
        have HJ := Lib.hid h0
        clear h0
        go_wp2_with fail
        refine (j_node H0.out Nil.framed (by omega) (m := (j : Int)) (by rw [hj0]; rfl) (n' := 1) rfl (L' := [[0]]) rfl).mono ?_
        rintro e w4 ⟨rfl, h1⟩
        have H4 := Lib.hid h1
        clear h1
        go_wp2_with fail
        go_roundw
        case rel => exact ⟨j + 1, by omega, by go_num, by rw [HJ.out]; exact H4.out⟩
        case measure => simp [intOf]; omega
      · have hdj : decide ((0 : Int) < (j : Int)) = true := by simp; omega
        have hch := chain_succ (i := j) (by omega) (j - 1) (by omega) ((j : Int) - 1) (j : Int) (by omega) rfl
        have HC := Lib.hid hch
        have hj1 : 0 < (j : Int) := by omega
        clear h0 hch
        go_wp2_with fail
        refine (d_node HR.out Nil.framed (by omega)).mono ?_
        rintro e w4 ⟨rfl, h1⟩
        have H4 := Lib.hid h1
        clear h1
        go_wp2_with fail
        refine (j_join H4.out Nil.framed HC.out).mono ?_
        rintro e w5 ⟨rfl, h1⟩
        have H5 := Lib.hid h1
        clear h1
        go_wp2_with fail
        go_roundw
        case rel => exact ⟨j + 1, by omega, by go_num, H5.out⟩
        case measure => simp [intOf]; omega
    · have H6 : Hid (Duo w wr (ArT g k (chain k)) Nil) := by
        have hjk : j = k := by omega
        rw [hjk] at HR; exact HR
      have hge : ¬ (j : Int) < k := by omega
      clear HR
      have r0 : 0 ≤ a2 % ((k : Int) - 2) := Int.emod_nonneg a2 (by omega)
      have r1 : a2 % ((k : Int) - 2) < (k : Int) - 2 := Int.emod_lt_of_pos a2 (by omega)
      have t2 : a2.tmod ((k : Int) - 2) = a2 % ((k : Int) - 2) := Int.tmod_eq_emod_of_nonneg b20
      obtain ⟨p, hp⟩ : ∃ p : Nat, a2 % ((k : Int) - 2) + 1 = p := ⟨(a2 % ((k : Int) - 2) + 1).toNat, by omega⟩
      have hp0 : 1 ≤ (p : Int) := by omega
      have hp1 : (p : Int) ≤ (k : Int) - 2 := by omega
      have s0 : 0 ≤ a3 % ((k : Int) - 1 - p) := Int.emod_nonneg a3 (by omega)
      have s1 : a3 % ((k : Int) - 1 - p) < (k : Int) - 1 - p := Int.emod_lt_of_pos a3 (by omega)
      have t3 : a3.tmod ((k : Int) - 1 - p) = a3 % ((k : Int) - 1 - p) := Int.tmod_eq_emod_of_nonneg b30
      obtain ⟨q, hq⟩ : ∃ q : Nat, (p : Int) + a3 % ((k : Int) - 1 - p) + 1 = q := ⟨((p : Int) + a3 % ((k : Int) - 1 - p) + 1).toNat, by omega⟩
      have hq0 : (p : Int) < q := by omega
      have hq1 : (q : Int) < k := by omega
      have HP := Lib.hid hp
      have HQ := Lib.hid hq
      clear hp hq
      go_upto_region 11 with (fail)
      rw [HP.out]
      clear r0 r1 t2
      go_upto_region 12 with (fail)
      rw [HQ.out]
      clear s0 s1 t3 HP HQ
      have e1 := mid_cut1 (k := k) (p := p) (by omega) (by omega)
      have e2 := mid_cut2 (k := k) (p := p) (q := q) (by omega) (by omega) (by omega)
      have e3 := mid_facts (k := k) (p := p) (q := q) (by omega) (by omega) (by omega)
      have e4 := mid_facts2 (k := k) (p := p) (q := q) (by omega) (by omega) (by omega)
      have HE := Lib.hid (And.intro e1 (And.intro e2 (And.intro e3 e4)))
      clear e1 e2 e3 e4
      go_wp2_with fail
      refine (j_cut H6.out Nil.framed HE.out.1).mono ?_
      rintro e w4 ⟨rfl, h1⟩
      have H7 := Lib.hid h1
      clear h1 H6
      go_wp2_with fail
      refine (j_cut H7.out Nil.framed HE.out.2.1).mono ?_
      rintro e w5 ⟨rfl, h1⟩
      have H8 := Lib.hid h1
      clear h1 H7
      go_wp2_with fail
      refine (j_len H8.out HE.out.2.2.1.1).mono ?_
      rintro e w6 ⟨rfl, rfl⟩
      go_wp2_with fail
      refine (j_len H8.out HE.out.2.2.1.2.1).mono ?_
      rintro e w6 ⟨rfl, rfl⟩
      go_wp2_with fail
      refine (j_len H8.out HE.out.2.2.1.2.2.1).mono ?_
      rintro e w6 ⟨rfl, rfl⟩
      go_wp2_with fail
      refine (j_same H8.out HE.out.2.2.1.2.2.2.1).mono ?_
      rintro e w6 ⟨rfl, rfl⟩
      go_wp2_with fail
      refine (j_same H8.out HE.out.2.2.1.2.2.2.2.1).mono ?_
      rintro e w6 ⟨rfl, rfl⟩
      go_wp2_with fail
      refine (j_at H8.out HE.out.2.2.1.2.2.2.2.2.1).mono ?_
      rintro e w6 ⟨rfl, rfl⟩
      go_wp2_with fail
      refine (j_at H8.out HE.out.2.2.1.2.2.2.2.2.2.1).mono ?_
      rintro e w6 ⟨rfl, rfl⟩
      go_wp2_with fail
      refine (j_join H8.out Nil.framed HE.out.2.2.1.2.2.2.2.2.2.2).mono ?_
      rintro e w6 ⟨rfl, h1⟩
      have H9 := Lib.hid h1
      clear h1 H8
      go_wp2_with fail
      refine (j_len H9.out HE.out.2.2.2.1).mono ?_
      rintro e w7 ⟨rfl, rfl⟩
      go_wp2_with fail
      refine (j_index H9.out Nil.framed HE.out.2.2.2.2.1).mono ?_
      rintro e w7 ⟨rfl, h1⟩
      have H10 := Lib.hid h1
      clear h1 H9
      go_wp2_with fail
      refine (j_index H10.out Nil.framed HE.out.2.2.2.2.2.1).mono ?_
      rintro e w8 ⟨rfl, h1⟩
      have H11 := Lib.hid h1
      clear h1 H10
      go_wp2_with fail
      refine (j_at H11.out HE.out.2.2.2.2.2.2).mono ?_
      rintro e w9 ⟨rfl, rfl⟩
      go_wp2_with fail
      go_ret
      exact ⟨rfl, H11.out.mod.below (Nat.le_refl _) (by simp [NoB])⟩
end Go.Proofs.Ytlmbkmjjiebpbaa
