/- The law NamesMany: the walk. -/
import Derived.Test.YtegpkoiggdnnmaaNamesOnce
namespace Go.Proofs.Ytegpkoiggdnnmaa
open Go.RowKit Go.Maps Go.ChangeMaps

def num (a s : Int) (j : Nat) : Int := (a + (j : Int) * s) % 4294967296
def numl (a s : Int) (k : Nat) : List Int := (List.range k).map (num a s)

theorem num_inj {a s : Int} {i j : Nat} (h1 : 1 ≤ s) (h2 : s ≤ 1000000) (hi : i ≤ 400) (hj : j ≤ 400) (h : num a s i = num a s j) : i = j := by
  unfold num at h
  rcases Nat.lt_trichotomy i j with hl | hl | hl
  · exfalso
    have e1 : (j : Int) * s = (i : Int) * s + ((j - i : Nat) : Int) * s := by rw [← Int.add_mul]; congr 1; omega
    have l1 : s ≤ ((j - i : Nat) : Int) * s := by
      have : (1 : Int) ≤ ((j - i : Nat) : Int) := by omega
      have h3 := Int.mul_le_mul_of_nonneg_right this (show 0 ≤ s by omega)
      omega
    have l2 : ((j - i : Nat) : Int) * s ≤ 400 * 1000000 := Int.mul_le_mul (by omega) h2 (by omega) (by omega)
    omega
  · exact hl
  · exfalso
    have e1 : (i : Int) * s = (j : Int) * s + ((i - j : Nat) : Int) * s := by rw [← Int.add_mul]; congr 1; omega
    have l1 : s ≤ ((i - j : Nat) : Int) * s := by
      have : (1 : Int) ≤ ((i - j : Nat) : Int) := by omega
      have h3 := Int.mul_le_mul_of_nonneg_right this (show 0 ≤ s by omega)
      omega
    have l2 : ((i - j : Nat) : Int) * s ≤ 400 * 1000000 := Int.mul_le_mul (by omega) h2 (by omega) (by omega)
    omega

theorem num_wf (a s : Int) (j : Nat) : (Lit.int .u32 (num a s j)).wf = true := by
  unfold num
  simp [Lit.wf, IntKind.min, IntKind.max, IntKind.signed, IntKind.bits]
  omega

theorem numl_len (a s : Int) (k : Nat) : (numl a s k).length = k := by simp [numl]
theorem numl_get (a s : Int) {j k : Nat} (h : j < k) : (numl a s k).getD j 0 = num a s j := by simp [numl, h]

theorem num_not {a s : Int} {k : Nat} (h1 : 1 ≤ s) (h2 : s ≤ 1000000) (hk : k ≤ 400) : num a s k ∉ numl a s k := by
  intro h
  simp only [numl, List.mem_map, List.mem_range] at h
  obtain ⟨j, hj, he⟩ := h
  have := num_inj h1 h2 (by omega) hk he
  omega

theorem numl_ofl {a s : Int} {k : Nat} (h1 : 1 ≤ s) (h2 : s ≤ 1000000) (hk : k ≤ 400) : ofl (numl a s k) (num a s k) = numl a s (k + 1) := by
  rw [ofl_new (num_not h1 h2 hk)]
  simp [numl, List.range_succ]

theorem numl_idx {a s : Int} {j k : Nat} (h1 : 1 ≤ s) (h2 : s ≤ 1000000) (hk : k ≤ 401) (hj : j < k) : num a s j ∈ numl a s k ∧ (numl a s k).idxOf (num a s j) = j := by
  refine idx_step _ _ j (by rw [numl_len]; exact hj) (fun i hi he => ?_) (numl_get a s hj)
  rw [numl_get a s (by omega)] at he
  have := num_inj h1 h2 (by omega) (by omega) he
  omega

theorem many_walk (a0 a1 a2 a3 : Int) (w : World) (w0 : (Lit.int .u16 a0).wf = true) (w1' : (Lit.int .u32 a1).wf = true) (w2' : (Lit.int .u32 a2).wf = true) (w3' : (Lit.int .u16 a3).wf = true) :
    Calls Try.prog 5 #[.int .u16 a0, .int .u32 a1, .int .u32 a2, .int .u16 a3] w fun e w' => e = .returned (.bool true) ∧ Below w.heap.size w w' := by
  obtain ⟨b00, b01⟩ := bounds_u16 w0
  obtain ⟨b10, b11⟩ := bounds_u32 w1'
  obtain ⟨b20, b21⟩ := bounds_u32 w2'
  obtain ⟨b30, b31⟩ := bounds_u16 w3'
  have hm0 : 0 ≤ a0 % 400 := by omega
  have hm1 : a0 % 400 < 400 := by omega
  have hs0 : 0 ≤ a2 % 1000000 := by omega
  have hs1 : a2 % 1000000 < 1000000 := by omega
  go_enter Try.func5, Try.ntmps5
  go_wp2_with fail
  refine (known_any _).mono ?_
  rintro e w1 ⟨rfl, hM1⟩
  go_wp2_with fail
  refine (new_post _).mono ?_
  rintro e w2 ⟨rfl, h2⟩
  obtain ⟨g, hg⟩ : ∃ g, g = w1.heap.size + 1 := ⟨_, rfl⟩
  rw [← hg] at h2 ⊢
  clear hg
  have H2 : Hid (Mod w w2 NoB) := hM1.trans h2.mod (by simp [NoB])
  go_wp2_with fail
  obtain ⟨kk, hkk⟩ : ∃ kk : Nat, (kk : Int) = a0 % 400 + 1 := ⟨(a0 % 400 + 1).toNat, by omega⟩
  obtain ⟨s, hs⟩ : ∃ s : Int, s = a2 % 1000000 + 1 := ⟨_, rfl⟩
  have k0 : 1 ≤ kk := by omega
  have k1 : kk ≤ 400 := by omega
  have s0 : 1 ≤ s := by omega
  have s1 : s ≤ 1000000 := by omega
  rw [← hkk, ← hs]
  clear hkk hs hm0 hm1 hs0 hs1
  go_loopw [12] (fun i wr => ∃ (k : Nat) (S : Nat → Prop), k ≤ kk ∧ i = .int .i64 k ∧ Hid (NRep wr g S (numl a1 s k) ∧ Mod w wr NoB ∧ (∀ j, S j → j < wr.heap.size) ∧ (∀ j, S j → w.heap.size ≤ j))) (fun i _ => kk - (intOf i).toNat)
  case atStart => exact ⟨0, _, Nat.zero_le _, rfl, ⟨(show numl a1 s 0 = [] from rfl) ▸ h2.rep, H2.out, h2.lt, fun j hj => by
    rcases hj with h | ⟨h, _⟩
    · exact absurd h (by simp [NoB])
    · exact Nat.le_trans hM1.size h⟩⟩
  case round =>
    clear h2 H2
    obtain ⟨k, S, hk, rfl, HN⟩ := hrel
    by_cases hlt : k < kk
    · go_wp2_with fail
      rw [show (a1 + (k : Int) * s) % 4294967296 = num a1 s k from rfl]
      obtain ⟨hN, hM, hlt1, hge⟩ := HN.out
      refine (of_is (numl a1 s (k + 1)) k _ _ _ _ _ (numl_ofl s0 s1 (by omega)) (numl_idx s0 s1 (by omega) (by omega)).2 hN hlt1 (num_wf _ _ _) (by rw [numl_len]; omega)).mono ?_
      rintro e w3 ⟨rfl, h3⟩
      have H3 := Lib.hid h3
      have HM := Lib.hid hM
      have HG := Lib.hid hge
      clear h3 hM hge HN hN hlt1
      go_wp2_with fail
      go_roundw
      case rel => exact ⟨k + 1, _, by omega, by go_num, H3.out.rep, HM.out.trans H3.out.mod (fun j hj hS => absurd (HG.out j hS) (by omega)), H3.out.lt, fun j hj => (H3.out.apart j hj).elim (HG.out j) (fun h => Nat.le_trans HM.out.size h)⟩
      case measure => simp [intOf]; omega
    · have hke : k = kk := by omega
      subst hke
      obtain ⟨hN, hM, hlt1, hge⟩ := HN.out
      have HM := Lib.hid hM
      have HG := Lib.hid hge
      clear HN hM hge
      obtain ⟨j, hj⟩ : ∃ j : Nat, (j : Int) = a3 % k := ⟨(a3 % k).toNat, by
        have : 0 ≤ a3 % (k : Int) := Int.emod_nonneg _ (by omega)
        omega⟩
      have hjk : j < k := by
        have : a3 % (k : Int) < k := Int.emod_lt_of_pos _ (by omega)
        omega
      have HJ := Lib.hid hj
      clear hj
      go_wp2_with fail
      rw [← HJ.out, show ((j : Int) % 4294967296) = j by omega, show (a1 + (j : Int) * s) % 4294967296 = num a1 s j from rfl]
      have hix := numl_idx (a := a1) s0 s1 (k := k) (j := j) (by omega) hjk
      have HX := Lib.hid hix
      clear hix
      refine (find_any _ _ _ _ _ hN (num_wf _ _ _)).mono ?_
      rintro e w3 ⟨rfl, rfl⟩
      rw [fres_in HX.out.1 HX.out.2]
      go_wp2_with fail
      refine (at_in _ _ _ _ j hN (by rw [numl_len]; exact hjk)).mono ?_
      rintro e w3 ⟨rfl, rfl⟩
      rw [numl_get a1 s hjk]
      have hnum : (num a1 s j == (a1 + (j : Int) * s) % 4294967296) = true := by simp [num]
      go_wp2_with fail
      refine (len_any _ _ _ _ hN).mono ?_
      rintro e w3 ⟨rfl, rfl⟩
      rw [numl_len]
      go_wp2_with fail
      refine (of_is (numl a1 s k) j _ _ _ _ _ (ofl_old HX.out.1) HX.out.2 hN hlt1 (num_wf _ _ _) (by rw [numl_len]; omega)).mono ?_
      rintro e w3 ⟨rfl, h3⟩
      go_wp2_with fail
      refine (len_any _ _ _ _ h3.rep).mono ?_
      rintro e w4 ⟨rfl, rfl⟩
      rw [numl_len]
      have H3 := Lib.hid h3
      clear h3
      go_wp2_with fail
      go_ret
      exact ⟨rfl, (HM.out.trans H3.out.mod (fun j hj hS => absurd (HG.out j hS) (by omega))).below (Nat.le_refl _) (by simp [NoB])⟩
end Go.Proofs.Ytegpkoiggdnnmaa
