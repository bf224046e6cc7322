/- The law NamesOnce: each is numbered once, and found again by its number: the walk. -/
import Derived.Test.YtegpkoiggdnnmaaNamesC
import Derived.OpenShut
namespace Go.Proofs.Ytegpkoiggdnnmaa
open Go.RowKit Go.Maps Go.ChangeMaps

theorem shr_wf {y : Int} (h : (Lit.int .u32 y).wf = true) (n : Nat) : (Lit.int .u32 (y / 2 ^ n)).wf = true := by
  simp [Lit.wf, IntKind.min, IntKind.max, IntKind.signed, IntKind.bits] at h ⊢
  have h2 : (0 : Int) < 2 ^ n := Int.pow_pos (by decide)
  have h3 : y / 2 ^ n ≤ y := Int.ediv_le_self _ h.1
  have h4 : 0 ≤ y / 2 ^ n := Int.ediv_nonneg h.1 (Int.le_of_lt h2)
  omega

set_option maxHeartbeats 800000 in
theorem once_walk (a0 : Option Addr) (len0 cap0 : Nat) (z0 : List Int) (a1 : Int) (w : World) (w0 : IsRow .u32 w a0 len0 cap0 z0) (w1' : (Lit.int .u8 a1).wf = true) :
    Calls Try.prog 4 #[.slice a0 len0 cap0, .int .u8 a1] w fun e w' => e = .returned (.bool true) ∧ Below w.heap.size w w' := by
  by_cases h00 : len0 = 0
  · subst h00
    clear w0
    go_enter Try.func4, Try.ntmps4
    go_wp2_with fail
    refine (known_any _).mono ?_
    rintro e w1 ⟨rfl, hM1⟩
    go_wp2_with fail
    refine (new_post _).mono ?_
    rintro e w2 ⟨rfl, h2⟩
    have H2 := Lib.hid (hM1.trans h2.mod (by simp [NoB]))
    clear hM1 h2
    go_wp2_with fail
    go_loopw [6] (fun i wr => i = .int .i64 0 ∧ wr = w2) (fun _ _ => 0)
    case atStart => exact ⟨rfl, rfl⟩
    case round =>
      obtain ⟨rfl, rfl⟩ := hrel
      go_wp2_with fail
      go_ret
      exact ⟨rfl, H2.out.below (Nat.le_refl _) (by simp [NoB])⟩
  · rcases w0 with ⟨_, h0, _⟩ | ⟨x, rfl, hlc, hcm, hz, hcell, hwf⟩
    · exact absurd h0 h00
    by_cases hlen : 60 < len0
    · have hd : decide ((60 : Int) < (len0 : Int)) = true := by simp; omega
      clear hcell hwf
      go_enter Try.func4, Try.ntmps4
      go_wp2_with fail
      refine (known_any _).mono ?_
      rintro e w1 ⟨rfl, hM1⟩
      go_wp2_with fail
      go_ret
      exact ⟨rfl, hM1.below (Nat.le_refl _) (by simp [NoB])⟩
    · obtain ⟨b, off, rfl, hcs⟩ := ints_at hcell (by omega)
      have hd : decide ((60 : Int) < (len0 : Int)) = false := by simp; omega
      have hb : 0 < len0 → b < w.heap.size := fun h => by
        have := World.block_lt_of_cell? _ _ (hcs 0 (by omega)); exact this
      have HC := Lib.hid hcs
      have HWF := Lib.hid hwf
      have HB := Lib.hid hb
      have HZ := Lib.hid hz
      clear hcs hcell hwf hb hz
      go_enter Try.func4, Try.ntmps4
      go_wp2_with fail
      refine (known_any _).mono ?_
      rintro e w1 ⟨rfl, hM1⟩
      go_wp2_with fail
      refine (new_post _).mono ?_
      rintro e w2 ⟨rfl, h2⟩
      obtain ⟨g, hg⟩ : ∃ g, g = w1.heap.size + 1 := ⟨_, rfl⟩
      rw [← hg] at h2 ⊢
      clear hg
      have H2 : Hid (Mod w w2 NoB) := hM1.trans h2.mod (by simp [NoB])
      go_wp2_with fail
      go_loopw [6] (fun i wr => ∃ (k : Nat) (l : List Int) (S : Nat → Prop), k ≤ len0 ∧ i = .int .i64 k ∧ Hid (NRep wr g S l ∧ Mod w wr NoB ∧ (∀ j, S j → j < wr.heap.size) ∧ (∀ j, S j → w.heap.size ≤ j) ∧ l.length ≤ k)) (fun i _ => len0 - (intOf i).toNat)
      case atStart => exact ⟨0, [], _, Nat.zero_le _, rfl, ⟨h2.rep, H2.out, h2.lt, fun j hj => by
        rcases hj with h | ⟨h, _⟩
        · exact absurd h (by simp [NoB])
        · exact Nat.le_trans hM1.size h, Nat.le_refl _⟩⟩
      case round =>
        clear h2 H2
        obtain ⟨k, l, S, hk, rfl, HN⟩ := hrel
        by_cases hlt : k < len0
        · have hc : wr.cell? ⟨b, off + k, none⟩ = some (.int .u32 (z0.getD k 0)) := (HN.out.2.1.cell (HB.out (by omega)) (by simp [NoB])).trans (HC.out k (by rw [HZ.out]; omega))
          have hw : (Lit.int .u32 (z0.getD k 0)).wf = true := by
            have := HZ.out
            have hkz : k < z0.length := by omega
            exact HWF.out _ (by simp [hkz])
          obtain ⟨ba0, ba1⟩ := bounds_u8 w1'
          have bm0 : 0 ≤ a1 % 32 := by omega
          have bm1 : a1 % 32 < 32 := by omega
          obtain ⟨y, hy⟩ : ∃ y, y = z0.getD k 0 := ⟨_, rfl⟩
          rw [← hy] at hc hw
          clear hy
          go_wp2_with fail
          obtain ⟨v, hv⟩ : ∃ v, v = y / 2 ^ (a1 % 32).toNat := ⟨_, rfl⟩
          have wv : (Lit.int .u32 v).wf = true := by rw [hv]; exact shr_wf hw _
          rw [← hv]
          clear hv
          obtain ⟨hN, hM, hlt1, hge, hlk⟩ := HN.out
          have hl60 : l.length < 1000000 := by omega
          have HM := Lib.hid hM
          have HL := Lib.hid hlk
          have HG := Lib.hid hge
          clear hM hlk hge HN hc hw
          by_cases hin : v ∈ l
          · refine (find_any _ _ _ _ _ hN wv).mono ?_
            rintro e w3 ⟨rfl, rfl⟩
            rw [fres_in hin rfl]
            go_wp2_with fail
            refine (len_any _ _ _ _ hN).mono ?_
            rintro e w3 ⟨rfl, rfl⟩
            go_wp2_with fail
            obtain ⟨i, hi⟩ : ∃ i, i = l.idxOf v := ⟨_, rfl⟩
            have hi1 : i < l.length := hi ▸ List.idxOf_lt_length_of_mem hin
            have hgi : l.getD i 0 = v := by subst hi; simp [hi1]
            rw [← hi]
            have HI := Lib.hid hi.symm
            have HGI := Lib.hid hgi
            clear hi hgi
            refine (of_is l i _ _ _ _ _ (ofl_old hin) HI.out hN hlt1 wv hl60).mono ?_
            rintro e w3 ⟨rfl, h3⟩
            go_wp2_with fail
            refine (at_in _ _ _ l i h3.rep hi1).mono ?_
            rintro e w4 ⟨rfl, rfl⟩
            rw [HGI.out]
            go_wp2_with fail
            refine (of_is l i _ _ _ _ _ (ofl_old hin) HI.out h3.rep h3.lt wv hl60).mono ?_
            rintro e w4 ⟨rfl, h4⟩
            go_wp2_with fail
            refine (len_any _ _ _ _ h4.rep).mono ?_
            rintro e w5 ⟨rfl, rfl⟩
            have H4 := Lib.hid (h3.trans h4)
            clear h3 h4 hi1
            go_wp2_with fail
            go_roundw
            case rel => exact ⟨k + 1, l, _, by omega, by go_num, H4.out.rep, HM.out.trans H4.out.mod (fun j hj hS => absurd (HG.out j hS) (by omega)), H4.out.lt, fun j hj => (H4.out.apart j hj).elim (HG.out j) (fun h => Nat.le_trans HM.out.size h), by have := HL.out; omega⟩
            case measure => simp [intOf]; omega
          · refine (find_any _ _ _ _ _ hN wv).mono ?_
            rintro e w3 ⟨rfl, rfl⟩
            rw [fres_out hin]
            go_wp2_with fail
            refine (len_any _ _ _ _ hN).mono ?_
            rintro e w3 ⟨rfl, rfl⟩
            go_wp2_with fail
            have hi1 : l.length < (l ++ [v]).length := by simp
            have hgi : (l ++ [v]).getD l.length 0 = v := by simp
            have hl61 : (l ++ [v]).length < 1000000 := by have := HL.out; simp; omega
            refine (of_is (l ++ [v]) l.length _ _ _ _ _ (ofl_new hin) (idx_new hin) hN hlt1 wv hl60).mono ?_
            rintro e w3 ⟨rfl, h3⟩
            go_wp2_with fail
            refine (at_in _ _ _ (l ++ [v]) l.length h3.rep hi1).mono ?_
            rintro e w4 ⟨rfl, rfl⟩
            rw [hgi]
            go_wp2_with fail
            refine (of_is (l ++ [v]) l.length _ _ _ _ _ (ofl_old (by simp)) (idx_new hin) h3.rep h3.lt wv hl61).mono ?_
            rintro e w4 ⟨rfl, h4⟩
            go_wp2_with fail
            refine (len_any _ _ _ _ h4.rep).mono ?_
            rintro e w5 ⟨rfl, rfl⟩
            rw [show ((l ++ [v]).length : Int) = (l.length : Int) + 1 by simp]
            have hne : ((l.length : Int) + 1 == (l.length : Int)) = false := by rw [beq_eq_false_iff_ne]; omega
            have H4 := Lib.hid (h3.trans h4)
            clear h3 h4 hgi hi1
            go_wp2_with fail
            go_roundw
            case rel => exact ⟨k + 1, l ++ [v], _, by omega, by go_num, H4.out.rep, HM.out.trans H4.out.mod (fun j hj hS => absurd (HG.out j hS) (by omega)), H4.out.lt, fun j hj => (H4.out.apart j hj).elim (HG.out j) (fun h => Nat.le_trans HM.out.size h), by have := HL.out; simp; omega⟩
            case measure => simp [intOf]; omega
        · go_wp2_with fail
          go_ret
          exact ⟨rfl, HN.out.2.1.below (Nat.le_refl _) (by simp [NoB])⟩
end Go.Proofs.Ytegpkoiggdnnmaa
