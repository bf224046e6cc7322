/- The law ScanPlaces: the walk. -/
import Derived.Test.YtekbiaphnpnpgaaScanK
import Derived.Test.YtekbiaphnpnpgaaArgs
namespace Go.Proofs.Ytekbiaphnpnpgaa
open Go.RowKit
set_option linter.unusedVariables false

/-- What is left of a text from k on. -/
def rest (s : ByteArray) (k : Nat) : ByteArray := s.extract k s.size
theorem rest_L (s : ByteArray) (k : Nat) : L (rest s k) = (L s).drop k := Lib.extract_to_end s k
theorem rest_size (s : ByteArray) (k : Nat) : (rest s k).size = s.size - k := by simp [rest]
theorem rest_zero (s : ByteArray) : rest s 0 = s := extract_zero s
theorem bytes_eq {a b : ByteArray} (h : L a = L b) : a = b := Go.WideShapes.bytes_inj h
theorem rest_rest (s : ByteArray) (k n : Nat) : (rest s k).extract n (rest s k).size = rest s (k + n) := by
  apply bytes_eq
  have h1 : L ((rest s k).extract n (rest s k).size) = (L (rest s k)).drop n := rest_L _ _
  rw [h1, rest_L, rest_L, List.drop_drop]
theorem advK_add (ln cl : Int) (s : ByteArray) (k n : Nat) : advK (advK ln cl s k).1 (advK ln cl s k).2 (rest s k) n = advK ln cl s (k + n) := by
  have h1 : (rest s k).data.toList = s.data.toList.drop k := rest_L s k
  unfold advK
  rw [h1, show ((adv (ln, cl) (s.data.toList.take k)).1, (adv (ln, cl) (s.data.toList.take k)).2) = adv (ln, cl) (s.data.toList.take k) from rfl, ← adv_append, List.take_add]
theorem rest_head (s : ByteArray) (k : Nat) (h : k < s.size) : L (rest s k) = s[k] :: L (rest s (k + 1)) := by
  rw [rest_L, rest_L]
  have h1 : k < (L s).length := by rw [L_len]; exact h
  rw [List.drop_eq_getElem_cons h1]
  rfl
theorem rest_first (s : ByteArray) (k : Nat) (h : k < s.size) (h0 : 0 < (rest s k).size) : (rest s k)[0] = s[k] := by
  have h1 : (L (rest s k))[0]? = some (rest s k)[0] := at_byte _ 0 h0
  rw [rest_head s k h] at h1
  simpa using h1.symm

set_option maxHeartbeats 4000000 in
set_option maxRecDepth 100000 in
theorem places_walk (a0 : Option Addr) (len0 cap0 : Nat) (z0 : List Int) (w : World) (w0 : IsRow .u8 w a0 len0 cap0 z0) (h60 : len0 ≤ 60) :
    Calls Try.prog 6 #[.slice a0 len0 cap0] w fun e w' => e = .returned (.bool true) ∧ Below w.heap.size w w' := by
  have hd0 : decide ((60 : Int) < (len0 : Int)) = false := by simp; omega
  have HA := Lib.hid w0
  obtain ⟨_, _, hzl⟩ := isrow_len w0
  have hz0 : len0 ≤ z0.length := by have := (isrow_len w0).1; omega
  have hsz := rowStr_size hz0
  obtain ⟨s, hs⟩ : ∃ s, s = rowStr len0 z0 := ⟨_, rfl⟩
  have HS := Lib.hid hs
  rw [← hs] at hsz
  clear w0 hs hzl
  go_enter Try.func6, Try.ntmps6
  go_wp2_with fail
  refine (known_any _).mono ?_
  rintro e w1 ⟨rfl, hM1⟩
  have HM1 := Lib.hid hM1
  have hcv := conv_row (P := Try.prog) (HA.out.mod hM1) 34 9 5 Try.underlying34 Try.underlying9 Try.underlying5
  rw [← HS.out] at hcv
  clear hM1
  go_wp2_with fail
  refine (snew_any _ _ (by omega)).mono ?_
  rintro e w2 ⟨rfl, h1, hm1, hz1⟩
  obtain ⟨g, hg⟩ : ∃ g, g = w1.heap.size := ⟨_, rfl⟩
  have hgw : w.heap.size ≤ g := by have := HM1.out.size; omega
  rw [← hg] at h1 ⊢
  have HM2 := Lib.hid (HM1.out.trans hm1 (fun _ _ h => h))
  have H1 := Lib.hid h1
  clear hm1 hg hz1 hcv h1
  go_wp2_with fail
  go_loopw [4, 5, 6] (fun l c i wr => ∃ (k : Nat) (x y : Int), k ≤ len0 ∧ i = .int .i64 k ∧ l = .int .i64 x ∧ c = .int .i64 y ∧ Hid (Sc wr g (rest s k) x y 0 ∧ (x, y) = advK 1 1 s k ∧ Mod w wr NoB)) (fun _ _ i _ => len0 - (intOf i).toNat)
  case atStart => exact ⟨0, 1, 1, Nat.zero_le _, rfl, rfl, rfl, by rw [rest_zero]; exact H1.out, rfl, HM2.out⟩
  case round =>
    obtain ⟨k, x, y, hk, rfl, rfl, rfl, HR⟩ := hrel
    by_cases hlt : k < len0
    · have hks : k < s.size := by omega
      obtain ⟨b, off, rfl, hbw, hc0, hwf⟩ := isrow_at HA.out hlt
      have hc : wr.cell? ⟨b, off + k, none⟩ = some (.int .u8 (z0.getD k 0)) := (HR.out.2.2.cell hbw (by simp [NoB])).trans hc0
      have hbr : b < wr.heap.size := Nat.lt_of_lt_of_le hbw HR.out.2.2.size
      have hzb : z0.getD k 0 = ((s[k].toNat : Nat) : Int) := by
        have h3 : s[k] = UInt8.ofNat (z0.getD k 0).toNat := by
          have h4 := HS.out
          subst h4
          exact rowStr_get hks hz0
        rw [h3, byte_back hwf]
      rw [hzb] at hc
      obtain ⟨c, hcc⟩ : ∃ c, c = s[k] := ⟨_, rfl⟩
      rw [← hcc] at hc
      have HCC := Lib.hid hcc
      have hr0 : 0 < (rest s k).size := by rw [rest_size]; omega
      have hn : nextV (rest s k) 0 = .tuple #[.int .u8 c.toNat, .bool true] := by rw [nextV_some hr0, rest_first s k hks hr0, ← hcc]
      have HN := Lib.hid hn
      have hbx : 1 ≤ x ∧ 1 ≤ y ∧ x ≤ 1 + k ∧ y ≤ 1 + k := by
        have h5 := advK_bd 1 1 s k (by omega) (by omega)
        rw [← HR.out.2.1] at h5
        simp at h5; omega
      clear hcc hc0 hwf hzb hn hr0
      go_wp2_with fail
      refine (next_any _ _ _ _ _ _ HR.out.1).mono ?_
      rintro e w3 ⟨rfl, rfl⟩
      rw [HN.out]
      go_wp2_with fail
      refine (place_any _ _ _ _ _ _ HR.out.1).mono ?_
      rintro e w3 ⟨rfl, rfl⟩
      go_wp2_with fail
      have hW : wordOut [c] (L (rest s k)) 0 = (true, 0, 1) := by
        rw [rest_head s k hks, ← HCC.out]; simp [wordOut]
      refine (byte_any _ _ _ c _ _ _ (HR.out.1.alloc _)).mono ?_
      rintro e w4 ⟨rfl, h4⟩
      rw [hW] at h4 ⊢
      have H4 := Lib.hid h4
      have hm4 := h4.mod
      have hc4 : w4.cell? ⟨b, off + k, none⟩ = some (.int .u8 c.toNat) := by
        rw [hm4.cell (p := ⟨b, off + k, none⟩) (by simp; omega) (show ¬ b = g by omega), World.cell?_alloc_past _ _ _ hbr]; exact hc
      have HMM : Hid (Mod w w4 NoB) := (HR.out.2.2.alloc _).trans hm4 (fun i hi h => by unfold OneB at h; omega)
      have hadv : advK 1 1 s (k + 1) = if c.toNat = 10 then (x + 1, 1) else (x, y + 1) := by
        rw [advK_succ 1 1 s k hks, ← HR.out.2.1, ← HCC.out]
      have HAD := Lib.hid hadv
      have hsc := h4.sc
      have hst : (rest s k).extract 1 (rest s k).size = rest s (k + 1) := rest_rest s k 1
      have hap : advK x y (rest s k) 1 = advK 1 1 s (k + 1) := by
        have := advK_add 1 1 s k 1
        rw [← HR.out.2.1] at this; exact this
      rw [hst, hap] at hsc
      have HSC := Lib.hid hsc
      clear hW h4 hm4 hadv hsc hst hap hc H4
      by_cases h10 : c.toNat = 10
      · have hb : (((c.toNat : Nat) : Int) == 10) = true := by simp [h10]
        have HE : Hid (advK 1 1 s (k + 1) = (x + 1, 1)) := by have := HAD.out; rwa [if_pos h10] at this
        clear h10 HAD
        go_wp2_with fail
        go_roundw
        case rel => exact ⟨k + 1, x + 1, 1, by omega, by go_num, rfl, rfl, by have := HSC.out; rwa [HE.out] at this, HE.out.symm, HMM.out⟩
        case measure => simp [intOf]; omega
      · have hb : (((c.toNat : Nat) : Int) == 10) = false := by simp; omega
        have HE : Hid (advK 1 1 s (k + 1) = (x, y + 1)) := by have := HAD.out; rwa [if_neg h10] at this
        clear h10 HAD
        go_wp2_with fail
        go_roundw
        case rel => exact ⟨k + 1, x, y + 1, by omega, by go_num, rfl, rfl, by have := HSC.out; rwa [HE.out] at this, HE.out.symm, HMM.out⟩
        case measure => simp [intOf]; omega
    · have hke : k = s.size := by omega
      have hr0 : (rest s k).size = 0 := by rw [rest_size]; omega
      have hl0 : L (rest s k) = [] := List.length_eq_zero_iff.1 (by rw [L_len]; exact hr0)
      have hn := nextV_none (er := 0) (Or.inr hr0)
      have HN := Lib.hid hn
      have hW : wordOut [120] (L (rest s k)) 0 = (false, 20, 0) := by rw [hl0]; simp [wordOut]
      have HW := Lib.hid hW
      clear hke hr0 hl0 hn hW
      go_wp2_with fail
      refine (next_any _ _ _ _ _ _ HR.out.1).mono ?_
      rintro e w3 ⟨rfl, rfl⟩
      rw [HN.out]
      go_wp2_with fail
      refine (byte_is false 20 0 (rest s k) x y _ _ _ 120 120 (by decide) _ _ _ HR.out.1 HW.out (extract_zero _) rfl).mono ?_
      rintro e w4 ⟨rfl, h4, m4⟩
      have H4 := Lib.hid (And.intro h4 (HR.out.2.2.trans m4 (fun i hi h => by unfold OneB at h; omega)))
      clear h4 m4
      go_wp2_with fail
      refine (err_any _ _ _ _ _ _ H4.out.1).mono ?_
      rintro e w5 ⟨rfl, rfl⟩
      go_wp2_with fail
      refine (place_any _ _ _ _ _ _ H4.out.1).mono ?_
      rintro e w5 ⟨rfl, rfl⟩
      go_wp2_with fail
      go_ret
      exact ⟨rfl, (H4.out.2.alloc _).below (Nat.le_refl _) (by simp [NoB])⟩

set_option maxRecDepth 100000 in
theorem places_all (a0 : Option Addr) (len0 cap0 : Nat) (z0 : List Int) (w : World) (w0 : IsRow .u8 w a0 len0 cap0 z0) :
    Calls Try.prog 6 #[.slice a0 len0 cap0] w fun e w' => e = .returned (.bool true) ∧ Below w.heap.size w w' := by
  by_cases h60 : len0 ≤ 60
  · exact places_walk a0 len0 cap0 z0 w w0 h60
  · have hd0 : decide ((60 : Int) < (len0 : Int)) = true := by simp; omega
    go_enter Try.func6, Try.ntmps6
    go_wp2_with fail
    refine (known_any _).mono ?_
    rintro e w1 ⟨rfl, hM1⟩
    go_wp2_with fail
    go_ret
    exact ⟨rfl, hM1.below (Nat.le_refl _) (by simp [NoB])⟩
end Go.Proofs.Ytekbiaphnpnpgaa
