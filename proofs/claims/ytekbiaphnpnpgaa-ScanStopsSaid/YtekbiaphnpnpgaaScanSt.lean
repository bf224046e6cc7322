/- The law ScanStops: the walk. -/
import Derived.Test.YtekbiaphnpnpgaaScanPl
import Derived.Test.YtekbiaphnpnpgaaActs
import Derived.Deep.RegionWith
namespace Go.Proofs.Ytekbiaphnpnpgaa
open Go.RowKit
set_option linter.unusedVariables false

theorem numOut_er {most : Int} {l : List UInt8} {er : Int} (h : er ≠ 0) : numOut most l er = (0, er, 0) := by simp [numOut, h]
theorem wordOut_er {u l : List UInt8} {er : Int} (h : er ≠ 0) : wordOut u l er = (false, er, 0) := by simp [wordOut, h]

/-- A place that was kept. -/
def PC (w : World) (gp : Nat) (ln cl : Int) : Prop := w.cell? ⟨gp, 0, none⟩ = some (.int .i64 ln) ∧ w.cell? ⟨gp, 1, none⟩ = some (.int .i64 cl) ∧ gp < w.heap.size
theorem PC.mod {w w' : World} {gp : Nat} {ln cl : Int} {S : Nat → Prop} (h : PC w gp ln cl) (hm : Mod w w' S) (hn : ¬ S gp) : PC w' gp ln cl :=
  ⟨(hm.cell h.2.2 hn).trans h.1, (hm.cell h.2.2 hn).trans h.2.1, Nat.lt_of_lt_of_le h.2.2 hm.size⟩
theorem PC_new (w : World) (ln cl : Int) : PC ((w.alloc (.cells #[.int .i64 ln, .int .i64 cl] 31)).alloc (.cells #[.int .i64 ln, .int .i64 cl] 31)) (w.heap.size + 1) ln cl := by
  have h1 : (w.alloc (.cells #[.int .i64 ln, .int .i64 cl] 31)).heap.size = w.heap.size + 1 := by simp
  rw [← h1]
  exact ⟨World.cell?_alloc_at _ _ _ _ rfl, World.cell?_alloc_at _ _ _ _ rfl, by simp⟩

set_option maxHeartbeats 4000000 in
set_option maxRecDepth 100000 in
theorem stops_walk (a0 : Option Addr) (len0 cap0 : Nat) (z0 : List Int) (a1 a2 a3 : Int) (a4 : Option Addr) (len4 cap4 : Nat) (w : World) (w0 : IsRow .u8 w a0 len0 cap0 z0)
    (w1 : (Lit.int .u8 a1).wf = true) (w2 : (Lit.int .u8 a2).wf = true) (w3 : (Lit.int .u8 a3).wf = true) (w4 : IsActs w a4 len4) (h40 : len0 ≤ 40) (h20 : len4 ≤ 20) :
    Calls Try.prog 7 #[.slice a0 len0 cap0, .int .u8 a1, .int .u8 a2, .int .u8 a3, .slice a4 len4 cap4] w fun e w' => e = .returned (.bool true) ∧ Below w.heap.size w w' := by
  have hd0 : decide ((40 : Int) < (len0 : Int)) = false := by simp; omega
  have hd1 : decide ((20 : Int) < (len4 : Int)) = false := by simp; omega
  have HA := Lib.hid w0
  have HC := Lib.hid w4
  obtain ⟨_, _, hzl⟩ := isrow_len w0
  have hz0 : len0 ≤ z0.length := by have := (isrow_len w0).1; omega
  have hsz := rowStr_size hz0
  obtain ⟨s, hs⟩ : ∃ s, s = rowStr len0 z0 := ⟨_, rfl⟩
  have HS := Lib.hid hs
  rw [← hs] at hsz
  obtain ⟨b10, b11⟩ := bounds_u8 w1
  obtain ⟨b20, b21⟩ := bounds_u8 w2
  obtain ⟨b30, b31⟩ := bounds_u8 w3
  have hk0 : 0 ≤ a1 % ((len0 : Int) + 1) := Int.emod_nonneg _ (by omega)
  have hk1 : a1 % ((len0 : Int) + 1) < (len0 : Int) + 1 := Int.emod_lt_of_pos _ (by omega)
  obtain ⟨kk, hkk⟩ : ∃ kk : Nat, a1 % ((len0 : Int) + 1) = (kk : Int) := ⟨(a1 % ((len0 : Int) + 1)).toNat, by omega⟩
  have hkl : kk ≤ len0 := by omega
  have HK := Lib.hid hkk
  have HE : Hid (a2 % 30 + 1 ≠ 0 ∧ 0 ≤ a2 % 30 ∧ a2 % 30 < 30) := ⟨by omega, by omega, by omega⟩
  clear w0 w4 hs hzl hkk hk0 hk1 w1 w2 w3
  go_enter Try.func7, Try.ntmps7
  go_wp2_with fail
  refine (known_any _).mono ?_
  rintro e w1 ⟨rfl, hM1⟩
  have HM1 := Lib.hid hM1
  have hcv := conv_row (P := Try.prog) (HA.out.mod hM1) 34 9 5 Try.underlying34 Try.underlying9 Try.underlying5
  rw [← HS.out] at hcv
  clear hM1
  go_wp2_with fail
  refine (snew_any _ _ (by omega)).mono ?_
  rintro e w2 ⟨rfl, h1, hm1, hz1⟩
  obtain ⟨g, hg⟩ : ∃ g, g = w1.heap.size := ⟨_, rfl⟩
  have hgw : w.heap.size ≤ g := by have := HM1.out.size; omega
  rw [← hg] at h1 ⊢
  have HM2 := Lib.hid (HM1.out.trans hm1 (fun _ _ h => h))
  have H1 := Lib.hid h1
  clear hm1 hg hz1 hcv h1
  go_wp2_with fail
  go_loopw [13] (fun i wr => ∃ (k : Nat), k ≤ kk ∧ i = .int .i64 k ∧ Hid (Sc wr g (rest s k) (advK 1 1 s k).1 (advK 1 1 s k).2 0 ∧ Mod w wr NoB)) (fun i _ => len0 - (intOf i).toNat)
  case atStart => exact ⟨0, Nat.zero_le _, rfl, by rw [rest_zero]; exact H1.out, HM2.out⟩
  case round =>
    obtain ⟨k, hk, rfl, HR⟩ := hrel
    by_cases hlt : k < kk
    · have hlt' : (k : Int) < a1 % ((len0 : Int) + 1) := by have := HK.out; omega
      have hkn : k < len0 := by omega
      have hks : k < s.size := by omega
      obtain ⟨b, off, rfl, hbw, hc0, hwf⟩ := isrow_at HA.out hkn
      have hc : wr.cell? ⟨b, off + k, none⟩ = some (.int .u8 (z0.getD k 0)) := (HR.out.2.cell hbw (by simp [NoB])).trans hc0
      have hbr : b < wr.heap.size := Nat.lt_of_lt_of_le hbw HR.out.2.size
      have hzb : z0.getD k 0 = ((s[k].toNat : Nat) : Int) := by
        have h3 : s[k] = UInt8.ofNat (z0.getD k 0).toNat := by
          have h4 := HS.out
          subst h4
          exact rowStr_get hks hz0
        rw [h3, byte_back hwf]
      rw [hzb] at hc
      obtain ⟨c, hcc⟩ : ∃ c, c = s[k] := ⟨_, rfl⟩
      rw [← hcc] at hc
      have HCC := Lib.hid hcc
      clear hcc hc0 hwf hzb
      go_wp2_with fail
      have hW : wordOut [c] (L (rest s k)) 0 = (true, 0, 1) := by
        rw [rest_head s k hks, ← HCC.out]; simp [wordOut]
      refine (byte_is true 0 1 (rest s (k + 1)) (advK 1 1 s (k + 1)).1 (advK 1 1 s (k + 1)).2 _ _ _ c _ rfl _ _ _ HR.out.1 hW (rest_rest s k 1) (advK_add 1 1 s k 1)).mono ?_
      rintro e w4 ⟨rfl, h4, m4⟩
      have H4 := Lib.hid (And.intro h4 (HR.out.2.trans m4 (fun i hi h => by unfold OneB at h; omega)))
      clear h4 m4 hW hc hlt'
      go_wp2_with fail
      go_roundw
      case rel => exact ⟨k + 1, by omega, by go_num, H4.out⟩
      case measure => simp [intOf]; omega
    · have hlt' : ¬ ((k : Int) < a1 % ((len0 : Int) + 1)) := by have := HK.out; omega
      obtain ⟨s', hs'⟩ : ∃ s', s' = rest s k := ⟨_, rfl⟩
      obtain ⟨ln, hln⟩ : ∃ ln, ln = (advK 1 1 s k).1 := ⟨_, rfl⟩
      obtain ⟨cl, hcl⟩ : ∃ cl, cl = (advK 1 1 s k).2 := ⟨_, rfl⟩
      rw [← hs', ← hln, ← hcl] at HR
      clear hs' hln hcl
      go_wp2_with fail
      refine (place_any _ _ _ _ _ _ HR.out.1).mono ?_
      rintro e w3 ⟨rfl, rfl⟩
      have HR1 := Lib.hid (And.intro (HR.out.1.alloc (.cells #[.int .i64 ln, .int .i64 cl] 31)) (HR.out.2.alloc (.cells #[.int .i64 ln, .int .i64 cl] 31)))
      go_wp2_with fail
      obtain ⟨gp, hgp⟩ : ∃ gp, gp = wr.heap.size + 1 := ⟨_, rfl⟩
      obtain ⟨W, hW⟩ : ∃ W, W = (wr.alloc (.cells #[.int .i64 ln, .int .i64 cl] 31)).alloc (.cells #[.int .i64 ln, .int .i64 cl] 31) := ⟨_, rfl⟩
      have hgl : g < wr.heap.size := HR.out.1.lt
      have hgg : g < gp := by omega
      have HW : Hid (Sc W g s' ln cl 0 ∧ PC W gp ln cl ∧ Mod w W NoB) := by
        subst hW
        refine ⟨HR1.out.1.alloc _, ?_, HR1.out.2.alloc _⟩
        subst hgp
        exact PC_new _ _ _
      rw [← hgp, ← hW]
      clear hW hgp HR HR1 hgl
      refine (fail_any _ _ _ _ _ _ 0 HW.out.1).mono ?_
      rintro e w3 ⟨rfl, h3, m3⟩
      rw [if_pos rfl] at h3
      have HW3 := Lib.hid (And.intro h3 (And.intro (HW.out.2.1.mod m3 (by unfold OneB; omega)) (HW.out.2.2.trans m3 (fun i hi h => by unfold OneB at h; omega))))
      clear h3 m3 HW
      go_wp2_with fail
      refine (err_any _ _ _ _ _ _ HW3.out.1).mono ?_
      rintro e w4 ⟨rfl, rfl⟩
      go_wp2_with fail
      refine (fail_any _ _ _ _ _ _ _ HW3.out.1).mono ?_
      rintro e w4 ⟨rfl, h4, m4⟩
      rw [if_pos rfl] at h4
      have HW4 := Lib.hid (And.intro h4 (And.intro (HW3.out.2.1.mod m4 (by unfold OneB; omega)) (HW3.out.2.2.trans m4 (fun i hi h => by unfold OneB at h; omega))))
      clear h4 m4 HW3
      go_wp2_with fail
      refine (fail_any _ _ _ _ _ _ _ HW4.out.1).mono ?_
      rintro e w5 ⟨rfl, h5, m5⟩
      rw [if_neg HE.out.1] at h5
      have HW5 := Lib.hid (And.intro h5 (And.intro (HW4.out.2.1.mod m5 (by unfold OneB; omega)) (HW4.out.2.2.trans m5 (fun i hi h => by unfold OneB at h; omega))))
      clear h5 m5 HW4
      go_wp2_with fail
      obtain ⟨E, hE⟩ : ∃ E, E = a2 % 30 + 1 := ⟨_, rfl⟩
      have hEE := HE.out
      rw [← hE] at HW5 hEE
      have HEE := Lib.hid (And.intro hE hEE)
      clear hE hEE HE
      go_loopw [15, 16, 17] (fun i b o wr => ∃ (k : Nat), k ≤ len4 ∧ i = .int .i64 k ∧ Hid (Sc wr g s' ln cl E ∧ PC wr gp ln cl ∧ Mod w wr NoB)) (fun i _ _ _ => len4 - (intOf i).toNat)
      case atStart => exact ⟨0, Nat.zero_le _, rfl, HW5.out⟩
      case round =>
        obtain ⟨k, hk, rfl, HR⟩ := hrel
        by_cases hlt : k < len4
        · obtain ⟨b, off, rfl, hbw, au, am, sw, hact⟩ := HC.out.at hlt
          have hbr : b < w.heap.size := hbw
          have HACT := Lib.hid hact
          clear hact
          have HN := Lib.hid (nextV_none (s := s') (er := E) (Or.inl HEE.out.2.1))
          go_wp2_with fail
          refine (next_any _ _ _ _ _ _ HR.out.1).mono ?_
          rintro e w6 ⟨rfl, rfl⟩
          rw [HN.out]
          obtain ⟨c0, c1, c2, wu, wm, ws⟩ := HACT.out.mod hbw HR.out.2.2
          obtain ⟨hm0, hm1⟩ := bounds_u64 wm
          have HWS := Lib.hid ws
          clear wu wm ws c0
          go_wp2_with fail
          refine (number_is 0 E 0 s' ln cl _ _ _ _ _ _ _ HR.out.1 ⟨hm0, by omega⟩ (numOut_er HEE.out.2.1) (extract_zero _) rfl).mono ?_
          rintro e w6 ⟨rfl, h6, m6⟩
          have H6 := Lib.hid (And.intro h6 (And.intro (HR.out.2.1.mod m6 (by unfold OneB; omega)) (HR.out.2.2.trans m6 (fun i hi h => by unfold OneB at h; omega))))
          clear h6 m6 c1 c2
          obtain ⟨c0, c1, c2, _⟩ := HACT.out.mod hbw H6.out.2.2
          clear c0
          go_wp2_with fail
          refine (word_is false E 0 s' ln cl _ _ _ _ _ _ _ H6.out.1 HWS.out (wordOut_er HEE.out.2.1) (extract_zero _) rfl).mono ?_
          rintro e w7 ⟨rfl, h7, m7⟩
          have H7 := Lib.hid (And.intro h7 (And.intro (H6.out.2.1.mod m7 (by unfold OneB; omega)) (H6.out.2.2.trans m7 (fun i hi h => by unfold OneB at h; omega))))
          clear h7 m7 c1 c2 H6
          obtain ⟨c0, c1, c2, _⟩ := HACT.out.mod hbw H7.out.2.2
          clear c0 c2
          go_wp2_with fail
          refine (byte_is false E 0 s' ln cl _ _ _ (UInt8.ofNat (am.toNat % 256)) _ ?_ _ _ _ H7.out.1 (wordOut_er HEE.out.2.1) (extract_zero _) rfl).mono ?_
          · rw [UInt8.toNat_ofNat_of_lt' (show am.toNat % 256 < 256 by omega)]; omega
          rintro e w8 ⟨rfl, h8, m8⟩
          have H8 := Lib.hid (And.intro h8 (And.intro (H7.out.2.1.mod m8 (by unfold OneB; omega)) (H7.out.2.2.trans m8 (fun i hi h => by unfold OneB at h; omega))))
          clear h8 m8 c1 H7
          go_wp2_with fail
          go_roundw
          case rel => exact ⟨k + 1, by omega, by go_num, H8.out⟩
          case measure => simp [intOf]; omega
        · have hE := HEE.out.1
          subst hE
          have HM := Lib.hid HR.out.2.2
          have HSd := Lib.hid HR.out.1.drew
          obtain ⟨q0, q1, q2⟩ := HR.out.2.1
          clear HR HW5 HEE
          have p1 : a2.tmod 30 = a2 % 30 := Int.tmod_eq_emod_of_nonneg b20
          have p2 : IntKind.i64.wrap (a2 % 30 + 1) = a2 % 30 + 1 := IntWalk.i64_in _ (by omega)
          have p3 : IntKind.i64.wrap (a2 % 30) = a2 % 30 := IntWalk.i64_in _ (by omega)
          have p4 : IntKind.u8.wrap (a2 % 30) = a2 % 30 := IntWalk.u8_in _ (by omega)
          have p5 : ((a2 % 30 + 1) == (a2 % 30 + 1)) = true := by simp
          go_wp2_with fail
          go_region_with (first
            | (go_at_call 12; refine (err_any _ _ _ _ _ _ HSd.out).mono ?_; rintro e w6 ⟨rfl, rfl⟩)
            | (go_at_call 13; refine (place_any _ _ _ _ _ _ HSd.out).mono ?_; rintro e w6 ⟨rfl, rfl⟩))
          all_goals
            go_wp2_with fail
            go_ret
            exact ⟨rfl, (HM.out.drew.alloc _).below (Nat.le_refl _) (by simp [NoB])⟩

set_option maxRecDepth 100000 in
theorem stops_all (a0 : Option Addr) (len0 cap0 : Nat) (z0 : List Int) (a1 a2 a3 : Int) (a4 : Option Addr) (len4 cap4 : Nat) (w : World) (w0 : IsRow .u8 w a0 len0 cap0 z0)
    (w1 : (Lit.int .u8 a1).wf = true) (w2 : (Lit.int .u8 a2).wf = true) (w3 : (Lit.int .u8 a3).wf = true) (w4 : IsActs w a4 len4) :
    Calls Try.prog 7 #[.slice a0 len0 cap0, .int .u8 a1, .int .u8 a2, .int .u8 a3, .slice a4 len4 cap4] w fun e w' => e = .returned (.bool true) ∧ Below w.heap.size w w' := by
  by_cases h40 : len0 ≤ 40
  · by_cases h20 : len4 ≤ 20
    · exact stops_walk a0 len0 cap0 z0 a1 a2 a3 a4 len4 cap4 w w0 w1 w2 w3 w4 h40 h20
    · have hd0 : decide ((40 : Int) < (len0 : Int)) = false := by simp; omega
      have hd1 : decide ((20 : Int) < (len4 : Int)) = true := by simp; omega
      go_enter Try.func7, Try.ntmps7
      go_wp2_with fail
      refine (known_any _).mono ?_
      rintro e w1 ⟨rfl, hM1⟩
      go_wp2_with fail
      go_ret
      exact ⟨rfl, hM1.below (Nat.le_refl _) (by simp [NoB])⟩
  · have hd0 : decide ((40 : Int) < (len0 : Int)) = true := by simp; omega
    go_enter Try.func7, Try.ntmps7
    go_wp2_with fail
    refine (known_any _).mono ?_
    rintro e w1 ⟨rfl, hM1⟩
    go_wp2_with fail
    go_ret
    exact ⟨rfl, hM1.below (Nat.le_refl _) (by simp [NoB])⟩
end Go.Proofs.Ytekbiaphnpnpgaa
