/- The law ScanPlays: the walk. -/
import Derived.Test.YtekbiaphnpnpgaaScanSo
import Derived.Deep.RegionWith
import Derived.Deep.RegionHeld3
namespace Go.Proofs.Ytekbiaphnpnpgaa
open Go.RowKit
set_option linter.unusedVariables false

/-- The two texts, kept. -/
def Strs (w : World) (gs : Nat) (s t : ByteArray) : Prop := w.cell? ⟨gs, 0, none⟩ = some (.string s) ∧ w.cell? ⟨gs, 1, none⟩ = some (.string t) ∧ gs < w.heap.size
theorem Strs.mod {w w' : World} {gs : Nat} {s t : ByteArray} {S : Nat → Prop} (h : Strs w gs s t) (hm : Mod w w' S) (hn : ¬ S gs) : Strs w' gs s t :=
  ⟨(hm.cell h.2.2 hn).trans h.1, (hm.cell h.2.2 hn).trans h.2.1, Nat.lt_of_lt_of_le h.2.2 hm.size⟩

set_option maxHeartbeats 40000000 in
set_option maxRecDepth 100000 in
theorem plays_walk (a0 : ByteArray) (a1 : Option Addr) (len1 cap1 : Nat) (z1 : List Int) (a2 : Option Addr) (len2 cap2 : Nat) (w : World) (w0 : a0.size ≤ maxLen) (w1 : IsRow .u8 w a1 len1 cap1 z1) (w2 : IsActs w a2 len2)
    (h60 : a0.size ≤ 60) (h20 : len1 ≤ 20) (h40 : len2 ≤ 40) :
    Calls Try.prog 5 #[.string a0, .slice a1 len1 cap1, .slice a2 len2 cap2] w fun e w' => e = .returned (.bool true) ∧ Below w.heap.size w w' := by
  have hd0 : decide ((60 : Int) < (a0.size : Int)) = false := by simp; omega
  have hd1 : decide ((20 : Int) < (len1 : Int)) = false := by simp; omega
  have hd2 : decide ((40 : Int) < (len2 : Int)) = false := by simp; omega
  have HA := Lib.hid w1
  have HC := Lib.hid w2
  clear w1 w2
  go_enter Try.func5, Try.ntmps5
  go_wp2_with fail
  refine (known_any _).mono ?_
  rintro e w1 ⟨rfl, hM1⟩
  have HM1 := Lib.hid hM1
  clear hM1
  go_wp2_with fail
  refine (some_any _ _ _ _ _ (HA.out.mod HM1.out) h20).mono ?_
  rintro e w2 ⟨t, rfl, ht, hM2⟩
  have HM2 := Lib.hid (HM1.out.trans hM2 (fun _ _ h => h))
  clear hM2
  go_wp2_with fail
  obtain ⟨gs, hgs⟩ : ∃ gs, gs = w2.heap.size := ⟨_, rfl⟩
  obtain ⟨W, hW⟩ : ∃ W, W = w2.alloc (.cells #[.string a0, .string t] 9) := ⟨_, rfl⟩
  have hgw : w.heap.size ≤ gs := by have := HM2.out.size; omega
  have HW : Hid (Mod w W NoB ∧ Strs W gs a0 t) := by
    subst hW hgs
    exact ⟨HM2.out.alloc _, World.cell?_alloc_at _ _ _ _ rfl, World.cell?_alloc_at _ _ _ _ rfl, by simp⟩
  rw [← hW, ← hgs]
  clear hW hgs
  go_loopw [38] (fun i wr => ∃ (k : Nat), k ≤ 2 ∧ i = .int .i64 k ∧ Hid (Mod w wr NoB ∧ Strs wr gs a0 t)) (fun i _ => 2 - (intOf i).toNat)
  case atStart => exact ⟨0, Nat.zero_le _, rfl, HW.out⟩
  case round =>
    obtain ⟨k, hk, rfl, HR⟩ := hrel
    by_cases hlt : k < 2
    · obtain ⟨s, hs, hsz⟩ : ∃ s : ByteArray, wr.cell? ⟨gs, k, none⟩ = some (.string s) ∧ s.size ≤ 460 := by
        match k, hlt with
        | 0, _ => exact ⟨_, HR.out.2.1, by omega⟩
        | 1, _ => exact ⟨_, HR.out.2.2.1, ht⟩
      go_wp2_with fail
      refine (snew_any _ _ (by omega)).mono ?_
      rintro e w3 ⟨rfl, h3, m3, z3⟩
      obtain ⟨gc, hgc⟩ : ∃ gc, gc = wr.heap.size := ⟨_, rfl⟩
      have hgsc : gs < gc := by have := HR.out.2.2.2; omega
      rw [← hgc] at h3 ⊢
      have H3 := Lib.hid (And.intro h3 (And.intro (HR.out.1.trans m3 (fun _ _ h => h)) (HR.out.2.mod m3 (by simp [NoB]))))
      have hz3 : gc < w3.heap.size := h3.lt
      clear h3 m3 z3 hgc
      go_wp2_with fail
      refine (rnew_any _ _ (by omega)).mono ?_
      rintro e w4 ⟨rfl, h4, m4, z4⟩
      obtain ⟨gr, hgr⟩ : ∃ gr, gr = w3.heap.size := ⟨_, rfl⟩
      have hgcr : gc < gr := by omega
      rw [← hgr] at h4 ⊢
      have H4 : Hid (Two w4 gc gr s 0 1 1 0 ∧ Mod w w4 NoB ∧ Strs w4 gs a0 t) := ⟨⟨by rw [rest_zero]; exact H3.out.1.mod m4 (by simp [NoB]), h4⟩, H3.out.2.1.trans m4 (fun _ _ h => h), H3.out.2.2.mod m4 (by simp [NoB])⟩
      clear h4 m4 z4 hgr H3 hz3 hs
      go_wp2_with fail
      go_loopw [11] (fun i wr => ∃ (k a : Nat) (ln cl er : Int), k ≤ len2 ∧ i = .int .i64 k ∧ Hid (Two wr gc gr s a ln cl er ∧ Mod w wr NoB ∧ Strs wr gs a0 t)) (fun i _ => len2 - (intOf i).toNat)
      case atStart => exact ⟨0, 0, 1, 1, 0, Nat.zero_le _, rfl, H4.out⟩
      case round =>
        obtain ⟨i, a, ln, cl, er, hi, rfl, HI⟩ := hrel
        by_cases hil : i < len2
        · obtain ⟨b, off, rfl, hbw, u, m, sw, hact⟩ := HC.out.at hil
          have hbr : b < wr.heap.size := Nat.lt_of_lt_of_le hbw HI.out.2.1.size
          have HACT := Lib.hid hact
          obtain ⟨c0, c1, c2, wu, wm, ws⟩ := hact.mod hbw HI.out.2.1
          obtain ⟨hu0, hu1⟩ := bounds_u8 wu
          obtain ⟨hm0, hm1⟩ := bounds_u64 wm
          clear hact wu wm
          by_cases hw20 : sw.size ≤ 20
          · have hd4 : decide ((20 : Int) < (sw.size : Int)) = false := by simp; omega
            obtain ⟨ga, hga⟩ : ∃ ga, ga = wr.heap.size := ⟨_, rfl⟩
            obtain ⟨W2, hW2⟩ : ∃ W2, W2 = wr.alloc (.cells #[.int .u8 u, .int .u64 m, .string sw] 43) := ⟨_, rfl⟩
            have hgra : gr < ga := by have := HI.out.1.2.1.lt; omega
            have HT : Hid (Two W2 gc gr s a ln cl er ∧ Mod w W2 NoB ∧ Strs W2 gs a0 t) := by
              subst hW2
              exact ⟨HI.out.1.mod ((Mod.refl _ _).alloc _), HI.out.2.1.alloc _, HI.out.2.2.mod ((Mod.refl _ NoB).alloc _) (by simp [NoB])⟩
            have HQ : Hid (W2.cell? ⟨ga, 0, none⟩ = some (.int .u8 u) ∧ W2.cell? ⟨ga, 1, none⟩ = some (.int .u64 m) ∧ W2.cell? ⟨ga, 2, none⟩ = some (.string sw) ∧ ga < W2.heap.size) := by
              subst hW2 hga
              exact ⟨World.cell?_alloc_at _ _ _ _ rfl, World.cell?_alloc_at _ _ _ _ rfl, World.cell?_alloc_at _ _ _ _ rfl, by simp⟩
            have hne : gc ≠ gr := by omega
            have hne1 : ¬ OneB gc gr := by unfold OneB; omega
            have hns : ¬ OneB gc gs := by unfold OneB; omega
            have hnq : ¬ OneB gr gs := by unfold OneB; omega
            have hna : ¬ OneB gc ga := by unfold OneB; omega
            have hnb : ¬ OneB gr ga := by unfold OneB; omega
            have hnw : ∀ i, i < w.heap.size → OneB gc i → NoB i := fun i hi h => by unfold OneB at h; omega
            have hnr : ∀ i, i < w.heap.size → OneB gr i → NoB i := fun i hi h => by unfold OneB at h; omega
            have HWS := Lib.hid ws
            go_upto_block 4 with (fail)
            clear ws c0 c1 c2 HI HW H4 hd4 hbr
            rw [← hga, ← hW2]
            clear hga hW2
            go_cut [12, 62] (fun v v2 wc => v = .pointer (some ⟨ga, 0, none⟩) ∧ ∃ (a' : Nat) (ln' cl' er' : Int), Hid (Two wc gc gr s a' ln' cl' er' ∧ Mod w wc NoB ∧ Strs wc gs a0 t))
            case first =>
              have hu8 : u % 8 = 0 ∨ u % 8 = 1 ∨ u % 8 = 2 ∨ u % 8 = 3 ∨ u % 8 = 4 ∨ u % 8 = 5 ∨ u % 8 = 6 ∨ u % 8 = 7 := by omega
              obtain ⟨c0, c1, c2, c3⟩ := HQ.out
              rcases hu8 with h8 | h8 | h8 | h8 | h8 | h8 | h8 | h8 <;> rw [h8] <;> clear h8
              iterate 3
                · as_aux_lemma =>
                    go_upto_region 22 with (fail)
                    go_cut [13] (fun v wc => ∃ m' : Int, v = .int .u64 m' ∧ 0 ≤ m' ∧ m' < 18446744073709551616 ∧ Hid (Two wc gc gr s a ln cl er ∧ Mod w wc NoB ∧ Strs wc gs a0 t))
                    case first =>
                      have hq4 : u / 8 % 4 = 0 ∨ u / 8 % 4 = 1 ∨ u / 8 % 4 = 2 ∨ u / 8 % 4 = 3 := by omega
                      rcases hq4 with hq | hq | hq | hq
                      all_goals
                        go_wp2_with fail
                        go_meet
                        case rel => exact ⟨_, rfl, by omega, by omega, HT.out.1.mod ((Mod.refl _ _).alloc _), HT.out.2.1.alloc _, HT.out.2.2.mod ((Mod.refl _ NoB).alloc _) (by simp [NoB])⟩
                    case rest =>
                      obtain ⟨m', rfl, hm'0, hm'1, HTd⟩ := hcut
                      go_wp2_with fail
                      refine (number_any _ _ _ _ _ _ _ HTd.out.1.1 (by omega)).mono ?_
                      rintro e w5 ⟨rfl, h5⟩
                      have H5 := Lib.hid h5
                      clear h5
                      go_wp2_with fail
                      refine (rnumber_r _ _ _ _ _ _ _ _ (HTd.out.1.2.mod H5.out.mod hne1) (by omega)).mono ?_
                      rintro e w6 ⟨rfl, h6⟩
                      have H6 := Lib.hid (And.intro (Two.step H5.out h6 hne) (And.intro ((HTd.out.2.1.trans H5.out.mod hnw).trans h6.mod hnr) ((HTd.out.2.2.mod H5.out.mod hns).mod h6.mod hnq)))
                      clear h6 H5
                      go_wp2_with fail
                      go_meet
                      case rel => exact ⟨rfl, _, _, _, _, H6.out⟩
              · as_aux_lemma =>
                  have HTd : Hid (Two W2.drew gc gr s a ln cl er ∧ Mod w W2.drew NoB ∧ Strs W2.drew gs a0 t) := ⟨HT.out.1, HT.out.2.1.drew, HT.out.2.2⟩
                  go_wp2_with fail
                  go_region_held3 (fun u => u.cell? ⟨ga, 2, none⟩ = some (.string sw)) (first | exact c2 | exact q5 | exact H6.out.1)
                    (first
                    | (go_at_call 14; refine (word_any _ _ _ _ _ _ _ HTd.out.1.1 HWS.out).mono ?_; rintro e w5 ⟨rfl, h5⟩; have q5 : w5.cell? ⟨ga, 2, none⟩ = some (.string sw) := (h5.mod.cell c3 hna).trans c2; have q6 : ga < w5.heap.size := Nat.lt_of_lt_of_le c3 h5.mod.size; have H5 := Lib.hid h5; clear h5)
                    | (go_at_call 18; refine (rword_r _ _ _ _ _ _ _ _ (HTd.out.1.2.mod H5.out.mod hne1) HWS.out).mono ?_; rintro e w6 ⟨rfl, h6⟩; have H6 := Lib.hid (And.intro ((h6.mod.cell q6 hnb).trans q5) (And.intro (Two.step H5.out h6 hne) (And.intro ((HTd.out.2.1.trans H5.out.mod hnw).trans h6.mod hnr) ((HTd.out.2.2.mod H5.out.mod hns).mod h6.mod hnq)))); clear h6))
                  all_goals
                    go_wp2_with fail
                    go_meet
                    case rel => exact ⟨rfl, _, _, _, _, H6.out.2⟩
              iterate 2
                · as_aux_lemma =>
                    obtain ⟨c, bb, hn1, hn2⟩ := next_form s a er
                    have HN := Lib.hid (And.intro hn1 hn2)
                    clear hn1 hn2
                    go_wp2_with fail
                    refine (next_any _ _ _ _ _ _ HT.out.1.1).mono ?_
                    rintro e w5 ⟨rfl, rfl⟩
                    rw [HN.out.1]
                    go_wp2_with fail
                    refine (rnext_any _ _ _ _ _ _ _ HT.out.1.2).mono ?_
                    rintro e w5 ⟨rfl, nn, rfl⟩
                    rw [HN.out.2]
                    have HTd : Hid (Two (W2.drewN nn) gc gr s a ln cl er ∧ Mod w (W2.drewN nn) NoB ∧ Strs (W2.drewN nn) gs a0 t) := ⟨HT.out.1, HT.out.2.1.drewN nn, HT.out.2.2⟩
                    go_wp2_with fail
                    refine (byte_any _ _ _ c _ _ _ HTd.out.1.1).mono ?_
                    rintro e w5 ⟨rfl, h5⟩
                    have H5 := Lib.hid h5
                    clear h5
                    go_wp2_with fail
                    refine (rbyte_r _ _ _ c _ _ _ _ (HTd.out.1.2.mod H5.out.mod hne1)).mono ?_
                    rintro e w6 ⟨rfl, h6⟩
                    have H6 := Lib.hid (And.intro (Two.step H5.out h6 hne) (And.intro ((HTd.out.2.1.trans H5.out.mod hnw).trans h6.mod hnr) ((HTd.out.2.2.mod H5.out.mod hns).mod h6.mod hnq)))
                    clear h6 H5
                    go_wp2_with fail
                    go_meet
                    case rel => exact ⟨rfl, _, _, _, _, H6.out⟩
              · as_aux_lemma =>
                  obtain ⟨c, hc⟩ : ∃ c : UInt8, m % 256 = ((c.toNat : Nat) : Int) := ⟨UInt8.ofNat (m.toNat % 256), by rw [UInt8.toNat_ofNat_of_lt' (show m.toNat % 256 < 256 by omega)]; omega⟩
                  have HTd : Hid (Two W2.drew gc gr s a ln cl er ∧ Mod w W2.drew NoB ∧ Strs W2.drew gs a0 t) := ⟨HT.out.1, HT.out.2.1.drew, HT.out.2.2⟩
                  have hcw : IntKind.u8.wrap m = ((c.toNat : Nat) : Int) := by rw [← hc]; rfl
                  go_wp2_with fail
                  go_region_held3 (fun u => u.cell? ⟨ga, 1, none⟩ = some (.int .u64 m)) (first | exact c1 | exact q5 | exact H6.out.1)
                    (first
                    | (go_at_call 21; refine (byte_any _ _ _ c _ _ _ HTd.out.1.1).mono ?_; rintro e w5 ⟨rfl, h5⟩; have q5 : w5.cell? ⟨ga, 1, none⟩ = some (.int .u64 m) := (h5.mod.cell c3 hna).trans c1; have q6 : ga < w5.heap.size := Nat.lt_of_lt_of_le c3 h5.mod.size; have H5 := Lib.hid h5; clear h5)
                    | (go_at_call 22; refine (rbyte_r _ _ _ c _ _ _ _ (HTd.out.1.2.mod H5.out.mod hne1)).mono ?_; rintro e w6 ⟨rfl, h6⟩; have H6 := Lib.hid (And.intro ((h6.mod.cell q6 hnb).trans q5) (And.intro (Two.step H5.out h6 hne) (And.intro ((HTd.out.2.1.trans H5.out.mod hnw).trans h6.mod hnr) ((HTd.out.2.2.mod H5.out.mod hns).mod h6.mod hnq)))); clear h6))
                  all_goals
                    go_wp2_with fail
                    go_meet
                    case rel => exact ⟨rfl, _, _, _, _, H6.out.2⟩
              · as_aux_lemma =>
                  by_cases h200 : 200 < u
                  · go_wp2_with fail
                    refine (fail_any _ _ _ _ _ _ _ HT.out.1.1).mono ?_
                    rintro e w5 ⟨rfl, h5, m5⟩
                    have H5 := Lib.hid (And.intro h5 m5)
                    have q5 : w5.cell? ⟨ga, 1, none⟩ = some (.int .u64 m) := (m5.cell c3 hna).trans c1
                    clear h5 m5
                    go_wp2_with fail
                    refine (rfail_any _ _ _ _ _ _ _ _ (HT.out.1.2.mod H5.out.2 hne1)).mono ?_
                    rintro e w6 ⟨rfl, h6, m6⟩
                    have H6 := Lib.hid (And.intro (And.intro (H5.out.1.mod m6 (by unfold OneB; exact hne)) h6) (And.intro ((HT.out.2.1.trans H5.out.2 hnw).trans m6 hnr) ((HT.out.2.2.mod H5.out.2 hns).mod m6 hnq)))
                    clear h6 m6 H5
                    go_wp2_with fail
                    go_meet
                    case rel => exact ⟨rfl, _, _, _, _, H6.out⟩
                  · go_wp2_with fail
                    go_meet
                    case rel => exact ⟨rfl, _, _, _, _, HT.out⟩
            case rest =>
              obtain ⟨rfl, a', ln', cl', er', HZ⟩ := hcut
              as_aux_lemma =>
                obtain ⟨_, _, r2, r3, r4, _⟩ := HZ.out.1.2.1.cells
                have r5 := HZ.out.1.2.1.lt
                have HS := Lib.hid HZ.out.1.1.drew
                have p5 : (er' != er') = false := by simp
                have HT2 := Lib.hid HZ.out.2
                have HTW := Lib.hid HZ.out.1
                clear HZ HT HQ hm0 hm1 hu0 hu1
                go_wp2_with fail
                go_region_held3 (fun u => u.cell? ⟨gr, 2, none⟩ = some (.int .i64 ln') ∧ u.cell? ⟨gr, 3, none⟩ = some (.int .i64 cl') ∧ u.cell? ⟨gr, 4, none⟩ = some (.int .i64 er')) (first | exact ⟨r2, r3, r4⟩ | exact ⟨(World.cell?_alloc_lt _ _ _ r5).trans r2, (World.cell?_alloc_lt _ _ _ r5).trans r3, (World.cell?_alloc_lt _ _ _ r5).trans r4⟩)
                  (first
                  | (go_at_call 12; refine (err_any _ _ _ _ _ _ HS.out).mono ?_; rintro e w6 ⟨rfl, rfl⟩)
                  | (go_at_call 13; refine (place_any _ _ _ _ _ _ HS.out).mono ?_; rintro e w6 ⟨rfl, rfl⟩))
                all_goals
                  go_wp2_with fail
                  go_roundw
                  case rel => exact ⟨i + 1, _, _, _, _, by omega, by go_num, (show Two _ gc gr s a' ln' cl' er' from HTW.out).mod ((Mod.refl _ NoB).drew.alloc _), HT2.out.1.drew.alloc _, HT2.out.2.mod ((Mod.refl _ NoB).drew.alloc _) (by simp [NoB])⟩
                  case measure => simp [intOf]; omega
          · have hd4 : decide ((20 : Int) < (sw.size : Int)) = true := by simp; omega
            go_wp2_with fail
            go_ret
            exact ⟨rfl, (HI.out.2.1.alloc _).below (Nat.le_refl _) (by simp [NoB])⟩
        · have HX := Lib.hid HI.out.2
          clear HI
          go_wp2_with fail
          go_roundw
          case rel => exact ⟨k + 1, by omega, by go_num, HX.out⟩
          case measure => simp [intOf]; omega
    · go_wp2_with fail
      go_ret
      exact ⟨rfl, HR.out.1.below (Nat.le_refl _) (by simp [NoB])⟩
end Go.Proofs.Ytekbiaphnpnpgaa
