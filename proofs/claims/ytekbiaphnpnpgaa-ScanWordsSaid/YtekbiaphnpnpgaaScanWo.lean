/- The law ScanWords: the walk. -/
import Derived.Test.YtekbiaphnpnpgaaScanNu
import Derived.Deep.RegionWith
namespace Go.Proofs.Ytekbiaphnpnpgaa
open Go.RowKit
set_option linter.unusedVariables false

theorem info_u8 : (Try.prog.info? 5).map (fun i => (i.zero, i.size, i.bytes)) = some (some (.int .u8 0), 1, 1) := by kernel_rfl
theorem conv_w {w W : World} {a : Option Addr} {len cap : Nat} {zs : List Int} (h : IsRow .u8 w a len cap zs) (hm : Mod w W NoB) :
    (convert 34 9 (.slice a len cap)).run Try.prog W = .ok (.string (rowStr len zs)) W :=
  conv_row (h.mod hm) 34 9 5 Try.underlying34 Try.underlying9 Try.underlying5

theorem xor_zero_iff (y x : Int) (h1 : 0 ≤ y) (h2 : y < 256) (h3 : 0 ≤ x) (h4 : x < 256) : 0 ≤ bits .xor .u8 y x ∧ bits .xor .u8 y x < 256 ∧ (bits .xor .u8 y x = y ↔ x = 0) := by
  rw [u8_xor y x h1 h2 h3 h4]
  have h5 : y.toNat ^^^ x.toNat < 256 := Nat.xor_lt_two_pow (n := 8) (by omega) (by omega)
  refine ⟨by omega, by omega, ?_⟩
  constructor
  · intro h
    have h6 : y.toNat ^^^ x.toNat = y.toNat := by omega
    have h7 : x.toNat = 0 := by
      have := congrArg (fun n => y.toNat ^^^ n) h6
      simp only [← Nat.xor_assoc, Nat.xor_self, Nat.zero_xor] at this
      exact this
    omega
  · intro h; subst h; simp; omega

theorem getD_set (l : List Int) (i j : Nat) (q : Int) (hj : j < l.length) : (l.set i q).getD j 0 = if j = i then q else l.getD j 0 := by
  rw [List.getD_eq_getElem?_getD, List.getElem?_set, List.getD_eq_getElem?_getD]
  by_cases e : j = i
  · subst e; simp [hj]
  · rw [if_neg (fun h => e h.symm), if_neg e]
theorem getD_take (l : List Int) (n j : Nat) (hj : j < n) : (l.take n).getD j 0 = l.getD j 0 := by
  rw [List.getD_eq_getElem?_getD, List.getElem?_take_of_lt hj, List.getD_eq_getElem?_getD]

/-- Behind 'd := append([]byte(nil), w...)': its cells, and what stays. -/
theorem words_mid {w w2 w3 : World} {b off len0 cap0 : Nat} {z0 : List Int} {ii : Nat} {y q : Int} (hA : IsRow .u8 w (some ⟨b, off, none⟩) len0 cap0 z0) (hM : Mod w w2 NoB) (hy : y = z0.getD ii 0) (hii : ii < len0) (h1 : 1 ≤ len0) {g2 cap2 : Nat}
    (hown : w3.ownsRow 0 5 1 (.slice (some ⟨g2, 0, none⟩) (0 + len0) cap2) (0 + len0) ([] ++ (z0.take len0).map (Value.int .u8))) (hgrow : w2.grownBy w3 (Value.slice none 0 0).ownBlock) (hat : (Value.slice none 0 0).ownBlock = some g2 ∨ g2 = w2.heap.size) (hlt : g2 < w3.heap.size) :
    w3.cell? ⟨g2, ii, none⟩ = some (.int .u8 y) ∧ w3.frozen? ⟨g2, ii, none⟩ = false ∧
      (convert 34 9 (.slice (some ⟨b, off, none⟩) len0 cap0)).run Try.prog (w3.setCell ⟨g2, ii, none⟩ (.int .u8 q)) = .ok (.string (rowStr len0 z0)) (w3.setCell ⟨g2, ii, none⟩ (.int .u8 q)) ∧
      Hid (Mod w (w3.setCell ⟨g2, ii, none⟩ (.int .u8 q)) NoB ∧ w2.heap.size ≤ g2 ∧ g2 < w3.heap.size ∧ Mod w2 (w3.setCell ⟨g2, ii, none⟩ (.int .u8 q)) NoB ∧
        ∀ j, j < len0 → (w3.setCell ⟨g2, ii, none⟩ (.int .u8 q)).cell? ⟨g2, j, none⟩ = some (.int .u8 (((z0.take len0).set ii q).getD j 0))) := by
  rw [Nat.zero_add, List.nil_append] at hown
  obtain ⟨sb, cap, hs, hcs, hf, _⟩ := row_open hown h1
  simp only [Value.slice.injEq, Option.some.injEq, Addr.mk.injEq, and_true, true_and] at hs
  obtain ⟨rfl, rfl⟩ := hs
  have hz : len0 ≤ z0.length := by have := isrow_len hA; omega
  have hg2 : g2 = w2.heap.size := by
    rcases hat with h | h
    · simp [Value.ownBlock] at h
    · exact h
  have hcj : ∀ j, j < len0 → w3.cell? ⟨g2, j, none⟩ = some (.int .u8 (z0.getD j 0)) := fun j hj => hcs j _ (by
    have : j < z0.length := by omega
    simp [hj, this])
  have hc := hcj ii hii
  have hM23 : Mod w2 w3 NoB := (Mod.refl w2 NoB).grown hgrow (fun k hk => by simp [Value.ownBlock] at hk)
  have hM24 : Mod w2 (w3.setCell ⟨g2, ii, none⟩ (.int .u8 q)) NoB := hM23.setCell (p := ⟨g2, ii, none⟩) (fun h => by simp at h; omega) _
  have hM4 : Mod w (w3.setCell ⟨g2, ii, none⟩ (.int .u8 q)) NoB := hM.trans hM24 (fun _ _ h => h)
  refine ⟨by rw [hy]; exact hc, hf ii, conv_w hA hM4, hM4, by omega, hlt, hM24, fun j hj => ?_⟩
  rw [getD_set _ _ _ _ (by simp; omega)]
  by_cases e : j = ii
  · subst e
    rw [World.cell?_setCell_same _ _ _ hc, if_pos rfl]
  · rw [World.cell?_setCell_other _ _ _ _ (fun h => e (by simpa using (congrArg Addr.off h).symm)), hcj j hj, if_neg e, getD_take _ _ _ hj]

theorem isrow_sub {q : IntKind} {w : World} {a : Option Addr} {len cap k : Nat} {zs : List Int} (h : IsRow q w a len cap zs) (hk : k ≤ len) : IsRow q w a k cap zs := by
  rcases h with ⟨h1, h2, h3, h4⟩ | ⟨x, h0, h1, h2, h3, h4, h5⟩
  · exact Or.inl ⟨h1, by omega, h3, h4⟩
  · exact Or.inr ⟨x, h0, by omega, h2, h3, h4, h5⟩

theorem conv_cells {W : World} {g len cap : Nat} {xs : List Int} (hl : xs.length = len) (h : ∀ j, j < len → W.cell? ⟨g, j, none⟩ = some (.int .u8 (xs.getD j 0))) :
    (convert 34 9 (.slice (some ⟨g, 0, none⟩) len cap)).run Try.prog W = .ok (.string (strOfNums xs)) W :=
  run_convert_bytes_arg W 34 5 Try.underlying34 Try.underlying5 g 0 len cap xs hl (fun i hi => by rw [Nat.zero_add]; exact h i hi) 9 Try.underlying9

/-- A word against itself with one byte turned. -/
theorem words_pure {u D : ByteArray} {z0 : List Int} {len0 ii : Nat} {y q a2 : Int} (hu : u.data.toList = (z0.take len0).map fun n => UInt8.ofNat n.toNat) (hD : D.data.toList = ((z0.take len0).set ii q).map fun n => UInt8.ofNat n.toNat)
    (hy : y = z0.getD ii 0) (hi : ii < len0) (hz : len0 ≤ z0.length) (hw : ∀ j, j < len0 → (Lit.int .u8 (z0.getD j 0)).wf = true) (h0 : 0 ≤ q) (h1 : q < 256) (hq : q = y ↔ a2 = 0) :
    (a2 = 0 → (wordOut (L u) (L D) 0).1 = true) ∧ (a2 ≠ 0 → wordOut (L u) (L D) 0 = (false, 21, 0)) := by
  have hlu : L u = (z0.take len0).map fun n => UInt8.ofNat n.toNat := hu
  have hlD : L D = ((z0.take len0).set ii q).map fun n => UInt8.ofNat n.toNat := hD
  have hlen : (L u).length = (L D).length := by rw [hlu, hlD]; simp
  have hiz : ii < (z0.take len0).length := by simp; omega
  have hget : (z0.take len0)[ii] = y := by
    rw [hy, List.getElem_take, List.getD_eq_getElem?_getD, List.getElem?_eq_getElem (by omega)]; rfl
  constructor
  · intro hx
    have hqy := hq.2 hx
    have : L u = L D := by rw [hlu, hlD, hqy, ← hget, List.set_getElem_self]
    simp [wordOut, this]
  · intro hx
    have hne : q ≠ y := fun h => hx (hq.1 h)
    have e1 : (L u)[ii]? = some (UInt8.ofNat y.toNat) := by rw [hlu, List.getElem?_map, List.getElem?_eq_getElem hiz, hget]; rfl
    have e2 : (L D)[ii]? = some (UInt8.ofNat q.toNat) := by
      rw [hlD, List.getElem?_map, List.getElem?_set, if_pos rfl, if_pos hiz]; rfl
    have hyw := hw ii hi
    rw [← hy] at hyw
    obtain ⟨hy0, hy1⟩ := bounds_u8 hyw
    have hno := alike_not e1 e2 (fun h => by
      have h3 := congrArg UInt8.toNat h
      rw [UInt8.toNat_ofNat_of_lt' (show y.toNat < 256 by omega), UInt8.toNat_ofNat_of_lt' (show q.toNat < 256 by omega)] at h3
      exact hne (by omega))
    simp [wordOut, hno.1, hno.2]

set_option maxHeartbeats 4000000 in
set_option maxRecDepth 100000 in
theorem words_walk (a0 : Option Addr) (len0 cap0 : Nat) (z0 : List Int) (a1 a2 a3 : Int) (a4 : Option Addr) (len4 cap4 : Nat) (z4 : List Int) (w : World) (w0 : IsRow .u8 w a0 len0 cap0 z0) (w1' : (Lit.int .u8 a1).wf = true) (w2' : (Lit.int .u8 a2).wf = true) (w3' : (Lit.int .u8 a3).wf = true) (w4' : IsRow .u8 w a4 len4 cap4 z4)
    (h30 : len0 ≤ 30) (h1 : 1 ≤ len0) (h10 : len4 ≤ 10) :
    Calls Try.prog 4 #[.slice a0 len0 cap0, .int .u8 a1, .int .u8 a2, .int .u8 a3, .slice a4 len4 cap4] w fun e w' => e = .returned (.bool true) ∧ Below w.heap.size w w' := by
  have hd0 : decide ((30 : Int) < (len0 : Int)) = false := by simp; omega
  have hd1 : ((len0 : Int) == 0) = false := by simp; omega
  have hd2 : decide ((10 : Int) < (len4 : Int)) = false := by simp; omega
  obtain ⟨b10, b11⟩ := bounds_u8 w1'
  obtain ⟨b20, b21⟩ := bounds_u8 w2'
  obtain ⟨b30, b31⟩ := bounds_u8 w3'
  have hz0 : len0 ≤ z0.length := by have := isrow_len w0; omega
  have hz4 : len4 ≤ z4.length := by have := isrow_len w4'; omega
  have hus := rowStr_size hz0
  have hms := rowStr_size hz4
  obtain ⟨u, hu⟩ : ∃ u, u = rowStr len0 z0 := ⟨_, rfl⟩
  obtain ⟨m, hm⟩ : ∃ m, m = rowStr len4 z4 := ⟨_, rfl⟩
  rw [← hu] at hus
  rw [← hm] at hms
  have HU := Lib.hid hu
  have HM := Lib.hid hm
  have HA := Lib.hid w0
  have HB := Lib.hid w4'
  clear hu hm w0 w4' w1' w2' w3'
  obtain ⟨i0, hi, hz0', hz1, hz2⟩ := info_parts info_u8
  go_enter Try.func4, Try.ntmps4
  go_wp2_with fail
  refine (known_any _).mono ?_
  rintro e w1 ⟨rfl, hM1⟩
  have HM1 := Lib.hid hM1
  have hcv1 := conv_w HA.out hM1
  have hcv2 := conv_w HB.out hM1
  rw [← HU.out] at hcv1
  rw [← HM.out] at hcv2
  clear hM1
  go_wp2_with fail
  refine (snew_any _ _ (by rw [ByteArray.size_append]; omega)).mono ?_
  rintro e w2 ⟨rfl, h2, m2, z2⟩
  obtain ⟨g1, hg1⟩ : ∃ g1, g1 = w1.heap.size := ⟨_, rfl⟩
  have hg1w : w.heap.size ≤ g1 := by have := HM1.out.size; omega
  have hg1z : g1 < w2.heap.size := by omega
  rw [← hg1] at h2 ⊢
  have HM2 := Lib.hid (HM1.out.trans m2 (fun _ _ h => h))
  have H2 := Lib.hid h2
  clear hcv1 hcv2 m2 z2 hg1 h2
  obtain ⟨b, off, rfl, hbw, _⟩ := isrow_at HA.out (k := 0) (by omega)
  have hcell : ∀ j, j < len0 → w2.cell? ⟨b, off + j, none⟩ = some (.int .u8 (z0.getD j 0)) := fun j hj => by
    obtain ⟨b', off', hx, hb', hc', _⟩ := isrow_at HA.out hj
    simp only [Option.some.injEq, Addr.mk.injEq, and_true] at hx
    obtain ⟨rfl, rfl⟩ := hx
    rw [HM2.out.cell (p := ⟨b, off + j, none⟩) hbw (by simp [NoB])]; exact hc'
  have hnews : ∀ j x, ((z0.take len0).map (Value.int .u8))[j]? = some x → w2.cell? ((⟨b, off, none⟩ : Addr).add j) = some x := fun j x hx => by
    have hj : j < len0 := by
      rcases Nat.lt_or_ge j len0 with h | h
      · exact h
      · rw [List.getElem?_eq_none (by simp; omega)] at hx; cases hx
    have hplain : (⟨b, off, none⟩ : Addr).add j = ⟨b, off + j, none⟩ := by unfold Addr.add; split <;> simp_all
    rw [hplain, hcell j hj]
    have hjz : j < z0.length := by omega
    simp [hj, hjz] at hx ⊢
    exact hx
  have HN := Lib.hid hnews
  clear hcell hnews
  obtain ⟨ii, hix⟩ : ∃ ii : Nat, a1 % (len0 : Int) = (ii : Int) := ⟨(a1 % (len0 : Int)).toNat, by
    have : 0 ≤ a1 % (len0 : Int) := Int.emod_nonneg _ (by omega)
    omega⟩
  have hiil : ii < len0 := by
    have : a1 % (len0 : Int) < len0 := Int.emod_lt_of_pos _ (by omega)
    omega
  obtain ⟨y, hy⟩ : ∃ y, y = z0.getD ii 0 := ⟨_, rfl⟩
  have hyw : (Lit.int .u8 y).wf = true := by rw [hy]; exact row_wf HA.out hiil
  obtain ⟨hy0, hy1⟩ := bounds_u8 hyw
  obtain ⟨q, hq⟩ : ∃ q, bits .xor .u8 y a2 = q := ⟨_, rfl⟩
  have hqq := xor_zero_iff y a2 hy0 (by omega) b20 (by omega)
  rw [hq] at hqq
  have HQ := Lib.hid hqq
  have HY := Lib.hid hy
  clear hqq hy hyw
  go_wp2_with (at_builtin; refine wpList_append_lies _ rfl _ _ 34 rfl 0 5 i0 (.int .u8 0) 1 1 Try.underlying34 hi hz0' hz1 hz2 rfl (by decide) (.slice none 0 0) 0 [] rfl (World.ownsRow_nil _ _ _ _) ⟨b, off, none⟩ len0 cap0 ((z0.take len0).map (Value.int .u8)) rfl (by simp; omega) HN.out (ints_oneCell .u8 _) (by omega) (by unfold maxLen; omega) (by omega) (Nat.zero_le _) (w2.heap.size) rfl ?_; intro g2 cap2 w3 hown hgrow hat hlt2; obtain ⟨hcy, hfy, hcv3, HW3⟩ := words_mid HA.out HM2.out HY.out hiil (q := q) h1 hown hgrow hat hlt2; rw [← HU.out] at hcv3; clear hown hgrow hat hlt2)
  obtain ⟨W4, hW4⟩ : ∃ W4, W4 = w3.setCell ⟨g2, ii, none⟩ (.int .u8 q) := ⟨_, rfl⟩
  rw [← hW4] at HW3 ⊢
  have H24 := Lib.hid (H2.out.mod HW3.out.2.2.2.1 (by simp [NoB]))
  have hg12 : g1 ≠ g2 := by have := HW3.out.2.1; omega
  clear hcv3 hcy hfy HN H2
  have hO1 : wordOut (L u) (L (u ++ m)) 0 = (true, 0, u.size) := by
    rw [app_L]; simp [wordOut, L_len]
  refine (word_any _ _ _ _ _ _ _ H24.out (small_len _ (by omega))).mono ?_
  rintro e w5 ⟨rfl, h5⟩
  rw [hO1] at h5 ⊢
  have H5 := Lib.hid h5.sc
  have HM5 := Lib.hid (HW3.out.1.trans h5.mod (fun i hi h => by unfold OneB at h; omega))
  have hcd : ∀ j, j < len0 → w5.cell? ⟨g2, j, none⟩ = some (.int .u8 (((z0.take len0).set ii q).getD j 0)) := fun j hj => by
    have hlt : g2 < W4.heap.size := by rw [hW4]; simp only [World.setCell, Array.size_modify]; exact HW3.out.2.2.1
    rw [h5.mod.cell (p := ⟨g2, j, none⟩) hlt (show ¬ g2 = g1 from fun h => hg12 h.symm)]
    exact HW3.out.2.2.2.2 j hj
  have hcvd := conv_cells (W := w5) (g := g2) (cap := cap2) (xs := (z0.take len0).set ii q) (by simp; omega) hcd
  have HCD := Lib.hid hcd
  obtain ⟨D, hD⟩ : ∃ D, D = strOfNums ((z0.take len0).set ii q) := ⟨_, rfl⟩
  rw [← hD] at hcvd
  have HD := Lib.hid hD
  have hDs : D.size = len0 := by rw [hD, strOfNums_size]; simp; omega
  have hg1z5 : g1 < w5.heap.size := h5.sc.lt
  clear hO1 h5 hcd hD hW4 HM2 HM1
  go_wp2_with fail
  obtain ⟨kk, hkx⟩ : ∃ kk : Nat, a3 % (len0 : Int) = (kk : Int) := ⟨(a3 % (len0 : Int)).toNat, by
    have : 0 ≤ a3 % (len0 : Int) := Int.emod_nonneg _ (by omega)
    omega⟩
  have hkl : kk < len0 := by
    have : a3 % (len0 : Int) < len0 := Int.emod_lt_of_pos _ (by omega)
    omega
  have hlc : len0 ≤ cap0 := (isrow_len HA.out).1
  have hkc : (kk : Int) ≤ (cap0 : Int) := by omega
  have hcvk := conv_w (isrow_sub HA.out (Nat.le_of_lt hkl)) HM5.out.drew
  have hcvd' : (convert 34 9 (.slice (some ⟨g2, 0, none⟩) len0 cap2)).run Try.prog w5.drew = .ok (.string D) w5.drew := by
    rw [HD.out]
    refine conv_cells (by simp; omega) (fun j hj => ?_)
    exact HCD.out j hj
  have hKs : (rowStr kk z0).size = kk := rowStr_size (by omega)
  obtain ⟨K, hK⟩ : ∃ K, K = rowStr kk z0 := ⟨_, rfl⟩
  rw [← hK] at hcvk hKs
  have HK := Lib.hid hK
  have hDsz : D.size ≤ 1099511627776 := by omega
  have hKsz : K.size ≤ 1099511627776 := by omega
  clear hK hcvd
  go_cut [14, 15] (fun vf vg wc => ∃ gf gg : Nat, vf = .pointer (some ⟨gf, 0, none⟩) ∧ vg = .pointer (some ⟨gg, 0, none⟩) ∧ Hid (Sc wc gf D 1 1 0 ∧ Sc wc gg K 1 1 0 ∧ Sc wc g1 (rest (u ++ m) u.size) (advK 1 1 (u ++ m) u.size).1 (advK 1 1 (u ++ m) u.size).2 0 ∧ Mod w wc NoB ∧ gf < gg ∧ g1 < gf ∧ w.heap.size ≤ g1))
  case first =>
    go_region_with (first
      | (go_at_call 10; refine (snew_any _ D hDsz).mono ?_; rintro e w6 ⟨rfl, h6, m6, z6⟩; have H6 := Lib.hid (And.intro h6 (And.intro m6 z6)); have hcvk6 := conv_w (isrow_sub HA.out (Nat.le_of_lt hkl)) (HM5.out.drew.trans m6 (fun _ _ h => h)); rw [← HK.out] at hcvk6; clear h6 m6 z6)
      | (go_at_call 10; refine (snew_any _ K hKsz).mono ?_; rintro e w7 ⟨rfl, h7, m7, z7⟩; have H7 := Lib.hid (And.intro h7 (And.intro m7 z7)); clear h7 m7 z7))
    all_goals
      go_wp2_with fail
      go_meet
      case rel => exact ⟨_, _, rfl, rfl, H6.out.1.mod H7.out.2.1 (by simp [NoB]), H7.out.1, (H5.out.drew.mod H6.out.2.1 (by simp [NoB])).mod H7.out.2.1 (by simp [NoB]), (HM5.out.drew.trans H6.out.2.1 (fun _ _ h => h)).trans H7.out.2.1 (fun _ _ h => h), by have := H6.out.2.2; show w5.drew.heap.size < w6.heap.size; omega, hg1z5, hg1w⟩
  case rest =>
    obtain ⟨gf, gg, rfl, rfl, HC⟩ := hcut
    clear H5 HM5 hcvk hcvd' HCD HW3 H24
    obtain ⟨O, hO⟩ : ∃ O, O = wordOut (L u) (L D) 0 := ⟨_, rfl⟩
    have hOx : (a2 = 0 → O.1 = true) ∧ (a2 ≠ 0 → O = (false, 21, 0)) := by
      rw [hO]
      exact words_pure (z0 := z0) (len0 := len0) (by rw [HU.out]; exact strOfNums_data _) (by rw [HD.out]; exact strOfNums_data _) HY.out hiil hz0 (fun j hj => row_wf HA.out hj) HQ.out.1 HQ.out.2.1 HQ.out.2.2
    have hOg : wordOut (L u) (L K) 0 = (false, 20, 0) := by
      have hp : L K <+: L u := by
        rw [HK.out, HU.out]
        show (rowStr kk z0).data.toList <+: (rowStr len0 z0).data.toList
        rw [show (rowStr kk z0).data.toList = (z0.take kk).map fun n => UInt8.ofNat n.toNat from strOfNums_data _, show (rowStr len0 z0).data.toList = (z0.take len0).map fun n => UInt8.ofNat n.toNat from strOfNums_data _]
        have : z0.take kk <+: z0.take len0 := List.take_prefix_take_left (Nat.le_of_lt hkl)
        exact this.map _
      have hn : ¬ L u <+: L K := fun h => by have := h.length_le; rw [L_len, L_len] at this; omega
      simp [wordOut, hn, hp]
    have HO := Lib.hid hO
    have HOX := Lib.hid hOx
    have HOG := Lib.hid hOg
    clear hO hOx hOg
    have hcw := conv_w HA.out HC.out.2.2.2.1.drew
    rw [← HU.out] at hcw
    have hus' := small_len u (by omega)
    go_upto_region 10 with (fail)
    go_cut [16, 17] (fun vb vs wc => vb = .bool O.1 ∧ vs = .bool false ∧ Hid (Sc wc g1 (rest (u ++ m) u.size) (advK 1 1 (u ++ m) u.size).1 (advK 1 1 (u ++ m) u.size).2 0 ∧ (∃ s' l c, Sc wc gf s' l c O.2.1 ∧ (O.2.2 = 0 → (l, c) = (1, 1))) ∧ (∃ s' l c, Sc wc gg s' l c 20) ∧ Mod w wc NoB))
    case first =>
      go_region_with (first
        | (go_at_call_of 14 (Value.pointer (some ⟨gf, 0, none⟩)); refine (word_any _ _ _ _ _ _ _ HC.out.1.drew hus').mono ?_; rintro e w8 ⟨rfl, h8⟩; rw [← HO.out] at h8 ⊢; have H8 := Lib.hid h8; have hcw8 := conv_w HA.out (HC.out.2.2.2.1.drew.trans h8.mod (fun i hi h => by have := HC.out.2.2.2.2.2; unfold OneB at h; omega)); rw [← HU.out] at hcw8; clear h8)
        | (go_at_call 14; refine (word_any _ gg _ _ _ _ _ (HC.out.2.1.drew.mod H8.out.mod (show ¬ gg = gf by have := HC.out.2.2.2.2.1; omega)) hus').mono ?_; rintro e w9 ⟨rfl, h9⟩; rw [HOG.out] at h9 ⊢; have H9 := Lib.hid h9; clear h9))
      all_goals
        go_wp2_with fail
        go_meet
        case rel => exact ⟨rfl, rfl, (HC.out.2.2.1.drew.mod H8.out.mod (show ¬ g1 = gf by have := HC.out.2.2.2.2.2.1; omega)).mod H9.out.mod (show ¬ g1 = gg by have := HC.out.2.2.2.2; omega), ⟨_, _, _, H8.out.sc.mod H9.out.mod (show ¬ gf = gg by have := HC.out.2.2.2.2.1; omega), fun h => by rw [h]; rfl⟩, ⟨_, _, _, H9.out.sc⟩, (HC.out.2.2.2.1.drew.trans H8.out.mod (fun i hi h => by have := HC.out.2.2.2.2.2; unfold OneB at h; omega)).trans H9.out.mod (fun i hi h => by have := HC.out.2.2.2.2; unfold OneB at h; omega)⟩
    case rest =>
      obtain ⟨rfl, rfl, HE⟩ := hcut
      clear hcw
      obtain ⟨hc1, ⟨s', l', c', hcf, hpl⟩, ⟨s'', l'', c'', hcg⟩, hmm⟩ := HE.out
      have HP := Lib.hid hpl
      clear hpl HE HC
      by_cases hx : a2 = 0
      · have hO1 := HOX.out.1 hx
        rw [hO1]
        have hxb : (a2 == 0) = true := by simp [hx]
        have HR := Lib.hid hmm
        clear hx hO1 hmm hq
        go_wp2_with fail
        refine (err_any _ _ _ _ _ _ hc1).mono ?_
        rintro e wa ⟨rfl, rfl⟩
        go_wp2_with fail
        refine (err_any _ _ _ _ _ _ hcg).mono ?_
        rintro e wa ⟨rfl, rfl⟩
        go_wp2_with fail
        go_ret
        exact ⟨rfl, HR.out.below (Nat.le_refl _) (by simp [NoB])⟩
      · have hO1 := HOX.out.2 hx
        have hP := HP.out
        rw [hO1] at hcf hP ⊢
        have hlc' := hP rfl
        simp only [Prod.mk.injEq] at hlc'
        obtain ⟨rfl, rfl⟩ := hlc'
        have hxb : (a2 == 0) = false := by simp [hx]
        have HR := Lib.hid hmm
        clear hx hO1 hmm hq hP HP
        go_wp2_with fail
        refine (err_any _ _ _ _ _ _ hc1).mono ?_
        rintro e wa ⟨rfl, rfl⟩
        go_wp2_with fail
        refine (err_any _ _ _ _ _ _ hcf).mono ?_
        rintro e wa ⟨rfl, rfl⟩
        go_wp2_with fail
        refine (place_any _ _ _ _ _ _ hcf).mono ?_
        rintro e wa ⟨rfl, rfl⟩
        go_wp2_with fail
        refine (err_any _ _ _ _ _ _ (hcg.alloc _)).mono ?_
        rintro e wa ⟨rfl, rfl⟩
        go_wp2_with fail
        go_ret
        exact ⟨rfl, (HR.out.alloc _).below (Nat.le_refl _) (by simp [NoB])⟩

set_option maxRecDepth 100000 in
theorem words_all (a0 : Option Addr) (len0 cap0 : Nat) (z0 : List Int) (a1 a2 a3 : Int) (a4 : Option Addr) (len4 cap4 : Nat) (z4 : List Int) (w : World) (w0 : IsRow .u8 w a0 len0 cap0 z0) (w1' : (Lit.int .u8 a1).wf = true) (w2' : (Lit.int .u8 a2).wf = true) (w3' : (Lit.int .u8 a3).wf = true) (w4' : IsRow .u8 w a4 len4 cap4 z4) :
    Calls Try.prog 4 #[.slice a0 len0 cap0, .int .u8 a1, .int .u8 a2, .int .u8 a3, .slice a4 len4 cap4] w fun e w' => e = .returned (.bool true) ∧ Below w.heap.size w w' := by
  by_cases h30 : len0 ≤ 30
  · by_cases h1 : 1 ≤ len0
    · by_cases h10 : len4 ≤ 10
      · exact words_walk a0 len0 cap0 z0 a1 a2 a3 a4 len4 cap4 z4 w w0 w1' w2' w3' w4' h30 h1 h10
      · have hd0 : decide ((30 : Int) < (len0 : Int)) = false := by simp; omega
        have hd1 : ((len0 : Int) == 0) = false := by simp; omega
        have hd2 : decide ((10 : Int) < (len4 : Int)) = true := by simp; omega
        go_enter Try.func4, Try.ntmps4
        go_wp2_with fail
        refine (known_any _).mono ?_
        rintro e w1 ⟨rfl, hM1⟩
        go_wp2_with fail
        go_ret
        exact ⟨rfl, hM1.below (Nat.le_refl _) (by simp [NoB])⟩
    · have hd0 : decide ((30 : Int) < (len0 : Int)) = false := by simp; omega
      have hd1 : ((len0 : Int) == 0) = true := by simp; omega
      go_enter Try.func4, Try.ntmps4
      go_wp2_with fail
      refine (known_any _).mono ?_
      rintro e w1 ⟨rfl, hM1⟩
      go_wp2_with fail
      go_ret
      exact ⟨rfl, hM1.below (Nat.le_refl _) (by simp [NoB])⟩
  · have hd0 : decide ((30 : Int) < (len0 : Int)) = true := by simp; omega
    go_enter Try.func4, Try.ntmps4
    go_wp2_with fail
    refine (known_any _).mono ?_
    rintro e w1 ⟨rfl, hM1⟩
    go_wp2_with fail
    go_ret
    exact ⟨rfl, hM1.below (Nat.le_refl _) (by simp [NoB])⟩
end Go.Proofs.Ytekbiaphnpnpgaa
