/- Merged: TbCu TbOp -/
import Derived.Test.YtppambkffgmkgaaDoorMg31
import Derived.Test.YtppambkffgmkgaaDoorMg18
import Derived.Test.YtppambkffgmkgaaDoorMg19
import Derived.Test.YtppambkffgmkgaaDoorMg13
import Derived.Test.YtppambkffgmkgaaDoorMg09
import Derived.WalkKit
import Derived.Test.YtppambkffgmkgaaDoorMg27
section
/- The walk of TableCuts. -/
namespace Go.Proofs.YtppambkffgmkgaaDoor
open Go.RowKit Go.Maps
set_option linter.unusedVariables false

set_option maxRecDepth 100000 in
set_option maxHeartbeats 4000000 in
theorem tcuts_any (w : World) (k cut : Int) (a1 : Option Addr) (len1 cap1 : Nat) (z1 : List Int) (hk : 0 ≤ k ∧ k ≤ 255) (hcut : 0 ≤ cut ∧ cut ≤ 65535) (hA : IsRow .u8 w a1 len1 cap1 z1) (htab : Lib.TabIs Tryd.prog w "internal/strconv.uint64pow10" .u64 Lib.pow10Tab) :
    Calls Tryd.prog 3 #[.int .u8 k, .slice a1 len1 cap1, .int .u16 cut] w fun e w' => e = .returned (.bool true) ∧ Mod w w' NoB := by
  have hmx := mixed
  have HA := Lib.hid hA
  have HT := Lib.hid htab
  clear hA htab
  go_enter Tryd.func3, Tryd.ntmps3
  go_wp2_with fail
  refine (tknown_any _ HT.out).mono ?_
  rintro e w1 ⟨rfl, hm⟩
  have H1 := Lib.hid hm
  clear hm
  by_cases h45 : len1 ≤ 45
  rotate_left
  · have h45' : (45 : Int) < len1 := by omega
    go_wp2_with fail
    go_ret
    exact ⟨rfl, H1.out⟩
  have h45' : ¬ (45 : Int) < len1 := by omega
  go_wp2_with fail
  refine (hist_any _ k a1 len1 cap1 z1 hk (HA.out.mod H1.out) (by omega)).mono ?_
  rintro r w2 ⟨T, top, a, cap, rfl, hT, htop, hT40, hE, hpl, hcap, hm⟩
  have hnb := vertsOf_bd k.toNat
  obtain ⟨n, hn⟩ : ∃ n, vertsOf k.toNat = n := ⟨_, rfl⟩
  rw [hn] at hT hnb ⊢
  obtain ⟨F, hF⟩ : ∃ F, flag (fun _ => false) T = F := ⟨_, rfl⟩
  have hFT : T.length = F.length := by rw [← hF, flag_len]
  have hevb : ∀ x ∈ F, EvB x := by rw [← hF]; exact flag_evb hT hnb.2
  have hchk : chk n F = (0, 0) := by rw [← hF]; exact chk_flag hT htop hnb.2 (by omega)
  rw [hFT] at hT40 hcap ⊢
  rw [hF] at hE
  have H2 := Lib.hid (H1.out.trans hm (fun _ _ c => c))
  have HE := Lib.hid (And.intro hE hevb)
  have HC := Lib.hid (And.intro hchk hnb)
  clear hm hT htop hF hFT hevb hpl hE hn hnb H1 hchk h45 h45'
  go_upto_region 6 with (fail)
  obtain ⟨Y, hY⟩ : ∃ Y, Y = w2.alloc (.cells #[.int .u64 n, .slice a F.length cap] 28) := ⟨_, rfl⟩
  obtain ⟨g7, hg7⟩ : ∃ g, g = w2.heap.size := ⟨_, rfl⟩
  have HY2 : Hid (HAt w2 Y g7 n a F.length cap F) := by
    show HAt _ _ _ _ _ _ _ _
    rw [hY, hg7]
    exact HAt.start HE.out.1
  rw [← hY, ← hg7]
  clear hY hg7
  have HY1 := Lib.hid (H2.out.trans HY2.out.mod (fun _ _ c => c))
  have c0 := HY2.out.c0
  have c1 := HY2.out.c1
  have HP := tprint_any Y n a cap F (by have := HC.out.2; omega) HY2.out.evs (by omega) HE.out.2 (tab_mod HT.out HY1.out)
  rw [HC.out.1] at HP
  obtain ⟨ol1, ol2, ol3, -, ol5⟩ := ofL_ok (n := n) (F := F) (by rw [HC.out.1]) (by omega) HE.out.2
  have hpr : prT n F = ⟨(tblL n (ofL n F)).toArray⟩ := by unfold prT; rw [HC.out.1]; rfl
  rw [hpr] at HP
  obtain ⟨LX, hLX⟩ : ∃ LX, LX = ofL n F := ⟨_, rfl⟩
  rw [← hLX] at HP ol1 ol2 ol3
  have HOL := Lib.hid (And.intro ol1 (And.intro ol2 ol5))
  obtain ⟨s, hs⟩ : ∃ s : ByteArray, s = ⟨(tblL n LX).toArray⟩ := ⟨_, rfl⟩
  rw [← hs] at HP
  have hsL : L s = tblL n LX := by rw [hs]; simp [L]
  have hs0 : 0 < s.size := by rw [hs]; show 0 < (tblL n LX).toArray.size; simp [tblL]
  have hsz : s.size ≤ 27 + 85 * 40 := by
    rw [hs]
    show (tblL n LX).toArray.size ≤ _
    have := tblL_len (n := n) (X := LX) ⟨by have := HC.out.2; omega, ol5⟩ ol2
    simp only [List.size_toArray]
    omega
  have HPh := Lib.hid HP
  have HSL := Lib.hid hsL
  clear hs hsL hpr HP hLX ol1 ol2 ol3 ol5
  go_wp2_with fail
  refine HPh.out.mono ?_
  rintro e w3 ⟨rfl, hm⟩
  have H3 := Lib.hid (HY1.out.trans hm (fun _ _ c => c))
  clear hm HPh HY1 HY2 c0 c1 H2
  go_upto_region 9 with (fail)
  have hs0' : (0 : Int) < s.size := by omega
  obtain ⟨m, hm⟩ : ∃ m, m = cut.toNat % s.size := ⟨_, rfl⟩
  have hml : m < s.size := by rw [hm]; exact Nat.mod_lt _ hs0
  have hmt : Int.tmod cut s.size = (m : Int) := by
    rw [Int.tmod_eq_emod_of_nonneg hcut.1, hm, Int.natCast_emod, Int.toNat_of_nonneg hcut.1]
  clear hm
  go_upto_region 10 with (fail)
  obtain ⟨x, hx⟩ : ∃ x, x = s.extract 0 m := ⟨_, rfl⟩
  rw [← hx]
  have hxL : L x = (tblL n LX).take m := by rw [hx, ← HSL.out]; simp [L]
  have hxz : x.size ≤ 40000 := by rw [hx, ByteArray.size_extract]; omega
  have HCP := Lib.hid (tcut_plain (n := n) (X := LX) ⟨by have := HC.out.2; omega, HOL.out.2.2⟩ HOL.out.1 HOL.out.2.1 (L x) (by rw [hxL]; exact List.take_prefix _ _))
  obtain ⟨R, hR⟩ : ∃ R, R = parseT (L x) := ⟨_, rfl⟩
  obtain ⟨N, hN⟩ : ∃ N, N = parseTN (L x) := ⟨_, rfl⟩
  have HPa := tparse_any w3 x hxz
  obtain ⟨EE, hEE⟩ : ∃ EE, EE = parseTE (L x) := ⟨_, rfl⟩
  rw [← hR, ← hN, ← hEE] at HPa
  rw [← hR] at HCP
  have HPb := Lib.hid HPa
  clear hR hN hEE HPa hx hxL HSL hmt hml hs0 hs0' hsz HE HC
  go_wp2_with fail
  refine HPb.out.mono ?_
  rintro e w4 ⟨a4, c4, rfl, _, hm4⟩
  have H4 := Lib.hid (H3.out.trans hm4 (fun _ _ c => c))
  clear hm4 HPb H3
  go_upto_region 11 with (fail)
  have HB := Lib.hid (HPl.start (w := w4) (n := N) (v := .slice a4 EE.length c4) (x := R.2.1.1) (y := R.2.1.2))
  obtain ⟨g1, hg1⟩ : ∃ g, g = w4.heap.size := ⟨_, rfl⟩
  obtain ⟨g2, hg2⟩ : ∃ g, g = w4.heap.size + 1 := ⟨_, rfl⟩
  obtain ⟨W5, hW5⟩ : ∃ W, W = ((w4.alloc (.cells #[.int .u64 N, .slice a4 EE.length c4] 28)).alloc (.cells #[.int .i64 R.2.1.1, .int .i64 R.2.1.2] 34)) := ⟨_, rfl⟩
  rw [← hW5, ← hg2, ← hg1] at HB ⊢
  clear hW5 hg2 hg1
  have H5 := Lib.hid (H4.out.trans HB.out.mod (fun _ _ c => c))
  obtain ⟨er, her⟩ : ∃ er, er = R.2.2 := ⟨_, rfl⟩
  rw [← her] at HCP ⊢
  clear her
  go_wp2_with fail
  go_loopw [14, 15, 16] (fun v14 v15 v16 wr => ∃ j : Nat, j ≤ x.size ∧ v14 = .int .i64 (advK 1 1 x j).1 ∧ v15 = .int .i64 (advK 1 1 x j).2 ∧ v16 = .int .i64 j ∧ Hid (HPl w4 wr g1 g2 N (.slice a4 EE.length c4) R.2.1.1 R.2.1.2)) (fun _ _ v16 _ => x.size - (intOf v16).toNat)
  case atStart => exact ⟨0, Nat.zero_le _, rfl, rfl, rfl, HB⟩
  case round =>
    obtain ⟨j, hj, rfl, rfl, rfl, HI⟩ := hrel
    have hadv := advK_bd 1 1 x j hj (by decide)
    by_cases hlt : j < x.size
    · have hji : (j : Int) < x.size := by omega
      have hsucc := advK_succ 1 1 x j hlt
      by_cases h10 : x[j].toNat = 10
      · rw [if_pos h10] at hsucc
        have hsc := Lib.hid hsucc
        clear hsucc
        have h10' : ((x[j].toNat : Nat) : Int) = 10 := by omega
        go_wp2_with fail
        go_roundw
        case rel => exact ⟨j + 1, by omega, by rw [hsc.out], by rw [hsc.out], by go_num, HI⟩
        case measure => simp [intOf]; omega
      · rw [if_neg h10] at hsucc
        have hsc := Lib.hid hsucc
        clear hsucc
        have h10' : ¬ ((x[j].toNat : Nat) : Int) = 10 := by omega
        go_wp2_with fail
        go_roundw
        case rel => exact ⟨j + 1, by omega, by rw [hsc.out], by rw [hsc.out], by go_num, HI⟩
        case measure => simp [intOf]; omega
    · have hje : j = x.size := by omega
      subst hje
      have hend : advK 1 1 x x.size = adv (1, 1) (L x) := by
        unfold advK L
        rw [List.take_of_length_le (by rw [Array.length_toList]; exact Nat.le_refl _)]
      have hcp := HCP.out
      rw [← hend] at hcp
      obtain ⟨la, hla⟩ : ∃ la, la = (advK 1 1 x x.size).1 := ⟨_, rfl⟩
      obtain ⟨ca, hca⟩ : ∃ ca, ca = (advK 1 1 x x.size).2 := ⟨_, rfl⟩
      rw [← hla, ← hca] at hcp hadv ⊢
      have p0 := HI.out.p0
      have p1 := HI.out.p1
      obtain ⟨pl, hpl⟩ : ∃ pl, pl = R.2.1.1 := ⟨_, rfl⟩
      obtain ⟨pc, hpc⟩ : ∃ pc, pc = R.2.1.2 := ⟨_, rfl⟩
      rw [← hpl] at hcp p0
      rw [← hpc] at hcp p1
      have HM := Lib.hid (Mod.trans (show Mod w w4 NoB from H4.out) HI.out.mod (fun _ _ c => c))
      clear hend hla hca hpl hpc HCP HI HB hadv
      by_cases hw : 1 < la ∧ ca = 1
      · have her := hcp.1 hw
        obtain ⟨hw1, hw2⟩ := hw
        subst her
        subst hw2
        clear hcp
        go_wp2_with fail
        go_ret
        exact ⟨rfl, HM.out⟩
      · obtain ⟨her, e1, e2⟩ := hcp.2 hw
        subst her
        subst e1
        clear hcp
        by_cases hw1 : 1 < pl
        · have hw2 : ¬ ca = 1 := fun c => hw ⟨hw1, c⟩
          clear hw
          go_wp2_with fail
          go_ret
          exact ⟨rfl, HM.out⟩
        · clear hw
          go_wp2_with fail
          go_ret
          exact ⟨rfl, HM.out⟩
theorem tcuts_all (a0 : Int) (a1 : Option Addr) (len1 cap1 : Nat) (z1 : List Int) (a2 : Int) (w : World) (w0 : (Lit.int .u8 a0).wf = true) (w1 : IsRow .u8 w a1 len1 cap1 z1) (w2 : (Lit.int .u16 a2).wf = true) (htab : Lib.TabIs Tryd.prog w "internal/strconv.uint64pow10" .u64 Lib.pow10Tab) :
    Calls Tryd.prog 3 #[.int .u8 a0, .slice a1 len1 cap1, .int .u16 a2] w fun e w' => e = .returned (.bool true) ∧ Below w.heap.size w w' :=
  (tcuts_any w a0 a2 a1 len1 cap1 z1 (bounds_u8 w0) (bounds_u16 w2) w1 htab).mono fun e w' h => ⟨h.1, h.2.below (Nat.le_refl _) (fun k hk => hk.elim)⟩
end Go.Proofs.YtppambkffgmkgaaDoor
end

section
/- The walk of TableOpen. -/
namespace Go.Proofs.YtppambkffgmkgaaDoor
open Go.RowKit Go.Maps
set_option linter.unusedVariables false

def opS (a c : Nat) (tb : ByteArray) : ByteArray := ⟨#[116, 97, 98, 108, 101, 32, 53, 10, 49, 32, 51, 32]⟩ ++ dec a ++ ⟨#[32]⟩ ++ tb ++ ⟨#[10, 49, 32, 51, 32]⟩ ++ dec c ++ ⟨#[32, 45, 10]⟩
theorem opS_L (a c : Nat) (b : Int) : L (opS a c (toB b)) = tblL 5 [⟨⟨1, 3⟩, (a : Int), b⟩, ⟨⟨1, 3⟩, (c : Int), -1⟩] := by
  unfold opS
  simp only [app_L, dec_L, toB_L]
  have d5 : decL (5 : Int).toNat = [53] := by decide +kernel
  have d1 : decL (1 : Int).toNat = [49] := by decide +kernel
  have d3 : decL (3 : Int).toNat = [51] := by decide +kernel
  unfold tblL
  rw [d5]
  simp only [List.flatMap_cons, List.flatMap_nil, rowT, d1, d3, Int.toNat_natCast]
  have t1 : toL (-1) = [45] := rfl
  rw [t1]
  simp [L]
theorem dec_sz' {n : Nat} (h : n < 18446744073709551616) : (dec n).size ≤ 20 := by rw [dec_size]; exact decL_len20 _ h
theorem opAdds {P : Program} (da tb dc : ByteArray) (za : da.size ≤ 20) (zb : tb.size ≤ 20) (zc : dc.size ≤ 20) :
    ∃ y1 y2 y3 y4 y5 y6 : ByteArray, (∀ W : World, (Op.stringOp .add ⟨#[116, 97, 98, 108, 101, 32, 53, 10, 49, 32, 51, 32]⟩ da).run P W = .ok (.string y1) W) ∧
    (∀ W : World, (Op.stringOp .add y1 ⟨#[32]⟩).run P W = .ok (.string y2) W) ∧ (∀ W : World, (Op.stringOp .add y2 tb).run P W = .ok (.string y3) W) ∧
    (∀ W : World, (Op.stringOp .add y3 ⟨#[10, 49, 32, 51, 32]⟩).run P W = .ok (.string y4) W) ∧ (∀ W : World, (Op.stringOp .add y4 dc).run P W = .ok (.string y5) W) ∧
    (∀ W : World, (Op.stringOp .add y5 ⟨#[32, 45, 10]⟩).run P W = .ok (.string y6) W) ∧ y6 = ⟨#[116, 97, 98, 108, 101, 32, 53, 10, 49, 32, 51, 32]⟩ ++ da ++ ⟨#[32]⟩ ++ tb ++ ⟨#[10, 49, 32, 51, 32]⟩ ++ dc ++ ⟨#[32, 45, 10]⟩ ∧ y6.size ≤ 100 := by
  have s1 : (⟨#[116, 97, 98, 108, 101, 32, 53, 10, 49, 32, 51, 32]⟩ : ByteArray).size = 12 := rfl
  have s2 : (⟨#[32]⟩ : ByteArray).size = 1 := rfl
  have s3 : (⟨#[10, 49, 32, 51, 32]⟩ : ByteArray).size = 5 := rfl
  have s4 : (⟨#[32, 45, 10]⟩ : ByteArray).size = 3 := rfl
  refine ⟨_, _, _, _, _, _, sadd _ _ ?_, sadd _ _ ?_, sadd _ _ ?_, sadd _ _ ?_, sadd _ _ ?_, sadd _ _ ?_, rfl, ?_⟩
  all_goals first | omega | (simp only [ByteArray.size_append]; omega)
/-- The three events. -/
theorem op_events {a b c : Int} (h0 : 0 ≤ a) (h1 : a < b) (h2 : b < c) (hp : parseT (tblL 5 [⟨⟨1, 3⟩, a, b⟩, ⟨⟨1, 3⟩, c, -1⟩]) = ([⟨⟨1, 3⟩, a, b⟩, ⟨⟨1, 3⟩, c, -1⟩], (0, 0), 0)) :
    parseTE (tblL 5 [⟨⟨1, 3⟩, a, b⟩, ⟨⟨1, 3⟩, c, -1⟩]) = [⟨a, ⟨1, 3⟩, true⟩, ⟨b, ⟨1, 3⟩, false⟩, ⟨c, ⟨1, 3⟩, true⟩] := by
  obtain ⟨_, hall, _, _, _, _⟩ := parseT_inv (l := tblL 5 [⟨⟨1, 3⟩, a, b⟩, ⟨⟨1, 3⟩, c, -1⟩]) (by rw [hp])
  unfold parseTE
  rw [hp] at hall ⊢
  rw [if_pos rfl]
  have he : evs [(⟨⟨1, 3⟩, a, b⟩ : Lf), ⟨⟨1, 3⟩, c, -1⟩] = [⟨a, ⟨1, 3⟩, true⟩, ⟨b, ⟨1, 3⟩, false⟩, ⟨c, ⟨1, 3⟩, true⟩] := by
    have hb : 0 ≤ b := by omega
    simp [evs, evsOf, hb]
  refine (sort_evs hall ?_ (by rw [he])).symm
  refine List.pairwise_cons.2 ⟨fun y hy => ?_, List.pairwise_cons.2 ⟨fun y hy => ?_, List.pairwise_singleton _ _⟩⟩
  · simp at hy
    rcases hy with rfl | rfl
    · exact Or.inl h1
    · exact Or.inl (by show a < c; omega)
  · simp at hy
    subst hy
    exact Or.inl h2

set_option maxRecDepth 100000 in
set_option maxHeartbeats 8000000 in
theorem topen_any (a b c : Nat) (op : Bool) (w : World) (ha : a ≤ 255) (hb : b ≤ 255) (hc : c ≤ 255) (htab : Lib.TabIs Tryd.prog w "internal/strconv.uint64pow10" .u64 Lib.pow10Tab) :
    Calls Tryd.prog 4 #[.int .u8 (a : Int), .int .u8 (b : Int), .int .u8 (c : Int), .bool op] w fun e w' => e = .returned (.bool true) ∧ Mod w w' NoB := by
  have hmx := mixed
  obtain ⟨bv, hbv⟩ : ∃ bv : Int, bv = if op = true then -1 else (b : Int) := ⟨_, rfl⟩
  obtain ⟨tb, htb⟩ : ∃ tb, tb = toB bv := ⟨_, rfl⟩
  have hop := topen_plain (a : Int) (c : Int) bv (by omega) (by cases op <;> simp at hbv <;> omega) (by omega)
  have hLs := opS_L a c bv
  rw [← htb] at hLs
  unfold opS at hLs
  have za := dec_sz' (n := a) (by omega)
  have zc := dec_sz' (n := c) (by omega)
  have zb := dec_sz' (n := b) (by omega)
  have ztb : tb.size ≤ 20 := by
    cases op with
    | true => simp at hbv; subst hbv; rw [htb]; decide
    | false =>
      simp at hbv
      rw [htb, hbv]
      unfold toB
      rw [if_pos (by omega), Int.toNat_natCast]
      exact zb
  obtain ⟨y1, y2, y3, y4, y5, y6, e1, e2, e3, e4, e5, e6, hy6, hz6⟩ := opAdds (P := Tryd.prog) (dec a) tb (dec c) za ztb zc
  rw [← hy6] at hLs
  rw [← hLs] at hop
  have HE := Lib.hid (fun (h1 : (a : Int) < bv) (h2 : bv < (c : Int)) (hp : parseT (L y6) = ([⟨⟨1, 3⟩, (a : Int), bv⟩, ⟨⟨1, 3⟩, (c : Int), -1⟩], (0, 0), 0)) => (by
    rw [hLs] at hp ⊢
    exact op_events (by omega) h1 h2 hp : parseTE (L y6) = [⟨(a : Int), ⟨1, 3⟩, true⟩, ⟨bv, ⟨1, 3⟩, false⟩, ⟨(c : Int), ⟨1, 3⟩, true⟩]))
  have HOP := Lib.hid hop
  have HDc : Hid (∀ (n : Nat) (z : World), n < 300 → Calls Tryd.prog 9 #[.int .u64 (n : Int)] z fun e w' => e = .returned (.string (dec n)) ∧ Mod z w' NoB) := fun n z h => decimal_mod n z (by omega)
  clear hop hLs hy6 za zc zb ztb
  go_enter Tryd.func4, Tryd.ntmps4
  go_wp2_with fail
  refine (tknown_any _ htab).mono ?_
  rintro e w1 ⟨rfl, hm⟩
  have HM1 := Lib.hid hm
  clear hm htab
  cases op with
  | true =>
    have htb2 : tb = ⟨#[45]⟩ := by simp at hbv; rw [htb, hbv]; rfl
    have hbv2 : bv = -1 := by simpa using hbv
    subst hbv2
    rw [htb2] at e3
    clear htb htb2 hbv
    go_wp2_with fail
    refine (HDc.out a _ (by omega)).mono ?_
    rintro e w2 ⟨rfl, hm⟩
    have HM2 := Lib.hid (HM1.out.trans hm (fun _ _ c => c))
    clear hm
    go_wp2_with fail
    refine (HDc.out c _ (by omega)).mono ?_
    rintro e w3 ⟨rfl, hm⟩
    have HM3 := Lib.hid (HM2.out.trans hm (fun _ _ c => c))
    have HP := tparse_any w3 y6 (by omega)
    have h23 : parseT (L y6) = ([], (3, 1), 23) := by rw [HOP.out, if_neg (by omega), if_pos (Or.inl (by omega))]
    obtain ⟨N, hN⟩ : ∃ N, N = parseTN (L y6) := ⟨_, rfl⟩
    obtain ⟨E, hE⟩ : ∃ E, E = parseTE (L y6) := ⟨_, rfl⟩
    rw [h23, ← hN, ← hE] at HP
    have HPh := Lib.hid HP
    clear hm HP h23 hN hE HE HOP hz6
    go_wp2_with fail
    refine HPh.out.mono ?_
    rintro e w4 ⟨a4, c4, rfl, -, hm⟩
    have HM4 := Lib.hid (HM3.out.trans hm (fun _ _ c => c))
    clear hm
    go_upto_region 8 with (fail)
    have HB := Lib.hid (HPl.start (w := w4) (n := N) (v := .slice a4 E.length c4) (x := 3) (y := 1))
    obtain ⟨g1, hg1⟩ : ∃ g, g = w4.heap.size := ⟨_, rfl⟩
    obtain ⟨g2, hg2⟩ : ∃ g, g = w4.heap.size + 1 := ⟨_, rfl⟩
    obtain ⟨W5, hW5⟩ : ∃ W, W = ((w4.alloc (.cells #[.int .u64 N, .slice a4 E.length c4] 28)).alloc (.cells #[.int .i64 3, .int .i64 1] 34)) := ⟨_, rfl⟩
    rw [← hW5, ← hg2, ← hg1] at HB ⊢
    clear hW5 hg1 hg2
    have HM5 := Lib.hid (HM4.out.trans HB.out.mod (fun _ _ c => c))
    have p0 := HB.out.p0
    have p1 := HB.out.p1
    go_wp2_with fail
    go_ret
    exact ⟨rfl, HM5.out⟩
  | false =>
    have hbv2 : bv = (b : Int) := by simpa using hbv
    subst hbv2
    have htb2 : tb = dec b := by rw [htb]; unfold toB; rw [if_pos (by omega), Int.toNat_natCast]
    rw [htb2] at e3
    clear htb htb2 hbv
    go_wp2_with fail
    refine (HDc.out b _ (by omega)).mono ?_
    rintro e wb ⟨rfl, hm⟩
    have HMb := Lib.hid (HM1.out.trans hm (fun _ _ c => c))
    clear hm
    go_wp2_with fail
    refine (HDc.out a _ (by omega)).mono ?_
    rintro e w2 ⟨rfl, hm⟩
    have HM2 := Lib.hid (HMb.out.trans hm (fun _ _ c => c))
    clear hm
    go_wp2_with fail
    refine (HDc.out c _ (by omega)).mono ?_
    rintro e w3 ⟨rfl, hm⟩
    have HM3 := Lib.hid (HM2.out.trans hm (fun _ _ c => c))
    have HP := tparse_any w3 y6 (by omega)
    obtain ⟨N, hN⟩ : ∃ N, N = parseTN (L y6) := ⟨_, rfl⟩
    rw [← hN] at HP
    clear hN hm
    by_cases h1 : b ≤ a
    · have hd1 : decide (b ≤ a) = true := decide_eq_true (by omega)
      have h23 : parseT (L y6) = ([], (2, 1), 23) := by rw [HOP.out, if_pos ⟨by omega, by omega⟩]
      obtain ⟨E, hE⟩ : ∃ E, E = parseTE (L y6) := ⟨_, rfl⟩
      rw [h23, ← hE] at HP
      have HPh := Lib.hid HP
      clear HP h23 hE HE HOP hz6 h1
      go_wp2_with fail
      refine HPh.out.mono ?_
      rintro e w4 ⟨a4, c4, rfl, -, hm⟩
      have HM4 := Lib.hid (HM3.out.trans hm (fun _ _ c => c))
      clear hm
      go_upto_region 8 with (fail)
      have HB := Lib.hid (HPl.start (w := w4) (n := N) (v := .slice a4 E.length c4) (x := 2) (y := 1))
      obtain ⟨g1, hg1⟩ : ∃ g, g = w4.heap.size := ⟨_, rfl⟩
      obtain ⟨g2, hg2⟩ : ∃ g, g = w4.heap.size + 1 := ⟨_, rfl⟩
      obtain ⟨W5, hW5⟩ : ∃ W, W = ((w4.alloc (.cells #[.int .u64 N, .slice a4 E.length c4] 28)).alloc (.cells #[.int .i64 2, .int .i64 1] 34)) := ⟨_, rfl⟩
      rw [← hW5, ← hg2, ← hg1] at HB ⊢
      clear hW5 hg1 hg2
      have HM5 := Lib.hid (HM4.out.trans HB.out.mod (fun _ _ c => c))
      have p0 := HB.out.p0
      have p1 := HB.out.p1
      go_wp2_with fail
      go_ret
      exact ⟨rfl, HM5.out⟩
    · have hd1 : decide (b ≤ a) = false := decide_eq_false (by omega)
      by_cases h2 : c ≤ b
      · have hd2 : decide (c ≤ b) = true := decide_eq_true (by omega)
        have h23 : parseT (L y6) = ([], (3, 1), 23) := by rw [HOP.out, if_neg (by omega), if_pos (Or.inr (by omega))]
        obtain ⟨E, hE⟩ : ∃ E, E = parseTE (L y6) := ⟨_, rfl⟩
        rw [h23, ← hE] at HP
        have HPh := Lib.hid HP
        clear HP h23 hE HE HOP hz6 h1 h2
        go_wp2_with fail
        refine HPh.out.mono ?_
        rintro e w4 ⟨a4, c4, rfl, -, hm⟩
        have HM4 := Lib.hid (HM3.out.trans hm (fun _ _ c => c))
        clear hm
        go_upto_region 8 with (fail)
        have HB := Lib.hid (HPl.start (w := w4) (n := N) (v := .slice a4 E.length c4) (x := 3) (y := 1))
        obtain ⟨g1, hg1⟩ : ∃ g, g = w4.heap.size := ⟨_, rfl⟩
        obtain ⟨g2, hg2⟩ : ∃ g, g = w4.heap.size + 1 := ⟨_, rfl⟩
        obtain ⟨W5, hW5⟩ : ∃ W, W = ((w4.alloc (.cells #[.int .u64 N, .slice a4 E.length c4] 28)).alloc (.cells #[.int .i64 3, .int .i64 1] 34)) := ⟨_, rfl⟩
        rw [← hW5, ← hg2, ← hg1] at HB ⊢
        clear hW5 hg1 hg2
        have HM5 := Lib.hid (HM4.out.trans HB.out.mod (fun _ _ c => c))
        have p0 := HB.out.p0
        have p1 := HB.out.p1
        go_wp2_with fail
        go_ret
        exact ⟨rfl, HM5.out⟩
      · have hd2 : decide (c ≤ b) = false := decide_eq_false (by omega)
        have hok : parseT (L y6) = ([⟨⟨1, 3⟩, (a : Int), (b : Int)⟩, ⟨⟨1, 3⟩, (c : Int), -1⟩], (0, 0), 0) := by rw [HOP.out, if_neg (by omega), if_neg (by omega)]
        have hev := HE.out (by omega) (by omega) hok
        rw [hok, hev] at HP
        have HPh := Lib.hid HP
        clear HP hok hev HE HOP hz6 h1 h2
        go_wp2_with fail
        refine HPh.out.mono ?_
        rintro e w4 ⟨a4, c4, rfl, hE4, hm⟩
        have HM4 := Lib.hid (HM3.out.trans hm (fun _ _ c => c))
        obtain ⟨b5, o5, rfl, hb5, hE6⟩ : ∃ b' off, a4 = some ⟨b', off, none⟩ ∧ b' < w4.heap.size ∧ ∀ (i : Nat) (x : Ev), [(⟨(a : Int), ⟨1, 3⟩, true⟩ : Ev), ⟨(b : Int), ⟨1, 3⟩, false⟩, ⟨(c : Int), ⟨1, 3⟩, true⟩][i]? = some x → EvAt w4 b' (off + i * 4) x := by
          rcases hE4 with h0 | h0
          · cases h0
          · exact h0
        have HX := Lib.hid (hE6 1 _ rfl)
        clear hm hE4 hE6 hb5
        go_upto_region 8 with (fail)
        have HB := Lib.hid (HPl.start (w := w4) (n := N) (v := .slice (some ⟨b5, o5, none⟩) 3 c4) (x := 0) (y := 0))
        obtain ⟨g1, hg1⟩ : ∃ g, g = w4.heap.size := ⟨_, rfl⟩
        obtain ⟨g2, hg2⟩ : ∃ g, g = w4.heap.size + 1 := ⟨_, rfl⟩
        obtain ⟨W5, hW5⟩ : ∃ W, W = ((w4.alloc (.cells #[.int .u64 N, .slice (some ⟨b5, o5, none⟩) 3 c4] 28)).alloc (.cells #[.int .i64 0, .int .i64 0] 34)) := ⟨_, rfl⟩
        have HX5 := Lib.hid (HX.out.mod HB.out.mod)
        rw [← hW5] at HX5
        rw [← hW5, ← hg2, ← hg1] at HB ⊢
        clear hW5 hg1 hg2
        have HM5 := Lib.hid (HM4.out.trans HB.out.mod (fun _ _ c => c))
        have h1' := HB.out.h1
        obtain ⟨k0, k1, k2, k3⟩ := HX5.out
        have k0 : W5.cell? ⟨b5, o5 + 4, none⟩ = some (.int .i64 (b : Int)) := by simpa using k0
        have k2 : W5.cell? ⟨b5, o5 + 4 + 3, none⟩ = some (.bool false) := by simpa using k3
        clear k1 k3
        go_wp2_with fail
        go_ret
        exact ⟨rfl, HM5.out⟩
theorem topen_all (a0 a1 a2 : Int) (a3 : Bool) (w : World) (w0 : (Lit.int .u8 a0).wf = true) (w1 : (Lit.int .u8 a1).wf = true) (w2 : (Lit.int .u8 a2).wf = true) (htab : Lib.TabIs Tryd.prog w "internal/strconv.uint64pow10" .u64 Lib.pow10Tab) :
    Calls Tryd.prog 4 #[.int .u8 a0, .int .u8 a1, .int .u8 a2, .bool a3] w fun e w' => e = .returned (.bool true) ∧ Below w.heap.size w w' := by
  have b0 := bounds_u8 w0
  have b1 := bounds_u8 w1
  have b2 := bounds_u8 w2
  obtain ⟨x, rfl⟩ : ∃ n : Nat, a0 = n := ⟨a0.toNat, by omega⟩
  obtain ⟨y, rfl⟩ : ∃ n : Nat, a1 = n := ⟨a1.toNat, by omega⟩
  obtain ⟨z, rfl⟩ : ∃ n : Nat, a2 = n := ⟨a2.toNat, by omega⟩
  exact (topen_any x y z a3 w (by omega) (by omega) (by omega) htab).mono fun e w' h => ⟨h.1, h.2.below (Nat.le_refl _) (fun k hk => hk.elim)⟩
end Go.Proofs.YtppambkffgmkgaaDoor
end
