/- The law TreapPlays: the walk. -/
import Derived.Test.YtlmbkmjjiebpbaaTrRd
import Derived.Test.YtlmbkmjjiebpbaaTActs
import Derived.Deep.RegionHeld3
import Derived.Deep.DeepCutAuto
import Derived.Deep.CutBlock
namespace Go.Proofs.Ytlmbkmjjiebpbaa
open Go.RowKit
set_option linter.unusedVariables false

theorem Bth.mod {w0 w : World} {g h n k : Nat} {L : List (List Nat)} (b : Bth w0 w g h n L k) : Mod w0 w NoB := b.duo.mod
theorem Bth.quiet {w0 w w' : World} {g h n k : Nat} {L : List (List Nat)} (b : Bth w0 w g h n L k) (hm : Mod w w' NoB) : Bth w0 w' g h n L k := ⟨b.duo.quiet (ArT.framed _ _ _) (RA.framed _ _ _) hm, b.nb, b.lb⟩

/-- The reference's arena, new. -/
theorem bth_start {w0 w : World} {g : Nat} (hD : Duo w0 w (ArT g 0 []) Nil) : Bth w0 (w.alloc (.cells #[.int .i64 0, .slice none 0 0] 30)) g w.heap.size 0 [] 0 := by
  refine ⟨hD.beside (ArT.framed _ _ _) (T := OneB w.heap.size) ((Mod.refl _ _).alloc _) ⟨.slice none 0 0, [], World.cell?_alloc_at _ _ _ _ rfl, World.cell?_alloc_at _ _ _ _ rfl, by simp, by simp, World.ownsRow_nil _ _ _ _, rfl, fun i l h => by simp at h, rfl, by simp [Value.ownBlock], by omega, by simp, by simp⟩ (fun k hk => by unfold OneB at hk; subst hk; simp), by omega, by simp⟩

theorem keepc {w w' : World} {p : Addr} {v : Value} (c : w.cell? p = some v) (m : Mod w w' NoB) : w'.cell? p = some v := (m.cell (World.block_lt_of_cell? _ _ c) (by simp [NoB])).trans c

section
variable {w0 w : World} {g h n k : Nat} {L : List (List Nat)}
theorem b_index (b : Bth w0 w g h n L k) {x m : Int} (hj : idx L x = m) :
    Calls Try.prog 17 #[.pointer (some ⟨g, 0, none⟩), .int .i64 x] w fun e w' => e = .returned (.int .i64 m) ∧ Bth w0 w' g h n L k ∧ Mod w w' NoB := by
  subst hj
  refine (d_index b.duo x).mono ?_
  rintro e w' ⟨rfl, j, rfl⟩
  exact ⟨rfl, b.quiet ((Mod.refl _ _).drewN j), (Mod.refl _ _).drewN j⟩
theorem b_list (b : Bth w0 w g h n L k) {x : Int} {l : List Nat} (hl : lst L x = l) :
    Calls Try.prog 22 #[.pointer (some ⟨g, 0, none⟩), .int .i64 x] w fun e w' => ∃ v, e = .returned v ∧ Bth w0 w' g h n L k ∧ (∃ U, Rd w' U v l) ∧ Mod w w' NoB := by
  refine (j_list b.duo (RA.framed _ _ _) hl).mono ?_
  rintro e w' ⟨v, rfl, hd, hr, hm⟩
  exact ⟨v, rfl, ⟨hd, b.nb, b.lb⟩, ⟨_, hr⟩, hm⟩
theorem b_ints (b : Bth w0 w g h n L k) {v u : Value} {l : List Nat} (hv : ∃ U, Rd w U v l) (hu : ∃ U, Rd w U u l) :
    Calls Try.prog 21 #[v, u] w fun e w' => e = .returned (.bool true) ∧ Bth w0 w' g h n L k ∧ Mod w w' NoB := by
  obtain ⟨U, hv⟩ := hv
  obtain ⟨V, hu⟩ := hu
  refine (ints_eq w U V v u l hv hu).mono ?_
  rintro e w' ⟨rfl, j, rfl⟩
  exact ⟨rfl, b.quiet ((Mod.refl _ _).drewN j), (Mod.refl _ _).drewN j⟩
theorem b_ncell (b : Bth w0 w g h n L k) : w.cell? ⟨h, 0, none⟩ = some (.int .i64 n) ∧ h < w.heap.size := by
  obtain ⟨T, hT⟩ := b.duo.swap.left
  obtain ⟨a, cap, us, o⟩ := hT.open
  exact ⟨o.c0, o.hl⟩
end

set_option maxHeartbeats 40000000 in
set_option maxRecDepth 100000 in
theorem plays_walk (a0 : Int) (a1 : Option Addr) (len1 cap1 : Nat) (w : World) (w1 : IsActs w a1 len1) (h80 : len1 ≤ 80) :
    Calls Try.prog 3 #[.int .u64 a0, .slice a1 len1 cap1] w fun e w' => e = .returned (.bool true) ∧ Below w.heap.size w w' := by
  have hd0 : decide ((80 : Int) < (len1 : Int)) = false := by simp; omega
  have HA := Lib.hid w1
  clear w1
  go_enter Try.func3, Try.ntmps3
  go_wp2_with fail
  refine (known_any _).mono ?_
  rintro e w1 ⟨rfl, hM1⟩
  have HM1 := Lib.hid hM1
  clear hM1
  go_wp2_with fail
  refine (d_new w _ HM1.out _).mono ?_
  rintro e w2 ⟨g, rfl, h1, -, -⟩
  have HB := Lib.hid (bth_start h1)
  clear h1 HM1
  obtain ⟨h, hh⟩ : ∃ h, h = w2.heap.size := ⟨_, rfl⟩
  obtain ⟨W, hW⟩ : ∃ W, W = w2.alloc (.cells #[.int .i64 0, .slice none 0 0] 30) := ⟨_, rfl⟩
  rw [← hh, ← hW] at HB
  go_wp2_with fail
  rw [← hW, ← hh]
  clear hW hh
  go_loopw [7] (fun i wr => ∃ (k n : Nat) (L : List (List Nat)), k ≤ len1 ∧ i = .int .i64 k ∧ Hid (Bth w wr g h n L k)) (fun i _ => len1 - (intOf i).toNat)
  case atStart => exact ⟨0, 0, [], Nat.zero_le _, rfl, HB.out⟩
  case round =>
    clear HB
    obtain ⟨k, n, L, hk, rfl, HR⟩ := hrel
    by_cases hlt : k < len1
    · obtain ⟨b, off, rfl, hbw, u, x, y, r, hact⟩ := HA.out.at hlt
      obtain ⟨⟨c0, c1, c2, c3⟩, wu, wx, wy, wr'⟩ := hact.mod hbw HR.out.mod
      obtain ⟨hu0, hu1⟩ := bounds_u8 wu
      obtain ⟨hx0, hx1⟩ := bounds_u8 wx
      obtain ⟨hy0, hy1⟩ := bounds_u8 wy
      have HACT := Lib.hid hact
      clear hact wu wx wy wr'
      go_upto_region 9 with (fail)
      go_cut [8, 9] (fun v1 v2 wc => v1 = .int .i64 (x % 20) ∧ v2 = .int .i64 (y % 20) ∧ ∃ n, wc = wr.drewN n)
      case first =>
        go_wp2_with fail
        go_quiet (fail)
        go_wp2_with fail
        go_meet
        case rel => exact ⟨rfl, rfl, _, rfl⟩
      case rest =>
        obtain ⟨rfl, rfl, j, rfl⟩ := hcut
        obtain ⟨p, hp⟩ : ∃ p, p = x % 20 := ⟨_, rfl⟩
        obtain ⟨q, hq⟩ : ∃ q, q = y % 20 := ⟨_, rfl⟩
        rw [← hp, ← hq]
        clear hp hq hy0 hy1 c2
        go_upto_if 45 with (fail)
        go_cut [8] (fun v wc => ∃ p' : Int, v = .int .i64 p' ∧ wc = wr.drewN j)
        case first =>
          by_cases hx250 : 250 < x
          · go_wp2_with fail
            go_meet
            case rel => exact ⟨_, rfl, rfl⟩
          · go_wp2_with fail
            go_meet
            case rel => exact ⟨_, rfl, rfl⟩
        case rest =>
        obtain ⟨p', rfl, rfl⟩ := hcut
        clear hx0 hx1 c1
        have HD := Lib.hid (HR.out.duo.drewN (RA.framed _ _ _) j)
        have hnk := HR.out.nb
        have hLk := HR.out.lb
        obtain ⟨bj, hbj⟩ : ∃ bj, (jn L p' q).1 = bj := ⟨_, rfl⟩
        obtain ⟨Lj, hLj⟩ : ∃ Lj, (jn L p' q).2 = Lj := ⟨_, rfl⟩
        obtain ⟨bc, hbc⟩ : ∃ bc, (ct L p').1 = bc := ⟨_, rfl⟩
        obtain ⟨Lc, hLc⟩ : ∃ Lc, (ct L p').2 = Lc := ⟨_, rfl⟩
        have HJ := Lib.hid (And.intro (show jn L p' q = (bj, Lj) by rw [← hbj, ← hLj]) (And.intro (show ct L p' = (bc, Lc) by rw [← hbc, ← hLc]) (And.intro (show Lj.length ≤ k + 1 by rw [← hLj]; have := jn_len L p' q; omega) (show Lc.length ≤ k + 1 by rw [← hLc]; have := ct_len L p'; omega))))
        have HS : Hid (∀ i k, i ≠ k → (L.getD i []).length + (L.getD k []).length ≤ 1048576) := fun i k hik => (HR.out.duo.left.choose_spec : Ar _ _ _ _ _).sum_le hik
        have H0 : Hid (Bth w (wr.drewN j) g h n L (k + 1)) := ⟨HD.out, by omega, by omega⟩
        have hbb : (bj != bj) = false := by simp
        have hbb2 : (bc != bc) = false := by simp
        have hnn : ((n : Int) != (n : Int)) = false := by simp
        clear hbj hLj hbc hLc
        go_upto_block 2 with (fail)
        go_cut [8, 56] (fun v v2 wc => v = .int .i64 p' ∧ ∃ (n' : Nat) (L' : List (List Nat)), Hid (Bth w wc g h n' L' (k + 1)))
        case first =>
          have hu8 : u % 8 = 0 ∨ u % 8 = 1 ∨ u % 8 = 2 ∨ u % 8 = 3 ∨ u % 8 = 4 ∨ u % 8 = 5 ∨ u % 8 = 6 ∨ u % 8 = 7 := by omega
          clear c0 c3 HA
          rcases hu8 with h8 | h8 | h8 | h8 | h8 | h8 | h8 | h8 <;> rw [h8] <;> clear h8
          · as_aux_lemma =>
                go_wp2_with fail
                refine (d_node HD.out (RA.framed _ _ _) (by omega)).mono ?_
                rintro e w4 ⟨rfl, h4⟩
                have H4 := Lib.hid h4
                clear h4
                go_wp2_with fail
                refine (r_node H4.out (by omega) (by omega)).mono ?_
                rintro e w5 ⟨rfl, h5⟩
                have H5 : Hid (Bth w w5 g h (n + 1) (L ++ [[n]]) (k + 1)) := ⟨h5, by omega, by simp; omega⟩
                clear h5 H4
                go_wp2_with fail
                go_meet
                case rel => exact ⟨rfl, _, _, H5⟩
          · as_aux_lemma =>
                go_wp2_with fail
                refine (d_node HD.out (RA.framed _ _ _) (by omega)).mono ?_
                rintro e w4 ⟨rfl, h4⟩
                have H4 := Lib.hid h4
                clear h4
                go_wp2_with fail
                refine (r_node H4.out (by omega) (by omega)).mono ?_
                rintro e w5 ⟨rfl, h5⟩
                have H5 : Hid (Bth w w5 g h (n + 1) (L ++ [[n]]) (k + 1)) := ⟨h5, by omega, by simp; omega⟩
                clear h5 H4
                go_wp2_with fail
                go_meet
                case rel => exact ⟨rfl, _, _, H5⟩
          · as_aux_lemma =>
                go_wp2_with fail
                refine (j_join HD.out (RA.framed _ _ _) HJ.out.1).mono ?_
                rintro e w4 ⟨rfl, h4⟩
                have H4 := Lib.hid h4
                clear h4
                go_wp2_with fail
                refine (r_join H4.out (by omega) _ _ HS.out HJ.out.1).mono ?_
                rintro e w5 ⟨rfl, h5⟩
                have H5 : Hid (Bth w w5 g h n Lj (k + 1)) := ⟨h5, by omega, HJ.out.2.2.1⟩
                clear h5 H4
                go_wp2_with fail
                go_meet
                case rel => exact ⟨rfl, _, _, H5⟩
          · as_aux_lemma =>
                go_wp2_with fail
                refine (j_join HD.out (RA.framed _ _ _) HJ.out.1).mono ?_
                rintro e w4 ⟨rfl, h4⟩
                have H4 := Lib.hid h4
                clear h4
                go_wp2_with fail
                refine (r_join H4.out (by omega) _ _ HS.out HJ.out.1).mono ?_
                rintro e w5 ⟨rfl, h5⟩
                have H5 : Hid (Bth w w5 g h n Lj (k + 1)) := ⟨h5, by omega, HJ.out.2.2.1⟩
                clear h5 H4
                go_wp2_with fail
                go_meet
                case rel => exact ⟨rfl, _, _, H5⟩
          · as_aux_lemma =>
                go_wp2_with fail
                refine (j_join HD.out (RA.framed _ _ _) HJ.out.1).mono ?_
                rintro e w4 ⟨rfl, h4⟩
                have H4 := Lib.hid h4
                clear h4
                go_wp2_with fail
                refine (r_join H4.out (by omega) _ _ HS.out HJ.out.1).mono ?_
                rintro e w5 ⟨rfl, h5⟩
                have H5 : Hid (Bth w w5 g h n Lj (k + 1)) := ⟨h5, by omega, HJ.out.2.2.1⟩
                clear h5 H4
                go_wp2_with fail
                go_meet
                case rel => exact ⟨rfl, _, _, H5⟩
          · as_aux_lemma =>
                go_wp2_with fail
                refine (j_cut HD.out (RA.framed _ _ _) HJ.out.2.1).mono ?_
                rintro e w4 ⟨rfl, h4⟩
                have H4 := Lib.hid h4
                clear h4
                go_wp2_with fail
                refine (r_cut H4.out (by omega) _ HJ.out.2.1).mono ?_
                rintro e w5 ⟨rfl, h5⟩
                have H5 : Hid (Bth w w5 g h n Lc (k + 1)) := ⟨h5, by omega, HJ.out.2.2.2⟩
                clear h5 H4
                go_wp2_with fail
                go_meet
                case rel => exact ⟨rfl, _, _, H5⟩
          · as_aux_lemma =>
                go_wp2_with fail
                refine (j_cut HD.out (RA.framed _ _ _) HJ.out.2.1).mono ?_
                rintro e w4 ⟨rfl, h4⟩
                have H4 := Lib.hid h4
                clear h4
                go_wp2_with fail
                refine (r_cut H4.out (by omega) _ HJ.out.2.1).mono ?_
                rintro e w5 ⟨rfl, h5⟩
                have H5 : Hid (Bth w w5 g h n Lc (k + 1)) := ⟨h5, by omega, HJ.out.2.2.2⟩
                clear h5 H4
                go_wp2_with fail
                go_meet
                case rel => exact ⟨rfl, _, _, H5⟩
          · as_aux_lemma =>
                go_wp2_with fail
                go_meet
                case rel => exact ⟨rfl, _, _, H0⟩
        case rest =>
        obtain ⟨rfl, n', L', HB⟩ := hcut
        obtain ⟨_, _, _, c3'⟩ := (HACT.out.mod hbw HB.out.mod).1
        clear HS HJ H0 HD HR hnk hLk c0 c3 hbb hbb2 hnn
        obtain ⟨l, hl⟩ : ∃ l, lst L' p' = l := ⟨_, rfl⟩
        obtain ⟨z, hz⟩ : ∃ z : Nat, l.length = z := ⟨_, rfl⟩
        obtain ⟨bs, hbs⟩ : ∃ bs, same L' p' q = bs := ⟨_, rfl⟩
        obtain ⟨m, hm⟩ : ∃ m, idx L' p' = m := ⟨_, rfl⟩
        obtain ⟨t1, ht1⟩ : ∃ t1, atL (lst L' p') q = t1 := ⟨_, rfl⟩
        obtain ⟨t2, ht2⟩ : ∃ t2, atL (lst L' q) r = t2 := ⟨_, rfl⟩
        have HE := Lib.hid (And.intro hl (And.intro hz (And.intro hbs (And.intro hm (And.intro ht1 (And.intro ht2 (show ((lst L' p').length : Int) = z by rw [hl, hz])))))))
        have x1 : (bs != bs) = false := by simp
        have x2 : (m != m) = false := by simp
        have x3 : ((z : Int) != (z : Int)) = false := by simp
        have x4 : (t1 != t1) = false := by simp
        have x5 : (t2 != t2) = false := by simp
        clear hl hz hbs hm ht1 ht2
        as_aux_lemma =>
          have HB1 := Lib.hid (HB.out.quiet ((Mod.refl _ _).drew))
          have cw := c3'
          have CWD : Hid (wc.drew.cell? ⟨b, off + k * 4 + 3, none⟩ = some (.int .i64 r)) := c3'
          go_wp2_with fail
          simp only [List.append_eq, List.cons_append, List.nil_append]
          go_region_held3 (fun u => u.cell? ⟨b, off + k * 4 + 3, none⟩ = some (.int .i64 r)) (first | exact cw | exact H7.out.1 | exact H5.out.1 | exact H3.out.1)
            (first
            | (go_at_call 15; refine (j_same HB1.out.duo HE.out.2.2.1).mono ?_; rintro e w2 ⟨rfl, rfl⟩)
            | (go_at_call 16; refine (r_same HB1.out.duo HE.out.2.2.1).mono ?_; rintro e w2 ⟨rfl, rfl⟩)
            | (go_at_call 17; refine (b_index HB1.out HE.out.2.2.2.1).mono ?_; rintro e w3 ⟨rfl, hb3, hm3⟩; have H3 := Lib.hid (And.intro (keepc CWD.out hm3) hb3); clear hb3 hm3)
            | (go_at_call 18; refine (r_index H3.out.2.duo HE.out.2.2.2.1).mono ?_; rintro e w4 ⟨rfl, rfl⟩)
            | (go_at_call 19; refine (j_len H3.out.2.duo HE.out.2.2.2.2.2.2).mono ?_; rintro e w4 ⟨rfl, rfl⟩)
            | (go_at_call 22; refine (b_list H3.out.2 HE.out.1).mono ?_; rintro e w5 ⟨v5, rfl, hb5, hr5, hm5⟩; have H5 := Lib.hid (And.intro (keepc H3.out.1 hm5) (And.intro hb5 hr5)); clear hb5 hr5 hm5)
            | (go_at_call 20; refine (r_list H5.out.2.1.duo HE.out.1 HE.out.2.1).mono ?_; rintro e w6 ⟨a6, cap6, rfl, hr6, rfl⟩; have H6 := Lib.hid hr6; clear hr6)
            | (go_at_call 20; refine (r_list H3.out.2.duo HE.out.1 HE.out.2.1).mono ?_; rintro e w6 ⟨a5, cap5, rfl, hr6, rfl⟩; clear hr6)
            | (go_at_call 21; refine (b_ints H5.out.2.1 H5.out.2.2 H6.out).mono ?_; rintro e w7 ⟨rfl, hb7, hm7⟩; have H7 := Lib.hid (And.intro (keepc H5.out.1 hm7) hb7); clear hb7 hm7)
            | (go_at_call_of 23 p'; refine (j_at H7.out.2.duo HE.out.2.2.2.2.1).mono ?_; rintro e w8 ⟨rfl, rfl⟩)
            | (go_at_call_of 24 p'; refine (r_at H7.out.2.duo HE.out.2.2.2.2.1).mono ?_; rintro e w8 ⟨rfl, rfl⟩)
            | (go_at_call_of 23 r; refine (j_at H7.out.2.duo HE.out.2.2.2.2.2.1).mono ?_; rintro e w8 ⟨rfl, rfl⟩)
            | (go_at_call_of 24 r; refine (r_at H7.out.2.duo HE.out.2.2.2.2.2.1).mono ?_; rintro e w8 ⟨rfl, rfl⟩))
          all_goals
            go_wp2_with fail
            go_roundw
            case rel => exact ⟨k + 1, n', L', by omega, by go_num, H7.out.2⟩
            case measure => simp [intOf]; omega
    · as_aux_lemma =>
          have HZ := HR
          have hn80 : n ≤ 80 := by have := HR.out.nb; omega
          clear HR
          go_wp2_with fail
          go_loopw [10] (fun i wx => ∃ (j : Nat), j ≤ n ∧ i = .int .i64 j ∧ Hid (Bth w wx g h n L k)) (fun i _ => n - (intOf i).toNat)
          case atStart => exact ⟨0, Nat.zero_le _, rfl, HZ.out⟩
          case round =>
            clear HZ
            obtain ⟨j, hj, rfl, HB⟩ := hrel
            obtain ⟨cn, hhl⟩ := b_ncell HB.out
            by_cases hlt2 : j < n
            · have hjn : (j : Int) < n := by omega
              obtain ⟨l, hl⟩ : ∃ l, lst L (j : Int) = l := ⟨_, rfl⟩
              obtain ⟨z, hz⟩ : ∃ z : Nat, l.length = z := ⟨_, rfl⟩
              obtain ⟨m, hm⟩ : ∃ m, idx L (j : Int) = m := ⟨_, rfl⟩
              have HE := Lib.hid (And.intro hl (And.intro hz hm))
              have x2 : (m != m) = false := by simp
              clear hl hz hm
              go_wp2_with fail
              refine (b_list HB.out HE.out.1).mono ?_
              rintro e w5 ⟨v5, rfl, hb5, hr5, hm5⟩
              have H5 := Lib.hid (And.intro hb5 hr5)
              clear hb5 hr5 hm5
              go_wp2_with fail
              refine (r_list H5.out.1.duo HE.out.1 HE.out.2.1).mono ?_
              rintro e w6 ⟨a6, cap6, rfl, hr6, rfl⟩
              have H6 := Lib.hid hr6
              clear hr6
              go_wp2_with fail
              refine (b_ints H5.out.1 H5.out.2 H6.out).mono ?_
              rintro e w7 ⟨rfl, hb7, hm7⟩
              have H7 := Lib.hid hb7
              clear hb7 hm7
              go_wp2_with fail
              refine (b_index H7.out HE.out.2.2).mono ?_
              rintro e w8 ⟨rfl, hb8, hm8⟩
              have H8 := Lib.hid hb8
              clear hb8 hm8
              go_wp2_with fail
              refine (r_index H8.out.duo HE.out.2.2).mono ?_
              rintro e w9 ⟨rfl, rfl⟩
              go_wp2_with fail
              go_roundw
              case rel => exact ⟨j + 1, by omega, by go_num, H8.out⟩
              case measure => simp [intOf]; omega
            · have hge : ¬ (j : Int) < n := by omega
              go_wp2_with fail
              go_ret
              exact ⟨rfl, HB.out.mod.below (Nat.le_refl _) (by simp [NoB])⟩

set_option maxRecDepth 100000 in
theorem plays_all (a0 : Int) (a1 : Option Addr) (len1 cap1 : Nat) (w : World) (w0 : (Lit.int .u64 a0).wf = true) (w1 : IsActs w a1 len1) :
    Calls Try.prog 3 #[.int .u64 a0, .slice a1 len1 cap1] w fun e w' => e = .returned (.bool true) ∧ Below w.heap.size w w' := by
  by_cases h80 : len1 ≤ 80
  · exact plays_walk a0 a1 len1 cap1 w w1 h80
  · have hd0 : decide ((80 : Int) < (len1 : Int)) = true := by simp; omega
    clear w0 w1
    go_enter Try.func3, Try.ntmps3
    go_wp2_with fail
    refine (known_any _).mono ?_
    rintro e w1 ⟨rfl, hM1⟩
    have HM1 := Lib.hid hM1
    clear hM1
    go_wp2_with fail
    go_ret
    exact ⟨rfl, HM1.out.below (Nat.le_refl _) (by simp [NoB])⟩
end Go.Proofs.Ytlmbkmjjiebpbaa
