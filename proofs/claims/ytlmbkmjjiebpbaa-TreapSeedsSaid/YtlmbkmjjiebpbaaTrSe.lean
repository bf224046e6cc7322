/- The law TreapSeeds: the walk. -/
import Derived.Test.YtlmbkmjjiebpbaaTrK
import Derived.Test.YtlmbkmjjiebpbaaTActs
namespace Go.Proofs.Ytlmbkmjjiebpbaa
open Go.RowKit
set_option linter.unusedVariables false

/-- The same to two arenas. -/
structure Twin (w0 w : World) (g h n : Nat) (L : List (List Nat)) : Prop where
  duo : Duo w0 w (ArT g n L) (ArT h n L)

theorem Duo.mem {w0 w : World} {P Q : World → (Nat → Prop) → Prop} (h : Duo w0 w P Q) : ∃ T, Q w T := h.swap.left

theorem seeds_start (w0 w : World) (hm : Mod w0 w NoB) (s1 s2 : Int) (g : Nat) (hD : Duo w0 w (ArT g 0 []) Nil) :
    Calls Try.prog 8 #[.int .u64 s2] w fun e w' => ∃ h, e = .returned (.pointer (some ⟨h, 0, none⟩)) ∧ Duo w0 w' (ArT g 0 []) (ArT h 0 []) := by
  refine (tnew_any w s2).mono ?_
  rintro e w' ⟨rfl, h1, h2, h3⟩
  exact ⟨_, rfl, hD.beside (ArT.framed _ _ _) h2 h1 (fun k hk => by unfold OneB at hk; subst hk; exact ⟨Nat.le_refl _, by omega⟩)⟩

set_option maxHeartbeats 8000000 in
set_option maxRecDepth 100000 in
theorem seeds_walk (a0 a1 : Int) (a2 : Option Addr) (len2 cap2 : Nat) (w : World) (w2 : IsActs w a2 len2) (h60 : len2 ≤ 60) :
    Calls Try.prog 5 #[.int .u64 a0, .int .u64 a1, .slice a2 len2 cap2] w fun e w' => e = .returned (.bool true) ∧ Below w.heap.size w w' := by
  have hd0 : decide ((60 : Int) < (len2 : Int)) = false := by simp; omega
  have HA := Lib.hid w2
  clear w2
  go_enter Try.func5, Try.ntmps5
  go_wp2_with fail
  refine (known_any _).mono ?_
  rintro e w1 ⟨rfl, hM1⟩
  have HM1 := Lib.hid hM1
  clear hM1
  go_wp2_with fail
  refine (d_new w _ HM1.out _).mono ?_
  rintro e w2 ⟨g, rfl, h1, m1, -⟩
  have H := Lib.hid (And.intro h1 (HM1.out.trans m1 (fun _ _ h => h)))
  clear h1 m1 HM1
  go_wp2_with fail
  refine (seeds_start w _ H.out.2 0 _ g H.out.1).mono ?_
  rintro e w3 ⟨h, rfl, h1⟩
  have H3 := Lib.hid h1
  clear h1 H
  go_wp2_with fail
  go_loopw [9] (fun i wr => ∃ (k : Nat) (L : List (List Nat)), k ≤ 12 ∧ i = .int .i64 k ∧ Hid (Duo w wr (ArT g k L) (ArT h k L))) (fun i _ => 12 - (intOf i).toNat)
  case atStart => exact ⟨0, [], Nat.zero_le _, rfl, H3.out⟩
  case round =>
    obtain ⟨k, L, hk, rfl, HR⟩ := hrel
    by_cases hlt : k < 12
    · go_wp2_with fail
      refine (d_node HR.out (ArT.framed _ _ _) (by omega)).mono ?_
      rintro e w4 ⟨rfl, h1⟩
      have H4 := Lib.hid h1.swap
      clear h1
      go_wp2_with fail
      refine (d_node H4.out (ArT.framed _ _ _) (by omega)).mono ?_
      rintro e w5 ⟨rfl, h1⟩
      have H5 := Lib.hid h1.swap
      clear h1 H4
      go_wp2_with fail
      go_roundw
      case rel => exact ⟨k + 1, _, by omega, by go_num, H5.out⟩
      case measure => simp [intOf]; omega
    · have H5 : Hid (Duo w wr (ArT g 12 L) (ArT h 12 L)) := by
        have hk12 : k = 12 := by omega
        rw [hk12] at HR; exact HR
      clear HR H3
      go_wp2_with fail
      go_loopw [10] (fun i wr => ∃ (k : Nat) (L : List (List Nat)), k ≤ len2 ∧ i = .int .i64 k ∧ Hid (Duo w wr (ArT g 12 L) (ArT h 12 L))) (fun i _ => len2 - (intOf i).toNat)
      case atStart => exact ⟨0, _, Nat.zero_le _, rfl, H5.out⟩
      case round =>
        clear H5
        obtain ⟨k, L, hk, rfl, HR⟩ := hrel
        by_cases hlt : k < len2
        · obtain ⟨b, off, rfl, hbw, u, x, y, r, hact⟩ := HA.out.at hlt
          obtain ⟨⟨c0, c1, c2, c3⟩, wu, wx, wy, wr⟩ := hact.mod hbw HR.out.mod
          obtain ⟨hu0, hu1⟩ := bounds_u8 wu
          obtain ⟨hx0, hx1⟩ := bounds_u8 wx
          obtain ⟨hy0, hy1⟩ := bounds_u8 wy
          clear hact wu wx wy wr
          go_upto_region 14 with (fail)
          go_cut [11, 12] (fun v1 v2 wc => v1 = .int .i64 (x % 12) ∧ v2 = .int .i64 (y % 12) ∧ ∃ n, wc = wr.drewN n)
          case first =>
            go_wp2_with fail
            go_quiet (fail)
            go_wp2_with fail
            go_meet
            case rel => exact ⟨rfl, rfl, _, rfl⟩
          case rest =>
            obtain ⟨rfl, rfl, j, rfl⟩ := hcut
            obtain ⟨p, hp⟩ : ∃ p, p = x % 12 := ⟨_, rfl⟩
            obtain ⟨q, hq⟩ : ∃ q, q = y % 12 := ⟨_, rfl⟩
            rw [← hp, ← hq]
            clear hp hq hx0 hx1 hy0 hy1 c1 c2 c3
            have H6 := Lib.hid (HR.out.drewN (ArT.framed _ _ _) j)
            by_cases hw3 : u % 3 < 2
            focus
              obtain ⟨b1, hb1⟩ : ∃ b1, (jn L p q).1 = b1 := ⟨_, rfl⟩
              obtain ⟨L', hL'⟩ : ∃ L', (jn L p q).2 = L' := ⟨_, rfl⟩
              have hv : jn L p q = (b1, L') := by rw [← hb1, ← hL']
              have HV := Lib.hid hv
              have hbb : (b1 != b1) = false := by simp
              clear hv hb1 hL'
              go_wp2_with fail
              refine (j_join H6.out (ArT.framed _ _ _) HV.out).mono ?_
              rintro e w4 ⟨rfl, h1⟩
              have H7 := Lib.hid h1.swap
              clear h1 H6
              go_wp2_with fail
              refine (j_join H7.out (ArT.framed _ _ _) HV.out).mono ?_
              rintro e w5 ⟨rfl, h1⟩
              have H8 := Lib.hid h1.swap
              clear h1 H7 HR
            rotate_left
            focus
              obtain ⟨b1, hb1⟩ : ∃ b1, (ct L p).1 = b1 := ⟨_, rfl⟩
              obtain ⟨L', hL'⟩ : ∃ L', (ct L p).2 = L' := ⟨_, rfl⟩
              have hv : ct L p = (b1, L') := by rw [← hb1, ← hL']
              have HV := Lib.hid hv
              have hbb : (b1 != b1) = false := by simp
              clear hv hb1 hL'
              go_wp2_with fail
              refine (j_cut H6.out (ArT.framed _ _ _) HV.out).mono ?_
              rintro e w4 ⟨rfl, h1⟩
              have H7 := Lib.hid h1.swap
              clear h1 H6
              go_wp2_with fail
              refine (j_cut H7.out (ArT.framed _ _ _) HV.out).mono ?_
              rintro e w5 ⟨rfl, h1⟩
              have H8 := Lib.hid h1.swap
              clear h1 H7 HR
            all_goals
              obtain ⟨m, hm⟩ : ∃ m, idx L' p = m := ⟨_, rfl⟩
              obtain ⟨z, hz⟩ : ∃ z : Int, ((lst L' q).length : Int) = z := ⟨_, rfl⟩
              have HM := Lib.hid (And.intro hm hz)
              have hm2 : (m != m) = false := by simp
              have hz2 : (z != z) = false := by simp
              clear hm hz
              go_wp2_with fail
              refine (d_list H8.out (ArT.framed _ _ _) q).mono ?_
              rintro e w6 ⟨v1, rfl, h1, r1, m1⟩
              have H9 := Lib.hid (And.intro h1.swap r1)
              clear h1 r1 m1 H8
              go_wp2_with fail
              refine (d_list H9.out.1 (ArT.framed _ _ _) q).mono ?_
              rintro e w7 ⟨v2, rfl, h2, r2, m2⟩
              have H10 := Lib.hid (And.intro h2.swap (And.intro (H9.out.2.mod m2 (by simp [NoB])) r2))
              clear h2 r2 m2 H9
              go_wp2_with fail
              refine (ints_eq _ _ _ _ _ _ H10.out.2.1 H10.out.2.2).mono ?_
              rintro e w8 ⟨rfl, k1, hw⟩
              have H11 : Hid (Duo w w8 (ArT g 12 L') (ArT h 12 L')) := by rw [hw]; exact H10.out.1.drewN (ArT.framed _ _ _) k1
              clear hw H10
              go_wp2_with fail
              refine (j_index H11.out (ArT.framed _ _ _) HM.out.1).mono ?_
              rintro e w9 ⟨rfl, h1⟩
              have H12 := Lib.hid h1.swap
              clear h1 H11
              go_wp2_with fail
              refine (j_index H12.out (ArT.framed _ _ _) HM.out.1).mono ?_
              rintro e w10 ⟨rfl, h1⟩
              have H13 := Lib.hid h1.swap
              have H14 := Lib.hid h1
              clear h1 H12
              go_wp2_with fail
              refine (j_len H13.out HM.out.2).mono ?_
              rintro e w11 ⟨rfl, rfl⟩
              go_wp2_with fail
              refine (j_len H14.out HM.out.2).mono ?_
              rintro e w11 ⟨rfl, rfl⟩
              go_wp2_with fail
              go_roundw
              case rel => exact ⟨k + 1, _, by omega, by go_num, H13.out⟩
              case measure => simp [intOf]; omega
        · go_wp2_with fail
          go_ret
          exact ⟨rfl, HR.out.mod.below (Nat.le_refl _) (by simp [NoB])⟩

set_option maxRecDepth 100000 in
theorem seeds_all (a0 : Int) (a1 : Int) (a2 : Option Addr) (len2 cap2 : Nat) (w : World) (w0 : (Lit.int .u64 a0).wf = true) (w1 : (Lit.int .u64 a1).wf = true) (w2 : IsActs w a2 len2) :
    Calls Try.prog 5 #[.int .u64 a0, .int .u64 a1, .slice a2 len2 cap2] w fun e w' => e = .returned (.bool true) ∧ Below w.heap.size w w' := by
  by_cases h60 : len2 ≤ 60
  · exact seeds_walk a0 a1 a2 len2 cap2 w w2 h60
  · have hd0 : decide ((60 : Int) < (len2 : Int)) = true := by simp; omega
    clear w0 w1 w2
    go_enter Try.func5, Try.ntmps5
    go_wp2_with fail
    refine (known_any _).mono ?_
    rintro e w1 ⟨rfl, hM1⟩
    have HM1 := Lib.hid hM1
    clear hM1
    go_wp2_with fail
    go_ret
    exact ⟨rfl, HM1.out.below (Nat.le_refl _) (by simp [NoB])⟩
end Go.Proofs.Ytlmbkmjjiebpbaa
