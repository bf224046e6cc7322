/- The contract of Number, whole. -/
import Derived.Test.YtekbiaphnpnpgaaScanN
namespace Go.Proofs.Ytekbiaphnpnpgaa
open Go.RowKit
set_option linter.unusedVariables false

/-- The digits that a text begins with. -/
def ds (s : ByteArray) : List UInt8 := (L s).takeWhile isD
theorem ds_len (s : ByteArray) : (ds s).length = nd s := rfl
theorem ds_digit (s : ByteArray) : ∀ c ∈ ds s, isD c = true := fun c hc => List.all_eq_true.1 (List.all_takeWhile) c hc
theorem ds_take_succ (s : ByteArray) (j : Nat) (h : j < nd s) (hs : j < s.size) : (ds s).take (j + 1) = (ds s).take j ++ [s[j]] := by
  have h1 : (ds s)[j]? = some s[j] := by
    have : (ds s)[j]? = (L s)[j]? := by unfold ds; rw [nd_take, List.getElem?_take_of_lt h]
    rw [this]; exact at_byte s j hs
  rw [List.take_add_one, h1]; rfl

/-- Where the second loop stands: the value so far, or an error. -/
def NumAt (w wr : World) (g : Nat) (s : ByteArray) (ln cl most : Int) (j : Nat) (v : Int) : Prop :=
  (Sc wr g s ln cl 0 ∧ valof most ((ds s).take j) 0 = some v ∧ 0 ≤ v ∧ v ≤ most ∧ Mod w wr (OneB g)) ∨ (Sc wr g s ln cl 22 ∧ valof most (ds s) 0 = none ∧ Mod w wr (OneB g))

theorem valof_none_of {most : Int} {l r : List UInt8} {v : Int} (h : valof most l v = none) : valof most (l ++ r) v = none := by
  induction l generalizing v with
  | nil => simp [valof] at h
  | cons d l ih =>
    simp only [List.cons_append, valof] at h ⊢
    split
    · rfl
    · rename_i hn; rw [if_neg hn] at h; exact ih h

theorem valof_step {most : Int} {s : ByteArray} {j : Nat} {v : Int} (h : j < nd s) (hs : j < s.size) (hv : valof most ((ds s).take j) 0 = some v) :
    valof most ((ds s).take (j + 1)) 0 = if dv s[j] > most ∨ v > (most - dv s[j]) / 10 then none else some (v * 10 + dv s[j]) := by
  rw [ds_take_succ s j h hs, valof_snoc, hv]; rfl

set_option maxHeartbeats 4000000 in
set_option maxRecDepth 100000 in
theorem num_ok (w : World) (g : Nat) (s : ByteArray) (ln cl most : Int) (hSc : Sc w g s ln cl 0) (h0 : 0 < nd s) (hf : ¬ (1 < nd s ∧ (L s).head? = some 48)) (hmo : 0 ≤ most ∧ most < 18446744073709551616) :
    Calls Try.prog 11 #[.pointer (some ⟨g, 0, none⟩), .int .u64 most] w fun e w' => e = .returned (.int .u64 (numOut most (L s) 0).1) ∧ ScPost w w' g s ln cl (numOut most (L s) 0).2.2 (numOut most (L s) 0).2.1 := by
  obtain ⟨c0, c1, c2, c3, f0, f1, f2, f3⟩ := hSc.cells
  have hg := hSc.lt
  have hm := hSc.2.1
  unfold maxLen at hm
  have hns := nd_le s
  have hpos : 0 < s.size := by omega
  have hb := nonempty_of (s := s) (by omega)
  have hne : numErr (L s) = 0 := by
    unfold numErr
    rw [if_neg (fun e => by have h9 := L_len s; rw [e] at h9; simp only [List.length_nil] at h9; omega), if_neg]
    rintro (h | ⟨h1, h2⟩)
    · have : nd s = 0 := h
      omega
    · exact hf ⟨h1, h2⟩
  have hz1 : ((nd s : Int) == 0) = false := by simp; omega
  have hz3 : nd s = 1 ∨ ¬ (s[0]'hpos).toNat = 48 := by
    by_cases h1 : nd s = 1
    · exact Or.inl h1
    · refine Or.inr fun h48 => hf ⟨by omega, ?_⟩
      have : (L s)[0]? = some (s[0]'hpos) := at_byte s 0 hpos
      rw [List.head?_eq_getElem?, this]
      congr 1
      exact UInt8.toNat_inj.1 (by simpa using h48)
  have hO1 : ∀ v, valof most (ds s) 0 = some v → numOut most (L s) 0 = (v, 0, nd s) := fun v hv => by
    unfold numOut; rw [if_neg (by simp), if_neg (by simp [hne])]
    have : (L s).takeWhile isD = ds s := rfl
    rw [this, hv]; rfl
  have hO2 : valof most (ds s) 0 = none → numOut most (L s) 0 = (0, 22, 0) := fun hv => by
    unfold numOut; rw [if_neg (by simp), if_neg (by simp [hne])]
    have : (L s).takeWhile isD = ds s := rfl
    rw [this, hv]
  have HO := Lib.hid (And.intro hO1 hO2)
  have HZ := Lib.hid hz3
  have HMO := Lib.hid hmo
  have H0 := Lib.hid (And.intro h0 hns)
  clear hf hne hO1 hO2 hz3 hmo h0 hns
  go_enter Try.func11, Try.ntmps11
  go_upto_block 0 with (fail)
  go_cut [5] (fun v wc => v = .int .i64 (nd s) ∧ w = wc)
  case first =>
    go_wp2_with fail
    go_loop [5] (fun i => ∃ k : Nat, k ≤ nd s ∧ i = .int .i64 k) (fun i => nd s - (intOf i).toNat)
    case atStart => exact ⟨0, Nat.zero_le _, rfl⟩
    case round =>
      obtain ⟨k, hk, rfl⟩ := hrel
      have hns := nd_le s
      by_cases hlt : k < nd s
      · have hks : k < s.size := by omega
        have hd := Lib.hid (nd_digit s k hlt hks)
        go_wp2_with fail
        refine (digit_any _ _).mono ?_
        rintro e w1 ⟨rfl, rfl⟩
        rw [hd.out]
        go_wp2_with fail
        go_round
        case rel => exact ⟨k + 1, by omega, by go_num⟩
        case measure => simp [intOf]; omega
      · obtain rfl : k = nd s := by omega
        by_cases hks : nd s < s.size
        · have hd := Lib.hid (nd_stop s hks)
          go_wp2_with fail
          refine (digit_any _ _).mono ?_
          rintro e w1 ⟨rfl, rfl⟩
          rw [hd.out]
          go_wp2_with fail
          go_meet
          case rel => exact ⟨rfl, rfl⟩
        · go_wp2_with fail
          go_meet
          case rel => exact ⟨rfl, rfl⟩
  case rest =>
    obtain ⟨rfl, rfl⟩ := hcut
    have hns := H0.out.2
    have hn0 := H0.out.1
    go_upto_region 8 with (fail)
    go_cut [40] (fun v wc => v = .bool false ∧ w = wc)
    case first =>
      by_cases h1 : nd s = 1
      · have h2 : ¬ (1 < nd s) := by omega
        have h3 : ¬ ((1 : Int) < (nd s : Int)) := by omega
        clear h1
        go_wp2_with fail
        go_meet
        case rel => exact ⟨rfl, rfl⟩
      · have h2 : (1 : Int) < (nd s : Int) := by omega
        have h4 : ((((s[0]'hpos).toNat : Nat) : Int) == 48) = false := by
          have := HZ.out.resolve_left h1
          simp; omega
        clear h1
        go_wp2_with fail
        go_meet
        case rel => exact ⟨rfl, rfl⟩
    case rest =>
      obtain ⟨rfl, rfl⟩ := hcut
      have hmo := HMO.out
      go_wp2_with fail
      go_loopw [6, 7] (fun v i wr => ∃ (j : Nat) (x : Int), j ≤ nd s ∧ i = .int .i64 j ∧ v = .int .u64 x ∧ Hid (NumAt w wr g s ln cl most j x)) (fun _ i _ => nd s - (intOf i).toNat)
      case atStart => exact ⟨0, 0, Nat.zero_le _, rfl, rfl, Or.inl ⟨hSc, rfl, Int.le_refl _, hmo.1, Mod.refl _ _⟩⟩
      case round =>
        obtain ⟨j, x, hj, rfl, rfl, HA⟩ := hrel
        clear c0 c1 c2 c3 f0 f1 f2 f3 hg
        rcases HA.out with ⟨hA, hv, hx0, hx1, hM⟩ | ⟨hA, hv, hM⟩
        · obtain ⟨c0, c1, c2, c3, f0, f1, f2, f3⟩ := hA.cells
          have hg := hA.lt
          by_cases hlt : j < nd s
          · have hjs : j < s.size := by omega
            have hd := nd_digit s j hlt hjs
            have hdb := dv_bd hd
            have hst := valof_step hlt hjs hv
            have hdy : dv s[j] = ((s[j].toNat : Nat) : Int) - 48 := rfl
            rw [hdy] at hdb hst
            have HS := Lib.hid hst
            have HV := Lib.hid hv
            have HM := Lib.hid hM
            clear hd hst hv hdy HA hM
            have hy48 : 48 ≤ ((s[j].toNat : Nat) : Int) := by omega
            have hy57 : ((s[j].toNat : Nat) : Int) ≤ 57 := by omega
            clear hdb
            by_cases hbig : ((s[j].toNat : Nat) : Int) - 48 > most
            · have HE : Hid (valof most (ds s) 0 = none) := by
                have h1 := HS.out; rw [if_pos (Or.inl hbig)] at h1
                have h2 := valof_none_of (r := (ds s).drop (j + 1)) h1
                rwa [List.take_append_drop] at h2
              have hgt : most < ((s[j].toNat : Nat) : Int) - 48 := hbig
              clear hbig HS
              go_wp2_with fail
              refine (fail_any _ _ _ _ _ _ _ hA).mono ?_
              rintro e w1 ⟨rfl, h1, hm1⟩
              rw [if_pos rfl] at h1
              have H1 := Lib.hid (And.intro h1 (HM.out.trans hm1 (fun _ _ h => h)))
              clear h1 hm1
              go_wp2_with fail
              go_roundw
              case rel => exact ⟨j + 1, _, by omega, by go_num, rfl, Or.inr ⟨H1.out.1, HE.out, H1.out.2⟩⟩
              case measure => simp [intOf]; omega
            · have hle : ¬ (most < ((s[j].toNat : Nat) : Int) - 48) := by omega
              by_cases hov : x > (most - (((s[j].toNat : Nat) : Int) - 48)) / 10
              · have HE : Hid (valof most (ds s) 0 = none) := by
                  have h1 := HS.out; rw [if_pos (Or.inr hov)] at h1
                  have h2 := valof_none_of (r := (ds s).drop (j + 1)) h1
                  rwa [List.take_append_drop] at h2
                have hgt : (most - (((s[j].toNat : Nat) : Int) - 48)) / 10 < x := hov
                clear hbig hov HS
                go_wp2_with fail
                refine (fail_any _ _ _ _ _ _ _ hA).mono ?_
                rintro e w1 ⟨rfl, h1, hm1⟩
                rw [if_pos rfl] at h1
                have H1 := Lib.hid (And.intro h1 (HM.out.trans hm1 (fun _ _ h => h)))
                clear h1 hm1
                go_wp2_with fail
                go_roundw
                case rel => exact ⟨j + 1, _, by omega, by go_num, rfl, Or.inr ⟨H1.out.1, HE.out, H1.out.2⟩⟩
                case measure => simp [intOf]; omega
              · have HE : Hid (valof most ((ds s).take (j + 1)) 0 = some (x * 10 + (((s[j].toNat : Nat) : Int) - 48))) := by
                  have h1 := HS.out; rwa [if_neg (by omega)] at h1
                have hgt : ¬ ((most - (((s[j].toNat : Nat) : Int) - 48)) / 10 < x) := hov
                have hx2 : x * 10 + (((s[j].toNat : Nat) : Int) - 48) ≤ most := by omega
                clear hbig hov HS
                go_wp2_with fail
                go_roundw
                case rel => exact ⟨j + 1, _, by omega, by go_num, rfl, Or.inl ⟨hA, HE.out, by omega, hx2, HM.out⟩⟩
                case measure => simp [intOf]; omega
          · have hjn : j = nd s := by omega
            have hve : valof most (ds s) 0 = some x := by
              rw [hjn, ← ds_len, List.take_length] at hv; exact hv
            have HE := Lib.hid (HO.out.1 x hve)
            have HM := Lib.hid hM
            clear hv hve hM HA hjn
            go_wp2_with fail
            refine (skip_any _ _ _ _ _ _ _ hA hns).mono ?_
            rintro e w1 ⟨rfl, h1, hm1⟩
            have H1 := Lib.hid (And.intro h1 (HM.out.trans hm1 (fun _ _ h => h)))
            clear h1 hm1
            go_wp2_with fail
            go_ret
            rw [HE.out]
            exact ⟨rfl, ⟨H1.out.1, H1.out.2⟩⟩
        · obtain ⟨c0, c1, c2, c3, f0, f1, f2, f3⟩ := hA.cells
          have hg := hA.lt
          have HV := Lib.hid hv
          have HM := Lib.hid hM
          clear hv hM HA
          by_cases hlt : j < nd s
          · go_wp2_with fail
            go_ret
            rw [HO.out.2 HV.out]
            exact ⟨rfl, hA.post0 HM.out⟩
          · go_wp2_with fail
            go_ret
            rw [HO.out.2 HV.out]
            exact ⟨rfl, hA.post0 HM.out⟩

theorem number_any (w : World) (g : Nat) (s : ByteArray) (ln cl er most : Int) (hSc : Sc w g s ln cl er) (hmo : 0 ≤ most ∧ most < 18446744073709551616) :
    Calls Try.prog 11 #[.pointer (some ⟨g, 0, none⟩), .int .u64 most] w fun e w' => e = .returned (.int .u64 (numOut most (L s) er).1) ∧ ScPost w w' g s ln cl (numOut most (L s) er).2.2 (numOut most (L s) er).2.1 := by
  by_cases he : er = 0
  · subst he
    by_cases h0 : s.size = 0
    · have hl : L s = [] := List.length_eq_zero_iff.1 (by rw [L_len]; exact h0)
      refine (num_short w g s ln cl most hSc h0).mono ?_
      rintro e w' ⟨rfl, h1, h2⟩
      have hO : numOut most (L s) 0 = (0, 20, 0) := by simp [numOut, numErr, hl]
      rw [hO]
      exact ⟨rfl, h1.post0 h2⟩
    · have hpos : 0 < s.size := by omega
      have hl : L s ≠ [] := fun e => by have h9 := L_len s; rw [e] at h9; simp only [List.length_nil] at h9; omega
      have h8 : (L s).head? = some s[0] := by
        have : (L s)[0]? = some s[0] := at_byte s 0 hpos
        rw [List.head?_eq_getElem?, this]
      by_cases hf : nd s = 0 ∨ (1 < nd s ∧ s[0].toNat = 48)
      · refine (num_form w g s ln cl most hSc hpos hf).mono ?_
        rintro e w' ⟨rfl, h1, h2⟩
        have hN : numErr (L s) = 21 := by
          unfold numErr
          rw [if_neg hl, if_pos]
          rcases hf with hf | ⟨hf1, hf2⟩
          · exact Or.inl hf
          · exact Or.inr ⟨hf1, by rw [h8]; congr 1; exact UInt8.toNat_inj.1 (by simpa using hf2)⟩
        have hO : numOut most (L s) 0 = (0, 21, 0) := by
          unfold numOut; rw [if_neg (by simp), if_pos (by simp [hN]), hN]
        rw [hO]
        exact ⟨rfl, h1.post0 h2⟩
      · have hf1 : ¬ (1 < nd s ∧ (L s).head? = some 48) := by
          rintro ⟨h1, h2⟩
          rw [h8] at h2
          have h3 := Option.some.inj h2
          exact hf (Or.inr ⟨h1, by rw [h3]; rfl⟩)
        exact num_ok w g s ln cl most hSc (by omega) hf1 hmo
  · refine (num_err w g s ln cl er most hSc he).mono ?_
    rintro e w' ⟨rfl, rfl⟩
    have hO : numOut most (L s) er = (0, er, 0) := by simp [numOut, he]
    rw [hO]
    exact ⟨rfl, hSc.post0 (Mod.refl _ _)⟩
end Go.Proofs.Ytekbiaphnpnpgaa
