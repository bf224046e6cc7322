/- The contract of the reference's Number. -/
import Derived.Test.YtekbiaphnpnpgaaRefW
namespace Go.Proofs.Ytekbiaphnpnpgaa
open Go.RowKit
set_option linter.unusedVariables false

def ndl (l : List UInt8) : Nat := (l.takeWhile isD).length
theorem ndl_le (l : List UInt8) : ndl l ≤ l.length := (List.takeWhile_sublist _).length_le
theorem ndl_get {l : List UInt8} {k : Nat} (h : k < ndl l) : (l.takeWhile isD)[k]? = l[k]? := by
  have : l.takeWhile isD = l.take (ndl l) := takeWhile_eq_take _ _
  rw [this, List.getElem?_take_of_lt h]
theorem ndl_digit {l : List UInt8} {k : Nat} {c : UInt8} (h : k < ndl l) (hc : l[k]? = some c) : isD c = true := by
  rw [← ndl_get h] at hc
  exact List.all_eq_true.1 (List.all_takeWhile) _ (List.mem_of_getElem? hc)
theorem ndl_stop : ∀ {l : List UInt8} {c : UInt8}, l[ndl l]? = some c → isD c = false
  | [], c, h => by simp at h
  | a :: l, c, h => by
    by_cases ha : isD a = true
    · have e : ndl (a :: l) = ndl l + 1 := by simp [ndl, ha]
      rw [e, List.getElem?_cons_succ] at h
      exact ndl_stop h
    · have e : ndl (a :: l) = 0 := by simp [ndl, ha]
      rw [e, List.getElem?_cons_zero] at h
      cases h
      simpa using ha
theorem dsl_take_succ {l : List UInt8} {k : Nat} {c : UInt8} (h : k < ndl l) (hc : l[k]? = some c) : (l.takeWhile isD).take (k + 1) = (l.takeWhile isD).take k ++ [c] := by
  rw [List.take_add_one, ndl_get h, hc]; rfl
theorem valof_stepl {most : Int} {l : List UInt8} {j : Nat} {v : Int} {c : UInt8} (h : j < ndl l) (hc : l[j]? = some c) (hv : valof most ((l.takeWhile isD).take j) 0 = some v) :
    valof most ((l.takeWhile isD).take (j + 1)) 0 = if dv c > most ∨ v > (most - dv c) / 10 then none else some (v * 10 + dv c) := by
  rw [dsl_take_succ h hc, valof_snoc, hv]; rfl

theorem numErr_cases {l : List UInt8} : (l = [] ∧ numErr l = 20) ∨ (l ≠ [] ∧ (ndl l = 0 ∨ (1 < ndl l ∧ l.head? = some 48)) ∧ numErr l = 21) ∨ (0 < ndl l ∧ ¬ (1 < ndl l ∧ l.head? = some 48) ∧ numErr l = 0) := by
  by_cases h0 : l = []
  · exact Or.inl ⟨h0, by simp [numErr, h0]⟩
  · right
    by_cases h1 : ndl l = 0 ∨ (1 < ndl l ∧ l.head? = some 48)
    · exact Or.inl ⟨h0, h1, by unfold numErr; rw [if_neg h0]; exact if_pos h1⟩
    · exact Or.inr ⟨by omega, fun h => h1 (Or.inr h), by unfold numErr; rw [if_neg h0]; exact if_neg h1⟩

theorem rnum_err (w : World) (g : Nat) (s : ByteArray) (a : Nat) (ln cl er most : Int) (hR : RSc w g s a ln cl er) (he : er ≠ 0) :
    Calls Try.prog 17 #[.pointer (some ⟨g, 0, none⟩), .int .u64 most] w fun e w' => e = .returned (.int .u64 0) ∧ w = w' := by
  obtain ⟨c0, c1, c2, c3, c4, f0, f1, f2, f3, f4⟩ := hR.1.cells
  have hb : (er != 0) = true := by simpa using he
  clear he
  go_enter Try.func17, Try.ntmps17
  go_wp2_with fail
  go_ret
  exact ⟨rfl, rfl⟩

set_option maxHeartbeats 4000000 in
set_option maxRecDepth 100000 in
theorem rnum_ok (w : World) (g : Nat) (s : ByteArray) (a : Nat) (ln cl most : Int) (hR : RSc w g s a ln cl 0) (hmo : 0 ≤ most ∧ most < 18446744073709551616) :
    Calls Try.prog 17 #[.pointer (some ⟨g, 0, none⟩), .int .u64 most] w fun e w' => e = .returned (.int .u64 (numOut most (lft s a) 0).1) ∧ RPost w w' g s a ln cl (numOut most (lft s a) 0).2.2 (numOut most (lft s a) 0).2.1 := by
  obtain ⟨O, hOO⟩ : ∃ O, O = numOut most (lft s a) 0 := ⟨_, rfl⟩
  rw [← hOO]
  have HOO := Lib.hid hOO
  clear hOO
  obtain ⟨c0, c1, c2, c3, c4, f0, f1, f2, f3, f4⟩ := hR.1.cells
  obtain ⟨hB, hm, ha, _⟩ := id hR
  have hlen := lft_len s a
  have hnl := ndl_le (lft s a)
  obtain ⟨N, hN⟩ : ∃ N, N = ndl (lft s a) := ⟨_, rfl⟩
  have hNb : a + N ≤ s.size := by omega
  have HN := Lib.hid hN
  have HR := Lib.hid hR
  clear hN hR hB hlen hnl
  go_enter Try.func17, Try.ntmps17
  go_upto_block 0 with (fail)
  go_cut [5] (fun v wc => v = .int .i64 N ∧ Hid (RSc wc g s a ln cl 0 ∧ Mod w wc (OneB g)))
  case first =>
    go_wp2_with fail
    go_loopw [5] (fun i wr => ∃ k n : Nat, k ≤ N ∧ i = .int .i64 k ∧ wr = w.drewN n) (fun i _ => N - (intOf i).toNat)
    case atStart => exact ⟨0, 0, Nat.zero_le _, rfl, rfl⟩
    case round =>
      obtain ⟨k, n, hk, rfl, rfl⟩ := hrel
      by_cases hlt : a + k < s.size
      · have e1 := lft_at s a k hlt
        have hdd : isD s[a + k] = decide (k < N) := by
          by_cases h : k < N
          · rw [ndl_digit (l := lft s a) (by rw [← HN.out]; exact h) e1]; simp [h]
          · have hke : k = ndl (lft s a) := by have := HN.out; omega
            rw [ndl_stop (l := lft s a) (hke ▸ e1)]; simp [h]
        have HD := Lib.hid hdd
        have q1 : IntKind.i64.wrap ((a : Int) + (k : Int)) = (a : Int) + (k : Int) := IntWalk.i64_in _ (by omega)
        have q2 : (0 : Int) ≤ (a : Int) + (k : Int) := by omega
        have q4 : (a : Int) + (k : Int) < (s.size : Int) := by omega
        have q3 : ((a : Int) + (k : Int)).toNat = a + k := by omega
        have q5 : decide ((a : Int) + (k : Int) < (s.size : Int)) = true := decide_eq_true q4
        clear e1 hdd
        by_cases hkN : k < N
        · have hd : isD s[a + k] = true := by rw [HD.out]; simp [hkN]
          have HD2 := Lib.hid hd
          clear hd
          go_wp2_with fail
          go_quiet ((go_at_call 28; exact quiet_left2 (HD2.out ▸ rdigit_any s[a + k] _)))
          go_wp2_with fail
          go_roundw
          case rel => exact ⟨k + 1, _, by omega, by go_num, by first | rfl | (rw [World.drewN_drewN, World.drewN_drewN]; done) | (rw [World.drewN_drewN]; done)⟩
          case measure => simp [intOf]; omega
        · have hd : isD s[a + k] = false := by rw [HD.out]; simp [hkN]
          have HD2 := Lib.hid hd
          obtain rfl : k = N := by omega
          clear hd
          go_wp2_with fail
          go_quiet ((go_at_call 28; exact quiet_left2 (HD2.out ▸ rdigit_any s[a + k] _)))
          go_wp2_with fail
          go_meet
          case rel => exact ⟨rfl, (by first | exact HR.out.drewN _ | exact (HR.out.drewN _).drewN _), (by first | exact (Mod.refl _ _).drewN _ | exact ((Mod.refl _ _).drewN _).drewN _)⟩
      · obtain rfl : k = N := by omega
        have q4 : ¬ ((a : Int) + (k : Int) < (s.size : Int)) := by omega
        have q5 : decide ((a : Int) + (k : Int) < (s.size : Int)) = false := decide_eq_false q4
        go_wp2_with fail
        go_quiet (fail)
        go_wp2_with fail
        go_meet
        case rel => exact ⟨rfl, (by first | exact HR.out.drewN _ | exact (HR.out.drewN _).drewN _), (by first | exact (Mod.refl _ _).drewN _ | exact ((Mod.refl _ _).drewN _).drewN _)⟩
  case rest =>
    obtain ⟨rfl, HC⟩ := hcut
    clear c0 c1 c2 c3 c4 f0 f1 f2 f3 f4
    obtain ⟨c0, c1, c2, c3, c4, f0, f1, f2, f3, f4⟩ := HC.out.1.1.cells
    have hlen := lft_len s a
    have hNE := HN.out
    rcases numErr_cases (l := lft s a) with ⟨h1, h2⟩ | ⟨h1, h2, h3⟩ | ⟨h1, h2, h3⟩
    · have hN0 : N = 0 := by rw [hNE, h1]; rfl
      have has : a = s.size := by rw [h1] at hlen; simp at hlen; omega
      have hO : numOut most (lft s a) 0 = (0, 20, 0) := by unfold numOut; rw [if_neg (by simp), if_pos (by simp [h2]), h2]
      have HO := Lib.hid (HOO.out.trans hO)
      subst hN0
      have hb1 : ((a : Int) == (s.size : Int)) = true := by simp [has]
      clear h1 h2 hlen hNE has hO
      go_wp2_with fail
      go_quiet (fail)
      go_wp2_with fail
      refine (rfail_any _ _ _ _ _ _ _ _ (HC.out.1.drewN _)).mono ?_
      rintro e w1 ⟨rfl, h1, hm1⟩
      have H1 := Lib.hid (And.intro h1 hm1)
      clear h1 hm1
      go_wp2_with fail
      go_ret
      rw [HO.out]
      exact ⟨rfl, RSc.post0 (by simpa using H1.out.1) ((HC.out.2.drewN _).trans H1.out.2 (fun _ _ h => h))⟩
    · have hO : numOut most (lft s a) 0 = (0, 21, 0) := by unfold numOut; rw [if_neg (by simp), if_pos (by simp [h3]), h3]
      have has : a < s.size := by
        rcases Nat.lt_or_ge a s.size with h | h
        · exact h
        · exact absurd (List.length_eq_zero_iff.1 (by omega)) h1
      have HO := Lib.hid (HOO.out.trans hO)
      by_cases hN0 : N = 0
      · subst hN0
        have hb1 : ((a : Int) == (s.size : Int)) = false := by simp; omega
        clear h1 h2 h3 hlen hNE hO
        go_wp2_with fail
        go_quiet (fail)
        go_wp2_with fail
        go_quiet (fail)
        go_wp2_with fail
        refine (rfail_any _ _ _ _ _ _ _ _ (HC.out.1.drewN _)).mono ?_
        rintro e w1 ⟨rfl, h1, hm1⟩
        have H1 := Lib.hid (And.intro h1 hm1)
        clear h1 hm1
        go_wp2_with fail
        go_ret
        rw [HO.out]
        exact ⟨rfl, RSc.post0 (by simpa using H1.out.1) ((HC.out.2.drewN _).trans H1.out.2 (fun _ _ h => h))⟩
      · obtain ⟨h4, h5⟩ : 1 < N ∧ (lft s a).head? = some 48 := by
          rcases h2 with h | h
          · omega
          · exact ⟨by omega, h.2⟩
        have h6 : s[a].toNat = 48 := by
          have e1 := lft_at s a 0 (by omega)
          rw [List.head?_eq_getElem?, e1] at h5
          have := Option.some.inj h5
          simpa using congrArg UInt8.toNat this
        have hb0 : ((N : Int) == 0) = false := by simp; omega
        have hb1 : (1 : Int) < (N : Int) := by omega
        have hb2 : (((s[a].toNat : Nat) : Int) == 48) = true := by simp [h6]
        have has' : (a : Int) < (s.size : Int) := by omega
        have hb3 : (decide ((1 : Int) < (N : Int))) = true := decide_eq_true hb1
        clear h1 h2 h3 hlen hNE hO h4 h5 h6 hN0
        go_wp2_with fail
        go_quiet (fail)
        go_wp2_with fail
        go_quiet (fail)
        go_wp2_with fail
        refine (rfail_any _ _ _ _ _ _ _ _ (HC.out.1.drewN _)).mono ?_
        rintro e w1 ⟨rfl, h1, hm1⟩
        have H1 := Lib.hid (And.intro h1 hm1)
        clear h1 hm1
        go_wp2_with fail
        go_ret
        rw [HO.out]
        exact ⟨rfl, RSc.post0 (by simpa using H1.out.1) ((HC.out.2.drewN _).trans H1.out.2 (fun _ _ h => h))⟩
    · have hO1 : ∀ v, valof most ((lft s a).takeWhile isD) 0 = some v → numOut most (lft s a) 0 = (v, 0, N) := fun v hv => by
        unfold numOut; rw [if_neg (by simp), if_neg (by simp [h3]), hv, hNE]; rfl
      have hO2 : valof most ((lft s a).takeWhile isD) 0 = none → numOut most (lft s a) 0 = (0, 22, 0) := fun hv => by
        unfold numOut; rw [if_neg (by simp), if_neg (by simp [h3]), hv]
      have HO := Lib.hid (And.intro hO1 hO2)
      have has : a < s.size := by omega
      have h6 : N = 1 ∨ ¬ s[a].toNat = 48 := by
        by_cases h1' : N = 1
        · exact Or.inl h1'
        · refine Or.inr fun h48 => h2 ⟨by omega, ?_⟩
          have e1 := lft_at s a 0 (by omega)
          rw [List.head?_eq_getElem?, e1]
          congr 1
          exact UInt8.toNat_inj.1 (by simpa using h48)
      have H6 := Lib.hid h6
      have hb0 : ((N : Int) == 0) = false := by simp; omega
      have hNpos : 0 < N := by omega
      clear h1 h2 h3 hlen hO1 hO2 h6 hNE
      go_upto_region 9 with (go_quiet (fail))
      go_cut [59] (fun v wx => v = .bool false ∧ Hid (RSc wx g s a ln cl 0 ∧ Mod w wx (OneB g)))
      case first =>
        by_cases h1' : N = 1
        · have hb1 : ¬ ((1 : Int) < (N : Int)) := by omega
          have hb2 : decide ((1 : Int) < (N : Int)) = false := decide_eq_false hb1
          clear h1'
          go_quiet (fail)
          go_wp2_with fail
          go_meet
          case rel => exact ⟨rfl, (by first | exact HC.out.1.drewN _ | exact (HC.out.1.drewN _).drewN _), (by first | exact HC.out.2.drewN _ | exact (HC.out.2.drewN _).drewN _)⟩
        · have hb1 : (1 : Int) < (N : Int) := by omega
          have hb2 : decide ((1 : Int) < (N : Int)) = true := decide_eq_true hb1
          have has' : (a : Int) < (s.size : Int) := by omega
          have hb3 : (((s[a].toNat : Nat) : Int) == 48) = false := by
            have := H6.out.resolve_left h1'
            simp; omega
          clear h1'
          go_quiet (fail)
          go_wp2_with fail
          go_meet
          case rel => exact ⟨rfl, (by first | exact HC.out.1.drewN _ | exact (HC.out.1.drewN _).drewN _), (by first | exact HC.out.2.drewN _ | exact (HC.out.2.drewN _).drewN _)⟩
      case rest =>
        obtain ⟨rfl, HD⟩ := hcut
        clear c0 c1 c2 c3 c4 f0 f1 f2 f3 f4 HC
        go_wp2_with fail
        go_loopw [6, 7] (fun v i wr => ∃ (j : Nat) (x : Int), j ≤ N ∧ i = .int .i64 j ∧ v = .int .u64 x ∧ Hid (RSc wr g s a ln cl 0 ∧ valof most (((lft s a).takeWhile isD).take j) 0 = some x ∧ Mod w wr (OneB g)) ∧ 0 ≤ x ∧ x ≤ most) (fun _ i _ => N - (intOf i).toNat)
        case atStart => exact ⟨0, 0, Nat.zero_le _, rfl, rfl, ⟨HD.out.1, rfl, HD.out.2⟩, Int.le_refl _, hmo.1⟩
        case round =>
          obtain ⟨j, x, hj, rfl, rfl, HA, hx0, hx1⟩ := hrel
          obtain ⟨c0, c1, c2, c3, c4, f0, f1, f2, f3, f4⟩ := HA.out.1.1.cells
          by_cases hlt : j < N
          · have hjs : a + j < s.size := by omega
            have e1 := lft_at s a j hjs
            have hd := ndl_digit (l := lft s a) (by rw [← HN.out]; exact hlt) e1
            have hdb := dv_bd hd
            have hst := valof_stepl (by rw [← HN.out]; exact hlt) e1 HA.out.2.1
            have hdy : dv s[a + j] = ((s[a + j].toNat : Nat) : Int) - 48 := rfl
            rw [hdy] at hdb hst
            have HS := Lib.hid hst
            have q1 : IntKind.i64.wrap ((a : Int) + (j : Int)) = (a : Int) + (j : Int) := IntWalk.i64_in _ (by omega)
            have q2 : (0 : Int) ≤ (a : Int) + (j : Int) := by omega
            have q4 : (a : Int) + (j : Int) < (s.size : Int) := by omega
            have q3 : ((a : Int) + (j : Int)).toNat = a + j := by omega
            have hy48 : 48 ≤ ((s[a + j].toNat : Nat) : Int) := by omega
            have hy57 : ((s[a + j].toNat : Nat) : Int) ≤ 57 := by omega
            have hw1 : IntKind.u8.wrap (((s[a + j].toNat : Nat) : Int) - 48) = ((s[a + j].toNat : Nat) : Int) - 48 := by rw [IntKind.wrap_u8]; omega
            have hw2 : IntKind.u64.wrap (((s[a + j].toNat : Nat) : Int) - 48) = ((s[a + j].toNat : Nat) : Int) - 48 := by rw [IntKind.wrap_u64]; omega
            clear e1 hd hst hdy hdb
            by_cases hbig : ((s[a + j].toNat : Nat) : Int) - 48 > most
            · have hE : valof most ((lft s a).takeWhile isD) 0 = none := by
                have h1 := HS.out; rw [if_pos (Or.inl hbig)] at h1
                have h2 := valof_none_of (r := ((lft s a).takeWhile isD).drop (j + 1)) h1
                rwa [List.take_append_drop] at h2
              have HE := Lib.hid (HOO.out.trans (HO.out.2 hE))
              have hgt : most < ((s[a + j].toNat : Nat) : Int) - 48 := hbig
              clear hbig HS hE
              go_wp2_with fail
              go_quiet (fail)
              go_wp2_with fail
              refine (rfail_any _ _ _ _ _ _ _ _ (HA.out.1.drewN _)).mono ?_
              rintro e w1 ⟨rfl, h1, hm1⟩
              have H1 := Lib.hid (And.intro h1 hm1)
              clear h1 hm1
              go_wp2_with fail
              go_ret
              rw [HE.out]
              exact ⟨rfl, RSc.post0 (by simpa using H1.out.1) ((HA.out.2.2.drewN _).trans H1.out.2 (fun _ _ h => h))⟩
            · have hle : ¬ (most < ((s[a + j].toNat : Nat) : Int) - 48) := by omega
              by_cases hov : x > (most - (((s[a + j].toNat : Nat) : Int) - 48)) / 10
              · have hE : valof most ((lft s a).takeWhile isD) 0 = none := by
                  have h1 := HS.out; rw [if_pos (Or.inr hov)] at h1
                  have h2 := valof_none_of (r := ((lft s a).takeWhile isD).drop (j + 1)) h1
                  rwa [List.take_append_drop] at h2
                have HE := Lib.hid (HOO.out.trans (HO.out.2 hE))
                have hgt : (most - (((s[a + j].toNat : Nat) : Int) - 48)) / 10 < x := hov
                clear hbig hov HS hE
                go_wp2_with fail
                go_quiet (fail)
                go_wp2_with fail
                refine (rfail_any _ _ _ _ _ _ _ _ (HA.out.1.drewN _)).mono ?_
                rintro e w1 ⟨rfl, h1, hm1⟩
                have H1 := Lib.hid (And.intro h1 hm1)
                clear h1 hm1
                go_wp2_with fail
                go_ret
                rw [HE.out]
                exact ⟨rfl, RSc.post0 (by simpa using H1.out.1) ((HA.out.2.2.drewN _).trans H1.out.2 (fun _ _ h => h))⟩
              · have HE : Hid (valof most (((lft s a).takeWhile isD).take (j + 1)) 0 = some (x * 10 + (((s[a + j].toNat : Nat) : Int) - 48))) := by
                  have h1 := HS.out; rwa [if_neg (by omega)] at h1
                have hgt : ¬ ((most - (((s[a + j].toNat : Nat) : Int) - 48)) / 10 < x) := hov
                have hx2 : x * 10 + (((s[a + j].toNat : Nat) : Int) - 48) ≤ most := by omega
                clear hbig hov HS
                go_wp2_with fail
                go_quiet (fail)
                go_wp2_with fail
                go_roundw
                case rel => exact ⟨j + 1, x * 10 + (((s[a + j].toNat : Nat) : Int) - 48), by omega, by go_num, by congr 1; omega, ⟨HA.out.1.drewN _, HE.out, HA.out.2.2.drewN _⟩, by omega, hx2⟩
                case measure => simp [intOf]; omega
          · obtain rfl : j = N := by omega
            have hE : valof most ((lft s a).takeWhile isD) 0 = some x := by
              have h1 := HA.out.2.1
              have h2 : ((lft s a).takeWhile isD).take j = (lft s a).takeWhile isD := by
                rw [HN.out]; exact List.take_length
              rwa [h2] at h1
            have HE := Lib.hid (HOO.out.trans (HO.out.1 x hE))
            clear hE
            go_wp2_with fail
            refine (rmove_any _ _ _ _ _ _ _ _ HA.out.1 hNb).mono ?_
            rintro e w1 ⟨rfl, h1⟩
            have H1 := Lib.hid h1
            clear h1
            go_wp2_with fail
            go_ret
            rw [HE.out]
            exact ⟨rfl, H1.out.sc, HA.out.2.2.trans H1.out.mod (fun _ _ h => h)⟩

theorem rnumber_any (w : World) (g : Nat) (s : ByteArray) (a : Nat) (ln cl er most : Int) (hR : RSc w g s a ln cl er) (hmo : 0 ≤ most ∧ most < 18446744073709551616) :
    Calls Try.prog 17 #[.pointer (some ⟨g, 0, none⟩), .int .u64 most] w fun e w' => e = .returned (.int .u64 (numOut most (lft s a) er).1) ∧ RPost w w' g s a ln cl (numOut most (lft s a) er).2.2 (numOut most (lft s a) er).2.1 := by
  by_cases he : er = 0
  · subst he
    exact rnum_ok w g s a ln cl most hR hmo
  · refine (rnum_err w g s a ln cl er most hR he).mono ?_
    rintro e w' ⟨rfl, rfl⟩
    have hO : numOut most (lft s a) er = (0, er, 0) := by simp [numOut, he]
    rw [hO]
    exact ⟨rfl, hR.post0 (Mod.refl _ _)⟩
end Go.Proofs.Ytekbiaphnpnpgaa
