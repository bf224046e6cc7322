/- The law ScanNumbers: the walk. -/
import Derived.Test.YtekbiaphnpnpgaaScanPl
namespace Go.Proofs.Ytekbiaphnpnpgaa
open Go.RowKit
set_option linter.unusedVariables false

/-! ### What the digits of a number are good for -/
theorem digit_ofNat {d : Nat} (h : d < 10) : (UInt8.ofNat (48 + d)).toNat = 48 + d := UInt8.toNat_ofNat_of_lt' (by show 48 + d < 256; omega)
theorem isD_ofNat {d : Nat} (h : d < 10) : isD (UInt8.ofNat (48 + d)) = true := by simp only [isD, digit_ofNat h]; simp; omega
theorem dv_ofNat {d : Nat} (h : d < 10) : dv (UInt8.ofNat (48 + d)) = d := by unfold dv; rw [digit_ofNat h]; omega
theorem decL_digits (n : Nat) : ∀ c ∈ decL n, isD c = true := by
  induction n using Nat.strongRecOn with
  | _ n ih =>
    by_cases h : n < 10
    · rw [decL_small h]; intro c hc; rw [List.mem_singleton] at hc; subst hc; exact isD_ofNat h
    · rw [decL_big h]; intro c hc
      rcases List.mem_append.1 hc with hc | hc
      · exact ih _ (by omega) c hc
      · rw [List.mem_singleton] at hc; subst hc; exact isD_ofNat (Nat.mod_lt n (by decide))
theorem decL_value (most : Int) (h0 : 0 ≤ most) (n : Nat) : valof most (decL n) 0 = if (n : Int) ≤ most then some (n : Int) else none := by
  induction n using Nat.strongRecOn with
  | _ n ih =>
    by_cases h : n < 10
    · rw [decL_small h]
      simp only [valof, dv_ofNat h]
      by_cases h1 : (n : Int) ≤ most
      · rw [if_neg (by omega), if_pos h1]; simp
      · rw [if_pos (by omega), if_neg h1]
    · rw [decL_big h, valof_snoc, ih _ (by omega)]
      have hd : n % 10 < 10 := Nat.mod_lt _ (by decide)
      by_cases h1 : ((n / 10 : Nat) : Int) ≤ most
      · rw [if_pos h1]
        simp only [Option.bind_some, dv_ofNat hd]
        by_cases h2 : (n : Int) ≤ most
        · rw [if_neg (by omega), if_pos h2]; congr 1; omega
        · rw [if_pos (by omega), if_neg h2]
      · rw [if_neg h1, if_neg (by omega)]; rfl
theorem head_app {l r : List UInt8} (h : l ≠ []) : (l ++ r).head? = l.head? := by
  cases l with
  | nil => exact absurd rfl h
  | cons a l => rfl
theorem decL_head (n : Nat) (h : 0 < n) : (decL n).head? ≠ some 48 := by
  induction n using Nat.strongRecOn with
  | _ n ih =>
    by_cases h1 : n < 10
    · rw [decL_small h1]
      simp only [List.head?_cons, ne_eq, Option.some.injEq]
      intro e
      have := congrArg UInt8.toNat e
      rw [digit_ofNat h1] at this
      simp at this; omega
    · rw [decL_big h1]
      have hne : decL (n / 10) ≠ [] := fun e => by have := (decL_len (n / 10)).1; rw [e] at this; simp at this
      rw [head_app hne]
      exact ih _ (by omega) (by omega)
theorem takeWhile_app {α : Type} (p : α → Bool) : ∀ (l r : List α), (∀ c ∈ l, p c = true) → (∀ c, r.head? = some c → p c = false) → (l ++ r).takeWhile p = l
  | [], [], _, _ => rfl
  | [], a :: r, _, h => by simp [h a rfl]
  | a :: l, r, h1, h2 => by
    simp only [List.cons_append, List.takeWhile_cons, h1 a (by simp), if_true, List.cons.injEq, true_and]
    exact takeWhile_app p l r (fun c hc => h1 c (by simp [hc])) h2

theorem numOut_dec {most : Int} (h0 : 0 ≤ most) (n : Nat) (r : List UInt8) (hr : ∀ c, r.head? = some c → isD c = false) :
    numOut most (decL n ++ r) 0 = if (n : Int) ≤ most then ((n : Int), 0, (decL n).length) else (0, 22, 0) := by
  have ht : (decL n ++ r).takeWhile isD = decL n := takeWhile_app isD _ _ (decL_digits n) hr
  have hne : decL n ≠ [] := fun e => by have := (decL_len n).1; rw [e] at this; simp at this
  have hE : numErr (decL n ++ r) = 0 := by
    unfold numErr
    rw [if_neg (by simp [hne]), ht, if_neg]
    rintro (h | ⟨h1, h2⟩)
    · exact hne (List.length_eq_zero_iff.1 h)
    · rw [head_app hne] at h2
      by_cases hn : n = 0
      · subst hn; rw [decL_small (by decide)] at h1; simp at h1
      · exact decL_head n (by omega) h2
  unfold numOut
  rw [if_neg (by simp), if_neg (by simp [hE]), ht, decL_value most h0]
  by_cases h : (n : Int) ≤ most
  · rw [if_pos h, if_pos h]
  · rw [if_neg h, if_neg h]

theorem numOut_zero (most : Int) (n : Nat) : numOut most (48 :: decL n) 0 = (0, 21, 0) := by
  have ht : (48 :: decL n).takeWhile isD = 48 :: decL n := by
    have := takeWhile_app isD (48 :: decL n) [] (fun c hc => by
      rcases List.mem_cons.1 hc with rfl | hc
      · decide
      · exact decL_digits n c hc) (by simp)
    simpa using this
  have hE : numErr (48 :: decL n) = 21 := by
    unfold numErr
    rw [if_neg (by simp), ht, if_pos]
    right
    have := (decL_len n).1
    simp; omega
  unfold numOut
  rw [if_neg (by simp), if_pos (by simp [hE]), hE]

theorem adv_digits (p : Int × Int) : ∀ (l : List UInt8), (∀ c ∈ l, isD c = true) → adv p l = (p.1, p.2 + l.length)
  | [], _ => by simp [adv]
  | c :: l, h => by
    have hc := h c (by simp)
    simp [isD] at hc
    simp only [adv]
    rw [if_neg (by omega), adv_digits _ l (fun d hd => h d (by simp [hd]))]
    simp; omega

theorem dec_L (n : Nat) : L (dec n) = decL n := by simp [L, dec]
theorem app_L (a b : ByteArray) : L (a ++ b) = L a ++ L b := by simp [L, ByteArray.data_append]

/-- The tail that keeps a number's digits apart. -/
theorem sadd {P : Program} (a b : ByteArray) (h : a.size + b.size ≤ 9223372036854775807) : ∀ W : World, (Op.stringOp .add a b).run P W = .ok (.string (a ++ b)) W := fun W => run_string_add_sum W a b h
theorem decL_len20 (n : Nat) (h : n < 18446744073709551616) : (decL n).length ≤ 20 := by
  have key : ∀ (k n : Nat), n < 10 ^ k → (decL n).length ≤ k + 1 := by
    intro k
    induction k with
    | zero => intro n hn; have : n = 0 := by simpa using hn
              subst this; rw [decL_small (by decide)]; simp
    | succ k ih =>
      intro n hn
      by_cases h1 : n < 10
      · rw [decL_small h1]; simp
      · rw [decL_big h1]
        have := ih (n / 10) (by rw [Nat.pow_succ] at hn; omega)
        simp; omega
  have key2 : ∀ (k n : Nat), 0 < k → n < 10 ^ k → (decL n).length ≤ k := by
    intro k
    induction k with
    | zero => intro n hk; omega
    | succ k ih =>
      intro n hk hn
      by_cases h1 : n < 10
      · rw [decL_small h1]; simp
      · rw [decL_big h1]
        by_cases hk0 : k = 0
        · subst hk0; simp at hn; omega
        · have := ih (n / 10) (by omega) (by rw [Nat.pow_succ] at hn; omega)
          simp; omega
  exact key2 20 n (by decide) (by omega)

theorem adv_dec (d t : ByteArray) (n : Nat) (hd : L d = decL n) : advK 1 1 (d ++ t) (L d).length = (1, 1 + (d.size : Int)) := by
  unfold advK
  rw [show (d ++ t).data.toList = L d ++ L t from app_L _ _, List.take_left, adv_digits _ _ (by rw [hd]; exact decL_digits n), L_len]

set_option maxHeartbeats 4000000 in
set_option maxRecDepth 100000 in
theorem numbers_walk (a0 : Int) (a1 : Int) (a2 : ByteArray) (w : World) (w0 : (Lit.int .u64 a0).wf = true) (w1 : (Lit.int .u8 a1).wf = true) (h20 : a2.size ≤ 20) :
    Calls Try.prog 3 #[.int .u64 a0, .int .u8 a1, .string a2] w fun e w' => e = .returned (.bool true) ∧ Below w.heap.size w w' := by
  have hd0 : decide ((20 : Int) < (a2.size : Int)) = false := by simp; omega
  obtain ⟨b00, b01⟩ := bounds_u64 w0
  obtain ⟨b10, b11⟩ := bounds_u8 w1
  have bm0 : 0 ≤ a1 % 64 := by omega
  have bm1 : a1 % 64 < 64 := by omega
  go_enter Try.func3, Try.ntmps3
  go_wp2_with fail
  refine (known_any _).mono ?_
  rintro e w1 ⟨rfl, hM1⟩
  have HM1 := Lib.hid hM1
  clear hM1
  go_wp2_with fail
  obtain ⟨vn, hvn⟩ : ∃ vn : Nat, (vn : Int) = a0 / 2 ^ (a1 % 64).toNat := ⟨(a0 / 2 ^ (a1 % 64).toNat).toNat, by
    have : 0 ≤ a0 / 2 ^ (a1 % 64).toNat := Int.ediv_nonneg b00 (Int.le_of_lt (Int.pow_pos (by decide)))
    omega⟩
  have hv64 : vn < 18446744073709551616 := by
    have : a0 / 2 ^ (a1 % 64).toNat ≤ a0 := Int.ediv_le_self _ b00
    omega
  rw [← hvn]
  clear hvn bm0 bm1 b10 b11
  have hdl := decL_len20 vn hv64
  have hdl1 := (decL_len vn).1
  have hds := dec_size vn
  have HV := Lib.hid hv64
  refine (decimal_any vn w1 hv64).mono ?_
  rintro e w2 ⟨rfl, n2, rfl⟩
  have HM2 := Lib.hid (HM1.out.drewN n2)
  obtain ⟨W, hW⟩ : ∃ W, W = w1.drewN n2 := ⟨_, rfl⟩
  rw [← hW] at HM2 ⊢
  clear hW HM1 hv64 b00 b01 w0 w1
  obtain ⟨d, hdd⟩ : ∃ d, d = dec vn := ⟨_, rfl⟩
  have hdz : d.size ≤ 20 := by rw [hdd, hds]; exact hdl
  have HDD := Lib.hid hdd
  rw [← hdd]
  have hdz1 : 1 ≤ d.size := by rw [hdd, hds]; exact hdl1
  clear hdl hdl1 hds hdd
  have htail : (a2.size = 0) ∨ (∃ h : 0 < a2.size, 48 ≤ a2[0].toNat ∧ a2[0].toNat ≤ 57) ∨ (∃ h : 0 < a2.size, ¬ 48 ≤ a2[0].toNat) ∨ (∃ h : 0 < a2.size, 48 ≤ a2[0].toNat ∧ ¬ a2[0].toNat ≤ 57) := by
    by_cases h : 0 < a2.size
    · by_cases h1 : 48 ≤ a2[0].toNat
      · by_cases h2 : a2[0].toNat ≤ 57
        · exact Or.inr (Or.inl ⟨h, h1, h2⟩)
        · exact Or.inr (Or.inr (Or.inr ⟨h, h1, h2⟩))
      · exact Or.inr (Or.inr (Or.inl ⟨h, h1⟩))
    · exact Or.inl (by omega)
  rcases htail with h | ⟨h, h1, h2⟩ | ⟨h, h1⟩ | ⟨h, h1, h2⟩
  · have ht : Hid ((∀ c, (L a2).head? = some c → isD c = false) ∧ a2.size ≤ 21) := ⟨fun c hc => by
      have : L a2 = [] := List.length_eq_zero_iff.1 (by rw [L_len]; exact h)
      rw [this] at hc; simp at hc, by omega⟩
    have hn : ¬ (0 < a2.size) := by omega
    clear h
    go_wp2_with fail
    have hvn := HV.out
    have hsz : ∀ t : ByteArray, t.size ≤ 21 → (d ++ t).size ≤ 1099511627776 := fun t h => by rw [ByteArray.size_append]; omega
    refine (snew_any _ _ (hsz _ ht.out.2)).mono ?_
    clear hsz
    rintro e w3 ⟨rfl, h3, m3, z3⟩
    obtain ⟨g1, hg1⟩ : ∃ g1, g1 = W.heap.size := ⟨_, rfl⟩
    rw [← hg1] at h3 ⊢
    have hgw : w.heap.size ≤ g1 := by have := HM2.out.size; omega
    have HM3 := Lib.hid (HM2.out.trans m3 (fun _ _ h => h))
    have HZ3 := Lib.hid (And.intro z3 hg1)
    have H3 := Lib.hid h3
    clear h3 m3 z3 hg1
    go_wp2_with fail
    have hO1 := numOut_dec (most := vn) (by omega) vn _ ht.out.1
    rw [if_pos (Int.le_refl _), ← dec_L, ← HDD.out, ← app_L] at hO1
    refine (number_any _ _ _ _ _ _ _ H3.out ⟨by omega, by omega⟩).mono ?_
    rintro e w4 ⟨rfl, h4⟩
    rw [hO1] at h4 ⊢
    have hp := fun t => adv_dec d t vn (by rw [HDD.out, dec_L])
    have h4s := h4.sc
    rw [hp] at h4s
    have HM4 := Lib.hid (HM3.out.trans h4.mod (fun i hi h => by unfold OneB at h; omega))
    have H4 := Lib.hid h4s
    have hz4 : g1 < w4.heap.size := h4s.lt
    clear hO1 h4 hp h4s
    go_wp2_with fail
    refine (snew_any _ _ (by rw [ByteArray.size_append]; show 1 + d.size ≤ _; omega)).mono ?_
    rintro e w5 ⟨rfl, h5, m5, z5⟩
    obtain ⟨g2, hg2⟩ : ∃ g2, g2 = w4.heap.size := ⟨_, rfl⟩
    rw [← hg2] at h5 ⊢
    have hgg : g1 < g2 := by omega
    have HM5 := Lib.hid (HM4.out.trans m5 (fun _ _ h => h))
    have H45 := Lib.hid (H4.out.mod m5 (by simp [NoB]))
    have H5 := Lib.hid h5
    clear h5 m5 z5 hg2 hz4 H4
    go_wp2_with fail
    have hO2 := numOut_zero 18446744073709551615 vn
    rw [← dec_L, ← HDD.out, show (48 : UInt8) :: L d = L (ByteArray.mk #[48] ++ d) from (app_L (ByteArray.mk #[48]) d).symm] at hO2
    refine (number_any _ _ _ _ _ _ _ H5.out ⟨by decide, by decide⟩).mono ?_
    rintro e w6 ⟨rfl, h6⟩
    rw [hO2] at h6 ⊢
    have H46 := Lib.hid (H45.out.mod h6.mod (by unfold OneB; omega))
    have HM6 := Lib.hid (HM5.out.trans h6.mod (fun i hi h => by unfold OneB at h; omega))
    have H6 := Lib.hid h6.sc
    clear hO2 h6 H45 H5 H3 HM3 HM4 HM5 HZ3
    go_wp2_with fail
    refine (err_any _ _ _ _ _ _ H46.out).mono ?_
    rintro e w7 ⟨rfl, rfl⟩
    go_wp2_with fail
    refine (place_any _ _ _ _ _ _ H46.out).mono ?_
    rintro e w7 ⟨rfl, rfl⟩
    have hcomm : (1 : Int) + (d.size : Int) = (d.size : Int) + 1 := Int.add_comm _ _
    rw [hcomm]
    have HM7 := Lib.hid (HM6.out.alloc (.cells #[.int .i64 1, .int .i64 ((d.size : Int) + 1)] 31))
    have H67 := Lib.hid (H6.out.alloc (.cells #[.int .i64 1, .int .i64 ((d.size : Int) + 1)] 31))
    clear hcomm H6
    go_wp2_with fail
    refine (err_any _ _ _ _ _ _ H67.out).mono ?_
    rintro e w8 ⟨rfl, rfl⟩
    by_cases hv0 : vn = 0
    · have hb0 : ((vn : Int) == 0) = true := by simp [hv0]
      clear hv0
      go_wp2_with fail
      go_ret
      exact ⟨rfl, HM7.out.below (Nat.le_refl _) (by simp [NoB])⟩
    · have hb0 : ((vn : Int) == 0) = false := by simp; omega
      have hv1 : 1 ≤ (vn : Int) := by omega
      clear hv0
      go_wp2_with fail
      refine (snew_any _ _ (by omega)).mono ?_
      rintro e w9 ⟨rfl, h9, m9, z9⟩
      have hge : w.heap.size ≤ (w6.alloc (.cells #[.int .i64 1, .int .i64 ((d.size : Int) + 1)] 31)).heap.size := HM7.out.size
      obtain ⟨g3, hg3⟩ : ∃ g3, g3 = (w6.alloc (.cells #[.int .i64 1, .int .i64 ((d.size : Int) + 1)] 31)).heap.size := ⟨_, rfl⟩
      rw [← hg3] at h9 hge ⊢
      have HM9 := Lib.hid (HM7.out.trans m9 (fun _ _ h => h))
      have H9 := Lib.hid h9
      clear h9 m9 z9 hg3

      go_wp2_with fail
      have hO3 := numOut_dec (most := (vn : Int) - 1) (by omega) vn [] (by simp)
      rw [if_neg (by omega), List.append_nil, ← dec_L, ← HDD.out] at hO3
      refine (number_is 0 22 0 d 1 1 _ _ _ _ _ _ _ H9.out ⟨by omega, by omega⟩ hO3 (extract_zero _) rfl).mono ?_
      rintro e w10 ⟨rfl, h10, m10⟩
      have HM10 := Lib.hid (HM9.out.trans m10 (fun i hi h => by unfold OneB at h; omega))
      have H10 := Lib.hid h10
      clear h10 m10 hO3
      go_wp2_with fail
      refine (err_any _ _ _ _ _ _ H10.out).mono ?_
      rintro e w11 ⟨rfl, rfl⟩
      go_wp2_with fail
      refine (place_any _ _ _ _ _ _ H10.out).mono ?_
      rintro e w11 ⟨rfl, rfl⟩
      go_wp2_with fail
      go_ret
      exact ⟨rfl, (HM10.out.alloc _).below (Nat.le_refl _) (by simp [NoB])⟩
  · have ht : Hid ((∀ c, (L ((ByteArray.mk #[32]) ++ a2)).head? = some c → isD c = false) ∧ ((ByteArray.mk #[32]) ++ a2).size ≤ 21) := ⟨fun c hc => by
      rw [app_L] at hc
      have : c = 32 := by
        have h3 : L (ByteArray.mk #[32]) = [32] := rfl
        rw [h3] at hc; simpa using hc.symm
      subst this; decide, by rw [ByteArray.size_append]; show 1 + a2.size ≤ 21; omega⟩
    have h1' : (48 : Int) ≤ ((a2[0].toNat : Nat) : Int) := by omega
    have h2' : ((a2[0].toNat : Nat) : Int) ≤ 57 := by omega
    clear h1 h2
    go_wp2_with fail
    have hvn := HV.out
    have hsz : ∀ t : ByteArray, t.size ≤ 21 → (d ++ t).size ≤ 1099511627776 := fun t h => by rw [ByteArray.size_append]; omega
    refine (snew_any _ _ (hsz _ ht.out.2)).mono ?_
    clear hsz
    rintro e w3 ⟨rfl, h3, m3, z3⟩
    obtain ⟨g1, hg1⟩ : ∃ g1, g1 = W.heap.size := ⟨_, rfl⟩
    rw [← hg1] at h3 ⊢
    have hgw : w.heap.size ≤ g1 := by have := HM2.out.size; omega
    have HM3 := Lib.hid (HM2.out.trans m3 (fun _ _ h => h))
    have HZ3 := Lib.hid (And.intro z3 hg1)
    have H3 := Lib.hid h3
    clear h3 m3 z3 hg1
    go_wp2_with fail
    have hO1 := numOut_dec (most := vn) (by omega) vn _ ht.out.1
    rw [if_pos (Int.le_refl _), ← dec_L, ← HDD.out, ← app_L] at hO1
    refine (number_any _ _ _ _ _ _ _ H3.out ⟨by omega, by omega⟩).mono ?_
    rintro e w4 ⟨rfl, h4⟩
    rw [hO1] at h4 ⊢
    have hp := fun t => adv_dec d t vn (by rw [HDD.out, dec_L])
    have h4s := h4.sc
    rw [hp] at h4s
    have HM4 := Lib.hid (HM3.out.trans h4.mod (fun i hi h => by unfold OneB at h; omega))
    have H4 := Lib.hid h4s
    have hz4 : g1 < w4.heap.size := h4s.lt
    clear hO1 h4 hp h4s
    go_wp2_with fail
    refine (snew_any _ _ (by rw [ByteArray.size_append]; show 1 + d.size ≤ _; omega)).mono ?_
    rintro e w5 ⟨rfl, h5, m5, z5⟩
    obtain ⟨g2, hg2⟩ : ∃ g2, g2 = w4.heap.size := ⟨_, rfl⟩
    rw [← hg2] at h5 ⊢
    have hgg : g1 < g2 := by omega
    have HM5 := Lib.hid (HM4.out.trans m5 (fun _ _ h => h))
    have H45 := Lib.hid (H4.out.mod m5 (by simp [NoB]))
    have H5 := Lib.hid h5
    clear h5 m5 z5 hg2 hz4 H4
    go_wp2_with fail
    have hO2 := numOut_zero 18446744073709551615 vn
    rw [← dec_L, ← HDD.out, show (48 : UInt8) :: L d = L (ByteArray.mk #[48] ++ d) from (app_L (ByteArray.mk #[48]) d).symm] at hO2
    refine (number_any _ _ _ _ _ _ _ H5.out ⟨by decide, by decide⟩).mono ?_
    rintro e w6 ⟨rfl, h6⟩
    rw [hO2] at h6 ⊢
    have H46 := Lib.hid (H45.out.mod h6.mod (by unfold OneB; omega))
    have HM6 := Lib.hid (HM5.out.trans h6.mod (fun i hi h => by unfold OneB at h; omega))
    have H6 := Lib.hid h6.sc
    clear hO2 h6 H45 H5 H3 HM3 HM4 HM5 HZ3
    go_wp2_with fail
    refine (err_any _ _ _ _ _ _ H46.out).mono ?_
    rintro e w7 ⟨rfl, rfl⟩
    go_wp2_with fail
    refine (place_any _ _ _ _ _ _ H46.out).mono ?_
    rintro e w7 ⟨rfl, rfl⟩
    have hcomm : (1 : Int) + (d.size : Int) = (d.size : Int) + 1 := Int.add_comm _ _
    rw [hcomm]
    have HM7 := Lib.hid (HM6.out.alloc (.cells #[.int .i64 1, .int .i64 ((d.size : Int) + 1)] 31))
    have H67 := Lib.hid (H6.out.alloc (.cells #[.int .i64 1, .int .i64 ((d.size : Int) + 1)] 31))
    clear hcomm H6
    go_wp2_with fail
    refine (err_any _ _ _ _ _ _ H67.out).mono ?_
    rintro e w8 ⟨rfl, rfl⟩
    by_cases hv0 : vn = 0
    · have hb0 : ((vn : Int) == 0) = true := by simp [hv0]
      clear hv0
      go_wp2_with fail
      go_ret
      exact ⟨rfl, HM7.out.below (Nat.le_refl _) (by simp [NoB])⟩
    · have hb0 : ((vn : Int) == 0) = false := by simp; omega
      have hv1 : 1 ≤ (vn : Int) := by omega
      clear hv0
      go_wp2_with fail
      refine (snew_any _ _ (by omega)).mono ?_
      rintro e w9 ⟨rfl, h9, m9, z9⟩
      have hge : w.heap.size ≤ (w6.alloc (.cells #[.int .i64 1, .int .i64 ((d.size : Int) + 1)] 31)).heap.size := HM7.out.size
      obtain ⟨g3, hg3⟩ : ∃ g3, g3 = (w6.alloc (.cells #[.int .i64 1, .int .i64 ((d.size : Int) + 1)] 31)).heap.size := ⟨_, rfl⟩
      rw [← hg3] at h9 hge ⊢
      have HM9 := Lib.hid (HM7.out.trans m9 (fun _ _ h => h))
      have H9 := Lib.hid h9
      clear h9 m9 z9 hg3

      go_wp2_with fail
      have hO3 := numOut_dec (most := (vn : Int) - 1) (by omega) vn [] (by simp)
      rw [if_neg (by omega), List.append_nil, ← dec_L, ← HDD.out] at hO3
      refine (number_is 0 22 0 d 1 1 _ _ _ _ _ _ _ H9.out ⟨by omega, by omega⟩ hO3 (extract_zero _) rfl).mono ?_
      rintro e w10 ⟨rfl, h10, m10⟩
      have HM10 := Lib.hid (HM9.out.trans m10 (fun i hi h => by unfold OneB at h; omega))
      have H10 := Lib.hid h10
      clear h10 m10 hO3
      go_wp2_with fail
      refine (err_any _ _ _ _ _ _ H10.out).mono ?_
      rintro e w11 ⟨rfl, rfl⟩
      go_wp2_with fail
      refine (place_any _ _ _ _ _ _ H10.out).mono ?_
      rintro e w11 ⟨rfl, rfl⟩
      go_wp2_with fail
      go_ret
      exact ⟨rfl, (HM10.out.alloc _).below (Nat.le_refl _) (by simp [NoB])⟩
  · have ht : Hid ((∀ c, (L a2).head? = some c → isD c = false) ∧ a2.size ≤ 21) := ⟨fun c hc => by
      have h3 : (L a2)[0]? = some a2[0] := at_byte a2 0 h
      rw [List.head?_eq_getElem?, h3] at hc
      have := Option.some.inj hc
      subst this; simp [isD]; omega, by omega⟩
    have h1' : ¬ ((48 : Int) ≤ ((a2[0].toNat : Nat) : Int)) := by omega
    clear h1
    go_wp2_with fail
    have hvn := HV.out
    have hsz : ∀ t : ByteArray, t.size ≤ 21 → (d ++ t).size ≤ 1099511627776 := fun t h => by rw [ByteArray.size_append]; omega
    refine (snew_any _ _ (hsz _ ht.out.2)).mono ?_
    clear hsz
    rintro e w3 ⟨rfl, h3, m3, z3⟩
    obtain ⟨g1, hg1⟩ : ∃ g1, g1 = W.heap.size := ⟨_, rfl⟩
    rw [← hg1] at h3 ⊢
    have hgw : w.heap.size ≤ g1 := by have := HM2.out.size; omega
    have HM3 := Lib.hid (HM2.out.trans m3 (fun _ _ h => h))
    have HZ3 := Lib.hid (And.intro z3 hg1)
    have H3 := Lib.hid h3
    clear h3 m3 z3 hg1
    go_wp2_with fail
    have hO1 := numOut_dec (most := vn) (by omega) vn _ ht.out.1
    rw [if_pos (Int.le_refl _), ← dec_L, ← HDD.out, ← app_L] at hO1
    refine (number_any _ _ _ _ _ _ _ H3.out ⟨by omega, by omega⟩).mono ?_
    rintro e w4 ⟨rfl, h4⟩
    rw [hO1] at h4 ⊢
    have hp := fun t => adv_dec d t vn (by rw [HDD.out, dec_L])
    have h4s := h4.sc
    rw [hp] at h4s
    have HM4 := Lib.hid (HM3.out.trans h4.mod (fun i hi h => by unfold OneB at h; omega))
    have H4 := Lib.hid h4s
    have hz4 : g1 < w4.heap.size := h4s.lt
    clear hO1 h4 hp h4s
    go_wp2_with fail
    refine (snew_any _ _ (by rw [ByteArray.size_append]; show 1 + d.size ≤ _; omega)).mono ?_
    rintro e w5 ⟨rfl, h5, m5, z5⟩
    obtain ⟨g2, hg2⟩ : ∃ g2, g2 = w4.heap.size := ⟨_, rfl⟩
    rw [← hg2] at h5 ⊢
    have hgg : g1 < g2 := by omega
    have HM5 := Lib.hid (HM4.out.trans m5 (fun _ _ h => h))
    have H45 := Lib.hid (H4.out.mod m5 (by simp [NoB]))
    have H5 := Lib.hid h5
    clear h5 m5 z5 hg2 hz4 H4
    go_wp2_with fail
    have hO2 := numOut_zero 18446744073709551615 vn
    rw [← dec_L, ← HDD.out, show (48 : UInt8) :: L d = L (ByteArray.mk #[48] ++ d) from (app_L (ByteArray.mk #[48]) d).symm] at hO2
    refine (number_any _ _ _ _ _ _ _ H5.out ⟨by decide, by decide⟩).mono ?_
    rintro e w6 ⟨rfl, h6⟩
    rw [hO2] at h6 ⊢
    have H46 := Lib.hid (H45.out.mod h6.mod (by unfold OneB; omega))
    have HM6 := Lib.hid (HM5.out.trans h6.mod (fun i hi h => by unfold OneB at h; omega))
    have H6 := Lib.hid h6.sc
    clear hO2 h6 H45 H5 H3 HM3 HM4 HM5 HZ3
    go_wp2_with fail
    refine (err_any _ _ _ _ _ _ H46.out).mono ?_
    rintro e w7 ⟨rfl, rfl⟩
    go_wp2_with fail
    refine (place_any _ _ _ _ _ _ H46.out).mono ?_
    rintro e w7 ⟨rfl, rfl⟩
    have hcomm : (1 : Int) + (d.size : Int) = (d.size : Int) + 1 := Int.add_comm _ _
    rw [hcomm]
    have HM7 := Lib.hid (HM6.out.alloc (.cells #[.int .i64 1, .int .i64 ((d.size : Int) + 1)] 31))
    have H67 := Lib.hid (H6.out.alloc (.cells #[.int .i64 1, .int .i64 ((d.size : Int) + 1)] 31))
    clear hcomm H6
    go_wp2_with fail
    refine (err_any _ _ _ _ _ _ H67.out).mono ?_
    rintro e w8 ⟨rfl, rfl⟩
    by_cases hv0 : vn = 0
    · have hb0 : ((vn : Int) == 0) = true := by simp [hv0]
      clear hv0
      go_wp2_with fail
      go_ret
      exact ⟨rfl, HM7.out.below (Nat.le_refl _) (by simp [NoB])⟩
    · have hb0 : ((vn : Int) == 0) = false := by simp; omega
      have hv1 : 1 ≤ (vn : Int) := by omega
      clear hv0
      go_wp2_with fail
      refine (snew_any _ _ (by omega)).mono ?_
      rintro e w9 ⟨rfl, h9, m9, z9⟩
      have hge : w.heap.size ≤ (w6.alloc (.cells #[.int .i64 1, .int .i64 ((d.size : Int) + 1)] 31)).heap.size := HM7.out.size
      obtain ⟨g3, hg3⟩ : ∃ g3, g3 = (w6.alloc (.cells #[.int .i64 1, .int .i64 ((d.size : Int) + 1)] 31)).heap.size := ⟨_, rfl⟩
      rw [← hg3] at h9 hge ⊢
      have HM9 := Lib.hid (HM7.out.trans m9 (fun _ _ h => h))
      have H9 := Lib.hid h9
      clear h9 m9 z9 hg3

      go_wp2_with fail
      have hO3 := numOut_dec (most := (vn : Int) - 1) (by omega) vn [] (by simp)
      rw [if_neg (by omega), List.append_nil, ← dec_L, ← HDD.out] at hO3
      refine (number_is 0 22 0 d 1 1 _ _ _ _ _ _ _ H9.out ⟨by omega, by omega⟩ hO3 (extract_zero _) rfl).mono ?_
      rintro e w10 ⟨rfl, h10, m10⟩
      have HM10 := Lib.hid (HM9.out.trans m10 (fun i hi h => by unfold OneB at h; omega))
      have H10 := Lib.hid h10
      clear h10 m10 hO3
      go_wp2_with fail
      refine (err_any _ _ _ _ _ _ H10.out).mono ?_
      rintro e w11 ⟨rfl, rfl⟩
      go_wp2_with fail
      refine (place_any _ _ _ _ _ _ H10.out).mono ?_
      rintro e w11 ⟨rfl, rfl⟩
      go_wp2_with fail
      go_ret
      exact ⟨rfl, (HM10.out.alloc _).below (Nat.le_refl _) (by simp [NoB])⟩
  · have ht : Hid ((∀ c, (L a2).head? = some c → isD c = false) ∧ a2.size ≤ 21) := ⟨fun c hc => by
      have h3 : (L a2)[0]? = some a2[0] := at_byte a2 0 h
      rw [List.head?_eq_getElem?, h3] at hc
      have := Option.some.inj hc
      subst this; simp [isD]; omega, by omega⟩
    have h1' : (48 : Int) ≤ ((a2[0].toNat : Nat) : Int) := by omega
    have h2' : ¬ (((a2[0].toNat : Nat) : Int) ≤ 57) := by omega
    clear h1 h2
    go_wp2_with fail
    have hvn := HV.out
    have hsz : ∀ t : ByteArray, t.size ≤ 21 → (d ++ t).size ≤ 1099511627776 := fun t h => by rw [ByteArray.size_append]; omega
    refine (snew_any _ _ (hsz _ ht.out.2)).mono ?_
    clear hsz
    rintro e w3 ⟨rfl, h3, m3, z3⟩
    obtain ⟨g1, hg1⟩ : ∃ g1, g1 = W.heap.size := ⟨_, rfl⟩
    rw [← hg1] at h3 ⊢
    have hgw : w.heap.size ≤ g1 := by have := HM2.out.size; omega
    have HM3 := Lib.hid (HM2.out.trans m3 (fun _ _ h => h))
    have HZ3 := Lib.hid (And.intro z3 hg1)
    have H3 := Lib.hid h3
    clear h3 m3 z3 hg1
    go_wp2_with fail
    have hO1 := numOut_dec (most := vn) (by omega) vn _ ht.out.1
    rw [if_pos (Int.le_refl _), ← dec_L, ← HDD.out, ← app_L] at hO1
    refine (number_any _ _ _ _ _ _ _ H3.out ⟨by omega, by omega⟩).mono ?_
    rintro e w4 ⟨rfl, h4⟩
    rw [hO1] at h4 ⊢
    have hp := fun t => adv_dec d t vn (by rw [HDD.out, dec_L])
    have h4s := h4.sc
    rw [hp] at h4s
    have HM4 := Lib.hid (HM3.out.trans h4.mod (fun i hi h => by unfold OneB at h; omega))
    have H4 := Lib.hid h4s
    have hz4 : g1 < w4.heap.size := h4s.lt
    clear hO1 h4 hp h4s
    go_wp2_with fail
    refine (snew_any _ _ (by rw [ByteArray.size_append]; show 1 + d.size ≤ _; omega)).mono ?_
    rintro e w5 ⟨rfl, h5, m5, z5⟩
    obtain ⟨g2, hg2⟩ : ∃ g2, g2 = w4.heap.size := ⟨_, rfl⟩
    rw [← hg2] at h5 ⊢
    have hgg : g1 < g2 := by omega
    have HM5 := Lib.hid (HM4.out.trans m5 (fun _ _ h => h))
    have H45 := Lib.hid (H4.out.mod m5 (by simp [NoB]))
    have H5 := Lib.hid h5
    clear h5 m5 z5 hg2 hz4 H4
    go_wp2_with fail
    have hO2 := numOut_zero 18446744073709551615 vn
    rw [← dec_L, ← HDD.out, show (48 : UInt8) :: L d = L (ByteArray.mk #[48] ++ d) from (app_L (ByteArray.mk #[48]) d).symm] at hO2
    refine (number_any _ _ _ _ _ _ _ H5.out ⟨by decide, by decide⟩).mono ?_
    rintro e w6 ⟨rfl, h6⟩
    rw [hO2] at h6 ⊢
    have H46 := Lib.hid (H45.out.mod h6.mod (by unfold OneB; omega))
    have HM6 := Lib.hid (HM5.out.trans h6.mod (fun i hi h => by unfold OneB at h; omega))
    have H6 := Lib.hid h6.sc
    clear hO2 h6 H45 H5 H3 HM3 HM4 HM5 HZ3
    go_wp2_with fail
    refine (err_any _ _ _ _ _ _ H46.out).mono ?_
    rintro e w7 ⟨rfl, rfl⟩
    go_wp2_with fail
    refine (place_any _ _ _ _ _ _ H46.out).mono ?_
    rintro e w7 ⟨rfl, rfl⟩
    have hcomm : (1 : Int) + (d.size : Int) = (d.size : Int) + 1 := Int.add_comm _ _
    rw [hcomm]
    have HM7 := Lib.hid (HM6.out.alloc (.cells #[.int .i64 1, .int .i64 ((d.size : Int) + 1)] 31))
    have H67 := Lib.hid (H6.out.alloc (.cells #[.int .i64 1, .int .i64 ((d.size : Int) + 1)] 31))
    clear hcomm H6
    go_wp2_with fail
    refine (err_any _ _ _ _ _ _ H67.out).mono ?_
    rintro e w8 ⟨rfl, rfl⟩
    by_cases hv0 : vn = 0
    · have hb0 : ((vn : Int) == 0) = true := by simp [hv0]
      clear hv0
      go_wp2_with fail
      go_ret
      exact ⟨rfl, HM7.out.below (Nat.le_refl _) (by simp [NoB])⟩
    · have hb0 : ((vn : Int) == 0) = false := by simp; omega
      have hv1 : 1 ≤ (vn : Int) := by omega
      clear hv0
      go_wp2_with fail
      refine (snew_any _ _ (by omega)).mono ?_
      rintro e w9 ⟨rfl, h9, m9, z9⟩
      have hge : w.heap.size ≤ (w6.alloc (.cells #[.int .i64 1, .int .i64 ((d.size : Int) + 1)] 31)).heap.size := HM7.out.size
      obtain ⟨g3, hg3⟩ : ∃ g3, g3 = (w6.alloc (.cells #[.int .i64 1, .int .i64 ((d.size : Int) + 1)] 31)).heap.size := ⟨_, rfl⟩
      rw [← hg3] at h9 hge ⊢
      have HM9 := Lib.hid (HM7.out.trans m9 (fun _ _ h => h))
      have H9 := Lib.hid h9
      clear h9 m9 z9 hg3

      go_wp2_with fail
      have hO3 := numOut_dec (most := (vn : Int) - 1) (by omega) vn [] (by simp)
      rw [if_neg (by omega), List.append_nil, ← dec_L, ← HDD.out] at hO3
      refine (number_is 0 22 0 d 1 1 _ _ _ _ _ _ _ H9.out ⟨by omega, by omega⟩ hO3 (extract_zero _) rfl).mono ?_
      rintro e w10 ⟨rfl, h10, m10⟩
      have HM10 := Lib.hid (HM9.out.trans m10 (fun i hi h => by unfold OneB at h; omega))
      have H10 := Lib.hid h10
      clear h10 m10 hO3
      go_wp2_with fail
      refine (err_any _ _ _ _ _ _ H10.out).mono ?_
      rintro e w11 ⟨rfl, rfl⟩
      go_wp2_with fail
      refine (place_any _ _ _ _ _ _ H10.out).mono ?_
      rintro e w11 ⟨rfl, rfl⟩
      go_wp2_with fail
      go_ret
      exact ⟨rfl, (HM10.out.alloc _).below (Nat.le_refl _) (by simp [NoB])⟩

set_option maxRecDepth 100000 in
theorem numbers_all (a0 : Int) (a1 : Int) (a2 : ByteArray) (w0 : (Lit.int .u64 a0).wf = true) (w1 : (Lit.int .u8 a1).wf = true) (w2 : a2.size ≤ maxLen) (w : World) :
    Calls Try.prog 3 #[.int .u64 a0, .int .u8 a1, .string a2] w fun e w' => e = .returned (.bool true) ∧ Below w.heap.size w w' := by
  by_cases h20 : a2.size ≤ 20
  · exact numbers_walk a0 a1 a2 w w0 w1 h20
  · have hd0 : decide ((20 : Int) < (a2.size : Int)) = true := by simp; omega
    go_enter Try.func3, Try.ntmps3
    go_wp2_with fail
    refine (known_any _).mono ?_
    rintro e w1 ⟨rfl, hM1⟩
    go_wp2_with fail
    go_ret
    exact ⟨rfl, hM1.below (Nat.le_refl _) (by simp [NoB])⟩
end Go.Proofs.Ytekbiaphnpnpgaa
