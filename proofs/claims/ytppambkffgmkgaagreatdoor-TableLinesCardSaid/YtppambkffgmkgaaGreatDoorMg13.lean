/- Merged: Dec ScanNu LgS -/
import Derived.Test.YtppambkffgmkgaaGreatDoorMg12
import Derived.Test.YtppambkffgmkgaaGreatDoorMg09
import Derived.Test.YtppambkffgmkgaaGreatDoorMg11
section
/- The contract of the reference's Decimal. -/
namespace Go.Proofs.YtppambkffgmkgaaGreatDoor
open Go.RowKit
set_option linter.unusedVariables false

/-- The digits of a number. -/
def decL (n : Nat) : List UInt8 := if n < 10 then [UInt8.ofNat (48 + n)] else decL (n / 10) ++ [UInt8.ofNat (48 + n % 10)]
def dec (n : Nat) : ByteArray := ⟨(decL n).toArray⟩
def tenS : ByteArray := ⟨#[48, 49, 50, 51, 52, 53, 54, 55, 56, 57]⟩

theorem decL_small {n : Nat} (h : n < 10) : decL n = [UInt8.ofNat (48 + n)] := by rw [decL, if_pos h]
theorem decL_big {n : Nat} (h : ¬ n < 10) : decL n = decL (n / 10) ++ [UInt8.ofNat (48 + n % 10)] := by rw [decL, if_neg h]
theorem ten_extract {n : Nat} (h : n < 10) : tenS.extract n (n + 1) = ⟨#[UInt8.ofNat (48 + n)]⟩ := by
  rcases (by omega : n = 0 ∨ n = 1 ∨ n = 2 ∨ n = 3 ∨ n = 4 ∨ n = 5 ∨ n = 6 ∨ n = 7 ∨ n = 8 ∨ n = 9) with rfl | rfl | rfl | rfl | rfl | rfl | rfl | rfl | rfl | rfl <;> rfl
theorem dec_small {n : Nat} (h : n < 10) : dec n = tenS.extract n (n + 1) := by rw [ten_extract h, dec, decL_small h]
theorem dec_big {n : Nat} (h : ¬ n < 10) : dec n = dec (n / 10) ++ tenS.extract (n % 10) (n % 10 + 1) := by
  rw [ten_extract (Nat.mod_lt _ (by decide)), dec, decL_big h]
  apply ByteArray.ext
  simp [dec]

theorem decL_len (n : Nat) : 1 ≤ (decL n).length ∧ (decL n).length ≤ n + 1 := by
  induction n using Nat.strongRecOn with
  | _ n ih =>
    by_cases h : n < 10
    · rw [decL_small h]; simp
    · rw [decL_big h]
      have := ih (n / 10) (by omega)
      simp only [List.length_append, List.length_singleton]
      omega
theorem dec_size (n : Nat) : (dec n).size = (decL n).length := by simp [dec, ByteArray.size]

theorem decimal_any (n : Nat) : ∀ (w : World), n < 18446744073709551616 → Calls Tryz.prog 29 #[.int .u64 n] w fun e w' => e = .returned (.string (dec n)) ∧ ∃ m, w' = w.drewN m := by
  induction n using Nat.strongRecOn with
  | _ n ih =>
    intro w hn
    by_cases h : n < 10
    · rw [dec_small h]
      have h1 : (n : Int) < 10 := by omega
      go_enter Tryz.func29, Tryz.ntmps29
      go_wp2_with fail
      go_ret
      exact ⟨rfl, 0, rfl⟩
    · rw [dec_big h]
      have h1 : ¬ ((n : Int) < 10) := by omega
      have ih' := fun w => ih (n / 10) (by omega) w (by omega)
      have e1 : ((n / 10 : Nat) : Int) = (n : Int) / 10 := by omega
      rw [e1] at ih'
      have HI := Lib.hid ih'
      have q0 : (0 : Int) ≤ (n : Int) % 10 := by omega
      have q1 : (n : Int) % 10 < 10 := by omega
      have q2 : ((n : Int) % 10).toNat = n % 10 := by omega
      have q3 : IntKind.u64.wrap ((n : Int) % 10 + 1) = (n : Int) % 10 + 1 := by rw [IntKind.wrap_u64]; omega
      have q4 : ((n : Int) % 10 + 1).toNat = n % 10 + 1 := by omega
      have q5 : IntKind.u64.wrap ((n : Int) / 10) = (n : Int) / 10 := by rw [IntKind.wrap_u64]; omega
      have hsl : ∀ W : World, (Instr.slice 9 (.string ⟨#[48, 49, 50, 51, 52, 53, 54, 55, 56, 57]⟩) (some (.int .u64 ((n : Int) % 10))) (some (.int .u64 ((n : Int) % 10 + 1))) none).run Tryz.prog W = .ok (.string (tenS.extract (n % 10) (n % 10 + 1))) W := fun W => by
        have h9 := run_slice_string (P := Tryz.prog) (w := W) 9 tenS .u64 .u64 ((n : Int) % 10) ((n : Int) % 10 + 1) Tryz.underlying9 q0 (by omega) (by show (n : Int) % 10 + 1 ≤ 10; omega)
        rw [q2, q4] at h9
        exact h9
      have q7 : (n : Int).tmod 10 = (n : Int) % 10 := Int.tmod_eq_emod_of_nonneg (by omega)
      have hadd : ∀ W : World, (Op.stringOp .add (dec (n / 10)) (tenS.extract (n % 10) (n % 10 + 1))).run Tryz.prog W = .ok (.string (dec (n / 10) ++ tenS.extract (n % 10) (n % 10 + 1))) W := fun W =>
        run_string_add_sum W _ _ (by
          have h9 := decL_len (n / 10)
          rw [dec_size, ten_extract (Nat.mod_lt _ (by decide))]
          show (decL (n / 10)).length + 1 ≤ _
          omega)
      clear ih ih' e1 hn q2 q4
      go_enter Tryz.func29, Tryz.ntmps29
      go_wp2_with fail
      go_quiet ((go_at_call 29; exact quietD (HI.out _)))
      go_wp2_with fail
      go_ret
      exact ⟨rfl, _, rfl⟩
end Go.Proofs.YtppambkffgmkgaaGreatDoor
end

section
/- The law ScanNumbers: the walk. -/
namespace Go.Proofs.YtppambkffgmkgaaGreatDoor
open Go.RowKit
set_option linter.unusedVariables false

/-! ### What the digits of a number are good for -/
theorem digit_ofNat {d : Nat} (h : d < 10) : (UInt8.ofNat (48 + d)).toNat = 48 + d := UInt8.toNat_ofNat_of_lt' (by show 48 + d < 256; omega)
theorem isD_ofNat {d : Nat} (h : d < 10) : isD (UInt8.ofNat (48 + d)) = true := by simp only [isD, digit_ofNat h]; simp; omega
theorem dv_ofNat {d : Nat} (h : d < 10) : dv (UInt8.ofNat (48 + d)) = d := by unfold dv; rw [digit_ofNat h]; omega
theorem decL_digits (n : Nat) : ∀ c ∈ decL n, isD c = true := by
  induction n using Nat.strongRecOn with
  | _ n ih =>
    by_cases h : n < 10
    · rw [decL_small h]; intro c hc; rw [List.mem_singleton] at hc; subst hc; exact isD_ofNat h
    · rw [decL_big h]; intro c hc
      rcases List.mem_append.1 hc with hc | hc
      · exact ih _ (by omega) c hc
      · rw [List.mem_singleton] at hc; subst hc; exact isD_ofNat (Nat.mod_lt n (by decide))
theorem decL_value (most : Int) (h0 : 0 ≤ most) (n : Nat) : valof most (decL n) 0 = if (n : Int) ≤ most then some (n : Int) else none := by
  induction n using Nat.strongRecOn with
  | _ n ih =>
    by_cases h : n < 10
    · rw [decL_small h]
      simp only [valof, dv_ofNat h]
      by_cases h1 : (n : Int) ≤ most
      · rw [if_neg (by omega), if_pos h1]; simp
      · rw [if_pos (by omega), if_neg h1]
    · rw [decL_big h, valof_snoc, ih _ (by omega)]
      have hd : n % 10 < 10 := Nat.mod_lt _ (by decide)
      by_cases h1 : ((n / 10 : Nat) : Int) ≤ most
      · rw [if_pos h1]
        simp only [Option.bind_some, dv_ofNat hd]
        by_cases h2 : (n : Int) ≤ most
        · rw [if_neg (by omega), if_pos h2]; congr 1; omega
        · rw [if_pos (by omega), if_neg h2]
      · rw [if_neg h1, if_neg (by omega)]; rfl
theorem head_app {l r : List UInt8} (h : l ≠ []) : (l ++ r).head? = l.head? := by
  cases l with
  | nil => exact absurd rfl h
  | cons a l => rfl
theorem decL_head (n : Nat) (h : 0 < n) : (decL n).head? ≠ some 48 := by
  induction n using Nat.strongRecOn with
  | _ n ih =>
    by_cases h1 : n < 10
    · rw [decL_small h1]
      simp only [List.head?_cons, ne_eq, Option.some.injEq]
      intro e
      have := congrArg UInt8.toNat e
      rw [digit_ofNat h1] at this
      simp at this; omega
    · rw [decL_big h1]
      have hne : decL (n / 10) ≠ [] := fun e => by have := (decL_len (n / 10)).1; rw [e] at this; simp at this
      rw [head_app hne]
      exact ih _ (by omega) (by omega)
theorem takeWhile_app {α : Type} (p : α → Bool) : ∀ (l r : List α), (∀ c ∈ l, p c = true) → (∀ c, r.head? = some c → p c = false) → (l ++ r).takeWhile p = l
  | [], [], _, _ => rfl
  | [], a :: r, _, h => by simp [h a rfl]
  | a :: l, r, h1, h2 => by
    simp only [List.cons_append, List.takeWhile_cons, h1 a (by simp), if_true, List.cons.injEq, true_and]
    exact takeWhile_app p l r (fun c hc => h1 c (by simp [hc])) h2

theorem numOut_dec {most : Int} (h0 : 0 ≤ most) (n : Nat) (r : List UInt8) (hr : ∀ c, r.head? = some c → isD c = false) :
    numOut most (decL n ++ r) 0 = if (n : Int) ≤ most then ((n : Int), 0, (decL n).length) else (0, 22, 0) := by
  have ht : (decL n ++ r).takeWhile isD = decL n := takeWhile_app isD _ _ (decL_digits n) hr
  have hne : decL n ≠ [] := fun e => by have := (decL_len n).1; rw [e] at this; simp at this
  have hE : numErr (decL n ++ r) = 0 := by
    unfold numErr
    rw [if_neg (by simp [hne]), ht, if_neg]
    rintro (h | ⟨h1, h2⟩)
    · exact hne (List.length_eq_zero_iff.1 h)
    · rw [head_app hne] at h2
      by_cases hn : n = 0
      · subst hn; rw [decL_small (by decide)] at h1; simp at h1
      · exact decL_head n (by omega) h2
  unfold numOut
  rw [if_neg (by simp), if_neg (by simp [hE]), ht, decL_value most h0]
  by_cases h : (n : Int) ≤ most
  · rw [if_pos h, if_pos h]
  · rw [if_neg h, if_neg h]

theorem numOut_zero (most : Int) (n : Nat) : numOut most (48 :: decL n) 0 = (0, 21, 0) := by
  have ht : (48 :: decL n).takeWhile isD = 48 :: decL n := by
    have := takeWhile_app isD (48 :: decL n) [] (fun c hc => by
      rcases List.mem_cons.1 hc with rfl | hc
      · decide
      · exact decL_digits n c hc) (by simp)
    simpa using this
  have hE : numErr (48 :: decL n) = 21 := by
    unfold numErr
    rw [if_neg (by simp), ht, if_pos]
    right
    have := (decL_len n).1
    simp; omega
  unfold numOut
  rw [if_neg (by simp), if_pos (by simp [hE]), hE]

theorem adv_digits (p : Int × Int) : ∀ (l : List UInt8), (∀ c ∈ l, isD c = true) → adv p l = (p.1, p.2 + l.length)
  | [], _ => by simp [adv]
  | c :: l, h => by
    have hc := h c (by simp)
    simp [isD] at hc
    simp only [adv]
    rw [if_neg (by omega), adv_digits _ l (fun d hd => h d (by simp [hd]))]
    simp; omega

theorem dec_L (n : Nat) : L (dec n) = decL n := by simp [L, dec]
theorem app_L (a b : ByteArray) : L (a ++ b) = L a ++ L b := by simp [L, ByteArray.data_append]

/-- The tail that keeps a number's digits apart. -/
theorem sadd {P : Program} (a b : ByteArray) (h : a.size + b.size ≤ 9223372036854775807) : ∀ W : World, (Op.stringOp .add a b).run P W = .ok (.string (a ++ b)) W := fun W => run_string_add_sum W a b h
theorem decL_len20 (n : Nat) (h : n < 18446744073709551616) : (decL n).length ≤ 20 := by
  have key : ∀ (k n : Nat), n < 10 ^ k → (decL n).length ≤ k + 1 := by
    intro k
    induction k with
    | zero => intro n hn; have : n = 0 := by simpa using hn
              subst this; rw [decL_small (by decide)]; simp
    | succ k ih =>
      intro n hn
      by_cases h1 : n < 10
      · rw [decL_small h1]; simp
      · rw [decL_big h1]
        have := ih (n / 10) (by rw [Nat.pow_succ] at hn; omega)
        simp; omega
  have key2 : ∀ (k n : Nat), 0 < k → n < 10 ^ k → (decL n).length ≤ k := by
    intro k
    induction k with
    | zero => intro n hk; omega
    | succ k ih =>
      intro n hk hn
      by_cases h1 : n < 10
      · rw [decL_small h1]; simp
      · rw [decL_big h1]
        by_cases hk0 : k = 0
        · subst hk0; simp at hn; omega
        · have := ih (n / 10) (by omega) (by rw [Nat.pow_succ] at hn; omega)
          simp; omega
  exact key2 20 n (by decide) (by omega)

theorem adv_dec (d t : ByteArray) (n : Nat) (hd : L d = decL n) : advK 1 1 (d ++ t) (L d).length = (1, 1 + (d.size : Int)) := by
  unfold advK
  rw [show (d ++ t).data.toList = L d ++ L t from app_L _ _, List.take_left, adv_digits _ _ (by rw [hd]; exact decL_digits n), L_len]

end Go.Proofs.YtppambkffgmkgaaGreatDoor
end

section
/- Both scanners as one plain state; their calls in its words. -/
namespace Go.Proofs.YtppambkffgmkgaaGreatDoor
open Go.RowKit
set_option linter.unusedVariables false

/-- What a scanner is: the text that is left, the place, the error. -/
structure SS where
  l : List UInt8
  p : Int × Int
  er : Int
def SS.go (st : SS) (n : Nat) (er : Int) : SS := ⟨st.l.drop n, adv st.p (st.l.take n), er⟩
def numS (most : Int) (st : SS) : Int × SS := ((numOut most st.l st.er).1, st.go (numOut most st.l st.er).2.2 (numOut most st.l st.er).2.1)
def wordS (u : List UInt8) (st : SS) : Bool × SS := ((wordOut u st.l st.er).1, st.go (wordOut u st.l st.er).2.2 (wordOut u st.l st.er).2.1)
def nextS (st : SS) : Option UInt8 := if st.er = 0 then st.l.head? else none
def nb (o : Option UInt8) : Int := match o with | some c => (c.toNat : Int) | none => 0
def nextW (o : Option UInt8) : Value := .tuple #[.int .u8 (nb o), .bool o.isSome]
theorem nb_iff {o : Option UInt8} {c : UInt8} (hc : c ≠ 0) : nb o = (c.toNat : Int) ↔ o = some c := by
  constructor
  · intro h
    cases o with
    | none =>
      have h0 : (0 : Int) = (c.toNat : Int) := h
      exact absurd (UInt8.toNat_inj.1 (show c.toNat = (0 : UInt8).toNat by show c.toNat = 0; omega)) hc
    | some d =>
      have h0 : (d.toNat : Int) = (c.toNat : Int) := h
      rw [UInt8.toNat_inj.1 (show d.toNat = c.toNat by omega)]
  · rintro rfl; rfl

theorem SS.go_zero (st : SS) (er : Int) : st.go 0 er = ⟨st.l, st.p, er⟩ := by simp [SS.go, adv]

/-- The program's scanner. -/
def ScA (w : World) (g : Nat) (st : SS) : Prop := ∃ s, Sc w g s st.p.1 st.p.2 st.er ∧ L s = st.l
theorem ScA.lt {w : World} {g : Nat} {st : SS} (h : ScA w g st) : g < w.heap.size := h.choose_spec.1.lt
theorem ScA.mod {w w' : World} {g : Nat} {st : SS} {S : Nat → Prop} (h : ScA w g st) (hm : Mod w w' S) (hn : ¬ S g) : ScA w' g st := by
  obtain ⟨s, h1, h2⟩ := h
  exact ⟨s, h1.mod hm hn, h2⟩
theorem ScPost.sca {w w' : World} {g : Nat} {s : ByteArray} {st : SS} {n : Nat} {er : Int} (h : ScPost w w' g s st.p.1 st.p.2 n er) (hl : L s = st.l) : ScA w' g (st.go n er) := by
  refine ⟨s.extract n s.size, ?_, ?_⟩
  · have := h.sc
    have e : advK st.p.1 st.p.2 s n = adv st.p (st.l.take n) := by rw [← hl]; rfl
    rw [e] at this
    exact this
  · show L _ = st.l.drop n
    rw [← hl]; exact Lib.extract_to_end s n
theorem snew_sca (w : World) (s : ByteArray) (hs : s.size ≤ 1099511627776) :
    Calls Tryz.prog 30 #[.string s] w fun e w' => e = .returned (.pointer (some ⟨w.heap.size, 0, none⟩)) ∧ ScA w' w.heap.size ⟨L s, (1, 1), 0⟩ ∧ Mod w w' NoB :=
  (snew_any w s hs).mono fun _ _ h => ⟨h.1, ⟨s, h.2.1, rfl⟩, h.2.2.1⟩
theorem snum_sca (w : World) (g : Nat) (st : SS) (most : Int) (h : ScA w g st) (hmo : 0 ≤ most ∧ most < 18446744073709551616) :
    Calls Tryz.prog 33 #[.pointer (some ⟨g, 0, none⟩), .int .u64 most] w fun e w' => e = .returned (.int .u64 (numS most st).1) ∧ ScA w' g (numS most st).2 ∧ Mod w w' (OneB g) := by
  obtain ⟨s, h1, h2⟩ := h
  refine (number_any w g s st.p.1 st.p.2 st.er most h1 hmo).mono ?_
  rintro e w' ⟨rfl, hp⟩
  rw [h2] at hp
  exact ⟨by rw [h2]; rfl, hp.sca h2, hp.mod⟩
theorem sword_sca (w : World) (g : Nat) (st : SS) (u : ByteArray) (h : ScA w g st) (hu : u.size ≤ maxLen) :
    Calls Tryz.prog 31 #[.pointer (some ⟨g, 0, none⟩), .string u] w fun e w' => e = .returned (.bool (wordS (L u) st).1) ∧ ScA w' g (wordS (L u) st).2 ∧ Mod w w' (OneB g) := by
  obtain ⟨s, h1, h2⟩ := h
  refine (word_any w g s u st.p.1 st.p.2 st.er h1 hu).mono ?_
  rintro e w' ⟨rfl, hp⟩
  rw [h2] at hp
  exact ⟨by rw [h2]; rfl, hp.sca h2, hp.mod⟩
theorem sbyte_sca (w : World) (g : Nat) (st : SS) (c : UInt8) (k : Int) (hk : (c.toNat : Int) = k) (h : ScA w g st) :
    Calls Tryz.prog 32 #[.pointer (some ⟨g, 0, none⟩), .int .u8 k] w fun e w' => e = .returned (.bool (wordS [c] st).1) ∧ ScA w' g (wordS [c] st).2 ∧ Mod w w' (OneB g) := by
  subst hk
  obtain ⟨s, h1, h2⟩ := h
  refine (byte_any w g s c st.p.1 st.p.2 st.er h1).mono ?_
  rintro e w' ⟨rfl, hp⟩
  rw [h2] at hp
  exact ⟨by rw [h2]; rfl, hp.sca h2, hp.mod⟩
theorem head_L (s : ByteArray) (h : 0 < s.size) : (L s).head? = some s[0] := by
  rw [List.head?_eq_getElem?]; exact at_byte s 0 h
theorem snext_sca (w : World) (g : Nat) (st : SS) (h : ScA w g st) :
    Calls Tryz.prog 34 #[.pointer (some ⟨g, 0, none⟩)] w fun e w' => e = .returned (nextW (nextS st)) ∧ w = w' := by
  obtain ⟨s, h1, h2⟩ := h
  refine (next_any w g s st.p.1 st.p.2 st.er h1).mono ?_
  rintro e w' ⟨rfl, rfl⟩
  refine ⟨?_, rfl⟩
  congr 1
  unfold nextS
  rw [← h2]
  by_cases he : st.er = 0
  · rw [if_pos he, he]
    by_cases hs : 0 < s.size
    · rw [nextV_some hs, head_L s hs]; rfl
    · rw [nextV_none (by omega)]
      have : L s = [] := List.length_eq_zero_iff.1 (by rw [L_len]; omega)
      rw [this]; rfl
  · rw [if_neg he, nextV_none (Or.inl he)]; rfl
theorem serr_sca (w : World) (g : Nat) (st : SS) (h : ScA w g st) :
    Calls Tryz.prog 37 #[.pointer (some ⟨g, 0, none⟩)] w fun e w' => e = .returned (.int .i64 st.er) ∧ w = w' := by
  obtain ⟨s, h1, h2⟩ := h
  exact err_any w g s st.p.1 st.p.2 st.er h1
theorem splace_sca (w : World) (g : Nat) (st : SS) (h : ScA w g st) :
    Calls Tryz.prog 35 #[.pointer (some ⟨g, 0, none⟩)] w fun e w' => e = .returned (.agg #[.int .i64 st.p.1, .int .i64 st.p.2]) ∧ Mod w w' NoB := by
  obtain ⟨s, h1, h2⟩ := h
  refine (place_any w g s st.p.1 st.p.2 st.er h1).mono ?_
  rintro e w' ⟨rfl, rfl⟩
  exact ⟨rfl, (Mod.refl _ _).alloc _⟩

/-- The reference's scanner. -/
def RsA (w : World) (g : Nat) (st : SS) : Prop := ∃ s a, RSc w g s a st.p.1 st.p.2 st.er ∧ lft s a = st.l
theorem RsA.lt {w : World} {g : Nat} {st : SS} (h : RsA w g st) : g < w.heap.size := by
  obtain ⟨s, a, h1, _⟩ := h
  exact (Array.getElem?_eq_some_iff.1 h1.1).1
theorem RsA.mod {w w' : World} {g : Nat} {st : SS} {S : Nat → Prop} (h : RsA w g st) (hm : Mod w w' S) (hn : ¬ S g) : RsA w' g st := by
  have hl := h.lt
  obtain ⟨s, a, h1, h2⟩ := h
  exact ⟨s, a, ⟨(hm.block g hl hn).trans h1.1, h1.2⟩, h2⟩
theorem RPost.rsa {w w' : World} {g : Nat} {s : ByteArray} {a : Nat} {st : SS} {n : Nat} {er : Int} (h : RPost w w' g s a st.p.1 st.p.2 n er) (hl : lft s a = st.l) : RsA w' g (st.go n er) := by
  refine ⟨s, a + n, ?_, ?_⟩
  · have := h.sc
    have e : advL (st.p.1, st.p.2) (lft s a) n = adv st.p (st.l.take n) := by rw [← hl]; rfl
    rw [e] at this
    exact this
  · show lft s (a + n) = st.l.drop n
    rw [← hl]; unfold lft; rw [List.drop_drop]
theorem rnew_rsa (w : World) (s : ByteArray) (hs : s.size ≤ 1099511627776) :
    Calls Tryz.prog 41 #[.string s] w fun e w' => e = .returned (.pointer (some ⟨w.heap.size, 0, none⟩)) ∧ RsA w' w.heap.size ⟨L s, (1, 1), 0⟩ ∧ Mod w w' NoB :=
  (rnew_any w s hs).mono fun _ _ h => ⟨h.1, ⟨s, 0, h.2.1, rfl⟩, h.2.2.1⟩
theorem rnum_rsa (w : World) (g : Nat) (st : SS) (most : Int) (h : RsA w g st) (hmo : 0 ≤ most ∧ most < 18446744073709551616) :
    Calls Tryz.prog 44 #[.pointer (some ⟨g, 0, none⟩), .int .u64 most] w fun e w' => e = .returned (.int .u64 (numS most st).1) ∧ RsA w' g (numS most st).2 ∧ Mod w w' (OneB g) := by
  obtain ⟨s, a, h1, h2⟩ := h
  refine (rnumber_any w g s a st.p.1 st.p.2 st.er most h1 hmo).mono ?_
  rintro e w' ⟨rfl, hp⟩
  rw [h2] at hp
  exact ⟨by rw [h2]; rfl, hp.rsa h2, hp.mod⟩
theorem rword_rsa (w : World) (g : Nat) (st : SS) (u : ByteArray) (h : RsA w g st) (hu : u.size ≤ maxLen) :
    Calls Tryz.prog 42 #[.pointer (some ⟨g, 0, none⟩), .string u] w fun e w' => e = .returned (.bool (wordS (L u) st).1) ∧ RsA w' g (wordS (L u) st).2 ∧ Mod w w' (OneB g) := by
  obtain ⟨s, a, h1, h2⟩ := h
  refine (rword_any w g s u a st.p.1 st.p.2 st.er h1 hu).mono ?_
  rintro e w' ⟨rfl, hp⟩
  rw [h2] at hp
  exact ⟨by rw [h2]; rfl, hp.rsa h2, hp.mod⟩
theorem rbyte_rsa (w : World) (g : Nat) (st : SS) (c : UInt8) (k : Int) (hk : (c.toNat : Int) = k) (h : RsA w g st) :
    Calls Tryz.prog 43 #[.pointer (some ⟨g, 0, none⟩), .int .u8 k] w fun e w' => e = .returned (.bool (wordS [c] st).1) ∧ RsA w' g (wordS [c] st).2 ∧ Mod w w' (OneB g) := by
  subst hk
  obtain ⟨s, a, h1, h2⟩ := h
  refine (rbyte_any w g s c a st.p.1 st.p.2 st.er h1).mono ?_
  rintro e w' ⟨rfl, hp⟩
  rw [h2] at hp
  exact ⟨by rw [h2]; rfl, hp.rsa h2, hp.mod⟩
theorem rnext_rsa (w : World) (g : Nat) (st : SS) (h : RsA w g st) :
    Calls Tryz.prog 45 #[.pointer (some ⟨g, 0, none⟩)] w fun e w' => e = .returned (nextW (nextS st)) ∧ ∃ n, w' = w.drewN n := by
  obtain ⟨s, a, h1, h2⟩ := h
  refine (rnext_any w g s a st.p.1 st.p.2 st.er h1).mono ?_
  rintro e w' ⟨rfl, hw⟩
  refine ⟨?_, hw⟩
  congr 1
  unfold nextS
  rw [← h2]
  by_cases he : st.er = 0
  · rw [if_pos he, he]
    by_cases hs : a < s.size
    · rw [rnextV_some hs, List.head?_eq_getElem?, lft_at s a 0 (by omega)]; rfl
    · rw [rnextV_none (Or.inr hs)]
      have : lft s a = [] := List.length_eq_zero_iff.1 (by rw [lft_len]; omega)
      rw [this]; rfl
  · rw [if_neg he, rnextV_none (Or.inl he)]; rfl
end Go.Proofs.YtppambkffgmkgaaGreatDoor
end
