/- Merged: ScanNu LgS LgE -/
import Derived.Test.YtggnkefhegnokaaDoorMg16
import Derived.Test.YtggnkefhegnokaaDoorMg09
import Derived.Test.YtggnkefhegnokaaDoorMg14
import Derived.Test.YtggnkefhegnokaaDoorMg15
import Derived.Test.YtggnkefhegnokaaDoorMg13
section
/- The law ScanNumbers: the walk. -/
namespace Go.Proofs.YtggnkefhegnokaaDoor
open Go.RowKit
set_option linter.unusedVariables false

/-! ### What the digits of a number are good for -/
theorem digit_ofNat {d : Nat} (h : d < 10) : (UInt8.ofNat (48 + d)).toNat = 48 + d := UInt8.toNat_ofNat_of_lt' (by show 48 + d < 256; omega)
theorem isD_ofNat {d : Nat} (h : d < 10) : isD (UInt8.ofNat (48 + d)) = true := by simp only [isD, digit_ofNat h]; simp; omega
theorem dv_ofNat {d : Nat} (h : d < 10) : dv (UInt8.ofNat (48 + d)) = d := by unfold dv; rw [digit_ofNat h]; omega
theorem decL_digits (n : Nat) : ∀ c ∈ decL n, isD c = true := by
  induction n using Nat.strongRecOn with
  | _ n ih =>
    by_cases h : n < 10
    · rw [decL_small h]; intro c hc; rw [List.mem_singleton] at hc; subst hc; exact isD_ofNat h
    · rw [decL_big h]; intro c hc
      rcases List.mem_append.1 hc with hc | hc
      · exact ih _ (by omega) c hc
      · rw [List.mem_singleton] at hc; subst hc; exact isD_ofNat (Nat.mod_lt n (by decide))
theorem decL_value (most : Int) (h0 : 0 ≤ most) (n : Nat) : valof most (decL n) 0 = if (n : Int) ≤ most then some (n : Int) else none := by
  induction n using Nat.strongRecOn with
  | _ n ih =>
    by_cases h : n < 10
    · rw [decL_small h]
      simp only [valof, dv_ofNat h]
      by_cases h1 : (n : Int) ≤ most
      · rw [if_neg (by omega), if_pos h1]; simp
      · rw [if_pos (by omega), if_neg h1]
    · rw [decL_big h, valof_snoc, ih _ (by omega)]
      have hd : n % 10 < 10 := Nat.mod_lt _ (by decide)
      by_cases h1 : ((n / 10 : Nat) : Int) ≤ most
      · rw [if_pos h1]
        simp only [Option.bind_some, dv_ofNat hd]
        by_cases h2 : (n : Int) ≤ most
        · rw [if_neg (by omega), if_pos h2]; congr 1; omega
        · rw [if_pos (by omega), if_neg h2]
      · rw [if_neg h1, if_neg (by omega)]; rfl
theorem head_app {l r : List UInt8} (h : l ≠ []) : (l ++ r).head? = l.head? := by
  cases l with
  | nil => exact absurd rfl h
  | cons a l => rfl
theorem decL_head (n : Nat) (h : 0 < n) : (decL n).head? ≠ some 48 := by
  induction n using Nat.strongRecOn with
  | _ n ih =>
    by_cases h1 : n < 10
    · rw [decL_small h1]
      simp only [List.head?_cons, ne_eq, Option.some.injEq]
      intro e
      have := congrArg UInt8.toNat e
      rw [digit_ofNat h1] at this
      simp at this; omega
    · rw [decL_big h1]
      have hne : decL (n / 10) ≠ [] := fun e => by have := (decL_len (n / 10)).1; rw [e] at this; simp at this
      rw [head_app hne]
      exact ih _ (by omega) (by omega)
theorem takeWhile_app {α : Type} (p : α → Bool) : ∀ (l r : List α), (∀ c ∈ l, p c = true) → (∀ c, r.head? = some c → p c = false) → (l ++ r).takeWhile p = l
  | [], [], _, _ => rfl
  | [], a :: r, _, h => by simp [h a rfl]
  | a :: l, r, h1, h2 => by
    simp only [List.cons_append, List.takeWhile_cons, h1 a (by simp), if_true, List.cons.injEq, true_and]
    exact takeWhile_app p l r (fun c hc => h1 c (by simp [hc])) h2

theorem numOut_dec {most : Int} (h0 : 0 ≤ most) (n : Nat) (r : List UInt8) (hr : ∀ c, r.head? = some c → isD c = false) :
    numOut most (decL n ++ r) 0 = if (n : Int) ≤ most then ((n : Int), 0, (decL n).length) else (0, 22, 0) := by
  have ht : (decL n ++ r).takeWhile isD = decL n := takeWhile_app isD _ _ (decL_digits n) hr
  have hne : decL n ≠ [] := fun e => by have := (decL_len n).1; rw [e] at this; simp at this
  have hE : numErr (decL n ++ r) = 0 := by
    unfold numErr
    rw [if_neg (by simp [hne]), ht, if_neg]
    rintro (h | ⟨h1, h2⟩)
    · exact hne (List.length_eq_zero_iff.1 h)
    · rw [head_app hne] at h2
      by_cases hn : n = 0
      · subst hn; rw [decL_small (by decide)] at h1; simp at h1
      · exact decL_head n (by omega) h2
  unfold numOut
  rw [if_neg (by simp), if_neg (by simp [hE]), ht, decL_value most h0]
  by_cases h : (n : Int) ≤ most
  · rw [if_pos h, if_pos h]
  · rw [if_neg h, if_neg h]

theorem numOut_zero (most : Int) (n : Nat) : numOut most (48 :: decL n) 0 = (0, 21, 0) := by
  have ht : (48 :: decL n).takeWhile isD = 48 :: decL n := by
    have := takeWhile_app isD (48 :: decL n) [] (fun c hc => by
      rcases List.mem_cons.1 hc with rfl | hc
      · decide
      · exact decL_digits n c hc) (by simp)
    simpa using this
  have hE : numErr (48 :: decL n) = 21 := by
    unfold numErr
    rw [if_neg (by simp), ht, if_pos]
    right
    have := (decL_len n).1
    simp; omega
  unfold numOut
  rw [if_neg (by simp), if_pos (by simp [hE]), hE]

theorem adv_digits (p : Int × Int) : ∀ (l : List UInt8), (∀ c ∈ l, isD c = true) → adv p l = (p.1, p.2 + l.length)
  | [], _ => by simp [adv]
  | c :: l, h => by
    have hc := h c (by simp)
    simp [isD] at hc
    simp only [adv]
    rw [if_neg (by omega), adv_digits _ l (fun d hd => h d (by simp [hd]))]
    simp; omega

theorem dec_L (n : Nat) : L (dec n) = decL n := by simp [L, dec]
theorem app_L (a b : ByteArray) : L (a ++ b) = L a ++ L b := by simp [L, ByteArray.data_append]

/-- The tail that keeps a number's digits apart. -/
theorem sadd {P : Program} (a b : ByteArray) (h : a.size + b.size ≤ 9223372036854775807) : ∀ W : World, (Op.stringOp .add a b).run P W = .ok (.string (a ++ b)) W := fun W => run_string_add_sum W a b h
theorem decL_len20 (n : Nat) (h : n < 18446744073709551616) : (decL n).length ≤ 20 := by
  have key : ∀ (k n : Nat), n < 10 ^ k → (decL n).length ≤ k + 1 := by
    intro k
    induction k with
    | zero => intro n hn; have : n = 0 := by simpa using hn
              subst this; rw [decL_small (by decide)]; simp
    | succ k ih =>
      intro n hn
      by_cases h1 : n < 10
      · rw [decL_small h1]; simp
      · rw [decL_big h1]
        have := ih (n / 10) (by rw [Nat.pow_succ] at hn; omega)
        simp; omega
  have key2 : ∀ (k n : Nat), 0 < k → n < 10 ^ k → (decL n).length ≤ k := by
    intro k
    induction k with
    | zero => intro n hk; omega
    | succ k ih =>
      intro n hk hn
      by_cases h1 : n < 10
      · rw [decL_small h1]; simp
      · rw [decL_big h1]
        by_cases hk0 : k = 0
        · subst hk0; simp at hn; omega
        · have := ih (n / 10) (by omega) (by rw [Nat.pow_succ] at hn; omega)
          simp; omega
  exact key2 20 n (by decide) (by omega)

theorem adv_dec (d t : ByteArray) (n : Nat) (hd : L d = decL n) : advK 1 1 (d ++ t) (L d).length = (1, 1 + (d.size : Int)) := by
  unfold advK
  rw [show (d ++ t).data.toList = L d ++ L t from app_L _ _, List.take_left, adv_digits _ _ (by rw [hd]; exact decL_digits n), L_len]

end Go.Proofs.YtggnkefhegnokaaDoor
end

section
/- Both scanners as one plain state; their calls in its words. -/
namespace Go.Proofs.YtggnkefhegnokaaDoor
open Go.RowKit
set_option linter.unusedVariables false

/-- What a scanner is: the text that is left, the place, the error. -/
structure SS where
  l : List UInt8
  p : Int × Int
  er : Int
def SS.go (st : SS) (n : Nat) (er : Int) : SS := ⟨st.l.drop n, adv st.p (st.l.take n), er⟩
def numS (most : Int) (st : SS) : Int × SS := ((numOut most st.l st.er).1, st.go (numOut most st.l st.er).2.2 (numOut most st.l st.er).2.1)
def wordS (u : List UInt8) (st : SS) : Bool × SS := ((wordOut u st.l st.er).1, st.go (wordOut u st.l st.er).2.2 (wordOut u st.l st.er).2.1)
def nextS (st : SS) : Option UInt8 := if st.er = 0 then st.l.head? else none
def nb (o : Option UInt8) : Int := match o with | some c => (c.toNat : Int) | none => 0
def nextW (o : Option UInt8) : Value := .tuple #[.int .u8 (nb o), .bool o.isSome]
theorem nb_iff {o : Option UInt8} {c : UInt8} (hc : c ≠ 0) : nb o = (c.toNat : Int) ↔ o = some c := by
  constructor
  · intro h
    cases o with
    | none =>
      have h0 : (0 : Int) = (c.toNat : Int) := h
      exact absurd (UInt8.toNat_inj.1 (show c.toNat = (0 : UInt8).toNat by show c.toNat = 0; omega)) hc
    | some d =>
      have h0 : (d.toNat : Int) = (c.toNat : Int) := h
      rw [UInt8.toNat_inj.1 (show d.toNat = c.toNat by omega)]
  · rintro rfl; rfl

theorem SS.go_zero (st : SS) (er : Int) : st.go 0 er = ⟨st.l, st.p, er⟩ := by simp [SS.go, adv]

/-- The program's scanner. -/
def ScA (w : World) (g : Nat) (st : SS) : Prop := ∃ s, Sc w g s st.p.1 st.p.2 st.er ∧ L s = st.l
theorem ScA.lt {w : World} {g : Nat} {st : SS} (h : ScA w g st) : g < w.heap.size := h.choose_spec.1.lt
theorem ScA.mod {w w' : World} {g : Nat} {st : SS} {S : Nat → Prop} (h : ScA w g st) (hm : Mod w w' S) (hn : ¬ S g) : ScA w' g st := by
  obtain ⟨s, h1, h2⟩ := h
  exact ⟨s, h1.mod hm hn, h2⟩
theorem ScPost.sca {w w' : World} {g : Nat} {s : ByteArray} {st : SS} {n : Nat} {er : Int} (h : ScPost w w' g s st.p.1 st.p.2 n er) (hl : L s = st.l) : ScA w' g (st.go n er) := by
  refine ⟨s.extract n s.size, ?_, ?_⟩
  · have := h.sc
    have e : advK st.p.1 st.p.2 s n = adv st.p (st.l.take n) := by rw [← hl]; rfl
    rw [e] at this
    exact this
  · show L _ = st.l.drop n
    rw [← hl]; exact Lib.extract_to_end s n
theorem snew_sca (w : World) (s : ByteArray) (hs : s.size ≤ 1099511627776) :
    Calls Tryd.prog 34 #[.string s] w fun e w' => e = .returned (.pointer (some ⟨w.heap.size, 0, none⟩)) ∧ ScA w' w.heap.size ⟨L s, (1, 1), 0⟩ ∧ Mod w w' NoB :=
  (snew_any w s hs).mono fun _ _ h => ⟨h.1, ⟨s, h.2.1, rfl⟩, h.2.2.1⟩
theorem snum_sca (w : World) (g : Nat) (st : SS) (most : Int) (h : ScA w g st) (hmo : 0 ≤ most ∧ most < 18446744073709551616) :
    Calls Tryd.prog 37 #[.pointer (some ⟨g, 0, none⟩), .int .u64 most] w fun e w' => e = .returned (.int .u64 (numS most st).1) ∧ ScA w' g (numS most st).2 ∧ Mod w w' (OneB g) := by
  obtain ⟨s, h1, h2⟩ := h
  refine (number_any w g s st.p.1 st.p.2 st.er most h1 hmo).mono ?_
  rintro e w' ⟨rfl, hp⟩
  rw [h2] at hp
  exact ⟨by rw [h2]; rfl, hp.sca h2, hp.mod⟩
theorem sword_sca (w : World) (g : Nat) (st : SS) (u : ByteArray) (h : ScA w g st) (hu : u.size ≤ maxLen) :
    Calls Tryd.prog 35 #[.pointer (some ⟨g, 0, none⟩), .string u] w fun e w' => e = .returned (.bool (wordS (L u) st).1) ∧ ScA w' g (wordS (L u) st).2 ∧ Mod w w' (OneB g) := by
  obtain ⟨s, h1, h2⟩ := h
  refine (word_any w g s u st.p.1 st.p.2 st.er h1 hu).mono ?_
  rintro e w' ⟨rfl, hp⟩
  rw [h2] at hp
  exact ⟨by rw [h2]; rfl, hp.sca h2, hp.mod⟩
theorem sbyte_sca (w : World) (g : Nat) (st : SS) (c : UInt8) (k : Int) (hk : (c.toNat : Int) = k) (h : ScA w g st) :
    Calls Tryd.prog 36 #[.pointer (some ⟨g, 0, none⟩), .int .u8 k] w fun e w' => e = .returned (.bool (wordS [c] st).1) ∧ ScA w' g (wordS [c] st).2 ∧ Mod w w' (OneB g) := by
  subst hk
  obtain ⟨s, h1, h2⟩ := h
  refine (byte_any w g s c st.p.1 st.p.2 st.er h1).mono ?_
  rintro e w' ⟨rfl, hp⟩
  rw [h2] at hp
  exact ⟨by rw [h2]; rfl, hp.sca h2, hp.mod⟩
theorem head_L (s : ByteArray) (h : 0 < s.size) : (L s).head? = some s[0] := by
  rw [List.head?_eq_getElem?]; exact at_byte s 0 h
theorem snext_sca (w : World) (g : Nat) (st : SS) (h : ScA w g st) :
    Calls Tryd.prog 38 #[.pointer (some ⟨g, 0, none⟩)] w fun e w' => e = .returned (nextW (nextS st)) ∧ w = w' := by
  obtain ⟨s, h1, h2⟩ := h
  refine (next_any w g s st.p.1 st.p.2 st.er h1).mono ?_
  rintro e w' ⟨rfl, rfl⟩
  refine ⟨?_, rfl⟩
  congr 1
  unfold nextS
  rw [← h2]
  by_cases he : st.er = 0
  · rw [if_pos he, he]
    by_cases hs : 0 < s.size
    · rw [nextV_some hs, head_L s hs]; rfl
    · rw [nextV_none (by omega)]
      have : L s = [] := List.length_eq_zero_iff.1 (by rw [L_len]; omega)
      rw [this]; rfl
  · rw [if_neg he, nextV_none (Or.inl he)]; rfl
theorem serr_sca (w : World) (g : Nat) (st : SS) (h : ScA w g st) :
    Calls Tryd.prog 41 #[.pointer (some ⟨g, 0, none⟩)] w fun e w' => e = .returned (.int .i64 st.er) ∧ w = w' := by
  obtain ⟨s, h1, h2⟩ := h
  exact err_any w g s st.p.1 st.p.2 st.er h1
theorem splace_sca (w : World) (g : Nat) (st : SS) (h : ScA w g st) :
    Calls Tryd.prog 39 #[.pointer (some ⟨g, 0, none⟩)] w fun e w' => e = .returned (.agg #[.int .i64 st.p.1, .int .i64 st.p.2]) ∧ Mod w w' NoB := by
  obtain ⟨s, h1, h2⟩ := h
  refine (place_any w g s st.p.1 st.p.2 st.er h1).mono ?_
  rintro e w' ⟨rfl, rfl⟩
  exact ⟨rfl, (Mod.refl _ _).alloc _⟩

/-- The reference's scanner. -/
def RsA (w : World) (g : Nat) (st : SS) : Prop := ∃ s a, RSc w g s a st.p.1 st.p.2 st.er ∧ lft s a = st.l
theorem RsA.lt {w : World} {g : Nat} {st : SS} (h : RsA w g st) : g < w.heap.size := by
  obtain ⟨s, a, h1, _⟩ := h
  exact (Array.getElem?_eq_some_iff.1 h1.1).1
theorem RsA.mod {w w' : World} {g : Nat} {st : SS} {S : Nat → Prop} (h : RsA w g st) (hm : Mod w w' S) (hn : ¬ S g) : RsA w' g st := by
  have hl := h.lt
  obtain ⟨s, a, h1, h2⟩ := h
  exact ⟨s, a, ⟨(hm.block g hl hn).trans h1.1, h1.2⟩, h2⟩
theorem RPost.rsa {w w' : World} {g : Nat} {s : ByteArray} {a : Nat} {st : SS} {n : Nat} {er : Int} (h : RPost w w' g s a st.p.1 st.p.2 n er) (hl : lft s a = st.l) : RsA w' g (st.go n er) := by
  refine ⟨s, a + n, ?_, ?_⟩
  · have := h.sc
    have e : advL (st.p.1, st.p.2) (lft s a) n = adv st.p (st.l.take n) := by rw [← hl]; rfl
    rw [e] at this
    exact this
  · show lft s (a + n) = st.l.drop n
    rw [← hl]; unfold lft; rw [List.drop_drop]
theorem rnew_rsa (w : World) (s : ByteArray) (hs : s.size ≤ 1099511627776) :
    Calls Tryd.prog 44 #[.string s] w fun e w' => e = .returned (.pointer (some ⟨w.heap.size, 0, none⟩)) ∧ RsA w' w.heap.size ⟨L s, (1, 1), 0⟩ ∧ Mod w w' NoB :=
  (rnew_any w s hs).mono fun _ _ h => ⟨h.1, ⟨s, 0, h.2.1, rfl⟩, h.2.2.1⟩
theorem rnum_rsa (w : World) (g : Nat) (st : SS) (most : Int) (h : RsA w g st) (hmo : 0 ≤ most ∧ most < 18446744073709551616) :
    Calls Tryd.prog 47 #[.pointer (some ⟨g, 0, none⟩), .int .u64 most] w fun e w' => e = .returned (.int .u64 (numS most st).1) ∧ RsA w' g (numS most st).2 ∧ Mod w w' (OneB g) := by
  obtain ⟨s, a, h1, h2⟩ := h
  refine (rnumber_any w g s a st.p.1 st.p.2 st.er most h1 hmo).mono ?_
  rintro e w' ⟨rfl, hp⟩
  rw [h2] at hp
  exact ⟨by rw [h2]; rfl, hp.rsa h2, hp.mod⟩
theorem rword_rsa (w : World) (g : Nat) (st : SS) (u : ByteArray) (h : RsA w g st) (hu : u.size ≤ maxLen) :
    Calls Tryd.prog 45 #[.pointer (some ⟨g, 0, none⟩), .string u] w fun e w' => e = .returned (.bool (wordS (L u) st).1) ∧ RsA w' g (wordS (L u) st).2 ∧ Mod w w' (OneB g) := by
  obtain ⟨s, a, h1, h2⟩ := h
  refine (rword_any w g s u a st.p.1 st.p.2 st.er h1 hu).mono ?_
  rintro e w' ⟨rfl, hp⟩
  rw [h2] at hp
  exact ⟨by rw [h2]; rfl, hp.rsa h2, hp.mod⟩
theorem rbyte_rsa (w : World) (g : Nat) (st : SS) (c : UInt8) (k : Int) (hk : (c.toNat : Int) = k) (h : RsA w g st) :
    Calls Tryd.prog 46 #[.pointer (some ⟨g, 0, none⟩), .int .u8 k] w fun e w' => e = .returned (.bool (wordS [c] st).1) ∧ RsA w' g (wordS [c] st).2 ∧ Mod w w' (OneB g) := by
  subst hk
  obtain ⟨s, a, h1, h2⟩ := h
  refine (rbyte_any w g s c a st.p.1 st.p.2 st.er h1).mono ?_
  rintro e w' ⟨rfl, hp⟩
  rw [h2] at hp
  exact ⟨by rw [h2]; rfl, hp.rsa h2, hp.mod⟩
theorem rnext_rsa (w : World) (g : Nat) (st : SS) (h : RsA w g st) :
    Calls Tryd.prog 48 #[.pointer (some ⟨g, 0, none⟩)] w fun e w' => e = .returned (nextW (nextS st)) ∧ ∃ n, w' = w.drewN n := by
  obtain ⟨s, a, h1, h2⟩ := h
  refine (rnext_any w g s a st.p.1 st.p.2 st.er h1).mono ?_
  rintro e w' ⟨rfl, hw⟩
  refine ⟨?_, hw⟩
  congr 1
  unfold nextS
  rw [← h2]
  by_cases he : st.er = 0
  · rw [if_pos he, he]
    by_cases hs : a < s.size
    · rw [rnextV_some hs, List.head?_eq_getElem?, lft_at s a 0 (by omega)]; rfl
    · rw [rnextV_none (Or.inr hs)]
      have : lft s a = [] := List.length_eq_zero_iff.1 (by rw [lft_len]; omega)
      rw [this]; rfl
  · rw [if_neg he, rnextV_none (Or.inl he)]; rfl
end Go.Proofs.YtggnkefhegnokaaDoor
end

section
/- The contracts of the program's and the reference's reading of an event's line. -/
namespace Go.Proofs.YtggnkefhegnokaaDoor
open Go.RowKit
set_option linter.unusedVariables false

/-- An event's line, read. -/
def evS (st : SS) : Ev × SS :=
  let a := numS 4611686018427387903 st
  let b := wordS [32] a.2
  let c := if nextS b.2 = some 43 then wordS [43] b.2 else (false, (wordS [45] b.2).2)
  let d := wordS [32] c.2
  let u := numS 4294967295 d.2
  let e := wordS [32] u.2
  let v := numS 4294967295 e.2
  let f := wordS [10] v.2
  (⟨a.1, ⟨u.1, v.1⟩, c.1⟩, f.2)

theorem numS_bd {most : Int} (h0 : 0 ≤ most) (st : SS) : 0 ≤ (numS most st).1 ∧ (numS most st).1 ≤ most := by
  unfold numS numOut
  dsimp only
  split
  · exact ⟨Int.le_refl _, h0⟩
  · split
    · exact ⟨Int.le_refl _, h0⟩
    · split
      · exact ⟨Int.le_refl _, h0⟩
      · rename_i v hv
        exact valof_bd (fun c hc => List.all_eq_true.1 (List.all_takeWhile) c hc) (Int.le_refl _) h0 hv
theorem wordS_err {u : List UInt8} {st : SS} (h : st.er ≠ 0) : wordS u st = (false, st) := by
  unfold wordS wordOut
  simp only [if_pos h]
  rw [SS.go_zero]
theorem numS_err {most : Int} {st : SS} (h : st.er ≠ 0) : numS most st = (0, st) := by
  unfold numS numOut
  simp only [if_pos h]
  rw [SS.go_zero]
/-- One byte that isn't there: which one it was to be tells nothing. -/
theorem byte_fail {c d : UInt8} {st : SS} (hc : st.l.head? ≠ some c) (hd : st.l.head? ≠ some d) : wordS [c] st = wordS [d] st := by
  have key : ∀ x : UInt8, st.l.head? ≠ some x → wordOut [x] st.l st.er = (false, if st.er ≠ 0 then st.er else if st.l = [] then 20 else 21, 0) := by
    intro x hx
    unfold wordOut
    by_cases he : st.er ≠ 0
    · rw [if_pos he, if_pos he]
    · rw [if_neg he, if_neg he]
      cases hl : st.l with
      | nil => rfl
      | cons y r =>
        rw [hl] at hx
        have h1 : ¬ ([x] <+: y :: r) := by
          rintro ⟨t, ht⟩
          have := congrArg List.head? ht
          simp at this
          exact hx (by simp [this])
        have h2 : ¬ (y :: r <+: [x]) := by
          rintro ⟨t, ht⟩
          have := congrArg List.head? ht
          simp at this
          exact hx (by simp [this])
        rw [if_neg h1, if_neg h2, if_neg (by simp)]
  unfold wordS
  rw [key c hc, key d hd]
theorem nextS_head {st : SS} {c : UInt8} (h : nextS st = some c) : st.er = 0 ∧ st.l.head? = some c := by
  unfold nextS at h
  split at h
  · exact ⟨by assumption, h⟩
  · cases h
theorem nextS_not {st : SS} {c : UInt8} (h : nextS st ≠ some c) (he : st.er = 0) : st.l.head? ≠ some c := by
  unfold nextS at h
  rw [if_pos he] at h
  exact h
/-- The reference looks for the other sign. -/
theorem sign_same (st : SS) : (if nextS st = some 45 then (false, (wordS [45] st).2) else wordS [43] st) = (if nextS st = some 43 then wordS [43] st else (false, (wordS [45] st).2)) := by
  by_cases h3 : nextS st = some 43
  · rw [if_pos h3, if_neg (by rw [h3]; decide)]
  · rw [if_neg h3]
    by_cases h5 : nextS st = some 45
    · rw [if_pos h5]
    · rw [if_neg h5]
      by_cases he : st.er = 0
      · have e1 := nextS_not h3 he
        have e2 := nextS_not h5 he
        rw [byte_fail (d := 45) e1 e2]
        have : (wordS [45] st).1 = false := by
          unfold wordS wordOut
          simp only [he, ne_eq, not_true_eq_false, if_false]
          have h1 : ¬ ([45] <+: st.l) := by
            rintro ⟨t, ht⟩
            exact e2 (by rw [← ht]; rfl)
          rw [if_neg h1]
          split <;> rfl
        exact Prod.ext this rfl
      · rw [wordS_err he, wordS_err he]

/-- Two events in blocks of their own: what goes out, what is read. -/
structure VSt (w wr : World) (g g2 g3 : Nat) (x : Ev) : Prop where
  e2 : EvAt wr g2 0 ⟨0, ⟨0, 0⟩, false⟩
  e3 : EvAt wr g3 0 x
  f2 : ∀ j, wr.frozen? ⟨g2, j, none⟩ = false
  f3 : ∀ j, wr.frozen? ⟨g3, j, none⟩ = false
  mod : Mod w wr (OneB g)
  y2 : w.heap.size ≤ g2
  y3 : w.heap.size ≤ g3
  ne : g2 ≠ g3
  lt : g < w.heap.size
theorem VSt.next {w wr w' : World} {g g2 g3 : Nat} {x : Ev} (h : VSt w wr g g2 g3 x) (hm : Mod wr w' (OneB g)) : VSt w w' g g2 g3 x := by
  have n2 : ¬ OneB g g2 := fun c => by have e : g2 = g := c; have := h.y2; have := h.lt; omega
  have n3 : ¬ OneB g g3 := fun c => by have e : g3 = g := c; have := h.y3; have := h.lt; omega
  exact ⟨⟨keepS h.e2.1 hm n2, keepS h.e2.2.1 hm n2, keepS h.e2.2.2.1 hm n2, keepS h.e2.2.2.2 hm n2⟩, ⟨keepS h.e3.1 hm n3, keepS h.e3.2.1 hm n3, keepS h.e3.2.2.1 hm n3, keepS h.e3.2.2.2 hm n3⟩,
    fun j => (hm.frozen (p := ⟨g2, j, none⟩) (by have := World.block_lt_of_cell? _ _ h.e2.1; exact this) n2).trans (h.f2 j), fun j => (hm.frozen (p := ⟨g3, j, none⟩) (by have := World.block_lt_of_cell? _ _ h.e3.1; exact this) n3).trans (h.f3 j), h.mod.trans hm (fun _ _ c => c), h.y2, h.y3, h.ne, h.lt⟩
theorem VSt.put {w wr : World} {g g2 g3 : Nat} {x y : Ev} (h : VSt w wr g g2 g3 x) (c : Nat) (v : Value) (hy : EvAt (wr.setCell ⟨g3, c, none⟩ v) g3 0 y) : VSt w (wr.setCell ⟨g3, c, none⟩ v) g g2 g3 y := by
  have hm : Mod wr (wr.setCell ⟨g3, c, none⟩ v) (OneB g3) := Mod.set1 wr g3 c v
  have n2 : ¬ OneB g3 g2 := fun c => h.ne c
  exact ⟨⟨keepS h.e2.1 hm n2, keepS h.e2.2.1 hm n2, keepS h.e2.2.2.1 hm n2, keepS h.e2.2.2.2 hm n2⟩, hy, fun j => by rw [World.frozen?_setCell]; exact h.f2 j, fun j => by rw [World.frozen?_setCell]; exact h.f3 j,
    h.mod.trans hm (fun i hi c => by have e : i = g3 := c; have := h.y3; omega), h.y2, h.y3, h.ne, h.lt⟩
theorem VSt.t {w wr : World} {g g2 g3 : Nat} {x : Ev} (h : VSt w wr g g2 g3 x) (t : Int) : VSt w (wr.setCell ⟨g3, 0, none⟩ (.int .i64 t)) g g2 g3 ⟨t, x.e, x.add⟩ := by
  obtain ⟨c0, c1, c2, c3⟩ := h.e3
  exact h.put 0 _ ⟨World.cell?_setCell_same _ _ _ c0, (World.cell?_setCell_other _ _ _ _ (by simp)).trans c1, (World.cell?_setCell_other _ _ _ _ (by simp)).trans c2, (World.cell?_setCell_other _ _ _ _ (by simp)).trans c3⟩
theorem VSt.u {w wr : World} {g g2 g3 : Nat} {x : Ev} (h : VSt w wr g g2 g3 x) (t : Int) : VSt w (wr.setCell ⟨g3, 1, none⟩ (.int .u32 t)) g g2 g3 ⟨x.t, ⟨t, x.e.v⟩, x.add⟩ := by
  obtain ⟨c0, c1, c2, c3⟩ := h.e3
  exact h.put 1 _ ⟨(World.cell?_setCell_other _ _ _ _ (by simp)).trans c0, World.cell?_setCell_same _ _ _ c1, (World.cell?_setCell_other _ _ _ _ (by simp)).trans c2, (World.cell?_setCell_other _ _ _ _ (by simp)).trans c3⟩
theorem VSt.v {w wr : World} {g g2 g3 : Nat} {x : Ev} (h : VSt w wr g g2 g3 x) (t : Int) : VSt w (wr.setCell ⟨g3, 2, none⟩ (.int .u32 t)) g g2 g3 ⟨x.t, ⟨x.e.u, t⟩, x.add⟩ := by
  obtain ⟨c0, c1, c2, c3⟩ := h.e3
  exact h.put 2 _ ⟨(World.cell?_setCell_other _ _ _ _ (by simp)).trans c0, (World.cell?_setCell_other _ _ _ _ (by simp)).trans c1, World.cell?_setCell_same _ _ _ c2, (World.cell?_setCell_other _ _ _ _ (by simp)).trans c3⟩
theorem VSt.a {w wr : World} {g g2 g3 : Nat} {x : Ev} (h : VSt w wr g g2 g3 x) (t : Bool) : VSt w (wr.setCell ⟨g3, 3, none⟩ (.bool t)) g g2 g3 ⟨x.t, x.e, t⟩ := by
  obtain ⟨c0, c1, c2, c3⟩ := h.e3
  exact h.put 3 _ ⟨(World.cell?_setCell_other _ _ _ _ (by simp)).trans c0, (World.cell?_setCell_other _ _ _ _ (by simp)).trans c1, (World.cell?_setCell_other _ _ _ _ (by simp)).trans c2, World.cell?_setCell_same _ _ _ c3⟩
theorem VSt.start {w : World} {g : Nat} (hg : g < w.heap.size) : VSt w ((w.alloc (.cells #[.int .i64 0, .int .u32 0, .int .u32 0, .bool false] 61)).alloc (.cells #[.int .i64 0, .int .u32 0, .int .u32 0, .bool false] 61)) g w.heap.size (w.heap.size + 1) ⟨0, ⟨0, 0⟩, false⟩ := by
  have hs1 : (w.alloc (.cells #[.int .i64 0, .int .u32 0, .int .u32 0, .bool false] 61)).heap.size = w.heap.size + 1 := by simp
  have lt : w.heap.size < (w.alloc (.cells #[.int .i64 0, .int .u32 0, .int .u32 0, .bool false] 61)).heap.size := by rw [hs1]; omega
  have a1 : ∀ j, ((w.alloc (.cells #[.int .i64 0, .int .u32 0, .int .u32 0, .bool false] 61)).alloc (.cells #[.int .i64 0, .int .u32 0, .int .u32 0, .bool false] 61)).cell? ⟨w.heap.size, j, none⟩ = (#[.int .i64 0, .int .u32 0, .int .u32 0, .bool false] : Array Value)[j]? := fun j =>
    (World.cell?_alloc_lt _ _ _ lt).trans (World.cell?_alloc_at _ _ _ _ rfl)
  have a2 : ∀ j, ((w.alloc (.cells #[.int .i64 0, .int .u32 0, .int .u32 0, .bool false] 61)).alloc (.cells #[.int .i64 0, .int .u32 0, .int .u32 0, .bool false] 61)).cell? ⟨w.heap.size + 1, j, none⟩ = (#[.int .i64 0, .int .u32 0, .int .u32 0, .bool false] : Array Value)[j]? := fun j =>
    World.cell?_alloc_at _ _ _ _ hs1.symm
  have f1 : ∀ j, (w.alloc (.cells #[.int .i64 0, .int .u32 0, .int .u32 0, .bool false] 61)).frozen? ⟨w.heap.size, j, none⟩ = false := fun j => World.frozen?_alloc_new _ _ _ _
  exact ⟨⟨(a1 0).trans rfl, (a1 1).trans rfl, (a1 2).trans rfl, (a1 3).trans rfl⟩, ⟨(a2 0).trans rfl, (a2 1).trans rfl, (a2 2).trans rfl, (a2 3).trans rfl⟩,
    fun j => (((Mod.refl _ NoB).alloc _).frozen (p := ⟨w.heap.size, j, none⟩) lt (by simp [NoB])).trans (f1 j), fun j => frozen_alloc_at _ _ _ _ _ hs1.symm, ((Mod.refl _ _).alloc _).alloc _, Nat.le_refl _, Nat.le_succ _, by omega, hg⟩
theorem i64_of {t : Int} (h : 0 ≤ t ∧ t ≤ 4611686018427387903) : IntKind.i64.wrap t = t := IntWalk.i64_in _ (by omega)
theorem u32_of {t : Int} (h : 0 ≤ t ∧ t ≤ 4294967295) : IntKind.u32.wrap t = t := by rw [IntKind.wrap_u32]; omega
/-- What goes out at last. -/
theorem VSt.fin {w wr : World} {g g2 g3 : Nat} {x : Ev} (h : VSt w wr g g2 g3 x) :
    let W := (((wr.setCell ⟨g2, 0, none⟩ (.int .i64 x.t)).setCell ⟨g2, 1, none⟩ (.int .u32 x.e.u)).setCell ⟨g2, 2, none⟩ (.int .u32 x.e.v)).setCell ⟨g2, 3, none⟩ (.bool x.add)
    (W.cell? ⟨g2, 0, none⟩ = some (.int .i64 x.t) ∧ W.cell? ⟨g2, 1, none⟩ = some (.int .u32 x.e.u) ∧ W.cell? ⟨g2, 2, none⟩ = some (.int .u32 x.e.v) ∧ W.cell? ⟨g2, 3, none⟩ = some (.bool x.add)) ∧ Mod w W (OneB g) ∧ Mod wr W (OneB g2) := by
  intro W
  obtain ⟨c0, c1, c2, c3⟩ := h.e2
  have hm : Mod wr W (OneB g2) := (((Mod.set1 wr g2 0 _).setG _).setG _).setG _
  have o : ∀ (z : World) (i j : Nat) (v : Value), i ≠ j → (z.setCell ⟨g2, i, none⟩ v).cell? ⟨g2, j, none⟩ = z.cell? ⟨g2, j, none⟩ := fun z i j v hij => World.cell?_setCell_other _ _ _ _ (by intro c; cases c; exact hij rfl)
  refine ⟨⟨?_, ?_, ?_, ?_⟩, h.mod.trans hm (fun i hi c => by have e : i = g2 := c; have := h.y2; omega), hm⟩
  · rw [o _ 3 0 _ (by decide), o _ 2 0 _ (by decide), o _ 1 0 _ (by decide)]; exact World.cell?_setCell_same _ _ _ c0
  · rw [o _ 3 1 _ (by decide), o _ 2 1 _ (by decide)]; exact World.cell?_setCell_same _ _ _ ((o _ 0 1 _ (by decide)).trans c1)
  · rw [o _ 3 2 _ (by decide)]; exact World.cell?_setCell_same _ _ _ ((o _ 1 2 _ (by decide)).trans ((o _ 0 2 _ (by decide)).trans c2))
  · exact World.cell?_setCell_same _ _ _ ((o _ 2 3 _ (by decide)).trans ((o _ 1 3 _ (by decide)).trans ((o _ 0 3 _ (by decide)).trans c3)))
end Go.Proofs.YtggnkefhegnokaaDoor
end
