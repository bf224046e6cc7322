/- What scanners do, in plain words: places, numbers, words over lists of bytes. No program. -/
import Derived.WalkKit
namespace Go.Proofs.Ytekbiaphnpnpgaa

def isD (c : UInt8) : Bool := 48 ≤ c.toNat && c.toNat ≤ 57
/-- The place behind some bytes. -/
def adv : Int × Int → List UInt8 → Int × Int
  | p, [] => p
  | p, c :: r => adv (if c.toNat = 10 then (p.1 + 1, 1) else (p.1, p.2 + 1)) r
theorem adv_append (p : Int × Int) (l r : List UInt8) : adv p (l ++ r) = adv (adv p l) r := by
  induction l generalizing p with
  | nil => rfl
  | cons c l ih => exact ih _
theorem adv_snoc (p : Int × Int) (l : List UInt8) (c : UInt8) : adv p (l ++ [c]) = if c.toNat = 10 then ((adv p l).1 + 1, 1) else ((adv p l).1, (adv p l).2 + 1) := by rw [adv_append]; rfl
theorem adv_bd (l : List UInt8) : ∀ (p : Int × Int), 1 ≤ p.2 → p.1 ≤ (adv p l).1 ∧ (adv p l).1 ≤ p.1 + l.length ∧ 1 ≤ (adv p l).2 ∧ (adv p l).2 ≤ p.2 + l.length := by
  induction l with
  | nil => intro p h; simp [adv, h]
  | cons c l ih =>
    intro p h
    simp only [adv, List.length_cons]
    split
    · have := ih (p.1 + 1, 1) (by simp); simp at this; omega
    · have := ih (p.1, p.2 + 1) (by simp; omega); simp at this; omega

/-- A digit's number. -/
def dv (c : UInt8) : Int := (c.toNat : Int) - 48
/-- The value of digits behind v, if it is no more than most. -/
def valof (most : Int) : List UInt8 → Int → Option Int
  | [], v => some v
  | d :: r, v => if dv d > most ∨ v > (most - dv d) / 10 then none else valof most r (v * 10 + dv d)
def numErr (l : List UInt8) : Int := if l = [] then 20 else if (l.takeWhile isD).length = 0 ∨ (1 < (l.takeWhile isD).length ∧ l.head? = some 48) then 21 else 0
/-- What Number comes to: its answer, the error, how many bytes are read. -/
def numOut (most : Int) (l : List UInt8) (er : Int) : Int × Int × Nat :=
  if er ≠ 0 then (0, er, 0)
  else if numErr l ≠ 0 then (0, numErr l, 0)
  else match valof most (l.takeWhile isD) 0 with
    | none => (0, 22, 0)
    | some v => (v, 0, (l.takeWhile isD).length)
/-- What Word comes to. -/
def wordOut (u l : List UInt8) (er : Int) : Bool × Int × Nat :=
  if er ≠ 0 then (false, er, 0)
  else if u <+: l then (true, 0, u.length)
  else if l <+: u then (false, 20, 0)
  else (false, 21, 0)

theorem dv_bd {c : UInt8} (h : isD c = true) : 0 ≤ dv c ∧ dv c ≤ 9 := by
  simp [isD] at h; unfold dv; omega
theorem valof_bd {most : Int} {l : List UInt8} : ∀ {v r : Int}, (∀ c ∈ l, isD c = true) → 0 ≤ v → v ≤ most → valof most l v = some r → 0 ≤ r ∧ r ≤ most := by
  induction l with
  | nil => intro v r _ h0 h1 h; simp [valof] at h; omega
  | cons d l ih =>
    intro v r hd h0 h1 h
    simp only [valof] at h
    split at h
    · cases h
    · rename_i hn
      have := dv_bd (hd d (by simp))
      refine ih (fun c hc => hd c (by simp [hc])) (by omega) ?_ h
      have : v ≤ (most - dv d) / 10 := by omega
      omega
theorem valof_snoc (most : Int) (l : List UInt8) (d : UInt8) : ∀ (v : Int), valof most (l ++ [d]) v = (valof most l v).bind fun x => if dv d > most ∨ x > (most - dv d) / 10 then none else some (x * 10 + dv d) := by
  induction l with
  | nil => intro v; simp [valof]
  | cons c l ih =>
    intro v
    simp only [List.cons_append, valof]
    split
    · rfl
    · exact ih _

theorem takeWhile_take_of {α : Type} (p : α → Bool) (l : List α) (n : Nat) (hn : n ≤ l.length) (h1 : ∀ j (hj : j < n), p (l[j]'(by omega)) = true) (h2 : ∀ (h : n < l.length), p l[n] = false) : l.takeWhile p = l.take n := by
  induction l generalizing n with
  | nil => simp
  | cons a l ih =>
    cases n with
    | zero => have := h2 (by simp); simp at this; simp [this]
    | succ n =>
      have ha := h1 0 (by omega)
      simp at ha
      simp only [List.takeWhile_cons, ha, if_true, List.take_succ_cons, List.cons.injEq, true_and]
      exact ih n (by simpa using hn) (fun j hj => by simpa using h1 (j + 1) (by omega)) (fun h => by have h3 := h2 (by simpa using h); rwa [List.getElem_cons_succ] at h3)
end Go.Proofs.Ytekbiaphnpnpgaa
