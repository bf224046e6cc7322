/- Merged: Ref RefW RefN -/
import Derived.Test.YtppambkffgmkgaaDoorMg11
import Derived.IntWalk
section
/- The contracts of the reference's scanner. -/
namespace Go.Proofs.YtppambkffgmkgaaDoor
open Go.RowKit
set_option linter.unusedVariables false

/-- What is left of a text. -/
def lft (s : ByteArray) (a : Nat) : List UInt8 := (L s).drop a
theorem lft_at (s : ByteArray) (a k : Nat) (h : a + k < s.size) : (lft s a)[k]? = some s[a + k] := by
  unfold lft; rw [List.getElem?_drop]; exact at_byte s (a + k) h
theorem lft_len (s : ByteArray) (a : Nat) : (lft s a).length = s.size - a := by unfold lft; rw [List.length_drop, L_len]

/-- A place, k bytes on. -/
def advL (p : Int × Int) (l : List UInt8) (k : Nat) : Int × Int := adv p (l.take k)
theorem advL_succ (p : Int × Int) (l : List UInt8) (k : Nat) (c : UInt8) (h : l[k]? = some c) : advL p l (k + 1) = if c.toNat = 10 then ((advL p l k).1 + 1, 1) else ((advL p l k).1, (advL p l k).2 + 1) := by
  unfold advL; rw [List.take_add_one, h]; exact adv_snoc _ _ _
theorem advL_bd (p : Int × Int) (l : List UInt8) (k : Nat) (hk : k ≤ l.length) (hp : 1 ≤ p.2) : p.1 ≤ (advL p l k).1 ∧ (advL p l k).1 ≤ p.1 + k ∧ 1 ≤ (advL p l k).2 ∧ (advL p l k).2 ≤ p.2 + k := by
  have := adv_bd (l.take k) p hp
  rw [List.length_take, Nat.min_eq_left hk] at this
  exact this

/-- What Next answers. -/
def rnextV (s : ByteArray) (a : Nat) (er : Int) : Value := if h : er = 0 ∧ a < s.size then .tuple #[.int .u8 (s[a]'h.2).toNat, .bool true] else .tuple #[.int .u8 0, .bool false]
theorem rnextV_some {s : ByteArray} {a : Nat} (h : a < s.size) : rnextV s a 0 = .tuple #[.int .u8 s[a].toNat, .bool true] := by simp [rnextV, h]
theorem rnextV_none {s : ByteArray} {a : Nat} {er : Int} (h : er ≠ 0 ∨ ¬ a < s.size) : rnextV s a er = .tuple #[.int .u8 0, .bool false] := by
  unfold rnextV; rw [dif_neg (by omega)]

end Go.Proofs.YtppambkffgmkgaaDoor
end

section
/- The contracts of the reference's Word and Byte. -/
namespace Go.Proofs.YtppambkffgmkgaaDoor
open Go.RowKit
set_option linter.unusedVariables false

/-- The first k bytes are alike. -/
def Alike (u l : List UInt8) (k : Nat) : Prop := k ≤ u.length ∧ k ≤ l.length ∧ u.take k = l.take k
theorem alike_all {u l : List UInt8} (h : Alike u l u.length) : u <+: l := by
  have := h.2.2; rw [List.take_length] at this
  exact List.prefix_iff_eq_take.2 this
theorem alike_short {u l : List UInt8} (h : Alike u l l.length) (hlt : l.length < u.length) : ¬ u <+: l ∧ l <+: u := by
  refine ⟨fun hp => absurd hp.length_le (by omega), ?_⟩
  have := h.2.2; rw [List.take_length] at this
  exact List.prefix_iff_eq_take.2 this.symm
theorem alike_succ {u l : List UInt8} {k : Nat} {c : UInt8} (h : Alike u l k) (hu : u[k]? = some c) (hl : l[k]? = some c) : Alike u l (k + 1) := by
  have h1 := (List.getElem?_eq_some_iff.1 hu).1
  have h2 := (List.getElem?_eq_some_iff.1 hl).1
  exact ⟨h1, h2, by rw [List.take_add_one, List.take_add_one, hu, hl, h.2.2]⟩
theorem alike_not {u l : List UInt8} {k : Nat} {c d : UInt8} (hu : u[k]? = some c) (hl : l[k]? = some d) (hne : c ≠ d) : ¬ u <+: l ∧ ¬ l <+: u := by
  have h1 := (List.getElem?_eq_some_iff.1 hu).1
  have h2 := (List.getElem?_eq_some_iff.1 hl).1
  refine ⟨fun hp => ?_, fun hp => ?_⟩
  · obtain ⟨t, ht⟩ := hp
    rw [← ht, List.getElem?_append_left h1, hu] at hl
    exact hne (Option.some.inj hl)
  · obtain ⟨t, ht⟩ := hp
    rw [← ht, List.getElem?_append_left h2, hl] at hu
    exact hne (Option.some.inj hu).symm

end Go.Proofs.YtppambkffgmkgaaDoor
end

section
/- The contract of the reference's Number. -/
namespace Go.Proofs.YtppambkffgmkgaaDoor
open Go.RowKit
set_option linter.unusedVariables false

def ndl (l : List UInt8) : Nat := (l.takeWhile isD).length
theorem ndl_le (l : List UInt8) : ndl l ≤ l.length := (List.takeWhile_sublist _).length_le
theorem ndl_get {l : List UInt8} {k : Nat} (h : k < ndl l) : (l.takeWhile isD)[k]? = l[k]? := by
  have : l.takeWhile isD = l.take (ndl l) := takeWhile_eq_take _ _
  rw [this, List.getElem?_take_of_lt h]
theorem ndl_digit {l : List UInt8} {k : Nat} {c : UInt8} (h : k < ndl l) (hc : l[k]? = some c) : isD c = true := by
  rw [← ndl_get h] at hc
  exact List.all_eq_true.1 (List.all_takeWhile) _ (List.mem_of_getElem? hc)
theorem ndl_stop : ∀ {l : List UInt8} {c : UInt8}, l[ndl l]? = some c → isD c = false
  | [], c, h => by simp at h
  | a :: l, c, h => by
    by_cases ha : isD a = true
    · have e : ndl (a :: l) = ndl l + 1 := by simp [ndl, ha]
      rw [e, List.getElem?_cons_succ] at h
      exact ndl_stop h
    · have e : ndl (a :: l) = 0 := by simp [ndl, ha]
      rw [e, List.getElem?_cons_zero] at h
      cases h
      simpa using ha
theorem dsl_take_succ {l : List UInt8} {k : Nat} {c : UInt8} (h : k < ndl l) (hc : l[k]? = some c) : (l.takeWhile isD).take (k + 1) = (l.takeWhile isD).take k ++ [c] := by
  rw [List.take_add_one, ndl_get h, hc]; rfl
theorem valof_stepl {most : Int} {l : List UInt8} {j : Nat} {v : Int} {c : UInt8} (h : j < ndl l) (hc : l[j]? = some c) (hv : valof most ((l.takeWhile isD).take j) 0 = some v) :
    valof most ((l.takeWhile isD).take (j + 1)) 0 = if dv c > most ∨ v > (most - dv c) / 10 then none else some (v * 10 + dv c) := by
  rw [dsl_take_succ h hc, valof_snoc, hv]; rfl

theorem numErr_cases {l : List UInt8} : (l = [] ∧ numErr l = 20) ∨ (l ≠ [] ∧ (ndl l = 0 ∨ (1 < ndl l ∧ l.head? = some 48)) ∧ numErr l = 21) ∨ (0 < ndl l ∧ ¬ (1 < ndl l ∧ l.head? = some 48) ∧ numErr l = 0) := by
  by_cases h0 : l = []
  · exact Or.inl ⟨h0, by simp [numErr, h0]⟩
  · right
    by_cases h1 : ndl l = 0 ∨ (1 < ndl l ∧ l.head? = some 48)
    · exact Or.inl ⟨h0, h1, by unfold numErr; rw [if_neg h0]; exact if_pos h1⟩
    · exact Or.inr ⟨by omega, fun h => h1 (Or.inr h), by unfold numErr; rw [if_neg h0]; exact if_neg h1⟩

end Go.Proofs.YtppambkffgmkgaaDoor
end
