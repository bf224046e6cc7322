/- Rows of numbers that rise by one, and what joins and cuts make of them, plainly. -/
import Derived.Test.YtlmbkmjjiebpbaaTrF
namespace Go.Proofs.Ytlmbkmjjiebpbaa
set_option linter.unusedVariables false

/-- The numbers from a up to b. -/
def seg (a b : Nat) : List Nat := List.range' a (b - a)
theorem seg_len (a b : Nat) : (seg a b).length = b - a := by simp [seg]
theorem seg_get (a b i : Nat) : (seg a b)[i]? = if i < b - a then some (a + i) else none := by
  unfold seg
  split <;> rename_i h
  · rw [List.getElem?_range' h]; simp
  · rw [List.getElem?_eq_none (by simp; omega)]
theorem seg_getD {a b i : Nat} (h : i < b - a) : (seg a b).getD i 0 = a + i := by
  rw [List.getD_eq_getElem?_getD, seg_get, if_pos h]; rfl
theorem seg_mem {a b x : Nat} (h : x ∈ seg a b) : a ≤ x ∧ x < b := by
  obtain ⟨i, hi⟩ := List.mem_iff_getElem?.1 h
  rw [seg_get] at hi
  split at hi
  · simp at hi; omega
  · cases hi
theorem seg_take {a b m : Nat} (h : a + m ≤ b) : (seg a b).take m = seg a (a + m) := by
  apply List.ext_getElem?
  intro i
  rw [List.getElem?_take, seg_get, seg_get]
  split <;> split <;> first | rfl | omega | (split <;> first | rfl | omega)
theorem seg_drop {a b m : Nat} (h : a + m ≤ b) : (seg a b).drop m = seg (a + m) b := by
  apply List.ext_getElem?
  intro i
  rw [List.getElem?_drop, seg_get, seg_get]
  split <;> split <;> first | rfl | omega | (congr 1; omega)
theorem seg_snoc {a b : Nat} (h : a ≤ b) : seg a b ++ [b] = seg a (b + 1) := by
  apply List.ext_getElem?
  intro i
  rw [seg_get]
  by_cases hi : i < b - a
  · rw [List.getElem?_append_left (by rw [seg_len]; exact hi), seg_get, if_pos hi, if_pos (by omega)]
  · rw [List.getElem?_append_right (by rw [seg_len]; omega), seg_len]
    by_cases e : i = b - a
    · rw [e, if_pos (by omega)]; simp; omega
    · rw [if_neg (by omega), List.getElem?_eq_none (by simp; omega)]

theorem pos_in {a b x : Nat} {z : Int} (h : a ≤ x ∧ x < b) (hz : z = x) : pos (seg a b) z = some (x - a) := by
  refine pos_at (y := x) ?_ hz.symm (fun j hj y hy e => ?_)
  · rw [seg_get, if_pos (by omega)]; congr 1; omega
  · rw [seg_get] at hy
    split at hy
    · simp at hy; omega
    · cases hy
theorem pos_out {a b : Nat} {z : Int} (h : ∀ x : Nat, z = x → ¬ (a ≤ x ∧ x < b)) : pos (seg a b) z = none :=
  pos_none (fun y hy e => h y e.symm (seg_mem hy))
theorem pos_app (l m : List Nat) (z : Int) : pos (l ++ m) z = match pos l z with | some k => some k | none => (pos m z).map (· + l.length) := by
  induction l with
  | nil => simp [pos]
  | cons y l ih =>
    simp only [List.cons_append, pos]
    split
    · rfl
    · rw [ih]
      cases pos l z with
      | some k => rfl
      | none =>
        cases pos m z with
        | none => rfl
        | some j => simp; omega

theorem fnd1 {l : List Nat} {L : List (List Nat)} {z : Int} {k : Nat} (h : pos l z = some k) : fnd (l :: L) z = some (0, k) := by simp [fnd, h]
theorem fnd2 {l : List Nat} {L : List (List Nat)} {z : Int} {i k : Nat} (h : pos l z = none) (hf : fnd L z = some (i, k)) : fnd (l :: L) z = some (i + 1, k) := by simp [fnd, h, hf]

/-- What stands behind i nodes, each joined behind the ones ahead. -/
def chain (i : Nat) : List (List Nat) := if i = 0 then [] else [seg 0 i]
theorem chain_pos {i : Nat} (h : 0 < i) : chain i = [seg 0 i] := by unfold chain; rw [if_neg (by omega)]
theorem chain_zero : chain 0 ++ [[0]] = chain 1 := by decide
theorem chain_succ {i : Nat} (h : 0 < i) (x : Nat) (hx : x < i) (z y : Int) (hz : z = x) (hy : y = i) : jn (chain i ++ [[i]]) z y = (true, chain (i + 1)) := by
  rw [chain_pos h, chain_pos (by omega)]
  have e1 : fnd ([seg 0 i] ++ [[i]]) z = some (0, x) := fnd1 (by rw [pos_in (x := x) ⟨Nat.zero_le _, hx⟩ hz]; rfl)
  have e2 : fnd ([seg 0 i] ++ [[i]]) y = some (1, 0) := fnd2 (i := 0) (pos_out (fun x' e => by omega)) (fnd1 (by simp [pos, hy]))
  unfold jn
  rw [e1, e2]
  simp [seg_snoc]

section
variable {k p q : Nat}

theorem mid_cut1 (h0 : 0 < p) (h1 : p < k) : ct (chain k) p = (true, [seg 0 p, seg p k]) := by
  rw [chain_pos (by omega)]
  unfold ct
  rw [fnd1 (k := p) (by rw [pos_in (x := p) ⟨Nat.zero_le _, h1⟩ rfl]; rfl)]
  simp only
  rw [if_neg (by omega)]
  simp only [List.getD_cons_zero, List.set_cons_zero]
  rw [seg_take (by omega), seg_drop (by omega)]
  simp
theorem mid_cut2 (h0 : 0 < p) (h1 : p < q) (h2 : q < k) : ct [seg 0 p, seg p k] q = (true, [seg 0 p, seg p q, seg q k]) := by
  unfold ct
  rw [fnd2 (i := 0) (k := q - p) (pos_out (fun x e => by omega)) (fnd1 (pos_in (x := q) ⟨by omega, h2⟩ rfl))]
  simp only
  rw [if_neg (by omega)]
  simp only [List.getD_cons_succ, List.getD_cons_zero, List.set_cons_succ, List.set_cons_zero, Nat.zero_add]
  rw [seg_take (by omega), seg_drop (by omega)]
  simp [show p + (q - p) = q by omega]

theorem mid_f0 (h0 : 0 < p) (L : List (List Nat)) : fnd (seg 0 p :: L) 0 = some (0, 0) := fnd1 (pos_in (x := 0) ⟨by omega, h0⟩ rfl)
theorem mid_fp (h1 : p < q) (L : List (List Nat)) : fnd (seg 0 p :: seg p q :: L) p = some (1, 0) :=
  fnd2 (i := 0) (pos_out (fun x e => by omega)) (fnd1 (by rw [pos_in (x := p) ⟨by omega, h1⟩ rfl]; simp))
theorem mid_fq (x : Nat) (h1 : p < q) (hx : q ≤ x ∧ x < k) (z : Int) (hz : z = x) : fnd [seg 0 p, seg p q, seg q k] z = some (2, x - q) :=
  fnd2 (i := 1) (pos_out (fun y e => by omega)) (fnd2 (i := 0) (pos_out (fun y e => by omega)) (fnd1 (pos_in (x := x) hx hz)))

/-- The three parts. -/
theorem mid_facts (h0 : 0 < p) (h1 : p < q) (h2 : q < k) :
    ((lst [seg 0 p, seg p q, seg q k] p).length : Int) = (q : Int) - p ∧ ((lst [seg 0 p, seg p q, seg q k] 0).length : Int) = p ∧ ((lst [seg 0 p, seg p q, seg q k] q).length : Int) = (k : Int) - q ∧
    same [seg 0 p, seg p q, seg q k] p q = false ∧ same [seg 0 p, seg p q, seg q k] 0 p = false ∧ atL (lst [seg 0 p, seg p q, seg q k] p) 0 = p ∧ atL (lst [seg 0 p, seg p q, seg q k] q) ((k : Int) - q - 1) = (k : Int) - 1 ∧
    jn [seg 0 p, seg p q, seg q k] 0 ((k : Int) - 1) = (true, [seg 0 p ++ seg q k, seg p q]) := by
  have f0 := mid_f0 (p := p) h0 [seg p q, seg q k]
  have fp := mid_fp (p := p) (q := q) h1 [seg q k]
  have fq := mid_fq (p := p) (q := q) (k := k) q h1 ⟨Nat.le_refl _, h2⟩ q rfl
  have fk := mid_fq (p := p) (q := q) (k := k) (k - 1) h1 ⟨by omega, by omega⟩ ((k : Int) - 1) (by omega)
  have l0 : lst [seg 0 p, seg p q, seg q k] 0 = seg 0 p := by unfold lst; rw [f0]; rfl
  have lp : lst [seg 0 p, seg p q, seg q k] p = seg p q := by unfold lst; rw [fp]; rfl
  have lq : lst [seg 0 p, seg p q, seg q k] q = seg q k := by unfold lst; rw [fq]; rfl
  rw [l0, lp, lq]
  refine ⟨by rw [seg_len]; omega, by rw [seg_len]; omega, by rw [seg_len]; omega, ?_, ?_, ?_, ?_, ?_⟩
  · unfold same; rw [fp, fq]; rfl
  · unfold same; rw [f0, fp]; rfl
  · unfold atL; rw [if_pos ⟨by omega, by rw [seg_len]; omega⟩, Int.toNat_zero, seg_getD (by omega)]; simp
  · unfold atL; rw [if_pos ⟨by omega, by rw [seg_len]; omega⟩, seg_getD (by omega)]; omega
  · unfold jn; rw [f0, fk]; simp

theorem mid_facts2 (h0 : 0 < p) (h1 : p < q) (h2 : q < k) :
    ((lst [seg 0 p ++ seg q k, seg p q] 0).length : Int) = (k : Int) - q + p ∧ idx [seg 0 p ++ seg q k, seg p q] q = p ∧ idx [seg 0 p ++ seg q k, seg p q] p = 0 ∧ atL (lst [seg 0 p ++ seg q k, seg p q] 0) p = q := by
  have f0 : fnd [seg 0 p ++ seg q k, seg p q] 0 = some (0, 0) := fnd1 (by rw [pos_app, pos_in (z := 0) (x := 0) ⟨Nat.zero_le _, h0⟩ rfl])
  have fq : fnd [seg 0 p ++ seg q k, seg p q] q = some (0, p) := fnd1 (by rw [pos_app, pos_out (fun x e => by omega), pos_in (x := q) ⟨Nat.le_refl _, h2⟩ rfl]; simp [seg_len])
  have fp : fnd [seg 0 p ++ seg q k, seg p q] p = some (1, 0) := fnd2 (i := 0) (by rw [pos_app, pos_out (fun x e => by omega), pos_out (fun x e => by omega)]; rfl) (fnd1 (by rw [pos_in (x := p) ⟨Nat.le_refl _, h1⟩ rfl]; simp))
  have l0 : lst [seg 0 p ++ seg q k, seg p q] 0 = seg 0 p ++ seg q k := by unfold lst; rw [f0]; rfl
  rw [l0]
  refine ⟨by rw [List.length_append, seg_len, seg_len]; omega, by unfold idx; rw [fq], by unfold idx; rw [fp]; rfl, ?_⟩
  unfold atL
  rw [if_pos ⟨by omega, by rw [List.length_append, seg_len, seg_len]; omega⟩, List.getD_eq_getElem?_getD, List.getElem?_append_right (by rw [seg_len]; omega), seg_len, seg_get, if_pos (by omega)]
  simp
end
end Go.Proofs.Ytlmbkmjjiebpbaa
