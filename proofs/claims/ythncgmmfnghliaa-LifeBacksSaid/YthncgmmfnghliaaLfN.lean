/- The document's edges at a moment, kept as a rising list; and the statements' own histories, plainly. Nothing of the program in it. -/
import Derived.Test.YthncgmmfnghliaaLfP
namespace Go.Proofs.Ythncgmmfnghliaa
set_option linter.unusedVariables false

/-- Put in ahead of the first that is not below. -/
def insL (x : Ed) : List Ed → List Ed
  | [] => [x]
  | y :: l => if edLt y x then y :: insL x l else x :: y :: l
/-- Where an edge stands. -/
def fndE (x : Ed) : List Ed → Option Nat
  | [] => none
  | y :: l => if y = x then some 0 else (fndE x l).map (· + 1)
/-- What an event makes of the edges; none: it may not be. -/
def turnL (now : List Ed) (e : Ev) : Option (List Ed) :=
  if e.add = (fndE e.e now).isSome then none else if e.add then some (insL e.e now) else some (now.eraseIdx ((fndE e.e now).getD 0))

theorem fndE_iff {x : Ed} {l : List Ed} : (fndE x l).isSome = true ↔ x ∈ l := by
  induction l with
  | nil => simp [fndE]
  | cons y l ih =>
    simp only [fndE]
    by_cases e : y = x
    · simp [e]
    · rw [if_neg e]; simp only [Option.isSome_map, List.mem_cons]; rw [ih]
      constructor
      · exact Or.inr
      · rintro (h | h)
        · exact absurd h.symm e
        · exact h
theorem fndE_get {x : Ed} {l : List Ed} {k : Nat} (h : fndE x l = some k) : l[k]? = some x ∧ ∀ j, j < k → l[j]? ≠ some x := by
  induction l generalizing k with
  | nil => simp [fndE] at h
  | cons y l ih =>
    simp only [fndE] at h
    by_cases e : y = x
    · rw [if_pos e] at h; cases h; subst e; exact ⟨by simp, fun j hj => by omega⟩
    · rw [if_neg e] at h
      cases hf : fndE x l with
      | none => rw [hf] at h; simp at h
      | some m =>
        rw [hf] at h; simp at h; subst h
        obtain ⟨h1, h2⟩ := ih hf
        refine ⟨by simpa using h1, fun j hj => ?_⟩
        cases j with
        | zero => simpa using e
        | succ j => simpa using h2 j (by omega)

theorem insL_mem {x y : Ed} {l : List Ed} : y ∈ insL x l ↔ y = x ∨ y ∈ l := by
  induction l with
  | nil => simp [insL]
  | cons z l ih =>
    simp only [insL]
    split
    · simp only [List.mem_cons, ih]
      constructor
      · rintro (h | h | h)
        · exact Or.inr (Or.inl h)
        · exact Or.inl h
        · exact Or.inr (Or.inr h)
      · rintro (h | h | h)
        · exact Or.inr (Or.inl h)
        · exact Or.inl h
        · exact Or.inr (Or.inr h)
    · simp only [List.mem_cons]
theorem insL_sorted {x : Ed} {l : List Ed} (h : l.Pairwise edLt) (hx : x ∉ l) : (insL x l).Pairwise edLt := by
  induction l with
  | nil => exact List.pairwise_singleton _ _
  | cons y l ih =>
    obtain ⟨h1, h2⟩ := List.pairwise_cons.1 h
    simp only [insL]
    split
    · rename_i hc
      refine List.pairwise_cons.2 ⟨fun z hz => ?_, ih h2 (fun h => hx (by simp [h]))⟩
      rcases insL_mem.1 hz with rfl | hz
      · exact hc
      · exact h1 z hz
    · rename_i hc
      have hxy : edLt x y := by
        rcases edLt_total x y with c | c | c
        · exact c
        · exact absurd (show x ∈ y :: l by simp [c]) hx
        · exact absurd c hc
      refine List.pairwise_cons.2 ⟨fun z hz => ?_, h⟩
      rcases List.mem_cons.1 hz with rfl | hz
      · exact hxy
      · exact edLt_trans hxy (h1 z hz)

theorem ne_of_edLt {a b : Ed} (h : edLt a b) : a ≠ b := fun e => by subst e; exact edLt_irrefl a h

/-- The list tells what is there. -/
structure NowOk (now : List Ed) (there : Ed → Bool) : Prop where
  sorted : now.Pairwise edLt
  mem : ∀ x, x ∈ now ↔ there x = true

theorem NowOk.nil : NowOk [] (fun _ => false) := ⟨List.Pairwise.nil, by simp⟩
theorem NowOk.find {now : List Ed} {there : Ed → Bool} (h : NowOk now there) (x : Ed) : (fndE x now).isSome = there x := by
  rw [Bool.eq_iff_iff, fndE_iff, h.mem]
theorem NowOk.none {now : List Ed} {there : Ed → Bool} (h : NowOk now there) {e : Ev} (hc : there e.e = e.add) : turnL now e = none := by
  unfold turnL; rw [h.find, if_pos hc.symm]
theorem NowOk.some {now : List Ed} {there : Ed → Bool} (h : NowOk now there) {e : Ev} (hc : there e.e ≠ e.add) : ∃ now', turnL now e = some now' ∧ NowOk now' (turn there e) := by
  unfold turnL
  rw [h.find, if_neg (fun k => hc k.symm)]
  cases ha : e.add with
  | true =>
    have hn : there e.e = false := by rw [ha] at hc; simpa using hc
    have hm : e.e ∉ now := fun k => by rw [h.mem, hn] at k; cases k
    refine ⟨_, rfl, insL_sorted h.sorted hm, fun x => ?_⟩
    rw [insL_mem, h.mem]
    unfold turn
    by_cases hx : x = e.e
    · simp [hx, ha]
    · simp [hx]
  | false =>
    have hn : there e.e = true := by rw [ha] at hc; simpa using hc
    cases hf : fndE e.e now with
    | none => have := h.find e.e; rw [hf, hn] at this; cases this
    | some k =>
      refine ⟨_, by rw [if_neg (by simp)], h.sorted.sublist (List.eraseIdx_sublist _ _), fun x => ?_⟩
      obtain ⟨k1, _⟩ := fndE_get hf
      obtain ⟨k2, k3⟩ := List.getElem?_eq_some_iff.1 k1
      have hnd : now.Pairwise (fun a b => a ≠ b) := h.sorted.imp ne_of_edLt
      simp only [Option.getD_some]
      rw [List.mem_eraseIdx_iff_getElem?]
      unfold turn
      by_cases hx : x = e.e
      · subst hx
        rw [if_pos rfl, ha]
        constructor
        · rintro ⟨i, hi, hit⟩
          obtain ⟨i1, i2⟩ := List.getElem?_eq_some_iff.1 hit
          rcases Nat.lt_or_gt_of_ne hi with c | c
          · exact absurd (i2.trans k3.symm) (List.pairwise_iff_getElem.1 hnd i k i1 k2 c)
          · exact absurd (k3.trans i2.symm) (List.pairwise_iff_getElem.1 hnd k i k2 i1 c)
        · intro h; cases h
      · rw [if_neg hx, ← h.mem]
        constructor
        · rintro ⟨i, _, hit⟩; exact List.mem_of_getElem? hit
        · intro hm
          obtain ⟨i, hit⟩ := List.mem_iff_getElem?.1 hm
          refine ⟨i, fun c => ?_, hit⟩
          subst c
          rw [k1] at hit
          exact hx (Option.some.inj hit).symm
end Go.Proofs.Ythncgmmfnghliaa
