/- Rows of events; rows of structs that a call owns, as slices. -/
import Derived.Test.YthncgmmfnghliaaLfE
namespace Go.Proofs.Ythncgmmfnghliaa
open Go.RowKit
set_option linter.unusedVariables false

def encE (x : Ed) : Value := .agg #[.int .u32 x.u, .int .u32 x.v]
def encL (x : Lf) : List Value := [.int .u32 x.e.u, .int .u32 x.e.v, .int .i64 x.fr, .int .i64 x.to]
def encV (x : Ev) : List Value := [.int .i64 x.t, .int .u32 x.e.u, .int .u32 x.e.v, .bool x.add]

/-- An event, at a place. -/
def EvAt (w : World) (b o : Nat) (x : Ev) : Prop := w.cell? ⟨b, o, none⟩ = some (.int .i64 x.t) ∧ w.cell? ⟨b, o + 1, none⟩ = some (.int .u32 x.e.u) ∧ w.cell? ⟨b, o + 2, none⟩ = some (.int .u32 x.e.v) ∧ w.cell? ⟨b, o + 3, none⟩ = some (.bool x.add)
/-- A slice of events. -/
def Evs (w : World) (a : Option Addr) (l : List Ev) : Prop := l = [] ∨ ∃ b off, a = some ⟨b, off, none⟩ ∧ b < w.heap.size ∧ ∀ (i : Nat) (x : Ev), l[i]? = some x → EvAt w b (off + i * 4) x
theorem EvAt.mod {w w' : World} {b o : Nat} {x : Ev} (h : EvAt w b o x) (hm : Mod w w' NoB) : EvAt w' b o x := ⟨keepc h.1 hm, keepc h.2.1 hm, keepc h.2.2.1 hm, keepc h.2.2.2 hm⟩
theorem Evs.mod {w w' : World} {a : Option Addr} {l : List Ev} (h : Evs w a l) (hm : Mod w w' NoB) : Evs w' a l := by
  rcases h with h | ⟨b, off, rfl, hb, h⟩
  · exact Or.inl h
  · exact Or.inr ⟨b, off, rfl, Nat.lt_of_lt_of_le hb hm.size, fun i x hx => (h i x hx).mod hm⟩
theorem keepS {S : Nat → Prop} {w w' : World} {p : Addr} {v : Value} (c : w.cell? p = some v) (m : Mod w w' S) (hs : ¬ S p.block) : w'.cell? p = some v := (m.cell (World.block_lt_of_cell? _ _ c) hs).trans c
/-- Beside changes in S. -/
theorem Evs.modS {S : Nat → Prop} {w w' : World} {a : Option Addr} {l : List Ev} (h : Evs w a l) (hm : Mod w w' S) (hs : ∀ b, b < w.heap.size → (∃ p, a = some p ∧ p.block = b) → ¬ S b) : Evs w' a l := by
  rcases h with h | ⟨b, off, rfl, hb, h⟩
  · exact Or.inl h
  · have hn := hs b hb ⟨_, rfl, rfl⟩
    exact Or.inr ⟨b, off, rfl, Nat.lt_of_lt_of_le hb hm.size, fun i x hx => by
      obtain ⟨h1, h2, h3, h4⟩ := h i x hx
      exact ⟨keepS h1 hm hn, keepS h2 hm hn, keepS h3 hm hn, keepS h4 hm hn⟩⟩
theorem Lvs.modS {S : Nat → Prop} {w w' : World} {a : Option Addr} {l : List Lf} (h : Lvs w a l) (hm : Mod w w' S) (hs : ∀ b, b < w.heap.size → (∃ p, a = some p ∧ p.block = b) → ¬ S b) : Lvs w' a l := by
  rcases h with h | ⟨b, off, rfl, hb, h⟩
  · exact Or.inl h
  · have hn := hs b hb ⟨_, rfl, rfl⟩
    exact Or.inr ⟨b, off, rfl, Nat.lt_of_lt_of_le hb hm.size, fun i x hx => by
      obtain ⟨h1, h2, h3, h4⟩ := h i x hx
      exact ⟨keepS h1 hm hn, keepS h2 hm hn, keepS h3 hm hn, keepS h4 hm hn⟩⟩

theorem enc4_get {α : Type} {enc : α → List Value} (hk : ∀ x, (enc x).length = 4) : ∀ (l : List α) (i : Nat) (x : α) (j : Nat), l[i]? = some x → j < 4 → (l.flatMap enc)[i * 4 + j]? = (enc x)[j]?
  | [], i, x, j, h, _ => by simp at h
  | y :: l, 0, x, j, h, hj => by
    cases h
    rw [List.flatMap_cons, Nat.zero_mul, Nat.zero_add, List.getElem?_append_left (by rw [hk]; exact hj)]
  | y :: l, i + 1, x, j, h, hj => by
    rw [List.flatMap_cons, List.getElem?_append_right (by rw [hk]; omega), hk, show (i + 1) * 4 + j - 4 = i * 4 + j by omega]
    exact enc4_get hk l i x j (by simpa using h) hj
theorem encL_len (x : Lf) : (encL x).length = 4 := rfl
theorem encV_len (x : Ev) : (encV x).length = 4 := rfl
theorem enc4_len {α : Type} {enc : α → List Value} (hk : ∀ x, (enc x).length = 4) : ∀ l : List α, (l.flatMap enc).length = l.length * 4
  | [] => by simp
  | x :: l => by rw [List.flatMap_cons, List.length_append, enc4_len hk l, hk, List.length_cons]; omega

/-- A row that a call owns is a slice of lives. -/
theorem lvs_of_row {w : World} {base n cap : Nat} {e : TypeId} {a : Option Addr} {l : List Lf} (hl : l.length = n) (h : w.ownsRow base e 4 (.slice a n cap) n (l.flatMap encL)) : Lvs w a l := by
  rcases Nat.eq_zero_or_pos n with c | c
  · left; exact List.length_eq_zero_iff.1 (by omega)
  · right
    obtain ⟨g, cap', hv, h1, _⟩ := row_open h c
    cases hv
    have hb : g < w.heap.size := by
      have h0 : (l.flatMap encL)[0]? = some ((l.flatMap encL)[0]'(by rw [enc4_len encL_len]; omega)) := List.getElem?_eq_getElem _
      exact World.block_lt_of_cell? _ _ (h1 0 _ h0)
    refine ⟨g, 0, rfl, hb, fun i x hx => ?_⟩
    rw [Nat.zero_add]
    have g0 := enc4_get encL_len l i x 0 hx (by omega)
    have g1 := enc4_get encL_len l i x 1 hx (by omega)
    have g2 := enc4_get encL_len l i x 2 hx (by omega)
    have g3 := enc4_get encL_len l i x 3 hx (by omega)
    exact ⟨h1 _ _ g0, h1 _ _ g1, h1 _ _ g2, h1 _ _ g3⟩
theorem evs_of_row {w : World} {base n cap : Nat} {e : TypeId} {a : Option Addr} {l : List Ev} (hl : l.length = n) (h : w.ownsRow base e 4 (.slice a n cap) n (l.flatMap encV)) : Evs w a l := by
  rcases Nat.eq_zero_or_pos n with c | c
  · left; exact List.length_eq_zero_iff.1 (by omega)
  · right
    obtain ⟨g, cap', hv, h1, _⟩ := row_open h c
    cases hv
    have hb : g < w.heap.size := by
      have h0 : (l.flatMap encV)[0]? = some ((l.flatMap encV)[0]'(by rw [enc4_len encV_len]; omega)) := List.getElem?_eq_getElem _
      exact World.block_lt_of_cell? _ _ (h1 0 _ h0)
    refine ⟨g, 0, rfl, hb, fun i x hx => ?_⟩
    rw [Nat.zero_add]
    have g0 := enc4_get encV_len l i x 0 hx (by omega)
    have g1 := enc4_get encV_len l i x 1 hx (by omega)
    have g2 := enc4_get encV_len l i x 2 hx (by omega)
    have g3 := enc4_get encV_len l i x 3 hx (by omega)
    exact ⟨h1 _ _ g0, h1 _ _ g1, h1 _ _ g2, h1 _ _ g3⟩
/-- A place in a slice. -/
theorem Lvs.at {w : World} {a : Option Addr} {l : List Lf} (h : Lvs w a l) {k : Nat} (hk : k < l.length) : ∃ b off x, a = some ⟨b, off, none⟩ ∧ b < w.heap.size ∧ l[k]? = some x ∧ LfAt w b (off + k * 4) x := by
  rcases h with h | ⟨b, off, h1, h2, h3⟩
  · rw [h] at hk; simp at hk
  · exact ⟨b, off, l[k], h1, h2, List.getElem?_eq_getElem hk, h3 k _ (List.getElem?_eq_getElem hk)⟩
theorem Evs.at {w : World} {a : Option Addr} {l : List Ev} (h : Evs w a l) {k : Nat} (hk : k < l.length) : ∃ b off x, a = some ⟨b, off, none⟩ ∧ b < w.heap.size ∧ l[k]? = some x ∧ EvAt w b (off + k * 4) x := by
  rcases h with h | ⟨b, off, h1, h2, h3⟩
  · rw [h] at hk; simp at hk
  · exact ⟨b, off, l[k], h1, h2, List.getElem?_eq_getElem hk, h3 k _ (List.getElem?_eq_getElem hk)⟩
/-- One cell of a row that a call owns is set. -/
theorem row_set {w : World} {base g n cap size : Nat} {e : TypeId} {xs : List Value} (j : Nat) (v : Value) (h : w.ownsRow base e size (.slice (some ⟨g, 0, none⟩) n cap) n xs) :
    (w.setCell ⟨g, j, none⟩ v).ownsRow base e size (.slice (some ⟨g, 0, none⟩) n cap) n (xs.set j v) := by
  obtain ⟨h0, h2⟩ := h
  rcases h2 with ⟨hv, _⟩ | ⟨g', cap', cur, hv, hb, hg, h1, h2, h3, h4⟩
  · cases hv
  · cases hv
    refine ⟨by rw [List.length_set]; exact h0, Or.inr ⟨g, cap, cur.setIfInBounds j v, rfl, hb, ?_, h1, h2, by simpa using h3, ?_⟩⟩
    · unfold World.setCell
      simp [Array.getElem?_modify, hg]
    · rw [Array.toList_setIfInBounds, List.take_set, h4]
theorem flat_set : ∀ (l : List Lf) (i : Nat) (x : Lf) (t : Int), l[i]? = some x → (l.flatMap encL).set (i * 4 + 3) (.int .i64 t) = (l.set i ⟨x.e, x.fr, t⟩).flatMap encL
  | [], i, x, t, h => by simp at h
  | y :: l, 0, x, t, h => by
    cases h
    rfl
  | y :: l, i + 1, x, t, h => by
    have ih := flat_set l i x t (by simpa using h)
    rw [List.set_cons_succ, List.flatMap_cons, List.flatMap_cons, ← ih]
    rw [List.set_append_right _ _ (by show 4 ≤ _; omega)]
    congr 2
    show (i + 1) * 4 + 3 - 4 = _
    omega
end Go.Proofs.Ythncgmmfnghliaa
