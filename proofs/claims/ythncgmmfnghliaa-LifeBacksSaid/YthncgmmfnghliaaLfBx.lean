/- Rows of one's own, of elements of four cells: one field set. -/
import Derived.Test.YthncgmmfnghliaaLfSb
import Derived.Test.YthncgmmfnghliaaLfAp
namespace Go.Proofs.Ythncgmmfnghliaa
open Go.RowKit
set_option linter.unusedVariables false

theorem flat_set4 {α : Type} {enc : α → List Value} (hk : ∀ x, (enc x).length = 4) : ∀ (l : List α) (i : Nat) (x y : α) (c : Nat) (v : Value), l[i]? = some x → c < 4 → (enc x).set c v = enc y → (l.flatMap enc).set (i * 4 + c) v = (l.set i y).flatMap enc
  | [], i, x, y, c, v, h, _, _ => by simp at h
  | z :: l, 0, x, y, c, v, h, hc, hy => by
    cases h
    rw [List.set_cons_zero, List.flatMap_cons, List.flatMap_cons, Nat.zero_mul, Nat.zero_add, List.set_append_left _ _ (by rw [hk]; exact hc), hy]
  | z :: l, i + 1, x, y, c, v, h, hc, hy => by
    have ih := flat_set4 hk l i x y c v (by simpa using h) hc hy
    rw [List.set_cons_succ, List.flatMap_cons, List.flatMap_cons, ← ih, List.set_append_right _ _ (by rw [hk]; omega), hk]
    congr 2
    omega

/-- A row of one's own, in a young block. -/
structure Own4 {α : Type} (enc : α → List Value) (e : TypeId) (w0 w : World) (g n cap : Nat) (l : List α) : Prop where
  len : l.length = n
  row : w.ownsRow 0 e 4 (.slice (some ⟨g, 0, none⟩) n cap) n (l.flatMap enc)
  mod : Mod w0 w NoB
  young : w0.heap.size ≤ g
theorem Own4.set {α : Type} {enc : α → List Value} {e : TypeId} {w0 w : World} {g n cap : Nat} {l : List α} (h : Own4 enc e w0 w g n cap l) (hk : ∀ x, (enc x).length = 4) {i : Nat} {x : α} (y : α) (c : Nat) (v : Value) (hx : l[i]? = some x) (hc : c < 4) (hy : (enc x).set c v = enc y) :
    Own4 enc e w0 (w.setCell ⟨g, i * 4 + c, none⟩ v) g n cap (l.set i y) :=
  ⟨by rw [List.length_set]; exact h.len, by have := row_set (i * 4 + c) v h.row; rwa [flat_set4 hk l i x y c v hx hc hy] at this, h.mod.trans (Mod.set1 w g _ v) (fun i hi c => by have : i = g := c; have := h.young; omega), h.young⟩
theorem Own4.mod' {α : Type} {enc : α → List Value} {e : TypeId} {w0 w w' : World} {g n cap : Nat} {l : List α} (h : Own4 enc e w0 w g n cap l) (hm : Mod w w' NoB) : Own4 enc e w0 w' g n cap l :=
  ⟨h.len, hm.row h.row (fun _ _ c => c), h.mod.trans hm (fun _ _ c => c), h.young⟩
theorem Own4.lt {α : Type} {enc : α → List Value} {e : TypeId} {w0 w : World} {g n cap : Nat} {l : List α} (h : Own4 enc e w0 w g n cap l) : g < w.heap.size := (h.row.lt g rfl).2
theorem Own4.cell {α : Type} {enc : α → List Value} {e : TypeId} {w0 w : World} {g n cap : Nat} {l : List α} (h : Own4 enc e w0 w g n cap l) (hk : ∀ x, (enc x).length = 4) {i : Nat} {x : α} (c : Nat) {v : Value} (hx : l[i]? = some x) (hc : c < 4) (hv : (enc x)[c]? = some v) :
    w.cell? ⟨g, i * 4 + c, none⟩ = some v := by
  have hn : 0 < n := by rw [← h.len]; have := (List.getElem?_eq_some_iff.1 hx).1; omega
  obtain ⟨g', cap', hv', h1, _⟩ := row_open h.row hn
  cases hv'
  exact h1 _ _ ((enc4_get hk l i x c hx hc).trans hv)
theorem Own4.frozen {α : Type} {enc : α → List Value} {e : TypeId} {w0 w : World} {g n cap : Nat} {l : List α} (h : Own4 enc e w0 w g n cap l) (j : Nat) : w.frozen? ⟨g, j, none⟩ = false := by
  rcases h.row.2 with ⟨hv, _⟩ | ⟨g', cap', cur, hv, hb, hg, _⟩
  · cases hv
  · cases hv
    unfold World.frozen?
    rw [hg]
    simp
end Go.Proofs.Ythncgmmfnghliaa
