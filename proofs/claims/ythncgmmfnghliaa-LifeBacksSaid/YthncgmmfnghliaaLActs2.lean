/- Lives that came in: a slice of structs. -/
import Derived.Test.YthncgmmfnghliaaLActs
import Derived.Test.YthncgmmfnghliaaLfSe
namespace Go.Proofs.Ythncgmmfnghliaa
open Go.RowKit Go.ChangeShapes Go.WideShapes
set_option linter.unusedVariables false

set_option maxRecDepth 100000 in
theorem open_lives {H : Type} {enc : TypeId × Value → H} {w : World} {base : Nat} {spare : Nat → Bool} {held : Bool} {a : Option Addr} {len cap : Nat} {fuel : Nat} {x : DataW H × List MemPlace}
    (h : DataW.trod enc Try.prog w base spare held fuel 31 (Value.cells (.slice a len cap)).toList = some x) : ∃ l : List Lf, l.length = len ∧ Lvs w a l ∧ (∀ y ∈ l, EdB y.e) ∧ len ≤ maxLen := by
  rcases Go.Deep.open_slice Try.underlying31 h with ⟨hc, _⟩ | ⟨x, l, c, m, n, D, Pl, hc, _, hl, hm, hmm, _, hel⟩
  · simp [Value.cells] at hc
    obtain ⟨rfl, rfl, rfl⟩ := hc
    exact ⟨[], rfl, Or.inl rfl, by simp, Nat.zero_le _⟩
  · simp [Value.cells] at hc
    obtain ⟨rfl, rfl, rfl⟩ := hc
    have hlm : len ≤ m := by rw [hmm]; split <;> omega
    have hc3 : Try.prog.cellsOf 56 = 4 := by kernel_rfl
    have key : ∀ i : Fin len, ∃ y : Lf, w.cell? ((x.add (i.val * 4)).add 0) = some (.int .u32 y.e.u) ∧ w.cell? ((x.add (i.val * 4)).add 1) = some (.int .u32 y.e.v) ∧ w.cell? ((x.add (i.val * 4)).add 2) = some (.int .i64 y.fr) ∧ w.cell? ((x.add (i.val * 4)).add 3) = some (.int .i64 y.to) ∧ EdB y.e := by
      intro i
      obtain ⟨cs', hcs, htr⟩ := hel i.val (by omega)
      rw [hc3] at hcs
      obtain ⟨_, hlen, hat⟩ := World.cells?_some hcs
      obtain ⟨u, v, fr, ti, rfl, hu, hv, _, _⟩ := open_lf htr
      refine ⟨⟨⟨u, v⟩, fr, ti⟩, hat 0 (by decide), hat 1 (by decide), hat 2 (by decide), hat 3 (by decide), ?_⟩
      exact ⟨bounds_u32 hu, bounds_u32 hv⟩
    obtain ⟨f, hf⟩ := Classical.axiomOfChoice key
    refine ⟨List.ofFn f, by simp, ?_, ?_, by omega⟩
    · by_cases h0 : len = 0
      · subst h0; exact Or.inl (by simp)
      · right
        obtain ⟨b, off, spot⟩ := x
        have hk0 := (hf ⟨0, by omega⟩).1
        have hspot : spot = none := by simpa [Addr.add] using World.cell?_spot hk0
        subst hspot
        refine ⟨b, off, rfl, by have := World.block_lt_of_cell? _ _ hk0; simpa [Addr.add] using this, fun i y hy => ?_⟩
        obtain ⟨h1, h2⟩ := List.getElem?_eq_some_iff.1 hy
        have hil : i < len := by simpa using h1
        have hy2 : f ⟨i, hil⟩ = y := by simpa using h2
        obtain ⟨q0, q1, q2, q3, _⟩ := hf ⟨i, hil⟩
        rw [hy2] at q0 q1 q2 q3
        simp only [add_plain, Nat.add_zero] at q0 q1 q2 q3
        exact ⟨q0, q1, q2, q3⟩
    · intro y hy
      obtain ⟨i, hi⟩ := (List.mem_ofFn).1 hy
      rw [← hi]; exact (hf i).2.2.2.2
end Go.Proofs.Ythncgmmfnghliaa
