/- Merged: LActs LActs2 LActs3 -/
import Derived.Test.YtggnkefhegnokaaDoorMg09
import Derived.Test.YtggnkefhegnokaaDoorProg
import Derived.Deep.Slices
import Derived.Deep.Strs
import Derived.Lib.SmallJoins
import Derived.ChangeArms
import Derived.Test.YtggnkefhegnokaaDoorMg12
section
/- A life that came in. -/
namespace Go.Proofs.YtggnkefhegnokaaDoor
open Go.RowKit Go.ChangeShapes Go.WideShapes
set_option linter.unusedVariables false

end Go.Proofs.YtggnkefhegnokaaDoor
end

section
/- Lives that came in: a slice of structs. -/
namespace Go.Proofs.YtggnkefhegnokaaDoor
open Go.RowKit Go.ChangeShapes Go.WideShapes
set_option linter.unusedVariables false

end Go.Proofs.YtggnkefhegnokaaDoor
end

section
/- Events that came in: a slice of structs. -/
namespace Go.Proofs.YtggnkefhegnokaaDoor
open Go.RowKit Go.ChangeShapes Go.WideShapes
set_option linter.unusedVariables false

set_option maxRecDepth 100000 in
theorem open_ev {H : Type} {enc : TypeId × Value → H} {w : World} {base : Nat} {spare : Nat → Bool} {held : Bool} {fuel : Nat} {x : DataW H × List MemPlace} {cs : List Value}
    (h : DataW.trod enc Tryd.prog w base spare held fuel 61 cs = some x) : ∃ (t u v : Int) (d : Bool), cs = [.int .i64 t, .int .u32 u, .int .u32 v, .bool d] ∧
      (Lit.int .u32 u).wf = true ∧ (Lit.int .u32 v).wf = true := by
  have hc4 : Tryd.prog.cellsOf 61 = 4 := by kernel_rfl
  have hc2 : Tryd.prog.cellsOf 57 = 2 := by kernel_rfl
  have hk : Tryd.prog.cellsOf 55 = 1 := by kernel_rfl
  have hk2 : Tryd.prog.cellsOf 2 = 1 := by kernel_rfl
  obtain ⟨y0, y1, y2, n', _, hlen, ht0, ht1, ht2⟩ := Go.Deep.trod_struct3 Tryd.underlying61 h
  rw [hc4] at hlen
  match cs, hlen with
  | [v0, v1, v2, v3], _ =>
    simp only [hc2] at ht1
    obtain ⟨q0, q1, n2, _, _, hs0, hs1⟩ := trod_struct2 Tryd.underlying57 ht1
    obtain ⟨u, hu, _, hwu⟩ := DataW.trod_int Tryd.underlying55 hs0
    obtain ⟨p, hp, _, hwp⟩ := DataW.trod_int Tryd.underlying55 hs1
    obtain ⟨q, hq, _, hwq⟩ := DataW.trod_int Tryd.underlying2 ht0
    obtain ⟨r, hr, _⟩ := DataW.trod_bool Tryd.underlying4 ht2
    have hkb : Tryd.prog.cellsOf 4 = 1 := by kernel_rfl
    have e1 : v1 = .int .u32 u := by simp [hk] at hu; exact hu
    have e2 : v2 = .int .u32 p := by simp [hk] at hp; exact hp
    have e0 : v0 = .int .i64 q := by simp [hk2] at hq; exact hq
    have e3 : v3 = .bool r := by simp [hkb] at hr; exact hr
    subst e0 e1 e2 e3
    exact ⟨q, u, p, r, rfl, hwu, hwp⟩
set_option maxRecDepth 100000 in
theorem open_events {H : Type} {enc : TypeId × Value → H} {w : World} {base : Nat} {spare : Nat → Bool} {held : Bool} {a : Option Addr} {len cap : Nat} {fuel : Nat} {x : DataW H × List MemPlace}
    (h : DataW.trod enc Tryd.prog w base spare held fuel 23 (Value.cells (.slice a len cap)).toList = some x) : ∃ l : List Ev, l.length = len ∧ Evs w a l ∧ (∀ y ∈ l, EvB y) ∧ len ≤ maxLen := by
  rcases Go.Deep.open_slice Tryd.underlying23 h with ⟨hc, _⟩ | ⟨x, l, c, m, n, D, Pl, hc, _, hl, hm, hmm, _, hel⟩
  · simp [Value.cells] at hc
    obtain ⟨rfl, rfl, rfl⟩ := hc
    exact ⟨[], rfl, Or.inl rfl, by simp, Nat.zero_le _⟩
  · simp [Value.cells] at hc
    obtain ⟨rfl, rfl, rfl⟩ := hc
    have hlm : len ≤ m := by rw [hmm]; split <;> omega
    have hc3 : Tryd.prog.cellsOf 61 = 4 := by kernel_rfl
    have key : ∀ i : Fin len, ∃ y : Ev, w.cell? ((x.add (i.val * 4)).add 0) = some (.int .i64 y.t) ∧ w.cell? ((x.add (i.val * 4)).add 1) = some (.int .u32 y.e.u) ∧ w.cell? ((x.add (i.val * 4)).add 2) = some (.int .u32 y.e.v) ∧ w.cell? ((x.add (i.val * 4)).add 3) = some (.bool y.add) ∧ EvB y := by
      intro i
      obtain ⟨cs', hcs, htr⟩ := hel i.val (by omega)
      rw [hc3] at hcs
      obtain ⟨_, hlen, hat⟩ := World.cells?_some hcs
      obtain ⟨t, u, v, d, rfl, hu, hv⟩ := open_ev htr
      refine ⟨⟨t, ⟨u, v⟩, d⟩, hat 0 (by decide), hat 1 (by decide), hat 2 (by decide), hat 3 (by decide), ?_⟩
      exact ⟨bounds_u32 hu, bounds_u32 hv⟩
    obtain ⟨f, hf⟩ := Classical.axiomOfChoice key
    refine ⟨List.ofFn f, by simp, ?_, ?_, by omega⟩
    · by_cases h0 : len = 0
      · subst h0; exact Or.inl (by simp)
      · right
        obtain ⟨b, off, spot⟩ := x
        have hk0 := (hf ⟨0, by omega⟩).1
        have hspot : spot = none := by simpa [Addr.add] using World.cell?_spot hk0
        subst hspot
        refine ⟨b, off, rfl, by have := World.block_lt_of_cell? _ _ hk0; simpa [Addr.add] using this, fun i y hy => ?_⟩
        obtain ⟨h1, h2⟩ := List.getElem?_eq_some_iff.1 hy
        have hil : i < len := by simpa using h1
        have hy2 : f ⟨i, hil⟩ = y := by simpa using h2
        obtain ⟨q0, q1, q2, q3, _⟩ := hf ⟨i, hil⟩
        rw [hy2] at q0 q1 q2 q3
        simp only [add_plain, Nat.add_zero] at q0 q1 q2 q3
        exact ⟨q0, q1, q2, q3⟩
    · intro y hy
      obtain ⟨i, hi⟩ := (List.mem_ofFn).1 hy
      rw [← hi]; exact (hf i).2.2.2.2
end Go.Proofs.YtggnkefhegnokaaDoor
end
