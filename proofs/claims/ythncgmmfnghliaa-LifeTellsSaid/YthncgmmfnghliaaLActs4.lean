/- A history that came in. -/
import Derived.Test.YthncgmmfnghliaaLActs3
namespace Go.Proofs.Ythncgmmfnghliaa
open Go.RowKit Go.ChangeShapes Go.WideShapes
set_option linter.unusedVariables false

set_option maxRecDepth 100000 in
theorem open_hist {H : Type} {enc : TypeId × Value → H} {w : World} {base : Nat} {spare : Nat → Bool} {held : Bool} {fuel : Nat} {x : DataW H × List MemPlace} {cs : List Value}
    (h : DataW.trod enc Try.prog w base spare held fuel 25 cs = some x) : ∃ (n : Int) (a : Option Addr) (len cap : Nat) (l : List Ev), cs = [.int .u64 n, .slice a len cap] ∧ (Lit.int .u64 n).wf = true ∧ l.length = len ∧ Evs w a l ∧ (∀ y ∈ l, EvB y) := by
  have hc2 : Try.prog.cellsOf 25 = 2 := by kernel_rfl
  have hk : Try.prog.cellsOf 22 = 1 := by kernel_rfl
  have hk2 : Try.prog.cellsOf 23 = 1 := by kernel_rfl
  obtain ⟨y0, y1, n', _, hlen, ht0, ht1⟩ := trod_struct2 Try.underlying25 h
  rw [hc2] at hlen
  match cs, hlen with
  | [v0, v1], _ =>
    obtain ⟨n, hn, _, hwn⟩ := DataW.trod_int Try.underlying22 ht0
    have e0 : v0 = .int .u64 n := by simp [hk] at hn; exact hn
    have ht1' : DataW.trod enc Try.prog w base spare held n' 23 [v1] = some y1 := by simpa [hk2] using ht1
    obtain ⟨a, len, cap, hv⟩ : ∃ a len cap, v1 = .slice a len cap := by
      rcases Go.Deep.open_slice Try.underlying23 ht1' with ⟨hc, _⟩ | ⟨x, l, c, m, n, D, Pl, hc, _⟩
      · exact ⟨none, 0, 0, by simpa using hc⟩
      · exact ⟨_, _, _, by simpa using hc⟩
    subst hv e0
    obtain ⟨l, h1, h2, h3, _⟩ := open_events (a := a) (len := len) (cap := cap) (by simpa [Value.cells] using ht1')
    exact ⟨n, a, len, cap, l, rfl, hwn, h1, h2, h3⟩
set_option maxRecDepth 100000 in
theorem open_hist_arg {H : Type} {enc : TypeId × Value → H} {w w2 : World} {base base2 : Nat} {r : Reach} {spare : Nat → Bool} {held : Bool} {v : Value} {x : DataW H × List MemPlace}
    (ho : Value.okWide Try.prog w2 r base2 25 v) (h : ∃ fuel, DataW.trod enc Try.prog w base spare held fuel 25 v.cells.toList = some x) : ∃ (n : Int) (a : Option Addr) (len cap : Nat) (l : List Ev), v = .agg #[.int .u64 n, .slice a len cap] ∧ (Lit.int .u64 n).wf = true ∧ l.length = len ∧ Evs w a l ∧ (∀ y ∈ l, EvB y) := by
  obtain ⟨cs, rfl, _⟩ := okWide_struct Try.underlying25 ho
  obtain ⟨fuel, hf⟩ := h
  obtain ⟨n, a, len, cap, l, hcs, hw⟩ := open_hist hf
  refine ⟨n, a, len, cap, l, ?_, hw⟩
  have : cs.toList = [.int .u64 n, .slice a len cap] := by simpa [Value.cells] using hcs
  rw [show cs = #[.int .u64 n, .slice a len cap] from Array.toList_inj.1 this]
end Go.Proofs.Ythncgmmfnghliaa
