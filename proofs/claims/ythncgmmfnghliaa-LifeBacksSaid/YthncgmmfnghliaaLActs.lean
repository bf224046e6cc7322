/- A life that came in. -/
import Derived.Test.YthncgmmfnghliaaArgs
import Derived.Test.YthncgmmfnghliaaProg
import Derived.Deep.Slices
import Derived.Deep.Strs
import Derived.Lib.SmallJoins
import Derived.ChangeArms
namespace Go.Proofs.Ythncgmmfnghliaa
open Go.RowKit Go.ChangeShapes Go.WideShapes
set_option linter.unusedVariables false

set_option maxRecDepth 100000 in
theorem open_lf {H : Type} {enc : TypeId × Value → H} {w : World} {base : Nat} {spare : Nat → Bool} {held : Bool} {fuel : Nat} {x : DataW H × List MemPlace} {cs : List Value}
    (h : DataW.trod enc Try.prog w base spare held fuel 56 cs = some x) : ∃ u v fr ti : Int, cs = [.int .u32 u, .int .u32 v, .int .i64 fr, .int .i64 ti] ∧
      (Lit.int .u32 u).wf = true ∧ (Lit.int .u32 v).wf = true ∧ (Lit.int .i64 fr).wf = true ∧ (Lit.int .i64 ti).wf = true := by
  have hc4 : Try.prog.cellsOf 56 = 4 := by kernel_rfl
  have hc2 : Try.prog.cellsOf 54 = 2 := by kernel_rfl
  have hk : Try.prog.cellsOf 52 = 1 := by kernel_rfl
  have hk2 : Try.prog.cellsOf 2 = 1 := by kernel_rfl
  obtain ⟨y0, y1, y2, n', _, hlen, ht0, ht1, ht2⟩ := Go.Deep.trod_struct3 Try.underlying56 h
  rw [hc4] at hlen
  match cs, hlen with
  | [v0, v1, v2, v3], _ =>
    simp only [hc2] at ht0
    obtain ⟨q0, q1, n2, _, _, hs0, hs1⟩ := trod_struct2 Try.underlying54 ht0
    obtain ⟨u, hu, _, hwu⟩ := DataW.trod_int Try.underlying52 hs0
    obtain ⟨p, hp, _, hwp⟩ := DataW.trod_int Try.underlying52 hs1
    obtain ⟨q, hq, _, hwq⟩ := DataW.trod_int Try.underlying2 ht1
    obtain ⟨r, hr, _, hwr⟩ := DataW.trod_int Try.underlying2 ht2
    have e0 : v0 = .int .u32 u := by simp [hk] at hu; exact hu
    have e1 : v1 = .int .u32 p := by simp [hk] at hp; exact hp
    have e2 : v2 = .int .i64 q := by simp [hk2] at hq; exact hq
    have e3 : v3 = .int .i64 r := by simp [hk2] at hr; exact hr
    subst e0 e1 e2 e3
    exact ⟨u, p, q, r, rfl, hwu, hwp, hwq, hwr⟩
set_option maxRecDepth 100000 in
theorem open_lf_arg {H : Type} {enc : TypeId × Value → H} {w w2 : World} {base base2 : Nat} {r : Reach} {spare : Nat → Bool} {held : Bool} {v : Value} {x : DataW H × List MemPlace}
    (ho : Value.okWide Try.prog w2 r base2 56 v) (h : ∃ fuel, DataW.trod enc Try.prog w base spare held fuel 56 v.cells.toList = some x) : ∃ u q fr ti : Int, v = .agg #[.int .u32 u, .int .u32 q, .int .i64 fr, .int .i64 ti] ∧
      (Lit.int .u32 u).wf = true ∧ (Lit.int .u32 q).wf = true ∧ (Lit.int .i64 fr).wf = true ∧ (Lit.int .i64 ti).wf = true := by
  obtain ⟨cs, rfl, _⟩ := okWide_struct Try.underlying56 ho
  obtain ⟨fuel, hf⟩ := h
  obtain ⟨u, q, fr, ti, hcs, hw⟩ := open_lf hf
  refine ⟨u, q, fr, ti, ?_, hw⟩
  have : cs.toList = [.int .u32 u, .int .u32 q, .int .i64 fr, .int .i64 ti] := by simpa [Value.cells] using hcs
  rw [show cs = #[.int .u32 u, .int .u32 q, .int .i64 fr, .int .i64 ti] from Array.toList_inj.1 this]
end Go.Proofs.Ythncgmmfnghliaa
