/- The story's acts that came in: a slice of structs of four fields. -/
import Derived.Test.YtlmbkmjjiebpbaaArgs
import Derived.Test.YtlmbkmjjiebpbaaProg
import Derived.Deep.Slices
import Derived.Deep.Strs
import Derived.Lib.SmallJoins
import Derived.ChangeArms
namespace Go.Proofs.Ytlmbkmjjiebpbaa
open Go.RowKit Go.ChangeShapes Go.WideShapes
set_option linter.unusedVariables false

/-- One act, at a place. -/
def ActAt (w : World) (b o : Nat) (u x y r : Int) : Prop :=
  (w.cell? ⟨b, o, none⟩ = some (.int .u8 u) ∧ w.cell? ⟨b, o + 1, none⟩ = some (.int .u8 x) ∧ w.cell? ⟨b, o + 2, none⟩ = some (.int .u8 y) ∧ w.cell? ⟨b, o + 3, none⟩ = some (.int .i64 r)) ∧ (Lit.int .u8 u).wf = true ∧ (Lit.int .u8 x).wf = true ∧ (Lit.int .u8 y).wf = true ∧ (Lit.int .i64 r).wf = true
def IsActs (w : World) (a : Option Addr) (len : Nat) : Prop :=
  len = 0 ∨ ∃ b off, a = some ⟨b, off, none⟩ ∧ b < w.heap.size ∧ ∀ i, i < len → ∃ (u x y r : Int), ActAt w b (off + i * 4) u x y r

theorem ActAt.mod {w w' : World} {b o : Nat} {u x y r : Int} (h : ActAt w b o u x y r) (hb : b < w.heap.size) (hm : Mod w w' NoB) : ActAt w' b o u x y r := by
  obtain ⟨⟨h0, h1, h2, h3⟩, h4⟩ := h
  exact ⟨⟨(hm.cell hb (by simp [NoB])).trans h0, (hm.cell hb (by simp [NoB])).trans h1, (hm.cell hb (by simp [NoB])).trans h2, (hm.cell hb (by simp [NoB])).trans h3⟩, h4⟩
theorem IsActs.mod {w w' : World} {a : Option Addr} {len : Nat} (h : IsActs w a len) (hm : Mod w w' NoB) : IsActs w' a len := by
  rcases h with h | ⟨b, off, rfl, hb, ha⟩
  · exact Or.inl h
  · refine Or.inr ⟨b, off, rfl, Nat.lt_of_lt_of_le hb hm.size, fun i hi => ?_⟩
    obtain ⟨u, x, y, r, h⟩ := ha i hi
    exact ⟨u, x, y, r, h.mod hb hm⟩
theorem IsActs.at {w : World} {a : Option Addr} {len : Nat} (h : IsActs w a len) {i : Nat} (hi : i < len) :
    ∃ b off, a = some ⟨b, off, none⟩ ∧ b < w.heap.size ∧ ∃ (u x y r : Int), ActAt w b (off + i * 4) u x y r := by
  rcases h with h | ⟨b, off, rfl, hb, ha⟩
  · omega
  · exact ⟨b, off, rfl, hb, ha i hi⟩

theorem open_acts {H : Type} {enc : TypeId × Value → H} {w : World} {base : Nat} {spare : Nat → Bool} {held : Bool} {a : Option Addr} {len cap : Nat} {fuel : Nat} {x : DataW H × List MemPlace}
    (h : DataW.trod enc Try.prog w base spare held fuel 23 (Value.cells (.slice a len cap)).toList = some x) : IsActs w a len ∧ len ≤ maxLen := by
  rcases Go.Deep.open_slice Try.underlying23 h with ⟨hc, _⟩ | ⟨x, l, c, m, n, D, Pl, hc, _, hl, hm, hmm, _, hel⟩
  · simp [Value.cells] at hc
    obtain ⟨rfl, rfl, rfl⟩ := hc
    exact ⟨Or.inl rfl, Nat.zero_le _⟩
  · simp [Value.cells] at hc
    obtain ⟨rfl, rfl, rfl⟩ := hc
    refine ⟨?_, by omega⟩
    by_cases h0 : len = 0
    · exact Or.inl h0
    right
    have hlm : len ≤ m := by rw [hmm]; split <;> omega
    have hc3 : Try.prog.cellsOf 32 = 4 := by kernel_rfl
    have key : ∀ i, i < len → ∃ (u p q r : Int), w.cell? ((x.add (i * 4)).add 0) = some (.int .u8 u) ∧ w.cell? ((x.add (i * 4)).add 1) = some (.int .u8 p) ∧ w.cell? ((x.add (i * 4)).add 2) = some (.int .u8 q) ∧ w.cell? ((x.add (i * 4)).add 3) = some (.int .i64 r) ∧
        (Lit.int .u8 u).wf = true ∧ (Lit.int .u8 p).wf = true ∧ (Lit.int .u8 q).wf = true ∧ (Lit.int .i64 r).wf = true := by
      intro i hi
      obtain ⟨cs', hcs, htr⟩ := hel i (by omega)
      rw [hc3] at hcs
      obtain ⟨_, hlen, hat⟩ := World.cells?_some hcs
      match cs', hlen with
      | [v0, v1, v2, v3], _ =>
        obtain ⟨y0, y1, y2, y3, n', _, _, ht0, ht1, ht2, ht3⟩ := Go.Joins.trod_struct4 Try.underlying32 htr
        obtain ⟨u, hu, _, hwu⟩ := DataW.trod_int Try.underlying5 ht0
        obtain ⟨p, hp, _, hwp⟩ := DataW.trod_int Try.underlying5 ht1
        obtain ⟨q, hq, _, hwq⟩ := DataW.trod_int Try.underlying5 ht2
        obtain ⟨r, hr, _, hwr⟩ := DataW.trod_int Try.underlying3 ht3
        have hk : Try.prog.cellsOf 5 = 1 := by kernel_rfl
        have hk2 : Try.prog.cellsOf 3 = 1 := by kernel_rfl
        have e0 : v0 = .int .u8 u := by simp [hk] at hu; exact hu
        have e1 : v1 = .int .u8 p := by simp [hk] at hp; exact hp
        have e2 : v2 = .int .u8 q := by simp [hk] at hq; exact hq
        have e3 : v3 = .int .i64 r := by simp [hk2] at hr; exact hr
        subst e0 e1 e2 e3
        exact ⟨u, p, q, r, hat 0 (by decide), hat 1 (by decide), hat 2 (by decide), hat 3 (by decide), hwu, hwp, hwq, hwr⟩
    obtain ⟨b, off, spot⟩ := x
    obtain ⟨_, _, _, _, hk0, _⟩ := key 0 (by omega)
    have hspot : spot = none := by simpa [Addr.add] using World.cell?_spot hk0
    subst hspot
    refine ⟨b, off, rfl, ?_, fun i hi => ?_⟩
    · have := World.block_lt_of_cell? _ _ hk0
      simpa [Addr.add] using this
    · obtain ⟨u, p, q, r, h1, h2, h3, h4, h5⟩ := key i hi
      simp only [add_plain, Nat.add_zero] at h1 h2 h3 h4
      exact ⟨u, p, q, r, ⟨h1, h2, h3, h4⟩, h5⟩
end Go.Proofs.Ytlmbkmjjiebpbaa
