/- The story's acts that came in: a slice of structs of three fields. -/
import Derived.Test.YtekbiaphnpnpgaaArgs
import Derived.Test.YtekbiaphnpnpgaaProg
import Derived.Deep.Slices
import Derived.Deep.Strs
import Derived.ChangeArms
namespace Go.Proofs.Ytekbiaphnpnpgaa
open Go.RowKit Go.ChangeShapes Go.WideShapes
set_option linter.unusedVariables false

/-- One act, at a place. -/
def ActAt (w : World) (b o : Nat) (u m : Int) (s : ByteArray) : Prop :=
  w.cell? ⟨b, o, none⟩ = some (.int .u8 u) ∧ w.cell? ⟨b, o + 1, none⟩ = some (.int .u64 m) ∧ w.cell? ⟨b, o + 2, none⟩ = some (.string s) ∧ (Lit.int .u8 u).wf = true ∧ (Lit.int .u64 m).wf = true ∧ s.size ≤ maxLen
def IsActs (w : World) (a : Option Addr) (len : Nat) : Prop :=
  len = 0 ∨ ∃ b off, a = some ⟨b, off, none⟩ ∧ b < w.heap.size ∧ ∀ i, i < len → ∃ (u m : Int) (s : ByteArray), ActAt w b (off + i * 3) u m s

theorem ActAt.mod {w w' : World} {b o : Nat} {u m : Int} {s : ByteArray} (h : ActAt w b o u m s) (hb : b < w.heap.size) (hm : Mod w w' NoB) : ActAt w' b o u m s := by
  obtain ⟨h0, h1, h2, h3, h4, h5⟩ := h
  exact ⟨(hm.cell hb (by simp [NoB])).trans h0, (hm.cell hb (by simp [NoB])).trans h1, (hm.cell hb (by simp [NoB])).trans h2, h3, h4, h5⟩
theorem IsActs.mod {w w' : World} {a : Option Addr} {len : Nat} (h : IsActs w a len) (hm : Mod w w' NoB) : IsActs w' a len := by
  rcases h with h | ⟨b, off, rfl, hb, ha⟩
  · exact Or.inl h
  · refine Or.inr ⟨b, off, rfl, Nat.lt_of_lt_of_le hb hm.size, fun i hi => ?_⟩
    obtain ⟨u, m, s, h⟩ := ha i hi
    exact ⟨u, m, s, h.mod hb hm⟩
theorem IsActs.at {w : World} {a : Option Addr} {len : Nat} (h : IsActs w a len) {i : Nat} (hi : i < len) :
    ∃ b off, a = some ⟨b, off, none⟩ ∧ b < w.heap.size ∧ ∃ (u m : Int) (s : ByteArray), ActAt w b (off + i * 3) u m s := by
  rcases h with h | ⟨b, off, rfl, hb, ha⟩
  · omega
  · exact ⟨b, off, rfl, hb, ha i hi⟩

theorem open_acts {H : Type} {enc : TypeId × Value → H} {w : World} {base : Nat} {spare : Nat → Bool} {held : Bool} {a : Option Addr} {len cap : Nat} {fuel : Nat} {x : DataW H × List MemPlace}
    (h : DataW.trod enc Try.prog w base spare held fuel 37 (Value.cells (.slice a len cap)).toList = some x) : IsActs w a len ∧ len ≤ maxLen := by
  rcases Go.Deep.open_slice Try.underlying37 h with ⟨hc, _⟩ | ⟨x, l, c, m, n, D, Pl, hc, _, hl, hm, hmm, _, hel⟩
  · simp [Value.cells] at hc
    obtain ⟨rfl, rfl, rfl⟩ := hc
    exact ⟨Or.inl rfl, Nat.zero_le _⟩
  · simp [Value.cells] at hc
    obtain ⟨rfl, rfl, rfl⟩ := hc
    refine ⟨?_, by omega⟩
    by_cases h0 : len = 0
    · exact Or.inl h0
    right
    have hlm : len ≤ m := by rw [hmm]; split <;> omega
    have hc3 : Try.prog.cellsOf 43 = 3 := by kernel_rfl
    have key : ∀ i, i < len → ∃ (u v : Int) (s : ByteArray), w.cell? ((x.add (i * 3)).add 0) = some (.int .u8 u) ∧ w.cell? ((x.add (i * 3)).add 1) = some (.int .u64 v) ∧ w.cell? ((x.add (i * 3)).add 2) = some (.string s) ∧ (Lit.int .u8 u).wf = true ∧ (Lit.int .u64 v).wf = true ∧ s.size ≤ maxLen := by
      intro i hi
      obtain ⟨cs', hcs, htr⟩ := hel i (by omega)
      rw [hc3] at hcs
      obtain ⟨_, hlen, hat⟩ := World.cells?_some hcs
      match cs', hlen with
      | [v0, v1, v2], _ =>
        obtain ⟨y0, y1, y2, n', _, _, ht0, ht1, ht2⟩ := Go.Deep.trod_struct3 Try.underlying43 htr
        obtain ⟨u, hu, _, hwu⟩ := DataW.trod_int Try.underlying5 ht0
        obtain ⟨v, hv, _, hwv⟩ := DataW.trod_int Try.underlying22 ht1
        obtain ⟨s, hs, _, hws⟩ := DataW.trod_string Try.underlying9 ht2
        have e0 : v0 = .int .u8 u := by
          have hk : Try.prog.cellsOf 5 = 1 := by kernel_rfl
          simp [hk] at hu; exact hu
        have e1 : v1 = .int .u64 v := by
          have hk : Try.prog.cellsOf 22 = 1 := by kernel_rfl
          simp [hk] at hv; exact hv
        have e2 : v2 = .string s := by
          have hk : Try.prog.cellsOf 9 = 1 := by kernel_rfl
          simp [hk] at hs; exact hs
        subst e0 e1 e2
        exact ⟨u, v, s, hat 0 (by decide), hat 1 (by decide), hat 2 (by decide), hwu, hwv, hws⟩
    obtain ⟨b, off, spot⟩ := x
    obtain ⟨_, _, _, hk0, _⟩ := key 0 (by omega)
    have hspot : spot = none := by simpa [Addr.add] using World.cell?_spot hk0
    subst hspot
    refine ⟨b, off, rfl, ?_, fun i hi => ?_⟩
    · have := World.block_lt_of_cell? _ _ hk0
      simpa [Addr.add] using this
    · obtain ⟨u, v, s, h1, h2, h3, h4, h5, h6⟩ := key i hi
      simp only [add_plain, Nat.add_zero] at h1 h2 h3
      exact ⟨u, v, s, h1, h2, h3, h4, h5, h6⟩
end Go.Proofs.Ytekbiaphnpnpgaa
