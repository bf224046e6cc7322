/- Merged: LgRp LfTl LActs2 -/
import Derived.Test.YtppambkffgmkgaaGreatDoorMg22
import Derived.Test.YtppambkffgmkgaaGreatDoorMg19
import Derived.Test.YtppambkffgmkgaaGreatDoorMg10
import Derived.Test.YtppambkffgmkgaaGreatDoorMg15
import Derived.Test.YtppambkffgmkgaaGreatDoorMg20
section
/- The contract of the reference's ParseLog. -/
namespace Go.Proofs.YtppambkffgmkgaaGreatDoor
open Go.RowKit
set_option linter.unusedVariables false

theorem chkFrom_snoc {n : Int} {x : Ev} : ∀ {l : List Ev} {i : Nat} {prev : Option Ev} {there : Ed → Bool}, AllOk n prev there l →
    (chkFrom n i prev there (l ++ [x])).2 = evErr n (if l = [] then prev else l.getLast?) (l.foldl turn there) x
  | [], i, prev, there, _ => by
    simp only [List.nil_append, chkFrom, List.foldl_nil, if_true]
    split
    · rename_i h; exact h.symm
    · rfl
  | y :: l, i, prev, there, h => by
    simp only [List.cons_append, chkFrom, if_pos h.1, List.foldl_cons]
    rw [chkFrom_snoc h.2]
    cases l with
    | nil => simp
    | cons z l => simp
theorem chk_snoc {n : Int} {x : Ev} {F : List Ev} (h : AllOk n none (fun _ => false) F) (hn : n ≤ 4294967296) (hl : F.length ≤ 100000) : (chk n (F ++ [x])).2 = evErr n (prevOf F F.length) (thereOf F) x := by
  unfold chk
  rw [if_neg (by simp only [List.length_append, List.length_singleton]; unfold maxN; omega), chkFrom_snoc h]
  congr 1
  unfold prevOf
  cases F with
  | nil => rfl
  | cons y l => rw [if_neg (by simp), if_neg (by simp), List.getLast?_eq_getElem?]
theorem allOk_snoc {n : Int} {x : Ev} {F : List Ev} (h : AllOk n none (fun _ => false) F) (hv : evErr n (prevOf F F.length) (thereOf F) x = 0) : AllOk n none (fun _ => false) (F ++ [x]) := by
  have key : ∀ (l : List Ev) (prev : Option Ev) (there : Ed → Bool), AllOk n prev there l → evErr n (if l = [] then prev else l.getLast?) (l.foldl turn there) x = 0 → AllOk n prev there (l ++ [x]) := by
    intro l
    induction l with
    | nil => intro prev there _ h; exact ⟨by simpa using h, trivial⟩
    | cons y l ih =>
      intro prev there h h2
      refine ⟨h.1, ih _ _ h.2 ?_⟩
      cases l with
      | nil => simpa using h2
      | cons z l => simpa using h2
  refine key F none _ h ?_
  rw [← hv]
  congr 1
  unfold prevOf
  cases F with
  | nil => rfl
  | cons y l => rw [if_neg (by simp), if_neg (by simp), List.getLast?_eq_getElem?]
/-- How much text is left, told by the memory. -/
def lenR (w : World) (g : Nat) : Nat := match w.cell? ⟨g, 0, none⟩, w.cell? ⟨g, 1, none⟩ with | some (.string t), some (.int _ a) => t.size - a.toNat | _, _ => 0
theorem RsA.len {w : World} {g : Nat} {st : SS} (h : RsA w g st) : lenR w g = st.l.length := by
  obtain ⟨s, a, h1, h2⟩ := h
  unfold lenR
  rw [h1.1.cells.1, h1.1.cells.2.1, ← h2, lft_len]
  rfl
theorem RsA.cells {w : World} {g : Nat} {st : SS} (h : RsA w g st) : w.cell? ⟨g, 2, none⟩ = some (.int .i64 st.p.1) ∧ w.cell? ⟨g, 3, none⟩ = some (.int .i64 st.p.2) ∧ w.cell? ⟨g, 4, none⟩ = some (.int .i64 st.er) := by
  obtain ⟨s, a, h1, h2⟩ := h
  exact ⟨h1.1.cells.2.2.1, h1.1.cells.2.2.2.1, h1.1.cells.2.2.2.2.1⟩
theorem nextS_l {st : SS} (he : st.er = 0) : (nextS st).isSome = false ↔ st.l = [] := by
  unfold nextS
  rw [if_pos he]
  cases st.l <;> simp
/-- What stands at the loop. -/
structure MSt (w wr : World) (g2 g3 g6 gs : Nat) (n : Int) (oa : Option Addr) (oc : Nat) (F : List Ev) (st : SS) (k : Nat) (R : List Ev × (Int × Int) × Int) : Prop where
  pst : PSt w wr g2 g3 g6 (OneB gs) n oa oc F
  sc : RsA wr gs st
  ok : AllOk n none (fun _ => false) F
  bd : ∀ y ∈ F, EvB y
  pl : plF n k F st = R
  lt : st.l.length < k
  sz : F.length + st.l.length ≤ 40000

end Go.Proofs.YtppambkffgmkgaaGreatDoor
end

section
/- The walk of LifeTells. -/
namespace Go.Proofs.YtppambkffgmkgaaGreatDoor
open Go.RowKit
set_option linter.unusedVariables false

/-- A history as a value: its number, its slice, its events. -/
structure Hst where
  n : Int
  a : Option Addr
  cap : Nat
  l : List Ev
/-- A row of histories in a block. -/
def HRow (w : World) (g : Nat) (H : List Hst) : Prop := ∀ (j : Nat) (x : Hst), H[j]? = some x → w.cell? ⟨g, j * 2, none⟩ = some (.int .u64 x.n) ∧ w.cell? ⟨g, j * 2 + 1, none⟩ = some (.slice x.a x.l.length x.cap) ∧ Evs w x.a x.l ∧ (∀ e ∈ x.l, EvB e) ∧ x.l.length ≤ 40
theorem HRow.mod {w w' : World} {g : Nat} {H : List Hst} (h : HRow w g H) (hm : Mod w w' NoB) : HRow w' g H := fun j x hx => by
  obtain ⟨h1, h2, h3, h4⟩ := h j x hx
  exact ⟨keepc h1 hm, keepc h2 hm, h3.mod hm, h4⟩

end Go.Proofs.YtppambkffgmkgaaGreatDoor
end

section
/- Lives that came in: a slice of structs. -/
namespace Go.Proofs.YtppambkffgmkgaaGreatDoor
open Go.RowKit Go.ChangeShapes Go.WideShapes
set_option linter.unusedVariables false

set_option maxRecDepth 100000 in
theorem open_lives {H : Type} {enc : TypeId × Value → H} {w : World} {base : Nat} {spare : Nat → Bool} {held : Bool} {a : Option Addr} {len cap : Nat} {fuel : Nat} {x : DataW H × List MemPlace}
    (h : DataW.trod enc Tryz.prog w base spare held fuel 50 (Value.cells (.slice a len cap)).toList = some x) : ∃ l : List Lf, l.length = len ∧ Lvs w a l ∧ (∀ y ∈ l, EdB y.e) ∧ len ≤ maxLen := by
  rcases Go.Deep.open_slice Tryz.underlying50 h with ⟨hc, _⟩ | ⟨x, l, c, m, n, D, Pl, hc, _, hl, hm, hmm, _, hel⟩
  · simp [Value.cells] at hc
    obtain ⟨rfl, rfl, rfl⟩ := hc
    exact ⟨[], rfl, Or.inl rfl, by simp, Nat.zero_le _⟩
  · simp [Value.cells] at hc
    obtain ⟨rfl, rfl, rfl⟩ := hc
    have hlm : len ≤ m := by rw [hmm]; split <;> omega
    have hc3 : Tryz.prog.cellsOf 81 = 4 := by kernel_rfl
    have key : ∀ i : Fin len, ∃ y : Lf, w.cell? ((x.add (i.val * 4)).add 0) = some (.int .u32 y.e.u) ∧ w.cell? ((x.add (i.val * 4)).add 1) = some (.int .u32 y.e.v) ∧ w.cell? ((x.add (i.val * 4)).add 2) = some (.int .i64 y.fr) ∧ w.cell? ((x.add (i.val * 4)).add 3) = some (.int .i64 y.to) ∧ EdB y.e := by
      intro i
      obtain ⟨cs', hcs, htr⟩ := hel i.val (by omega)
      rw [hc3] at hcs
      obtain ⟨_, hlen, hat⟩ := World.cells?_some hcs
      obtain ⟨u, v, fr, ti, rfl, hu, hv, _, _⟩ := open_lf htr
      refine ⟨⟨⟨u, v⟩, fr, ti⟩, hat 0 (by decide), hat 1 (by decide), hat 2 (by decide), hat 3 (by decide), ?_⟩
      exact ⟨bounds_u32 hu, bounds_u32 hv⟩
    obtain ⟨f, hf⟩ := Classical.axiomOfChoice key
    refine ⟨List.ofFn f, by simp, ?_, ?_, by omega⟩
    · by_cases h0 : len = 0
      · subst h0; exact Or.inl (by simp)
      · right
        obtain ⟨b, off, spot⟩ := x
        have hk0 := (hf ⟨0, by omega⟩).1
        have hspot : spot = none := by simpa [Addr.add] using World.cell?_spot hk0
        subst hspot
        refine ⟨b, off, rfl, by have := World.block_lt_of_cell? _ _ hk0; simpa [Addr.add] using this, fun i y hy => ?_⟩
        obtain ⟨h1, h2⟩ := List.getElem?_eq_some_iff.1 hy
        have hil : i < len := by simpa using h1
        have hy2 : f ⟨i, hil⟩ = y := by simpa using h2
        obtain ⟨q0, q1, q2, q3, _⟩ := hf ⟨i, hil⟩
        rw [hy2] at q0 q1 q2 q3
        simp only [add_plain, Nat.add_zero] at q0 q1 q2 q3
        exact ⟨q0, q1, q2, q3⟩
    · intro y hy
      obtain ⟨i, hi⟩ := (List.mem_ofFn).1 hy
      rw [← hi]; exact (hf i).2.2.2.2
end Go.Proofs.YtppambkffgmkgaaGreatDoor
end
