/- Merged: LActs3 LActs4 TbP -/
import Derived.Test.YtppambkffgmkgaaGreatDoorMg15
import Derived.Test.YtppambkffgmkgaaGreatDoorMg20
import Derived.Test.YtppambkffgmkgaaGreatDoorMg14
import Derived.Test.YtppambkffgmkgaaGreatDoorMg09
import Derived.Test.YtppambkffgmkgaaGreatDoorMg18
section
/- Events that came in: a slice of structs. -/
namespace Go.Proofs.YtppambkffgmkgaaGreatDoor
open Go.RowKit Go.ChangeShapes Go.WideShapes
set_option linter.unusedVariables false

set_option maxRecDepth 100000 in
theorem open_ev {H : Type} {enc : TypeId × Value → H} {w : World} {base : Nat} {spare : Nat → Bool} {held : Bool} {fuel : Nat} {x : DataW H × List MemPlace} {cs : List Value}
    (h : DataW.trod enc Tryz.prog w base spare held fuel 62 cs = some x) : ∃ (t u v : Int) (d : Bool), cs = [.int .i64 t, .int .u32 u, .int .u32 v, .bool d] ∧
      (Lit.int .u32 u).wf = true ∧ (Lit.int .u32 v).wf = true := by
  have hc4 : Tryz.prog.cellsOf 62 = 4 := by kernel_rfl
  have hc2 : Tryz.prog.cellsOf 57 = 2 := by kernel_rfl
  have hk : Tryz.prog.cellsOf 55 = 1 := by kernel_rfl
  have hk2 : Tryz.prog.cellsOf 2 = 1 := by kernel_rfl
  obtain ⟨y0, y1, y2, n', _, hlen, ht0, ht1, ht2⟩ := Go.Deep.trod_struct3 Tryz.underlying62 h
  rw [hc4] at hlen
  match cs, hlen with
  | [v0, v1, v2, v3], _ =>
    simp only [hc2] at ht1
    obtain ⟨q0, q1, n2, _, _, hs0, hs1⟩ := trod_struct2 Tryz.underlying57 ht1
    obtain ⟨u, hu, _, hwu⟩ := DataW.trod_int Tryz.underlying55 hs0
    obtain ⟨p, hp, _, hwp⟩ := DataW.trod_int Tryz.underlying55 hs1
    obtain ⟨q, hq, _, hwq⟩ := DataW.trod_int Tryz.underlying2 ht0
    obtain ⟨r, hr, _⟩ := DataW.trod_bool Tryz.underlying4 ht2
    have hkb : Tryz.prog.cellsOf 4 = 1 := by kernel_rfl
    have e1 : v1 = .int .u32 u := by simp [hk] at hu; exact hu
    have e2 : v2 = .int .u32 p := by simp [hk] at hp; exact hp
    have e0 : v0 = .int .i64 q := by simp [hk2] at hq; exact hq
    have e3 : v3 = .bool r := by simp [hkb] at hr; exact hr
    subst e0 e1 e2 e3
    exact ⟨q, u, p, r, rfl, hwu, hwp⟩
set_option maxRecDepth 100000 in
theorem open_events {H : Type} {enc : TypeId × Value → H} {w : World} {base : Nat} {spare : Nat → Bool} {held : Bool} {a : Option Addr} {len cap : Nat} {fuel : Nat} {x : DataW H × List MemPlace}
    (h : DataW.trod enc Tryz.prog w base spare held fuel 23 (Value.cells (.slice a len cap)).toList = some x) : ∃ l : List Ev, l.length = len ∧ Evs w a l ∧ (∀ y ∈ l, EvB y) ∧ len ≤ maxLen := by
  rcases Go.Deep.open_slice Tryz.underlying23 h with ⟨hc, _⟩ | ⟨x, l, c, m, n, D, Pl, hc, _, hl, hm, hmm, _, hel⟩
  · simp [Value.cells] at hc
    obtain ⟨rfl, rfl, rfl⟩ := hc
    exact ⟨[], rfl, Or.inl rfl, by simp, Nat.zero_le _⟩
  · simp [Value.cells] at hc
    obtain ⟨rfl, rfl, rfl⟩ := hc
    have hlm : len ≤ m := by rw [hmm]; split <;> omega
    have hc3 : Tryz.prog.cellsOf 62 = 4 := by kernel_rfl
    have key : ∀ i : Fin len, ∃ y : Ev, w.cell? ((x.add (i.val * 4)).add 0) = some (.int .i64 y.t) ∧ w.cell? ((x.add (i.val * 4)).add 1) = some (.int .u32 y.e.u) ∧ w.cell? ((x.add (i.val * 4)).add 2) = some (.int .u32 y.e.v) ∧ w.cell? ((x.add (i.val * 4)).add 3) = some (.bool y.add) ∧ EvB y := by
      intro i
      obtain ⟨cs', hcs, htr⟩ := hel i.val (by omega)
      rw [hc3] at hcs
      obtain ⟨_, hlen, hat⟩ := World.cells?_some hcs
      obtain ⟨t, u, v, d, rfl, hu, hv⟩ := open_ev htr
      refine ⟨⟨t, ⟨u, v⟩, d⟩, hat 0 (by decide), hat 1 (by decide), hat 2 (by decide), hat 3 (by decide), ?_⟩
      exact ⟨bounds_u32 hu, bounds_u32 hv⟩
    obtain ⟨f, hf⟩ := Classical.axiomOfChoice key
    refine ⟨List.ofFn f, by simp, ?_, ?_, by omega⟩
    · by_cases h0 : len = 0
      · subst h0; exact Or.inl (by simp)
      · right
        obtain ⟨b, off, spot⟩ := x
        have hk0 := (hf ⟨0, by omega⟩).1
        have hspot : spot = none := by simpa [Addr.add] using World.cell?_spot hk0
        subst hspot
        refine ⟨b, off, rfl, by have := World.block_lt_of_cell? _ _ hk0; simpa [Addr.add] using this, fun i y hy => ?_⟩
        obtain ⟨h1, h2⟩ := List.getElem?_eq_some_iff.1 hy
        have hil : i < len := by simpa using h1
        have hy2 : f ⟨i, hil⟩ = y := by simpa using h2
        obtain ⟨q0, q1, q2, q3, _⟩ := hf ⟨i, hil⟩
        rw [hy2] at q0 q1 q2 q3
        simp only [add_plain, Nat.add_zero] at q0 q1 q2 q3
        exact ⟨q0, q1, q2, q3⟩
    · intro y hy
      obtain ⟨i, hi⟩ := (List.mem_ofFn).1 hy
      rw [← hi]; exact (hf i).2.2.2.2
end Go.Proofs.YtppambkffgmkgaaGreatDoor
end

section
/- A history that came in. -/
namespace Go.Proofs.YtppambkffgmkgaaGreatDoor
open Go.RowKit Go.ChangeShapes Go.WideShapes
set_option linter.unusedVariables false

set_option maxRecDepth 100000 in
theorem open_hist {H : Type} {enc : TypeId × Value → H} {w : World} {base : Nat} {spare : Nat → Bool} {held : Bool} {fuel : Nat} {x : DataW H × List MemPlace} {cs : List Value}
    (h : DataW.trod enc Tryz.prog w base spare held fuel 25 cs = some x) : ∃ (n : Int) (a : Option Addr) (len cap : Nat) (l : List Ev), cs = [.int .u64 n, .slice a len cap] ∧ (Lit.int .u64 n).wf = true ∧ l.length = len ∧ Evs w a l ∧ (∀ y ∈ l, EvB y) := by
  have hc2 : Tryz.prog.cellsOf 25 = 2 := by kernel_rfl
  have hk : Tryz.prog.cellsOf 22 = 1 := by kernel_rfl
  have hk2 : Tryz.prog.cellsOf 23 = 1 := by kernel_rfl
  obtain ⟨y0, y1, n', _, hlen, ht0, ht1⟩ := trod_struct2 Tryz.underlying25 h
  rw [hc2] at hlen
  match cs, hlen with
  | [v0, v1], _ =>
    obtain ⟨n, hn, _, hwn⟩ := DataW.trod_int Tryz.underlying22 ht0
    have e0 : v0 = .int .u64 n := by simp [hk] at hn; exact hn
    have ht1' : DataW.trod enc Tryz.prog w base spare held n' 23 [v1] = some y1 := by simpa [hk2] using ht1
    obtain ⟨a, len, cap, hv⟩ : ∃ a len cap, v1 = .slice a len cap := by
      rcases Go.Deep.open_slice Tryz.underlying23 ht1' with ⟨hc, _⟩ | ⟨x, l, c, m, n, D, Pl, hc, _⟩
      · exact ⟨none, 0, 0, by simpa using hc⟩
      · exact ⟨_, _, _, by simpa using hc⟩
    subst hv e0
    obtain ⟨l, h1, h2, h3, _⟩ := open_events (a := a) (len := len) (cap := cap) (by simpa [Value.cells] using ht1')
    exact ⟨n, a, len, cap, l, rfl, hwn, h1, h2, h3⟩
set_option maxRecDepth 100000 in
theorem open_hist_arg {H : Type} {enc : TypeId × Value → H} {w w2 : World} {base base2 : Nat} {r : Reach} {spare : Nat → Bool} {held : Bool} {v : Value} {x : DataW H × List MemPlace}
    (ho : Value.okWide Tryz.prog w2 r base2 25 v) (h : ∃ fuel, DataW.trod enc Tryz.prog w base spare held fuel 25 v.cells.toList = some x) : ∃ (n : Int) (a : Option Addr) (len cap : Nat) (l : List Ev), v = .agg #[.int .u64 n, .slice a len cap] ∧ (Lit.int .u64 n).wf = true ∧ l.length = len ∧ Evs w a l ∧ (∀ y ∈ l, EvB y) := by
  obtain ⟨cs, rfl, _⟩ := okWide_struct Tryz.underlying25 ho
  obtain ⟨fuel, hf⟩ := h
  obtain ⟨n, a, len, cap, l, hcs, hw⟩ := open_hist hf
  refine ⟨n, a, len, cap, l, ?_, hw⟩
  have : cs.toList = [.int .u64 n, .slice a len cap] := by simpa [Value.cells] using hcs
  rw [show cs = #[.int .u64 n, .slice a len cap] from Array.toList_inj.1 this]
end Go.Proofs.YtppambkffgmkgaaGreatDoor
end

section
/- A table's text, read, in plain words. -/
namespace Go.Proofs.YtppambkffgmkgaaGreatDoor
set_option linter.unusedVariables false

/-- A life's line, read. -/
def lfS (st : SS) : Lf × SS :=
  let u := numS 4294967295 st
  let a := wordS [32] u.2
  let v := numS 4294967295 a.2
  let b := wordS [32] v.2
  let f := numS 4611686018427387903 b.2
  let c := wordS [32] f.2
  let t := if nextS c.2 = some 45 then (-1, (wordS [45] c.2).2) else numS 4611686018427387903 c.2
  let e := wordS [10] t.2
  (⟨⟨u.1, v.1⟩, f.1, t.1⟩, e.2)
/-- Lives' lines, read one by one: what comes out, where it stopped, why. -/
def ptF (n : Int) : Nat → List Lf → SS → List Lf × (Int × Int) × Int
  | 0, X, _ => (X, (0, 0), 0)
  | k + 1, X, st =>
    if (nextS st).isSome = true then
      if (lfS st).2.er ≠ 0 then ([], (lfS st).2.p, (lfS st).2.er)
      else if lfErr n X.getLast? (lfS st).1 ≠ 0 then ([], st.p, (lfErr n X.getLast? (lfS st).1 : Nat))
      else ptF n k (X ++ [(lfS st).1]) (lfS st).2
    else if st.er = 0 then (X, (0, 0), 0) else ([], st.p, st.er)
/-- The head of a table. -/
def hdT (l : List UInt8) : Int × SS :=
  let a := wordS [116, 97, 98, 108, 101] ⟨l, (1, 1), 0⟩
  let b := wordS [32] a.2
  let c := numS 4294967296 b.2
  (c.1, (wordS [10] c.2).2)
def parseT (l : List UInt8) : List Lf × (Int × Int) × Int := ptF (hdT l).1 (l.length + 1) [] (hdT l).2
def parseTN (l : List UInt8) : Int := if (parseT l).2.2 = 0 then (hdT l).1 else 0
def parseTE (l : List UInt8) : List Ev := if (parseT l).2.2 = 0 then putAll before (evs (parseT l).1) else []

/-- The part of the line behind the sign's place. -/
def toS (st : SS) : Int × SS := if nextS st = some 45 then (-1, (wordS [45] st).2) else numS 4611686018427387903 st
theorem toS_len (st : SS) : (toS st).2.l.length ≤ st.l.length := by
  unfold toS
  split
  · exact wordS_len _ _
  · exact numS_len _ _
theorem toS_bd (st : SS) : ((toS st).1 = -1 ∨ 0 ≤ (toS st).1) ∧ (toS st).1 ≤ 4611686018427387903 := by
  unfold toS
  split
  · exact ⟨Or.inl rfl, by show (-1 : Int) ≤ 4611686018427387903; decide⟩
  · have := numS_bd (most := 4611686018427387903) (by decide) st
    exact ⟨Or.inr this.1, this.2⟩
theorem lfS_eq (st : SS) : lfS st = (⟨⟨(numS 4294967295 st).1, (numS 4294967295 (wordS [32] (numS 4294967295 st).2).2).1⟩, (numS 4611686018427387903 (wordS [32] (numS 4294967295 (wordS [32] (numS 4294967295 st).2).2).2).2).1, (toS (wordS [32] (numS 4611686018427387903 (wordS [32] (numS 4294967295 (wordS [32] (numS 4294967295 st).2).2).2).2).2).2).1⟩,
    (wordS [10] (toS (wordS [32] (numS 4611686018427387903 (wordS [32] (numS 4294967295 (wordS [32] (numS 4294967295 st).2).2).2).2).2).2).2).2) := rfl
theorem lfS_pre (st : SS) : (wordS [32] (numS 4611686018427387903 (wordS [32] (numS 4294967295 (wordS [32] (numS 4294967295 st).2).2).2).2).2).2.l.length ≤ st.l.length :=
  Nat.le_trans (wordS_len _ _) (Nat.le_trans (numS_len _ _) (Nat.le_trans (wordS_len _ _) (Nat.le_trans (numS_len _ _) (Nat.le_trans (wordS_len _ _) (numS_len _ _)))))
theorem lfS_len (st : SS) : (lfS st).2.l.length ≤ st.l.length := by
  rw [lfS_eq]
  exact Nat.le_trans (wordS_len _ _) (Nat.le_trans (toS_len _) (lfS_pre st))
theorem lfS_less {st : SS} (h : (lfS st).2.er = 0) : (lfS st).2.l.length < st.l.length := by
  rw [lfS_eq] at h ⊢
  dsimp only at h ⊢
  obtain ⟨_, r, h1, h2⟩ := wordS_ok h
  rw [h2]
  have h3 := Nat.le_trans (toS_len _) (lfS_pre st)
  rw [h1] at h3
  simp at h3
  exact h3
theorem lfS_bd (st : SS) : EdB (lfS st).1.e ∧ (0 ≤ (lfS st).1.fr ∧ (lfS st).1.fr ≤ 4611686018427387903) ∧ ((lfS st).1.to = -1 ∨ 0 ≤ (lfS st).1.to) ∧ (lfS st).1.to ≤ 4611686018427387903 := by
  rw [lfS_eq]
  exact ⟨⟨numS_bd (by decide) _, numS_bd (by decide) _⟩, numS_bd (by decide) _, toS_bd _⟩
theorem hdT_len (l : List UInt8) : (hdT l).2.l.length ≤ l.length := by
  unfold hdT
  dsimp only
  exact Nat.le_trans (wordS_len _ _) (Nat.le_trans (numS_len _ _) (Nat.le_trans (wordS_len _ _) (wordS_len _ _)))
theorem hdT_bd (l : List UInt8) : 0 ≤ (hdT l).1 ∧ (hdT l).1 ≤ 4294967296 := numS_bd (by decide) _
theorem ptF_end {n : Int} {k : Nat} {F : List Lf} {st : SS} {R : List Lf × (Int × Int) × Int} (h : ptF n k F st = R) (hk : 0 < k) (hn : (nextS st).isSome = false) : R = if st.er = 0 then (F, (0, 0), 0) else ([], st.p, st.er) := by
  cases k with
  | zero => omega
  | succ k =>
    rw [← h]
    simp only [ptF, hn]
    rfl
theorem ptF_more {n : Int} {k : Nat} {F : List Lf} {st : SS} {R : List Lf × (Int × Int) × Int} (h : ptF n (k + 1) F st = R) (hn : (nextS st).isSome = true) :
    ((lfS st).2.er ≠ 0 → R = ([], (lfS st).2.p, (lfS st).2.er)) ∧ ((lfS st).2.er = 0 → lfErr n F.getLast? (lfS st).1 ≠ 0 → R = ([], st.p, ((lfErr n F.getLast? (lfS st).1 : Nat) : Int))) ∧
    ((lfS st).2.er = 0 → lfErr n F.getLast? (lfS st).1 = 0 → ptF n k (F ++ [(lfS st).1]) (lfS st).2 = R) := by
  simp only [ptF, hn, if_true] at h
  refine ⟨fun he => ?_, fun he hv => ?_, fun he hv => ?_⟩
  · rw [if_pos he] at h; exact h.symm
  · rw [if_neg (fun c => c he), if_pos hv] at h; exact h.symm
  · rw [if_neg (fun c => c he), if_neg (fun c => c hv)] at h; exact h
theorem ptF_bad {n : Int} : ∀ (k : Nat) (F : List Lf) (st : SS), (ptF n k F st).2.2 ≠ 0 → (ptF n k F st).1 = []
  | 0, F, st, h => absurd rfl h
  | k + 1, F, st, h => by
    simp only [ptF] at h ⊢
    split
    · rename_i hn
      rw [if_pos hn] at h
      split
      · rfl
      · rename_i he
        rw [if_neg he] at h
        split
        · rfl
        · rename_i hv
          rw [if_neg hv] at h
          exact ptF_bad k _ _ h
    · rename_i hn
      rw [if_neg hn] at h
      split
      · rename_i he
        rw [if_pos he] at h
        exact absurd rfl h
      · rfl

/-- Lives that may be, and one more. -/
theorem allLf_snoc' {n : Int} {x : Lf} : ∀ {X : List Lf} {prev : Option Lf}, AllLf n prev X → lfErr n (if X = [] then prev else X.getLast?) x = 0 → AllLf n prev (X ++ [x])
  | [], prev, _, h => ⟨by simpa using h, trivial⟩
  | y :: X, prev, h, hv => by
    refine ⟨h.1, allLf_snoc' (prev := some y) h.2 ?_⟩
    rw [if_neg (by simp)] at hv
    by_cases hX : X = []
    · subst hX; simpa using hv
    · rw [if_neg hX]
      rwa [List.getLast?_cons, List.getLast?_eq_some_getLast hX, Option.getD_some, ← List.getLast?_eq_some_getLast hX] at hv
theorem allLf_snoc {n : Int} {X : List Lf} {x : Lf} (h : AllLf n none X) (hv : lfErr n X.getLast? x = 0) : AllLf n none (X ++ [x]) := by
  refine allLf_snoc' h ?_
  by_cases hX : X = []
  · subst hX; simpa using hv
  · rw [if_neg hX]; exact hv
theorem lchkFrom_ok {n : Int} : ∀ {X : List Lf} {i : Nat} {prev : Option Lf}, AllLf n prev X → lchkFrom n i prev X = (0, 0)
  | [], _, _, _ => rfl
  | x :: X, i, prev, h => by
    simp only [lchkFrom]
    rw [if_pos h.1]
    exact lchkFrom_ok h.2
theorem lchkFrom_snoc {n : Int} {x : Lf} : ∀ {X : List Lf} {i : Nat} {prev : Option Lf}, AllLf n prev X → (lchkFrom n i prev (X ++ [x])).2 = lfErr n (if X = [] then prev else X.getLast?) x
  | [], i, prev, _ => by
    simp only [List.nil_append, lchkFrom, if_true]
    split
    · rename_i h; rw [h]
    · rfl
  | y :: X, i, prev, h => by
    simp only [List.cons_append, lchkFrom]
    rw [if_pos h.1, lchkFrom_snoc h.2]
    have h0 : ¬ (y :: X = []) := by simp
    rw [if_neg h0]
    by_cases hX : X = []
    · subst hX; rfl
    · rw [if_neg hX, List.getLast?_cons, List.getLast?_eq_some_getLast hX, Option.getD_some]
theorem evCount_le2 (X : List Lf) : evCount X ≤ 2 * X.length := by
  unfold evCount
  have := List.length_filter_le (fun x : Lf => decide (0 ≤ x.to)) X
  omega
theorem lchk_snoc {n : Int} {X : List Lf} {x : Lf} (h : AllLf n none X) (hn : n ≤ 4294967296) (hl : X.length ≤ 100000) : (lchk n (X ++ [x])).2 = lfErr n X.getLast? x := by
  have hc := evCount_le2 (X ++ [x])
  rw [List.length_append, List.length_singleton] at hc
  unfold lchk
  rw [if_neg (by unfold maxN; omega), lchkFrom_snoc h]
  by_cases hX : X = []
  · subst hX; simp
  · rw [if_neg hX]
theorem lchk_all {n : Int} {X : List Lf} (h : AllLf n none X) (hn : n ≤ 4294967296) (hl : X.length ≤ 100000) : lchk n X = (0, 0) := by
  have hc := evCount_le2 X
  unfold lchk
  rw [if_neg (by unfold maxN; omega), lchkFrom_ok h]
theorem lfErr_drop {n : Int} {prev : Option Lf} {x : Lf} (h : lfErr n prev x = 0) : lfErr n none x = 0 := by
  unfold lfErr at h ⊢
  split at h
  · cases h
  · rename_i h1
    rw [if_neg h1]
    split at h
    · cases h
    · rename_i h2
      rw [if_neg h2]
      split at h
      · cases h
      · rename_i h3
        rw [not_or] at h3
        rw [if_neg (by simp [h3.1])]
theorem allLf_last {n : Int} : ∀ {X : List Lf} {prev : Option Lf} {y : Lf}, AllLf n prev X → X.getLast? = some y → lfErr n none y = 0
  | [], _, y, _, h => by simp at h
  | [z], _, y, h, hy => by
    have : z = y := by simpa using hy
    rw [← this]; exact lfErr_drop h.1
  | z :: u :: X, _, y, h, hy => allLf_last (X := u :: X) (prev := some z) h.2 (by simpa [List.getLast?_cons] using hy)
/-- The last two tell as much as all. -/
theorem lchk_two {n : Int} {X : List Lf} {x : Lf} (h : AllLf n none X) (hn : n ≤ 4294967296) (hl : X.length ≤ 100000) : (lchk n ((X ++ [x]).drop (X.length - 1))).2 = lfErr n X.getLast? x := by
  by_cases hX : X = []
  · subst hX
    exact lchk_snoc (X := []) trivial hn (by simp)
  · have hd : (X ++ [x]).drop (X.length - 1) = [X.getLast hX] ++ [x] := by
      rw [List.drop_append_of_le_length (by omega)]
      congr 1
      conv => lhs; rw [← List.dropLast_concat_getLast hX]
      rw [List.drop_append_of_le_length (by simp), List.drop_eq_nil_of_le (by simp), List.nil_append]
    have hy : X.getLast? = some (X.getLast hX) := List.getLast?_eq_some_getLast hX
    rw [hd, lchk_snoc (X := [X.getLast hX]) ⟨allLf_last h hy, trivial⟩ hn (by simp), hy]
    rfl
end Go.Proofs.YtppambkffgmkgaaGreatDoor
end
