/- Merged: LfLi LgPs LgPa -/
import Derived.Test.YtppambkffgmkgaaDoorMg20
import Derived.Test.YtppambkffgmkgaaDoorMg21
import Derived.Test.YtppambkffgmkgaaDoorMg14
import Derived.Test.YtppambkffgmkgaaDoorMg19
section
/- The reference: Lives of a history. -/
namespace Go.Proofs.YtppambkffgmkgaaDoor
open Go.RowKit
set_option linter.unusedVariables false

/-- The lives that the first i events begin. -/
def rawI : List Ev → Nat → List Lf
  | [], _ => []
  | _, 0 => []
  | y :: l, i + 1 => (if y.add = true then [⟨y.e, y.t, nextT y.e l⟩] else []) ++ rawI l i
theorem rawI_zero : ∀ l : List Ev, rawI l 0 = []
  | [] => rfl
  | _ :: _ => rfl
theorem rawI_all : ∀ l : List Ev, rawI l l.length = raw l
  | [] => rfl
  | y :: l => by
    simp only [List.length_cons, rawI, raw, rawI_all l]
    split <;> simp
theorem rawI_succ : ∀ {l : List Ev} {i : Nat} {x : Ev}, l[i]? = some x → rawI l (i + 1) = rawI l i ++ (if x.add = true then [⟨x.e, x.t, nextT x.e (l.drop (i + 1))⟩] else [])
  | [], i, x, h => by simp at h
  | y :: l, 0, x, h => by
    cases h
    simp only [rawI, rawI_zero, List.append_nil, List.nil_append, Nat.zero_add, List.drop_succ_cons, List.drop_zero]
  | y :: l, i + 1, x, h => by
    have ih := rawI_succ (l := l) (i := i) (x := x) (by simpa using h)
    show (if y.add = true then [⟨y.e, y.t, nextT y.e l⟩] else []) ++ rawI l (i + 1) = ((if y.add = true then [⟨y.e, y.t, nextT y.e l⟩] else []) ++ rawI l i) ++ _
    rw [ih, List.append_assoc, List.drop_succ_cons]
theorem rawI_len : ∀ (l : List Ev) (i : Nat), (rawI l i).length ≤ i
  | [], i => by simp [rawI]
  | _ :: _, 0 => by simp [rawI]
  | y :: l, i + 1 => by
    have := rawI_len l i
    simp only [rawI, List.length_append]
    split <;> simp <;> omega
/-- The time at which an edge is told of next, found so far. -/
theorem nextT_skip {x : Ed} {y : Ev} {l : List Ev} (h : y.e ≠ x) : nextT x (y :: l) = nextT x l := by simp [nextT, h]
theorem nextT_hit {x : Ed} {y : Ev} {l : List Ev} (h : y.e = x) : nextT x (y :: l) = y.t := by simp [nextT, h]

/-- Lives, kept beside a change of a young block. -/
theorem Lvs.young {w w' : World} {S : Nat → Prop} {a : Option Addr} {l : List Lf} (h : Lvs w a l) (hm : Mod w w' S) (hs : ∀ q, S q → w.heap.size ≤ q) : Lvs w' a l := by
  rcases h with h | ⟨b, off, rfl, hb, h⟩
  · exact Or.inl h
  · have hn : ¬ S b := fun c => Nat.not_lt.2 (hs b c) hb
    exact Or.inr ⟨b, off, rfl, Nat.lt_of_lt_of_le hb hm.size, fun i x hx => ⟨keepS (h i x hx).1 hm hn, keepS (h i x hx).2.1 hm hn, keepS (h i x hx).2.2.1 hm hn, keepS (h i x hx).2.2.2 hm hn⟩⟩
theorem HAt.young {w wr w' : World} {S : Nat → Prop} {h0 len cap : Nat} {n : Int} {a : Option Addr} {l : List Ev} (h : HAt w wr h0 n a len cap l) (hm : Mod wr w' S) (hs : ∀ q, S q → wr.heap.size ≤ q) : HAt w w' h0 n a len cap l := by
  have l0 := World.block_lt_of_cell? _ _ h.c0
  have hn : ¬ S h0 := fun c => Nat.not_lt.2 (hs h0 c) l0
  exact ⟨h.mod.trans hm (fun i hi c => absurd (Nat.lt_of_lt_of_le hi h.mod.size) (Nat.not_lt.2 (hs i c))), keepS h.c0 hm hn, keepS h.c1 hm hn, h.evs.young hm hs⟩
/-- What stands at the start of a round. -/
structure OSt2 (w wr : World) (h0 : Nat) (n : Int) (a : Option Addr) (len cap : Nat) (l : List Ev) (oa : Option Addr) (oc : Nat) (X : List Lf) : Prop where
  h : HAt w wr h0 n a len cap l
  lvs : Lvs wr oa X
  plain : Plain oa
  cap : X.length ≤ oc
theorem OSt2.young {w wr w' : World} {S : Nat → Prop} {h0 len cap oc : Nat} {n : Int} {a oa : Option Addr} {l : List Ev} {X : List Lf} (h : OSt2 w wr h0 n a len cap l oa oc X) (hm : Mod wr w' S) (hs : ∀ q, S q → wr.heap.size ≤ q) : OSt2 w w' h0 n a len cap l oa oc X :=
  ⟨h.h.young hm hs, h.lvs.young hm hs, h.plain, h.cap⟩
/-- The life that is looked for, in a block of its own. -/
structure JSt (V wr : World) (g8 g9 : Nat) (x : Ev) (t : Int) : Prop where
  mod : Mod V wr (OneB g9)
  young : V.heap.size ≤ g9
  e : EvAt wr g8 0 x
  y : LfAt wr g9 0 ⟨x.e, x.t, t⟩
  fz : wr.frozen? ⟨g9, 3, none⟩ = false
  ne : g8 ≠ g9
theorem JSt.quiet {V wr w' : World} {g8 g9 : Nat} {x : Ev} {t : Int} (h : JSt V wr g8 g9 x t) (hm : Mod wr w' NoB) : JSt V w' g8 g9 x t :=
  ⟨h.mod.trans hm (fun _ _ c => c.elim), h.young, h.e.mod hm, h.y.mod hm, (hm.frozen (p := ⟨g9, 3, none⟩) (World.block_lt_of_cell? _ _ h.y.2.2.2) (by simp [NoB])).trans h.fz, h.ne⟩
theorem JSt.set {V wr : World} {g8 g9 : Nat} {x : Ev} {t : Int} (h : JSt V wr g8 g9 x t) (t' : Int) : JSt V (wr.setCell ⟨g9, 3, none⟩ (.int .i64 t')) g8 g9 x t' := by
  have hm : Mod wr (wr.setCell ⟨g9, 3, none⟩ (.int .i64 t')) (OneB g9) := Mod.set1 wr g9 3 _
  have nx : ¬ OneB g9 g8 := fun c => h.ne c
  refine ⟨h.mod.trans hm (fun _ _ c => c), h.young, ⟨keepS h.e.1 hm nx, keepS h.e.2.1 hm nx, keepS h.e.2.2.1 hm nx, keepS h.e.2.2.2 hm nx⟩, ⟨?_, ?_, ?_, ?_⟩, by rw [World.frozen?_setCell]; exact h.fz, h.ne⟩
  · rw [World.cell?_setCell_other _ _ _ _ (by simp)]; exact h.y.1
  · rw [World.cell?_setCell_other _ _ _ _ (by simp)]; exact h.y.2.1
  · rw [World.cell?_setCell_other _ _ _ _ (by simp)]; exact h.y.2.2.1
  · exact World.cell?_setCell_same _ _ _ h.y.2.2.2

theorem putAll_app {α : Type} {lt : α → α → Prop} [DecidableRel lt] (l : List α) (x : α) : putAll lt (l ++ [x]) = putR lt x (putAll lt l) := by
  unfold putAll
  rw [List.foldl_append]
  rfl
theorem JSt.start {V : World} {x : Ev} (ha : x.add = true) : JSt V ((V.alloc (.cells #[.int .i64 x.t, .int .u32 x.e.u, .int .u32 x.e.v, .bool true] 43)).alloc (.cells #[.int .u32 x.e.u, .int .u32 x.e.v, .int .i64 x.t, .int .i64 (-1)] 67)) V.heap.size (V.heap.size + 1) x (-1) := by
  have hs1 : (V.alloc (.cells #[.int .i64 x.t, .int .u32 x.e.u, .int .u32 x.e.v, .bool true] 43)).heap.size = V.heap.size + 1 := by simp
  have lt : V.heap.size < (V.alloc (.cells #[.int .i64 x.t, .int .u32 x.e.u, .int .u32 x.e.v, .bool true] 43)).heap.size := by rw [hs1]; omega
  have a1 : ∀ j, ((V.alloc (.cells #[.int .i64 x.t, .int .u32 x.e.u, .int .u32 x.e.v, .bool true] 43)).alloc (.cells #[.int .u32 x.e.u, .int .u32 x.e.v, .int .i64 x.t, .int .i64 (-1)] 67)).cell? ⟨V.heap.size, j, none⟩ = (#[.int .i64 x.t, .int .u32 x.e.u, .int .u32 x.e.v, .bool true] : Array Value)[j]? := fun j =>
    (World.cell?_alloc_lt _ _ _ lt).trans (World.cell?_alloc_at _ _ _ _ rfl)
  have a2 : ∀ j, ((V.alloc (.cells #[.int .i64 x.t, .int .u32 x.e.u, .int .u32 x.e.v, .bool true] 43)).alloc (.cells #[.int .u32 x.e.u, .int .u32 x.e.v, .int .i64 x.t, .int .i64 (-1)] 67)).cell? ⟨V.heap.size + 1, j, none⟩ = (#[.int .u32 x.e.u, .int .u32 x.e.v, .int .i64 x.t, .int .i64 (-1)] : Array Value)[j]? := fun j =>
    World.cell?_alloc_at _ _ _ _ hs1.symm
  refine ⟨((Mod.refl _ _).alloc _).alloc _, Nat.le_succ _, ⟨(a1 0).trans rfl, (a1 1).trans rfl, (a1 2).trans rfl, (a1 3).trans (by rw [ha]; rfl)⟩, ⟨(a2 0).trans rfl, (a2 1).trans rfl, (a2 2).trans rfl, (a2 3).trans rfl⟩, ?_, by omega⟩
  have hh := (MapKept.heap_alloc (V.alloc (.cells #[.int .i64 x.t, .int .u32 x.e.u, .int .u32 x.e.v, .bool true] 43)) (.cells #[.int .u32 x.e.u, .int .u32 x.e.v, .int .i64 x.t, .int .i64 (-1)] 67)).1
  rw [hs1] at hh
  unfold World.frozen?
  rw [hh]
  rfl

end Go.Proofs.YtppambkffgmkgaaDoor
end

section
/- What a parser keeps in memory: its results' blocks, its history, whose events lie in a row of its own. -/
namespace Go.Proofs.YtppambkffgmkgaaDoor
open Go.RowKit
set_option linter.unusedVariables false

structure PSt (w wr : World) (g2 g3 g6 : Nat) (K : Nat → Prop) (n : Int) (oa : Option Addr) (oc : Nat) (F : List Ev) : Prop where
  z0 : wr.cell? ⟨g2, 0, none⟩ = some (.int .u64 0)
  z1 : wr.cell? ⟨g2, 1, none⟩ = some (.slice none 0 0)
  p0 : wr.cell? ⟨g3, 0, none⟩ = some (.int .i64 0)
  p1 : wr.cell? ⟨g3, 1, none⟩ = some (.int .i64 0)
  q0 : wr.cell? ⟨g6, 0, none⟩ = some (.int .u64 n)
  q1 : wr.cell? ⟨g6, 1, none⟩ = some (.slice oa F.length oc)
  f2 : ∀ j, wr.frozen? ⟨g2, j, none⟩ = false
  f3 : ∀ j, wr.frozen? ⟨g3, j, none⟩ = false
  f6 : ∀ j, wr.frozen? ⟨g6, j, none⟩ = false
  row : wr.ownsRow 0 43 4 (.slice oa F.length oc) F.length (F.flatMap encV)
  mod : Mod w wr NoB
  sep : ∀ q, (Value.slice oa F.length oc).ownBlock = some q → w.heap.size ≤ q ∧ q ≠ g2 ∧ q ≠ g3 ∧ q ≠ g6 ∧ ¬ K q
  y : w.heap.size ≤ g2 ∧ w.heap.size ≤ g3 ∧ w.heap.size ≤ g6
  d : g2 ≠ g3 ∧ g2 ≠ g6 ∧ g3 ≠ g6
  ky : ∀ q, K q → w.heap.size ≤ q ∧ q < wr.heap.size ∧ q ≠ g2 ∧ q ≠ g3 ∧ q ≠ g6
theorem frozenS {S : Nat → Prop} {w w' : World} (hm : Mod w w' S) {g j : Nat} {v : Value} {i : Nat} (c : w.cell? ⟨g, i, none⟩ = some v) (hs : ¬ S g) (h : w.frozen? ⟨g, j, none⟩ = false) : w'.frozen? ⟨g, j, none⟩ = false :=
  (hm.frozen (p := ⟨g, j, none⟩) (by have := World.block_lt_of_cell? _ _ c; exact this) hs).trans h
theorem PSt.keep {S : Nat → Prop} {w wr w' : World} {g2 g3 g6 : Nat} {K : Nat → Prop} {n : Int} {oa : Option Addr} {oc : Nat} {F : List Ev} (h : PSt w wr g2 g3 g6 K n oa oc F) (hm : Mod wr w' S) (hS : ∀ q, S q → K q) : PSt w w' g2 g3 g6 K n oa oc F := by
  have n2 : ¬ S g2 := fun c => (h.ky g2 (hS _ c)).2.2.1 rfl
  have n3 : ¬ S g3 := fun c => (h.ky g3 (hS _ c)).2.2.2.1 rfl
  have n6 : ¬ S g6 := fun c => (h.ky g6 (hS _ c)).2.2.2.2 rfl
  exact ⟨keepS h.z0 hm n2, keepS h.z1 hm n2, keepS h.p0 hm n3, keepS h.p1 hm n3, keepS h.q0 hm n6, keepS h.q1 hm n6, fun j => frozenS hm h.z0 n2 (h.f2 j), fun j => frozenS hm h.p0 n3 (h.f3 j), fun j => frozenS hm h.q0 n6 (h.f6 j),
    hm.row h.row (fun q hq c => (h.sep q hq).2.2.2.2 (hS _ c)), h.mod.trans hm (fun i hi c => absurd hi (Nat.not_lt.2 (h.ky i (hS _ c)).1)), h.sep, h.y, h.d, fun q hq => ⟨(h.ky q hq).1, Nat.lt_of_lt_of_le (h.ky q hq).2.1 hm.size, (h.ky q hq).2.2⟩⟩
theorem PSt.evs {w wr : World} {g2 g3 g6 : Nat} {K : Nat → Prop} {n : Int} {oa : Option Addr} {oc : Nat} {F : List Ev} (h : PSt w wr g2 g3 g6 K n oa oc F) : Evs wr oa F := evs_of_row rfl h.row
/-- One event more. -/
theorem PSt.app {w wr w8 : World} {g2 g3 g6 : Nat} {K : Nat → Prop} {n : Int} {oa a8 : Option Addr} {oc c8 : Nat} {F : List Ev} {x : Ev} {o : Obj} (h : PSt w wr g2 g3 g6 K n oa oc F)
    (hown : w8.ownsRow 0 43 4 (.slice a8 (F.length + 1) c8) (F.length + 1) (F.flatMap encV ++ encV x)) (hgrow : (wr.alloc o).grownBy w8 (Value.slice oa F.length oc).ownBlock) (hat : (Value.slice a8 (F.length + 1) c8).ownBlock = (Value.slice oa F.length oc).ownBlock ∨ (Value.slice a8 (F.length + 1) c8).ownBlock = some (wr.alloc o).heap.size) :
    PSt w (w8.setCell ⟨g6, 1, none⟩ (.slice a8 (F.length + 1) c8)) g2 g3 g6 K n a8 c8 (F ++ [x]) := by
  have hm8 : Mod wr w8 (fun q => (Value.slice oa F.length oc).ownBlock = some q) := ((Mod.refl _ _).alloc o).grown hgrow (fun k hk _ => hk)
  have l2 : g2 < wr.heap.size := by have := World.block_lt_of_cell? _ _ h.z0; exact this
  have l3 : g3 < wr.heap.size := by have := World.block_lt_of_cell? _ _ h.p0; exact this
  have l6 : g6 < wr.heap.size := by have := World.block_lt_of_cell? _ _ h.q0; exact this
  have n2 : ¬ (Value.slice oa F.length oc).ownBlock = some g2 := fun c => (h.sep _ c).2.1 rfl
  have n3 : ¬ (Value.slice oa F.length oc).ownBlock = some g3 := fun c => (h.sep _ c).2.2.1 rfl
  have n6 : ¬ (Value.slice oa F.length oc).ownBlock = some g6 := fun c => (h.sep _ c).2.2.2.1 rfl
  have e8 : ∀ q, (Value.slice a8 (F.length + 1) c8).ownBlock = some q → w.heap.size ≤ q ∧ q ≠ g2 ∧ q ≠ g3 ∧ q ≠ g6 ∧ ¬ K q := by
    intro q hq
    rcases hat with c | c
    · exact h.sep q (c.symm.trans hq)
    · have e1 : q = (wr.alloc o).heap.size := Option.some.inj (hq.symm.trans c)
      have e2 : (wr.alloc o).heap.size = wr.heap.size + 1 := by simp
      have e3 := h.mod.size
      exact ⟨by omega, by omega, by omega, by omega, fun hk => by have := (h.ky q hk).2.1; omega⟩
  have hs : Mod w8 (w8.setCell ⟨g6, 1, none⟩ (.slice a8 (F.length + 1) c8)) (OneB g6) := Mod.set1 w8 g6 1 _
  have m2 : ¬ OneB g6 g2 := fun c => h.d.2.1 c
  have m3 : ¬ OneB g6 g3 := fun c => h.d.2.2 c
  have hlen : (F ++ [x]).length = F.length + 1 := by simp
  refine ⟨keepS (keepS h.z0 hm8 n2) hs m2, keepS (keepS h.z1 hm8 n2) hs m2, keepS (keepS h.p0 hm8 n3) hs m3, keepS (keepS h.p1 hm8 n3) hs m3, ?_, ?_, fun j => by rw [World.frozen?_setCell]; exact frozenS hm8 h.z0 n2 (h.f2 j), fun j => by rw [World.frozen?_setCell]; exact frozenS hm8 h.p0 n3 (h.f3 j),
    fun j => by rw [World.frozen?_setCell]; exact frozenS hm8 h.q0 n6 (h.f6 j), ?_, ?_, ?_, h.y, h.d, fun q hq => ⟨(h.ky q hq).1, Nat.lt_of_lt_of_le (h.ky q hq).2.1 (Nat.le_trans hm8.size hs.size), (h.ky q hq).2.2⟩⟩
  · rw [World.cell?_setCell_other _ _ _ _ (by simp)]; exact keepS h.q0 hm8 n6
  · rw [hlen]; exact World.cell?_setCell_same _ _ _ (keepS h.q1 hm8 n6)
  · rw [hlen, List.flatMap_append]
    have : ([x] : List Ev).flatMap encV = encV x := by simp
    rw [this]
    exact hs.row hown (fun q hq c => (e8 q hq).2.2.2.1 c)
  · refine (h.mod.trans hm8 (fun i hi c => absurd hi (Nat.not_lt.2 (h.sep i c).1))).trans hs (fun i hi c => ?_)
    have e : i = g6 := c
    have := h.y.2.2
    omega
  · rw [hlen]; exact e8
/-- What an append leaves alone. -/
theorem PSt.appc {w wr w8 : World} {g2 g3 g6 : Nat} {K : Nat → Prop} {n : Int} {oa : Option Addr} {oc : Nat} {F : List Ev} {o : Obj} (h : PSt w wr g2 g3 g6 K n oa oc F)
    (hgrow : (wr.alloc o).grownBy w8 (Value.slice oa F.length oc).ownBlock) : w8.cell? ⟨g6, 1, none⟩ = some (.slice oa F.length oc) ∧ w8.frozen? ⟨g6, 1, none⟩ = false ∧ Mod wr w8 (fun q => (Value.slice oa F.length oc).ownBlock = some q) := by
  have hm8 : Mod wr w8 (fun q => (Value.slice oa F.length oc).ownBlock = some q) := ((Mod.refl _ _).alloc o).grown hgrow (fun k hk _ => hk)
  have n6 : ¬ (Value.slice oa F.length oc).ownBlock = some g6 := fun c => (h.sep _ c).2.2.2.1 rfl
  exact ⟨keepS h.q1 hm8 n6, frozenS hm8 h.q0 n6 (h.f6 1), hm8⟩
end Go.Proofs.YtppambkffgmkgaaDoor
end

section
/- The contract of logfmt.Parse. -/
namespace Go.Proofs.YtppambkffgmkgaaDoor
open Go.RowKit
set_option linter.unusedVariables false

/-- The results' blocks at the start. -/
structure PS0 (w wr : World) (g2 g3 : Nat) : Prop where
  z0 : wr.cell? ⟨g2, 0, none⟩ = some (.int .u64 0)
  z1 : wr.cell? ⟨g2, 1, none⟩ = some (.slice none 0 0)
  p0 : wr.cell? ⟨g3, 0, none⟩ = some (.int .i64 0)
  p1 : wr.cell? ⟨g3, 1, none⟩ = some (.int .i64 0)
  f2 : ∀ j, wr.frozen? ⟨g2, j, none⟩ = false
  f3 : ∀ j, wr.frozen? ⟨g3, j, none⟩ = false
  mod : Mod w wr NoB
  y : w.heap.size ≤ g2 ∧ w.heap.size ≤ g3
  d : g2 ≠ g3
theorem PS0.keep {S : Nat → Prop} {w wr w' : World} {g2 g3 : Nat} (h : PS0 w wr g2 g3) (hm : Mod wr w' S) (hS : ∀ q, S q → w.heap.size ≤ q ∧ q ≠ g2 ∧ q ≠ g3) : PS0 w w' g2 g3 := by
  have n2 : ¬ S g2 := fun c => (hS g2 c).2.1 rfl
  have n3 : ¬ S g3 := fun c => (hS g3 c).2.2 rfl
  exact ⟨keepS h.z0 hm n2, keepS h.z1 hm n2, keepS h.p0 hm n3, keepS h.p1 hm n3, fun j => frozenS hm h.z0 n2 (h.f2 j), fun j => frozenS hm h.p0 n3 (h.f3 j), h.mod.trans hm (fun i hi c => absurd hi (Nat.not_lt.2 (hS i c).1)), h.y, h.d⟩
theorem PS0.start {w : World} : PS0 w ((w.alloc (.cells #[.int .u64 0, .slice none 0 0] 28)).alloc (.cells #[.int .i64 0, .int .i64 0] 34)) w.heap.size (w.heap.size + 1) := by
  have hs1 : (w.alloc (.cells #[.int .u64 0, .slice none 0 0] 28)).heap.size = w.heap.size + 1 := by simp
  have lt : w.heap.size < (w.alloc (.cells #[.int .u64 0, .slice none 0 0] 28)).heap.size := by rw [hs1]; omega
  exact ⟨(World.cell?_alloc_lt _ _ _ lt).trans (World.cell?_alloc_at _ _ _ _ rfl), (World.cell?_alloc_lt _ _ _ lt).trans (World.cell?_alloc_at _ _ _ _ rfl), World.cell?_alloc_at _ _ _ _ hs1.symm, World.cell?_alloc_at _ _ _ _ hs1.symm,
    fun j => (((Mod.refl _ NoB).alloc _).frozen (p := ⟨w.heap.size, j, none⟩) lt (by simp [NoB])).trans (frozen_alloc_at _ _ _ _ _ rfl), fun j => frozen_alloc_at _ _ _ _ _ hs1.symm, ((Mod.refl _ _).alloc _).alloc _, ⟨Nat.le_refl _, Nat.le_succ _⟩, by omega⟩
theorem PS0.lt {w wr : World} {g2 g3 : Nat} (h : PS0 w wr g2 g3) : g2 < wr.heap.size ∧ g3 < wr.heap.size := ⟨World.block_lt_of_cell? _ _ h.z0, World.block_lt_of_cell? _ _ h.p0⟩
/-- The history's own block is laid. -/
theorem PS0.pst {w wr : World} {g2 g3 : Nat} (h : PS0 w wr g2 g3) (n : Int) (K : Nat → Prop) (hK : ∀ q, K q → w.heap.size ≤ q ∧ q < wr.heap.size ∧ q ≠ g2 ∧ q ≠ g3) : PSt w (wr.alloc (.cells #[.int .u64 n, .slice none 0 0] 28)) g2 g3 wr.heap.size K n none 0 [] := by
  have hm : Mod wr (wr.alloc (.cells #[.int .u64 n, .slice none 0 0] 28)) NoB := (Mod.refl _ _).alloc _
  have hh := h.keep hm (fun q c => c.elim)
  have hl := h.lt
  exact ⟨hh.z0, hh.z1, hh.p0, hh.p1, World.cell?_alloc_at _ _ _ _ rfl, World.cell?_alloc_at _ _ _ _ rfl, hh.f2, hh.f3, fun j => frozen_alloc_at _ _ _ _ _ rfl, World.ownsRow_nil _ _ _ _, hh.mod, (fun q hq => by cases hq), ⟨h.y.1, h.y.2, h.mod.size⟩, ⟨h.d, by omega, by omega⟩,
    fun q hq => ⟨(hK q hq).1, Nat.lt_of_lt_of_le (hK q hq).2.1 hm.size, (hK q hq).2.2.1, (hK q hq).2.2.2, by have := (hK q hq).2.1; omega⟩⟩
/-- What goes out at last. -/
theorem PSt.fin {w wr : World} {g2 g3 g6 : Nat} {K : Nat → Prop} {n : Int} {oa : Option Addr} {oc : Nat} {F : List Ev} (h : PSt w wr g2 g3 g6 K n oa oc F) (u : Int) (v : Value) (a b : Int) :
    let W := (((wr.setCell ⟨g2, 0, none⟩ (.int .u64 u)).setCell ⟨g2, 1, none⟩ v).setCell ⟨g3, 0, none⟩ (.int .i64 a)).setCell ⟨g3, 1, none⟩ (.int .i64 b)
    (W.cell? ⟨g2, 0, none⟩ = some (.int .u64 u) ∧ W.cell? ⟨g2, 1, none⟩ = some v ∧ W.cell? ⟨g3, 0, none⟩ = some (.int .i64 a) ∧ W.cell? ⟨g3, 1, none⟩ = some (.int .i64 b)) ∧ Mod w W NoB ∧ Evs W oa F := by
  intro W
  have hm : Mod wr W (fun q => q = g2 ∨ q = g3) := ((((Mod.refl wr (fun q => q = g2 ∨ q = g3)).setS (i := 0) (Or.inl rfl) _).setS (i := 1) (Or.inl rfl) _).setS (i := 0) (Or.inr rfl) _).setS (i := 1) (Or.inr rfl) _
  have o : ∀ (z : World) (g g' i j : Nat) (v : Value), (g ≠ g' ∨ i ≠ j) → (z.setCell ⟨g, i, none⟩ v).cell? ⟨g', j, none⟩ = z.cell? ⟨g', j, none⟩ := fun z g g' i j v hij => World.cell?_setCell_other _ _ _ _ (by intro c; cases c; rcases hij with c | c <;> exact c rfl)
  refine ⟨⟨?_, ?_, ?_, ?_⟩, h.mod.trans hm (fun i hi c => by
    have h1 := h.y.1
    have h2 := h.y.2.1
    rcases c with c | c
    · omega
    · omega), ?_⟩
  · rw [o _ g3 g2 1 0 _ (Or.inl h.d.1.symm), o _ g3 g2 0 0 _ (Or.inl h.d.1.symm), o _ g2 g2 1 0 _ (Or.inr (by decide))]; exact World.cell?_setCell_same _ _ _ h.z0
  · rw [o _ g3 g2 1 1 _ (Or.inl h.d.1.symm), o _ g3 g2 0 1 _ (Or.inl h.d.1.symm)]; exact World.cell?_setCell_same _ _ _ ((o _ g2 g2 0 1 _ (Or.inr (by decide))).trans h.z1)
  · rw [o _ g3 g3 1 0 _ (Or.inr (by decide))]; exact World.cell?_setCell_same _ _ _ ((o _ g2 g3 1 0 _ (Or.inl h.d.1)).trans ((o _ g2 g3 0 0 _ (Or.inl h.d.1)).trans h.p0))
  · exact World.cell?_setCell_same _ _ _ ((o _ g3 g3 0 1 _ (Or.inr (by decide))).trans ((o _ g2 g3 1 1 _ (Or.inl h.d.1)).trans ((o _ g2 g3 0 1 _ (Or.inl h.d.1)).trans h.p1)))
  · refine evs_of_row rfl (hm.row h.row (fun q hq c => ?_))
    rcases c with c | c
    · exact (h.sep q hq).2.1 c
    · exact (h.sep q hq).2.2.1 c
/-- How much text is left, told by the memory. -/
def lenAt (w : World) (g : Nat) : Nat := match w.cell? ⟨g, 0, none⟩ with | some (.string t) => t.size | _ => 0
theorem ScA.len {w : World} {g : Nat} {st : SS} (h : ScA w g st) : lenAt w g = st.l.length := by
  obtain ⟨s, h1, h2⟩ := h
  unfold lenAt
  rw [h1.cells.1, ← h2, L_len]

/-- What stands at the loop. -/
structure LSt (w wr : World) (g2 g3 g6 gs m : Nat) (n : Int) (oa : Option Addr) (oc : Nat) (F : List Ev) (st : SS) (k : Nat) (R : List Ev × (Int × Int) × Int) : Prop where
  pst : PSt w wr g2 g3 g6 (fun q => q = gs ∨ q = m) n oa oc F
  sc : ScA wr gs st
  map : EMap wr m (.bool false) (fun e => .bool (thereOf F e))
  pl : plF n k F st = R
  lt : st.l.length < k
  sz : F.length + st.l.length ≤ 40000

end Go.Proofs.YtppambkffgmkgaaDoor
end
