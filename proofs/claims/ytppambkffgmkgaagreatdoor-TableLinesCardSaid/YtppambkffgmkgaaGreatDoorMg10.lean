/- Merged: LfBx LfBe ScanP -/
import Derived.Test.YtppambkffgmkgaaGreatDoorMg08
import Derived.Test.YtppambkffgmkgaaGreatDoorMg06
import Derived.Test.YtppambkffgmkgaaGreatDoorMg05
import Derived.Deep.DeepCutAuto
import Derived.OpenShut
import Derived.Deep.RegionLaw
import Derived.WalkKit
section
/- Rows of one's own, of elements of four cells: one field set. -/
namespace Go.Proofs.YtppambkffgmkgaaGreatDoor
open Go.RowKit
set_option linter.unusedVariables false

theorem flat_set4 {α : Type} {enc : α → List Value} (hk : ∀ x, (enc x).length = 4) : ∀ (l : List α) (i : Nat) (x y : α) (c : Nat) (v : Value), l[i]? = some x → c < 4 → (enc x).set c v = enc y → (l.flatMap enc).set (i * 4 + c) v = (l.set i y).flatMap enc
  | [], i, x, y, c, v, h, _, _ => by simp at h
  | z :: l, 0, x, y, c, v, h, hc, hy => by
    cases h
    rw [List.set_cons_zero, List.flatMap_cons, List.flatMap_cons, Nat.zero_mul, Nat.zero_add, List.set_append_left _ _ (by rw [hk]; exact hc), hy]
  | z :: l, i + 1, x, y, c, v, h, hc, hy => by
    have ih := flat_set4 hk l i x y c v (by simpa using h) hc hy
    rw [List.set_cons_succ, List.flatMap_cons, List.flatMap_cons, ← ih, List.set_append_right _ _ (by rw [hk]; omega), hk]
    congr 2
    omega

/-- A row of one's own, in a young block. -/
structure Own4 {α : Type} (enc : α → List Value) (e : TypeId) (w0 w : World) (g n cap : Nat) (l : List α) : Prop where
  len : l.length = n
  row : w.ownsRow 0 e 4 (.slice (some ⟨g, 0, none⟩) n cap) n (l.flatMap enc)
  mod : Mod w0 w NoB
  young : w0.heap.size ≤ g
theorem Own4.set {α : Type} {enc : α → List Value} {e : TypeId} {w0 w : World} {g n cap : Nat} {l : List α} (h : Own4 enc e w0 w g n cap l) (hk : ∀ x, (enc x).length = 4) {i : Nat} {x : α} (y : α) (c : Nat) (v : Value) (hx : l[i]? = some x) (hc : c < 4) (hy : (enc x).set c v = enc y) :
    Own4 enc e w0 (w.setCell ⟨g, i * 4 + c, none⟩ v) g n cap (l.set i y) :=
  ⟨by rw [List.length_set]; exact h.len, by have := row_set (i * 4 + c) v h.row; rwa [flat_set4 hk l i x y c v hx hc hy] at this, h.mod.trans (Mod.set1 w g _ v) (fun i hi c => by have : i = g := c; have := h.young; omega), h.young⟩
theorem Own4.mod' {α : Type} {enc : α → List Value} {e : TypeId} {w0 w w' : World} {g n cap : Nat} {l : List α} (h : Own4 enc e w0 w g n cap l) (hm : Mod w w' NoB) : Own4 enc e w0 w' g n cap l :=
  ⟨h.len, hm.row h.row (fun _ _ c => c), h.mod.trans hm (fun _ _ c => c), h.young⟩
theorem Own4.lt {α : Type} {enc : α → List Value} {e : TypeId} {w0 w : World} {g n cap : Nat} {l : List α} (h : Own4 enc e w0 w g n cap l) : g < w.heap.size := (h.row.lt g rfl).2
theorem Own4.cell {α : Type} {enc : α → List Value} {e : TypeId} {w0 w : World} {g n cap : Nat} {l : List α} (h : Own4 enc e w0 w g n cap l) (hk : ∀ x, (enc x).length = 4) {i : Nat} {x : α} (c : Nat) {v : Value} (hx : l[i]? = some x) (hc : c < 4) (hv : (enc x)[c]? = some v) :
    w.cell? ⟨g, i * 4 + c, none⟩ = some v := by
  have hn : 0 < n := by rw [← h.len]; have := (List.getElem?_eq_some_iff.1 hx).1; omega
  obtain ⟨g', cap', hv', h1, _⟩ := row_open h.row hn
  cases hv'
  exact h1 _ _ ((enc4_get hk l i x c hx hc).trans hv)
theorem Own4.frozen {α : Type} {enc : α → List Value} {e : TypeId} {w0 w : World} {g n cap : Nat} {l : List α} (h : Own4 enc e w0 w g n cap l) (j : Nat) : w.frozen? ⟨g, j, none⟩ = false := by
  rcases h.row.2 with ⟨hv, _⟩ | ⟨g', cap', cur, hv, hb, hg, _⟩
  · cases hv
  · cases hv
    unfold World.frozen?
    rw [hg]
    simp
end Go.Proofs.YtppambkffgmkgaaGreatDoor
end

section
/- The statements' bent history. -/
namespace Go.Proofs.YtppambkffgmkgaaGreatDoor
open Go.RowKit
set_option linter.unusedVariables false

/-- The two blocks at the start: what came in, and what goes out. -/
structure BnB (w W : World) (h0 h8 : Nat) (n : Int) (v : Value) : Prop where
  c0 : W.cell? ⟨h0, 0, none⟩ = some (.int .u64 n)
  c1 : W.cell? ⟨h0, 1, none⟩ = some v
  z0 : W.cell? ⟨h8, 0, none⟩ = some (.int .u64 0)
  z1 : W.cell? ⟨h8, 1, none⟩ = some (.slice none 0 0)
  f0 : W.frozen? ⟨h8, 0, none⟩ = false
  f1 : W.frozen? ⟨h8, 1, none⟩ = false
  mod : Mod w W NoB
  y0 : w.heap.size ≤ h0
  y8 : w.heap.size ≤ h8
theorem frozen_alloc_at (w : World) (cs : Array Value) (t : TypeId) (g j : Nat) (h : g = w.heap.size) : (w.alloc (.cells cs t)).frozen? ⟨g, j, none⟩ = false := by
  unfold World.frozen?
  subst h
  rw [(MapKept.heap_alloc _ _).1]
  rfl
theorem frozen_mod {w w' : World} (hm : Mod w w' NoB) {g j : Nat} (hg : g < w.heap.size) (h : w.frozen? ⟨g, j, none⟩ = false) : w'.frozen? ⟨g, j, none⟩ = false := (hm.frozen (p := ⟨g, j, none⟩) hg (by simp [NoB])).trans h
theorem BnB.start {w : World} {n : Int} {a : Option Addr} {len cap : Nat} : BnB w ((w.alloc (.cells #[.int .u64 n, .slice a len cap] 25)).alloc (.cells #[.int .u64 0, .slice none 0 0] 25)) w.heap.size (w.heap.size + 1) n (.slice a len cap) := by
  have hs1 : (w.alloc (.cells #[.int .u64 n, .slice a len cap] 25)).heap.size = w.heap.size + 1 := by simp
  have lt : w.heap.size < (w.alloc (.cells #[.int .u64 n, .slice a len cap] 25)).heap.size := by rw [hs1]; omega
  have a1 : ∀ j, ((w.alloc (.cells #[.int .u64 n, .slice a len cap] 25)).alloc (.cells #[.int .u64 0, .slice none 0 0] 25)).cell? ⟨w.heap.size, j, none⟩ = (#[.int .u64 n, .slice a len cap] : Array Value)[j]? := fun j =>
    (World.cell?_alloc_lt _ _ _ lt).trans (World.cell?_alloc_at _ _ _ _ rfl)
  have a2 : ∀ j, ((w.alloc (.cells #[.int .u64 n, .slice a len cap] 25)).alloc (.cells #[.int .u64 0, .slice none 0 0] 25)).cell? ⟨w.heap.size + 1, j, none⟩ = (#[.int .u64 0, .slice none 0 0] : Array Value)[j]? := fun j =>
    World.cell?_alloc_at _ _ _ _ hs1.symm
  exact ⟨(a1 0).trans rfl, (a1 1).trans rfl, (a2 0).trans rfl, (a2 1).trans rfl, frozen_alloc_at _ _ _ _ _ hs1.symm, frozen_alloc_at _ _ _ _ _ hs1.symm, ((Mod.refl _ _).alloc _).alloc _, Nat.le_refl _, Nat.le_succ _⟩
theorem BnB.next {w W W' : World} {h0 h8 : Nat} {n : Int} {v : Value} (h : BnB w W h0 h8 n v) (hm : Mod W W' NoB) : BnB w W' h0 h8 n v :=
  ⟨keepc h.c0 hm, keepc h.c1 hm, keepc h.z0 hm, keepc h.z1 hm, frozen_mod hm (World.block_lt_of_cell? _ _ h.z0) h.f0, frozen_mod hm (World.block_lt_of_cell? _ _ h.z0) h.f1, h.mod.trans hm (fun _ _ c => c), h.y0, h.y8⟩
/-- The two blocks behind the copy: what goes out, and what is built. -/
structure BnS (w W : World) (h8 gq : Nat) (n : Int) (v : Value) : Prop where
  z0 : W.cell? ⟨h8, 0, none⟩ = some (.int .u64 0)
  z1 : W.cell? ⟨h8, 1, none⟩ = some (.slice none 0 0)
  f0 : W.frozen? ⟨h8, 0, none⟩ = false
  f1 : W.frozen? ⟨h8, 1, none⟩ = false
  q0 : W.cell? ⟨gq, 0, none⟩ = some (.int .u64 n)
  q1 : W.cell? ⟨gq, 1, none⟩ = some v
  k0 : W.frozen? ⟨gq, 0, none⟩ = false
  k1 : W.frozen? ⟨gq, 1, none⟩ = false
  mod : Mod w W NoB
  y8 : w.heap.size ≤ h8
  yq : w.heap.size ≤ gq
  ne : h8 ≠ gq
theorem BnS.start {w W : World} {h0 h8 : Nat} {n m : Int} {v u : Value} (h : BnB w W h0 h8 n v) : BnS w (W.alloc (.cells #[.int .u64 m, u] 25)) h8 W.heap.size m u := by
  have l8 := World.block_lt_of_cell? _ _ h.z0
  have hm : Mod W (W.alloc (.cells #[.int .u64 m, u] 25)) NoB := (Mod.refl _ _).alloc _
  have hh := h.next hm
  have h8l : h8 < W.heap.size := l8
  exact ⟨hh.z0, hh.z1, hh.f0, hh.f1, World.cell?_alloc_at _ _ _ _ rfl, World.cell?_alloc_at _ _ _ _ rfl, frozen_alloc_at _ _ _ _ _ rfl, frozen_alloc_at _ _ _ _ _ rfl, hh.mod, h.y8, h.mod.size, by omega⟩

theorem BnS.modS {S : Nat → Prop} {w W W' : World} {h8 gq : Nat} {n : Int} {v : Value} (h : BnS w W h8 gq n v) (hm : Mod W W' S) (h1 : ¬ S h8) (h2 : ¬ S gq) (hs : ∀ q, S q → w.heap.size ≤ q) : BnS w W' h8 gq n v :=
  ⟨keepS h.z0 hm h1, keepS h.z1 hm h1, (hm.frozen (p := ⟨h8, 0, none⟩) (World.block_lt_of_cell? _ _ h.z0) h1).trans h.f0, (hm.frozen (p := ⟨h8, 1, none⟩) (World.block_lt_of_cell? _ _ h.z1) h1).trans h.f1,
   keepS h.q0 hm h2, keepS h.q1 hm h2, (hm.frozen (p := ⟨gq, 0, none⟩) (World.block_lt_of_cell? _ _ h.q0) h2).trans h.k0, (hm.frozen (p := ⟨gq, 1, none⟩) (World.block_lt_of_cell? _ _ h.q1) h2).trans h.k1,
   h.mod.trans hm (fun i hi c => absurd hi (Nat.not_lt.2 (hs i c))), h.y8, h.yq, h.ne⟩
theorem BnS.put0 {w W : World} {h8 gq : Nat} {n m : Int} {v : Value} (h : BnS w W h8 gq n v) : BnS w (W.setCell ⟨gq, 0, none⟩ (.int .u64 m)) h8 gq m v := by
  have hm : Mod W (W.setCell ⟨gq, 0, none⟩ (.int .u64 m)) (OneB gq) := Mod.set1 W gq 0 _
  have h1 : ¬ OneB gq h8 := fun c => h.ne c
  refine ⟨keepS h.z0 hm h1, keepS h.z1 hm h1, by rw [World.frozen?_setCell]; exact h.f0, by rw [World.frozen?_setCell]; exact h.f1, World.cell?_setCell_same _ _ _ h.q0, ?_, by rw [World.frozen?_setCell]; exact h.k0, by rw [World.frozen?_setCell]; exact h.k1,
   h.mod.trans hm (fun i hi c => by have : i = gq := c; have := h.yq; omega), h.y8, h.yq, h.ne⟩
  rw [World.cell?_setCell_other _ _ _ _ (by simp)]; exact h.q1
theorem BnS.put1 {w W : World} {h8 gq : Nat} {n : Int} {v u : Value} (h : BnS w W h8 gq n v) : BnS w (W.setCell ⟨gq, 1, none⟩ u) h8 gq n u := by
  have hm : Mod W (W.setCell ⟨gq, 1, none⟩ u) (OneB gq) := Mod.set1 W gq 1 _
  have h1 : ¬ OneB gq h8 := fun c => h.ne c
  refine ⟨keepS h.z0 hm h1, keepS h.z1 hm h1, by rw [World.frozen?_setCell]; exact h.f0, by rw [World.frozen?_setCell]; exact h.f1, ?_, World.cell?_setCell_same _ _ _ h.q1, by rw [World.frozen?_setCell]; exact h.k0, by rw [World.frozen?_setCell]; exact h.k1,
   h.mod.trans hm (fun i hi c => by have : i = gq := c; have := h.yq; omega), h.y8, h.yq, h.ne⟩
  rw [World.cell?_setCell_other _ _ _ _ (by simp)]; exact h.q0
/-- Behind the switch. -/
def BnE (w W : World) (h8 gq k : Nat) : Prop := ∃ (n : Int) (a : Option Addr) (cap : Nat) (l : List Ev), BnS w W h8 gq n (.slice a l.length cap) ∧ (∀ p, a = some p → p.block ≠ h8) ∧ Evs W a l ∧ (∀ x ∈ l, EvB x) ∧ l.length ≤ k ∧ (0 ≤ n ∧ n ≤ 18446744073709551615)
theorem bs_set {α : Type} {P : α → Prop} {l : List α} {i : Nat} {y : α} (h : ∀ x ∈ l, P x) (hy : P y) : ∀ x ∈ l.set i y, P x := fun x hx => by
  rcases List.mem_or_eq_of_mem_set hx with c | rfl
  · exact h x c
  · exact hy
theorem BnE.one {w Z : World} {h8 gq g cap : Nat} {n : Int} {l : List Ev} {i c : Nat} {x y : Ev} {v : Value} (hS : BnS w Z h8 gq n (.slice (some ⟨g, 0, none⟩) l.length cap)) (hO : Own4 encV 62 w Z g l.length cap l) (hg : g ≠ h8 ∧ g ≠ gq) (hb : ∀ x ∈ l, EvB x) (hn : 0 ≤ n ∧ n ≤ 18446744073709551615) (hx : l[i]? = some x) (hc : c < 4) (hy : (encV x).set c v = encV y) (hyB : EvB y) : BnE w (Z.setCell ⟨g, i * 4 + c, none⟩ v) h8 gq l.length := by
  have hO2 := hO.set encV_len y c v hx hc hy
  have hS2 := hS.modS (Mod.set1 Z g (i * 4 + c) v) (fun c => hg.1 c.symm) (fun c => hg.2 c.symm) (fun q c => by have : q = g := c; have := hO.young; omega)
  have hlen : (l.set i y).length = l.length := List.length_set
  refine ⟨n, some ⟨g, 0, none⟩, cap, l.set i y, by rw [hlen]; exact hS2, fun p hp => by cases hp; exact hg.1, evs_of_row hlen hO2.row, bs_set hb hyB, by omega, hn⟩

theorem BnS.fin {w W : World} {h8 gq : Nat} {n : Int} {v : Value} (h : BnS w W h8 gq n v) : ((W.setCell ⟨h8, 0, none⟩ (.int .u64 n)).setCell ⟨h8, 1, none⟩ v).cell? ⟨h8, 0, none⟩ = some (.int .u64 n) ∧ ((W.setCell ⟨h8, 0, none⟩ (.int .u64 n)).setCell ⟨h8, 1, none⟩ v).cell? ⟨h8, 1, none⟩ = some v ∧
    Mod w ((W.setCell ⟨h8, 0, none⟩ (.int .u64 n)).setCell ⟨h8, 1, none⟩ v) NoB ∧ Mod W ((W.setCell ⟨h8, 0, none⟩ (.int .u64 n)).setCell ⟨h8, 1, none⟩ v) (OneB h8) := by
  have hm : Mod W ((W.setCell ⟨h8, 0, none⟩ (.int .u64 n)).setCell ⟨h8, 1, none⟩ v) (OneB h8) := (Mod.set1 W h8 0 _).setG _
  refine ⟨?_, World.cell?_setCell_same _ _ _ ((World.cell?_setCell_other _ _ _ _ (by simp)).trans h.z1), h.mod.trans hm (fun i hi c => by have : i = h8 := c; have := h.y8; omega), hm⟩
  rw [World.cell?_setCell_other _ _ _ _ (by simp)]
  exact World.cell?_setCell_same _ _ _ h.z0
theorem BnE.num {w Z : World} {h8 gq g cap : Nat} {n m : Int} {l : List Ev} (hg8 : g ≠ h8) (hg : g ≠ gq) (hS : BnS w Z h8 gq n (.slice (some ⟨g, 0, none⟩) l.length cap)) (hO : Own4 encV 62 w Z g l.length cap l) (hb : ∀ x ∈ l, EvB x) (hn : 0 ≤ m ∧ m ≤ 18446744073709551615) : BnE w (Z.setCell ⟨gq, 0, none⟩ (.int .u64 m)) h8 gq l.length := by
  refine ⟨m, some ⟨g, 0, none⟩, cap, l, hS.put0, fun p hp => by cases hp; exact hg8, evs_of_row rfl ((Mod.set1 Z gq 0 _).row hO.row (fun q hq c => ?_)), hb, Nat.le_refl _, hn⟩
  have e1 : g = q := by simpa [Value.ownBlock] using hq
  have e2 : q = gq := c
  exact hg (e1.trans e2)

/-- A whole element is put. -/
theorem Own4.putV {e : TypeId} {w0 Z : World} {g n cap : Nat} {l : List Ev} (h : Own4 encV e w0 Z g n cap l) {i : Nat} {x : Ev} (hx : l[i]? = some x) (y : Ev) :
    Own4 encV e w0 ((((Z.setCell ⟨g, i * 4 + 0, none⟩ (.int .i64 y.t)).setCell ⟨g, i * 4 + 1, none⟩ (.int .u32 y.e.u)).setCell ⟨g, i * 4 + 2, none⟩ (.int .u32 y.e.v)).setCell ⟨g, i * 4 + 3, none⟩ (.bool y.add)) g n cap (l.set i y) := by
  have hil := (List.getElem?_eq_some_iff.1 hx).1
  have h1 := h.set encV_len ⟨y.t, x.e, x.add⟩ 0 (.int .i64 y.t) hx (by omega) rfl
  have h2 := h1.set encV_len ⟨y.t, ⟨y.e.u, x.e.v⟩, x.add⟩ 1 (.int .u32 y.e.u) (List.getElem?_set_self hil) (by omega) rfl
  rw [List.set_set] at h2
  have h3 := h2.set encV_len ⟨y.t, y.e, x.add⟩ 2 (.int .u32 y.e.v) (List.getElem?_set_self hil) (by omega) rfl
  rw [List.set_set] at h3
  have h4 := h3.set encV_len y 3 (.bool y.add) (List.getElem?_set_self hil) (by omega) rfl
  rwa [List.set_set] at h4
theorem BnE.own {w Z : World} {h8 gq g cap k m : Nat} {n : Int} {l : List Ev} (hg : g ≠ h8) (hS : BnS w Z h8 gq n (.slice (some ⟨g, 0, none⟩) k cap)) (hO : Own4 encV 62 w Z g k cap l) (hb : ∀ x ∈ l, EvB x) (hn : 0 ≤ n ∧ n ≤ 18446744073709551615) (hk : k ≤ m) : BnE w Z h8 gq m := by
  have hl := hO.len
  subst hl
  exact ⟨n, some ⟨g, 0, none⟩, cap, l, hS, fun p hp => by cases hp; exact hg, evs_of_row rfl hO.row, hb, hk, hn⟩
/-- Two elements are exchanged. -/
theorem BnE.swap {w Z : World} {h8 gq g cap : Nat} {n : Int} {l : List Ev} {i : Nat} {x y : Ev} (hS : BnS w Z h8 gq n (.slice (some ⟨g, 0, none⟩) l.length cap)) (hO : Own4 encV 62 w Z g l.length cap l) (hg : g ≠ h8 ∧ g ≠ gq) (hb : ∀ x ∈ l, EvB x) (hn : 0 ≤ n ∧ n ≤ 18446744073709551615) (hx : l[i]? = some x) (hy : l[0]? = some y) (hxB : EvB x) :
    BnE w ((((((((Z.setCell ⟨g, i * 4, none⟩ (.int .i64 y.t)).setCell ⟨g, i * 4 + 1, none⟩ (.int .u32 y.e.u)).setCell ⟨g, i * 4 + 2, none⟩ (.int .u32 y.e.v)).setCell ⟨g, i * 4 + 3, none⟩ (.bool y.add)).setCell ⟨g, 0, none⟩ (.int .i64 x.t)).setCell ⟨g, 1, none⟩ (.int .u32 x.e.u)).setCell ⟨g, 2, none⟩ (.int .u32 x.e.v)).setCell ⟨g, 3, none⟩ (.bool x.add)).drew h8 gq l.length := by
  have hm : Mod Z ((((((((Z.setCell ⟨g, i * 4, none⟩ (.int .i64 y.t)).setCell ⟨g, i * 4 + 1, none⟩ (.int .u32 y.e.u)).setCell ⟨g, i * 4 + 2, none⟩ (.int .u32 y.e.v)).setCell ⟨g, i * 4 + 3, none⟩ (.bool y.add)).setCell ⟨g, 0, none⟩ (.int .i64 x.t)).setCell ⟨g, 1, none⟩ (.int .u32 x.e.u)).setCell ⟨g, 2, none⟩ (.int .u32 x.e.v)).setCell ⟨g, 3, none⟩ (.bool x.add)).drew (OneB g) :=
    ((((((((Mod.set1 Z g _ _).setG _).setG _).setG _).setG _).setG _).setG _).setG _).drew
  have h1 := hO.putV hx y
  have hy2 : ∃ y2, (l.set i y)[0]? = some y2 := ⟨(l.set i y)[0]'(by rw [List.length_set]; exact (List.getElem?_eq_some_iff.1 hy).1), List.getElem?_eq_getElem _⟩
  obtain ⟨y2, hy2⟩ := hy2
  have h2 := (h1.putV hy2 x).mod' (Mod.drew (Mod.refl _ NoB))
  simp only [Nat.zero_mul, Nat.zero_add, Nat.add_zero] at h2
  exact BnE.own hg.1 (hS.modS hm (fun c => hg.1 c.symm) (fun c => hg.2 c.symm) (fun q c => by have : q = g := c; have := hO.young; omega)) h2 (bs_set (bs_set hb (hb y (List.mem_of_getElem? hy))) hxB) hn (Nat.le_refl _)
/-- The front of a row is a row. -/
theorem row_front {w : World} {base g n m cap size : Nat} {e : TypeId} {xs : List Value} (hm : m ≤ n) (h : w.ownsRow base e size (.slice (some ⟨g, 0, none⟩) n cap) n xs) : w.ownsRow base e size (.slice (some ⟨g, 0, none⟩) m cap) m (xs.take (m * size)) := by
  obtain ⟨h0, h2⟩ := h
  rcases h2 with ⟨hv, _⟩ | ⟨g', cap', cur, hv, hb, hg, h1, h2, h3, h4⟩
  · cases hv
  · cases hv
    have hms : m * size ≤ n * size := Nat.mul_le_mul_right _ hm
    refine ⟨by rw [List.length_take, h0]; omega, Or.inr ⟨g, cap, cur, rfl, hb, hg, by omega, h2, h3, ?_⟩⟩
    rw [← h4, List.take_take, Nat.min_eq_left hms]
theorem flat_take {α : Type} {enc : α → List Value} (hk : ∀ x, (enc x).length = 4) : ∀ (l : List α) (i : Nat), (l.flatMap enc).take (i * 4) = (l.take i).flatMap enc
  | [], i => by simp
  | x :: l, 0 => by simp
  | x :: l, i + 1 => by
    rw [List.flatMap_cons, List.take_succ_cons, List.flatMap_cons, List.take_append, hk, ← flat_take hk l i, List.take_of_length_le (by rw [hk]; omega), show (i + 1) * 4 - 4 = i * 4 by omega]

theorem Mod.own {Z w8 : World} {g i c : Nat} (h : Z.drew.grownBy w8 (Value.slice (some ⟨g, 0, none⟩) i c).ownBlock) : Mod Z w8 (OneB g) :=
  (Mod.drew (Mod.refl Z (OneB g))).grown h (fun k hk _ => by
    have : g = k := Option.some.inj hk
    exact this.symm)
/-- An element is cut out. -/
theorem BnE.cut {w Z w8 : World} {h8 gq g cap i c8 : Nat} {a8 : Option Addr} {n : Int} {l : List Ev} (hS : BnS w Z h8 gq n (.slice (some ⟨g, 0, none⟩) l.length cap)) (hO : Own4 encV 62 w Z g l.length cap l) (hg : g ≠ h8 ∧ g ≠ gq) (hb : ∀ x ∈ l, EvB x) (hn : 0 ≤ n ∧ n ≤ 18446744073709551615) (hi : i < l.length)
    (hm : Mod Z w8 (OneB g)) (hown : w8.ownsRow 0 62 4 (.slice a8 (i + (l.length - (i + 1))) c8) (i + (l.length - (i + 1))) ((l.take i).flatMap encV ++ (l.drop (i + 1)).flatMap encV)) (hat : (Value.slice a8 (i + (l.length - (i + 1))) c8).ownBlock = (Value.slice (some ⟨g, 0, none⟩) i cap).ownBlock ∨ (Value.slice a8 (i + (l.length - (i + 1))) c8).ownBlock = some Z.drew.heap.size) :
    BnE w (w8.setCell ⟨gq, 1, none⟩ (.slice a8 (i + (l.length - (i + 1))) c8)) h8 gq l.length := by
  have hs2 := (hS.modS hm (fun c => hg.1 c.symm) (fun c => hg.2 c.symm) (fun q c => by have : q = g := c; have := hO.young; omega)).put1 (u := .slice a8 (i + (l.length - (i + 1))) c8)
  have hlen : (l.take i ++ l.drop (i + 1)).length = i + (l.length - (i + 1)) := by simp; omega
  have h8z := World.block_lt_of_cell? _ _ hS.z0
  have hqz := World.block_lt_of_cell? _ _ hS.q0
  have hb8 : ∀ p, a8 = some p → p.block ≠ h8 ∧ p.block ≠ gq := by
    intro p hp
    subst hp
    rcases hat with c | c
    · have : p.block = g := Option.some.inj c
      rw [this]; exact hg
    · have : p.block = Z.heap.size := Option.some.inj c
      have e1 : h8 < Z.heap.size := h8z
      have e2 : gq < Z.heap.size := hqz
      omega
  rw [← List.flatMap_append] at hown
  refine ⟨n, a8, c8, l.take i ++ l.drop (i + 1), by rw [hlen]; exact hs2, fun p hp => (hb8 p hp).1, evs_of_row hlen ((Mod.set1 w8 gq 1 _).row hown (fun q hq c => ?_)), ?_, by omega, hn⟩
  · cases a8 with
    | none => simp [Value.ownBlock] at hq
    | some p =>
      have e1 : p.block = q := Option.some.inj hq
      exact (hb8 p rfl).2 (e1.trans c)
  · intro x hx
    rcases List.mem_append.1 hx with c | c
    · exact hb x (List.mem_of_mem_take c)
    · exact hb x (List.mem_of_mem_drop c)

set_option maxRecDepth 100000 in
set_option maxHeartbeats 8000000 in
theorem bent_any (w : World) (n : Int) (a : Option Addr) (cap : Nat) (l : List Ev) (what ath v : Int) (hn : 0 ≤ n ∧ n ≤ 18446744073709551615) (hE : Evs w a l) (hl : l.length ≤ 40000) (hb : ∀ x ∈ l, EvB x) (h1 : 0 ≤ what ∧ what ≤ 255) (h2 : 0 ≤ ath ∧ ath ≤ 255) :
    Calls Tryz.prog 9 #[.agg #[.int .u64 n, .slice a l.length cap], .int .u8 what, .int .u8 ath, .int .i64 v] w fun e w' => ∃ n' a' cap' l', e = .returned (.agg #[.int .u64 n', .slice a' l'.length cap']) ∧ Evs w' a' l' ∧ (∀ x ∈ l', EvB x) ∧ l'.length ≤ l.length ∧ (0 ≤ n' ∧ n' ≤ 18446744073709551615) ∧ Mod w w' NoB := by
  have hmx := mixed
  obtain ⟨i0, hi0, hz0, hz1, hz2⟩ := info_parts info_event2
  have B1 : 0 + l.length ≤ maxLen := by unfold maxLen; omega
  have B2 : (0 + l.length) * 24 ≤ 140737488355328 := by omega
  rcases Nat.eq_zero_or_pos l.length with hl0 | hl0
  · have hnil : l = [] := List.length_eq_zero_iff.1 hl0
    subst hnil
    go_enter Tryz.func9, Tryz.ntmps9
    go_upto_region 1 with (fail)
    have HB0 := Lib.hid (BnB.start (w := w) (n := n) (a := a) (len := 0) (cap := cap))
    obtain ⟨h0, hh0⟩ : ∃ h0, h0 = w.heap.size := ⟨_, rfl⟩
    obtain ⟨h8, hh8⟩ : ∃ h8, h8 = w.heap.size + 1 := ⟨_, rfl⟩
    obtain ⟨W, hW⟩ : ∃ W, W = ((w.alloc (.cells #[.int .u64 n, .slice a 0 cap] 25)).alloc (.cells #[.int .u64 0, .slice none 0 0] 25)) := ⟨_, rfl⟩
    rw [← hW, ← hh8, ← hh0] at HB0 ⊢
    clear hW hh0 hh8
    have d0 := HB0.out.c0
    have d1 := HB0.out.c1
    go_upto_region 3 with (at_builtin; refine wpList_append_row _ rfl _ _ 23 rfl 62 i0 (.agg #[.int .i64 0, .int .u32 0, .int .u32 0, .bool false]) 4 24 Tryz.underlying23 hi0 hz0 hz1 hz2 rfl (by decide) (.slice none 0 0) 0 [] rfl (World.ownsRow_nil _ _ _ _) a 0 cap [] rfl rfl (no_news rfl) (fun u hu => by cases hu) B1 B2 ?_; intro v6 w6 hown6 hgrow6 hat6; obtain ⟨a6, c6, rfl⟩ := row_form hown6; have H6 := Lib.hid (New.first hown6 hgrow6 hat6); have HB6 := Lib.hid (HB0.out.next H6.out.mod); have e0 := HB6.out.c0; have e1 := HB6.out.c1; clear hown6 hgrow6 hat6 d0 d1)
    have HS := Lib.hid (BnS.start (m := n) (u := .slice a6 0 c6) HB6.out)
    obtain ⟨gq, hgq⟩ : ∃ gq, gq = w6.heap.size := ⟨_, rfl⟩
    obtain ⟨Z, hZ⟩ : ∃ Z, Z = w6.alloc (.cells #[.int .u64 n, .slice a6 0 c6] 25) := ⟨_, rfl⟩
    rw [← hZ, ← hgq] at HS ⊢
    clear hZ hgq e0 e1
    obtain ⟨z0, z1, f0, f1, q0, q1, k0, k1, zm, y8, yq, ne⟩ := HS.out
    go_wp2_with fail
    have HF := Lib.hid (HS.out.put0 (m := IntKind.u64.wrap v)).fin
    have z0 := HF.out.1
    have z1 := HF.out.2.1
    exact bodyPost_ret (v := .agg #[.int .u64 (IntKind.u64.wrap v), .slice a6 0 c6]) (by simp [results, Tryz.results9, go_sem, z0, z1]) rfl ⟨_, a6, c6, [], rfl, Or.inl rfl, by simp, Nat.le_refl _, bounds_u64 (wf_wrap .u64 v), HF.out.2.2.1⟩
  · go_enter Tryz.func9, Tryz.ntmps9
    have HNW : Hid (∀ (V : World), Mod w V NoB → ∀ (j : Nat) (u : Value), (l.flatMap encV)[j]? = some u → ∃ ad, a = some ad ∧ V.cell? (ad.add j) = some u) := by
      intro V hV
      rcases hE.mod hV with h | ⟨b, off, rfl, hbl, h⟩
      · rw [h] at hl0; simp at hl0
      · have := evs_news (o' := off) (p := 0) (m := l.length) h (by omega)
        rwa [List.drop_zero, List.take_length] at this
    have hln : (l.flatMap encV).length = l.length * 4 := enc4_len encV_len l
    have hone := encV_one l
    have hlp : (0 : Int) < l.length := by omega
    go_upto_region 1 with (fail)
    have HB0 := Lib.hid (BnB.start (w := w) (n := n) (a := a) (len := l.length) (cap := cap))
    obtain ⟨h0, hh0⟩ : ∃ h0, h0 = w.heap.size := ⟨_, rfl⟩
    obtain ⟨h8, hh8⟩ : ∃ h8, h8 = w.heap.size + 1 := ⟨_, rfl⟩
    obtain ⟨W, hW⟩ : ∃ W, W = ((w.alloc (.cells #[.int .u64 n, .slice a l.length cap] 25)).alloc (.cells #[.int .u64 0, .slice none 0 0] 25)) := ⟨_, rfl⟩
    rw [← hW, ← hh8, ← hh0] at HB0 ⊢
    clear hW hh0 hh8
    have d0 := HB0.out.c0
    have d1 := HB0.out.c1
    go_upto_region 3 with (at_builtin; refine wpList_append_row _ rfl _ _ 23 rfl 62 i0 (.agg #[.int .i64 0, .int .u32 0, .int .u32 0, .bool false]) 4 24 Tryz.underlying23 hi0 hz0 hz1 hz2 rfl (by decide) (.slice none 0 0) 0 [] rfl (World.ownsRow_nil _ _ _ _) a l.length cap (l.flatMap encV) rfl hln (HNW.out _ HB0.out.mod) hone B1 B2 ?_; intro v6 w6 hown6 hgrow6 hat6; obtain ⟨a6, c6, rfl⟩ := row_form hown6; have H6 := Lib.hid (New.first hown6 hgrow6 hat6); have HB6 := Lib.hid (HB0.out.next H6.out.mod); have e0 := HB6.out.c0; have e1 := HB6.out.c1; clear hown6 hgrow6 hat6 d0 d1)
    have HS := Lib.hid (BnS.start (m := n) (u := .slice a6 l.length c6) HB6.out)
    obtain ⟨gq, hgq⟩ : ∃ gq, gq = w6.heap.size := ⟨_, rfl⟩
    obtain ⟨Z, hZ⟩ : ∃ Z, Z = w6.alloc (.cells #[.int .u64 n, .slice a6 l.length c6] 25) := ⟨_, rfl⟩
    have HW8 : w.heap.size ≤ W.heap.size := HB0.out.mod.size
    have H7 := Lib.hid (H6.out.alloc (.cells #[.int .u64 n, .slice a6 l.length c6] 25))
    rw [← hZ, ← hgq] at HS ⊢
    rw [← hZ] at H7
    have hq8 : h8 < W.heap.size := World.block_lt_of_cell? _ _ HB0.out.z0
    have hgw : ∀ q, (Value.slice a6 (0 + l.length) c6).ownBlock = some q → q < gq := fun q hq => by rw [hgq]; exact (H6.out.row.lt q hq).2
    clear hZ hgq e0 e1 H6 HB6 HB0
    obtain ⟨g, c7, hv, _, _, hc7, _⟩ := row_open H7.out.row hl0
    have ha6 : a6 = some ⟨g, 0, none⟩ := by injection hv
    have hc6 : c6 = c7 := by injection hv
    subst ha6 hc6
    clear hv
    rw [Nat.zero_add] at H7
    have HO := Lib.hid (Own4.mk (enc := encV) (w0 := w) rfl H7.out.row HS.out.mod (by have := H7.out.young g rfl; have := HW8; omega))
    have hgg : g ≠ h8 ∧ g ≠ gq := by
      have k1 := H7.out.young g rfl
      have k2 := hgw g rfl
      omega
    have hml : what % 8 = 0 ∨ what % 8 = 1 ∨ what % 8 = 2 ∨ what % 8 = 3 ∨ what % 8 = 4 ∨ what % 8 = 5 ∨ what % 8 = 6 ∨ what % 8 = 7 := by omega
    obtain ⟨i, hi, hil⟩ : ∃ i : Nat, ath % (l.length : Int) = (i : Int) ∧ i < l.length := by
      have e1 := Int.emod_nonneg ath (show (l.length : Int) ≠ 0 by omega)
      have e2 := Int.emod_lt_of_pos ath hlp
      exact ⟨(ath % (l.length : Int)).toNat, by omega, by omega⟩
    go_upto_block 0 with (fail)
    rw [hi]
    have hili : (i : Int) < l.length := by omega
    obtain ⟨x, hx⟩ : ∃ x, l[i]? = some x := ⟨l[i], List.getElem?_eq_getElem hil⟩
    have u0 := HO.out.cell encV_len 0 hx (by omega) rfl
    have u1 := HO.out.cell encV_len 1 hx (by omega) rfl
    have u2 := HO.out.cell encV_len 2 hx (by omega) rfl
    have u3 := HO.out.cell encV_len 3 hx (by omega) rfl
    have r0 := HO.out.frozen (i * 4 + 0)
    have r1 := HO.out.frozen (i * 4 + 1)
    have r2 := HO.out.frozen (i * 4 + 2)
    have r3 := HO.out.frozen (i * 4 + 3)
    rw [Nat.add_zero] at u0 r0
    have hxB : EvB x := hb x (List.mem_of_getElem? hx)
    have HX := Lib.hid (And.intro hx hxB)
    have HBD := Lib.hid hb
    obtain ⟨z0, z1, f0, f1, q0, q1, k0, k1, zm, y8, yq, ne⟩ := HS.out
    clear hE hx hxB hb hln hone HNW z0 z1 f0 f1 y8 yq zm
    obtain ⟨m, hm⟩ : ∃ m, what % 8 = m := ⟨_, rfl⟩
    rw [hm] at hml ⊢
    clear hm
    go_cut [41] (fun _ wc => Hid (BnE w wc h8 gq l.length))
    case first =>
      rcases hml with rfl | rfl | rfl | rfl | rfl | rfl | rfl | rfl
      · go_wp2_with fail
        go_meet
        exact BnE.num hgg.1 hgg.2 HS.out HO.out HBD.out (bounds_u64 (wf_wrap .u64 v))
      · go_wp2_with fail
        go_meet
        exact BnE.one (y := ⟨v, x.e, x.add⟩) (c := 0) HS.out HO.out hgg HBD.out hn HX.out.1 (by omega) rfl HX.out.2
      · go_wp2_with fail
        go_meet
        exact BnE.one (y := ⟨x.t, ⟨IntKind.u32.wrap v, x.e.v⟩, x.add⟩) (c := 1) HS.out HO.out hgg HBD.out hn HX.out.1 (by omega) rfl ⟨bounds_u32 (wf_wrap .u32 v), HX.out.2.2⟩
      · go_wp2_with fail
        go_meet
        exact BnE.one (y := ⟨x.t, ⟨x.e.u, IntKind.u32.wrap v⟩, x.add⟩) (c := 2) HS.out HO.out hgg HBD.out hn HX.out.1 (by omega) rfl ⟨HX.out.2.1, bounds_u32 (wf_wrap .u32 v)⟩
      · go_wp2_with fail
        go_meet
        exact BnE.one (y := ⟨x.t, x.e, !x.add⟩) (c := 3) HS.out HO.out hgg HBD.out hn HX.out.1 (by omega) rfl HX.out.2
      · obtain ⟨y, hy⟩ : ∃ y, l[0]? = some y := ⟨l[0], List.getElem?_eq_getElem hl0⟩
        have t0 := HO.out.cell encV_len 0 hy (by omega) rfl
        have t1 := HO.out.cell encV_len 1 hy (by omega) rfl
        have t2 := HO.out.cell encV_len 2 hy (by omega) rfl
        have t3 := HO.out.cell encV_len 3 hy (by omega) rfl
        have p0 := HO.out.frozen 0
        have p1 := HO.out.frozen 1
        have p2 := HO.out.frozen 2
        have p3 := HO.out.frozen 3
        simp only [Nat.zero_mul, Nat.zero_add] at t0 t1 t2 t3
        have HY := Lib.hid hy
        clear hy
        by_cases hi0 : i = 0
        · subst hi0
          simp only [Nat.zero_mul, Nat.zero_add] at u0 u1 u2 u3 r0 r1 r2 r3
          go_wp2_with fail
          go_region
          go_wp2_with fail
          go_meet
          have hxy : x = y := Option.some.inj (HX.out.1.symm.trans HY.out)
          subst hxy
          have := BnE.swap HS.out HO.out hgg HBD.out hn HX.out.1 HY.out HX.out.2
          simp only [Nat.zero_mul, Nat.zero_add] at this
          exact this
        · go_wp2_with fail
          go_region
          go_wp2_with fail
          go_meet
          exact BnE.swap HS.out HO.out hgg HBD.out hn HX.out.1 HY.out HX.out.2
      · go_upto_region 22 with (fail)
        have hk : i + 1 ≤ l.length := hil
        have hkc : i + 1 ≤ c6 := by omega
        have hic : i ≤ c6 := by omega
        have hici : (i : Int) ≤ c6 := by omega
        have hkci : ((i : Int) + 1) ≤ c6 := by omega
        have hlc : (l.length : Int) ≤ c6 := by omega
        have hi00 : (0 : Int) ≤ (i : Int) := by omega
        have hi01 : (0 : Int) ≤ (i : Int) + 1 := by omega
        have hkl2 : (i : Int) + 1 ≤ l.length := by omega
        have hw1 : IntKind.i64.wrap ((i : Int) + 1) = (i : Int) + 1 := IntWalk.i64_in _ (by omega)
        by_cases hce : c6 = i + 1
        · subst hce
          have hx1 : (i : Int) ≤ (i : Int) + 1 := by omega
          have hx2 : (l.length : Int) ≤ (i : Int) + 1 := by omega
          have hx3 : ¬ ((i : Int) + 1 < l.length) := by omega
          have HRF := Lib.hid (row_front (Nat.le_of_lt hil) HO.out.row)
          rw [flat_take encV_len] at HRF
          have HN : Hid (i + 0 ≤ maxLen ∧ (i + 0) * 24 ≤ 140737488355328) := by
            unfold maxLen; exact ⟨by omega, by omega⟩
          go_region_law (first
            | (refine step_append_row _ rfl _ _ 23 rfl 62 i0 (.agg #[.int .i64 0, .int .u32 0, .int .u32 0, .bool false]) 4 24 Tryz.underlying23 hi0 hz0 hz1 hz2 rfl (by decide) (.slice (some ⟨g, 0, none⟩) i (i + 1)) i ((l.take i).flatMap encV) (by kernel_rfl) ((Mod.drew (Mod.refl Z NoB)).row HRF.out (fun _ _ c => c)) (some ⟨g, 0, none⟩) 0 0 [] (by kernel_rfl) rfl (no_news rfl) (fun u hu => by cases hu) HN.out.1 HN.out.2 ?_
               intro v8 w8 hown8 hgrow8 hat8
               have HM8 := Lib.hid (Mod.own hgrow8)
               obtain ⟨a8, c8, rfl⟩ := row_form hown8
               have b1 := keepS q1 HM8.out (fun c => hgg.2 c.symm)
               have b2 := (HM8.out.frozen (p := ⟨gq, 1, none⟩) (World.block_lt_of_cell? _ _ q1) (fun c => hgg.2 c.symm)).trans k1
               have HO8 := Lib.hid (And.intro hown8 hat8)
               clear hown8 hgrow8 hat8))
          go_wp2_with fail
          go_meet
          have hd0 : l.drop (i + 1) = [] := List.drop_eq_nil_of_le (by omega)
          have hl0' : l.length - (i + 1) = 0 := by omega
          have hBC := BnE.cut (i := i) (a8 := a8) (c8 := c8) HS.out HO.out hgg HBD.out hn hil HM8.out (by rw [hd0, hl0']; exact HO8.out.1) (by rw [hl0']; exact HO8.out.2)
          rw [hl0'] at hBC
          exact hBC
        · skip
          have HRF := Lib.hid (row_front (Nat.le_of_lt hil) HO.out.row)
          rw [flat_take encV_len] at HRF
          have HN : Hid (((l.drop (i + 1)).flatMap encV).length = (l.length - (i + 1)) * 4 ∧ (∀ z, Mod Z z NoB → ∀ (j : Nat) (u : Value), ((l.drop (i + 1)).flatMap encV)[j]? = some u → ∃ ad, (some ⟨g, (i + 1) * 4, none⟩ : Option Addr) = some ad ∧ z.cell? (ad.add j) = some u) ∧ i + (l.length - (i + 1)) ≤ maxLen ∧ (i + (l.length - (i + 1))) * 24 ≤ 140737488355328) := by
            refine ⟨by rw [enc4_len encV_len, List.length_drop], fun z hz j u hu => ?_, by unfold maxLen; omega, by omega⟩
            have HR : ∀ (i : Nat) (x : Ev), l[i]? = some x → EvAt z g (0 + i * 4) x := fun i x hx => by
              have hO := HO.out.mod' hz
              have e0 := hO.cell encV_len 0 hx (by omega) rfl
              have e1 := hO.cell encV_len 1 hx (by omega) rfl
              have e2 := hO.cell encV_len 2 hx (by omega) rfl
              have e3 := hO.cell encV_len 3 hx (by omega) rfl
              rw [Nat.zero_add]
              exact ⟨e0, e1, e2, e3⟩
            have := evs_news (p := i + 1) (m := l.length) HR (o' := (i + 1) * 4) (by omega) j u
            rw [List.take_of_length_le (by simp)] at this
            exact this hu
          go_region_law (first
            | (refine step_append_row _ rfl _ _ 23 rfl 62 i0 (.agg #[.int .i64 0, .int .u32 0, .int .u32 0, .bool false]) 4 24 Tryz.underlying23 hi0 hz0 hz1 hz2 rfl (by decide) (.slice (some ⟨g, 0, none⟩) i c6) i ((l.take i).flatMap encV) (by kernel_rfl) ((Mod.drew (Mod.refl Z NoB)).row HRF.out (fun _ _ c => c)) (some ⟨g, (i + 1) * 4, none⟩) (l.length - (i + 1)) (c6 - (i + 1)) ((l.drop (i + 1)).flatMap encV) (by kernel_rfl) HN.out.1 (HN.out.2.1 _ (Mod.drew (Mod.refl _ _))) (encV_one _) HN.out.2.2.1 HN.out.2.2.2 ?_
               intro v8 w8 hown8 hgrow8 hat8
               have HM8 := Lib.hid (Mod.own hgrow8)
               obtain ⟨a8, c8, rfl⟩ := row_form hown8
               have b1 := keepS q1 HM8.out (fun c => hgg.2 c.symm)
               have b2 := (HM8.out.frozen (p := ⟨gq, 1, none⟩) (World.block_lt_of_cell? _ _ q1) (fun c => hgg.2 c.symm)).trans k1
               have HO8 := Lib.hid (And.intro hown8 hat8)
               clear hown8 hgrow8 hat8))
          go_wp2_with fail
          go_meet
          exact BnE.cut HS.out HO.out hgg HBD.out hn hil HM8.out HO8.out.1 HO8.out.2
      · go_wp2_with fail
        go_meet
        exact BnE.num hgg.1 hgg.2 HS.out HO.out HBD.out (bounds_u64 (wf_wrap .u64 _))
    case rest =>
      obtain ⟨n', a', cap', l', hS, ha', hE', hb', hl', hn'⟩ := hcut.out
      have HF := Lib.hid hS.fin
      have HE2 : Hid (Evs ((wc.setCell ⟨h8, 0, none⟩ (.int .u64 n')).setCell ⟨h8, 1, none⟩ (.slice a' l'.length cap')) a' l' ∧ (∀ x ∈ l', EvB x) ∧ l'.length ≤ l.length ∧ (0 ≤ n' ∧ n' ≤ 18446744073709551615)) :=
        ⟨hE'.modS HF.out.2.2.2 (fun b hb c => by
          obtain ⟨p, hp, hpb⟩ := c
          intro d
          exact ha' p hp (hpb.trans d)), hb', hl', hn'⟩
      obtain ⟨z0, z1, f0, f1, q0, q1, k0, k1, zm, y8, yq, ne⟩ := hS
      clear hE' hb' hl' hn' ha' hcut
      go_wp2_with fail
      have z0 := HF.out.1
      have z1 := HF.out.2.1
      exact bodyPost_ret (v := .agg #[.int .u64 n', .slice a' l'.length cap']) (by simp [results, Tryz.results9, go_sem, z0, z1]) rfl ⟨n', a', cap', l', rfl, HE2.out.1, HE2.out.2.1, HE2.out.2.2.1, HE2.out.2.2.2, HF.out.2.2.1⟩
end Go.Proofs.YtppambkffgmkgaaGreatDoor
end

section
/- What scanners do, in plain words: places, numbers, words over lists of bytes. No program. -/
namespace Go.Proofs.YtppambkffgmkgaaGreatDoor

def isD (c : UInt8) : Bool := 48 ≤ c.toNat && c.toNat ≤ 57
/-- The place behind some bytes. -/
def adv : Int × Int → List UInt8 → Int × Int
  | p, [] => p
  | p, c :: r => adv (if c.toNat = 10 then (p.1 + 1, 1) else (p.1, p.2 + 1)) r
theorem adv_append (p : Int × Int) (l r : List UInt8) : adv p (l ++ r) = adv (adv p l) r := by
  induction l generalizing p with
  | nil => rfl
  | cons c l ih => exact ih _
theorem adv_snoc (p : Int × Int) (l : List UInt8) (c : UInt8) : adv p (l ++ [c]) = if c.toNat = 10 then ((adv p l).1 + 1, 1) else ((adv p l).1, (adv p l).2 + 1) := by rw [adv_append]; rfl
theorem adv_bd (l : List UInt8) : ∀ (p : Int × Int), 1 ≤ p.2 → p.1 ≤ (adv p l).1 ∧ (adv p l).1 ≤ p.1 + l.length ∧ 1 ≤ (adv p l).2 ∧ (adv p l).2 ≤ p.2 + l.length := by
  induction l with
  | nil => intro p h; simp [adv, h]
  | cons c l ih =>
    intro p h
    simp only [adv, List.length_cons]
    split
    · have := ih (p.1 + 1, 1) (by simp); simp at this; omega
    · have := ih (p.1, p.2 + 1) (by simp; omega); simp at this; omega

/-- A digit's number. -/
def dv (c : UInt8) : Int := (c.toNat : Int) - 48
/-- The value of digits behind v, if it is no more than most. -/
def valof (most : Int) : List UInt8 → Int → Option Int
  | [], v => some v
  | d :: r, v => if dv d > most ∨ v > (most - dv d) / 10 then none else valof most r (v * 10 + dv d)
def numErr (l : List UInt8) : Int := if l = [] then 20 else if (l.takeWhile isD).length = 0 ∨ (1 < (l.takeWhile isD).length ∧ l.head? = some 48) then 21 else 0
/-- What Number comes to: its answer, the error, how many bytes are read. -/
def numOut (most : Int) (l : List UInt8) (er : Int) : Int × Int × Nat :=
  if er ≠ 0 then (0, er, 0)
  else if numErr l ≠ 0 then (0, numErr l, 0)
  else match valof most (l.takeWhile isD) 0 with
    | none => (0, 22, 0)
    | some v => (v, 0, (l.takeWhile isD).length)
/-- What Word comes to. -/
def wordOut (u l : List UInt8) (er : Int) : Bool × Int × Nat :=
  if er ≠ 0 then (false, er, 0)
  else if u <+: l then (true, 0, u.length)
  else if l <+: u then (false, 20, 0)
  else (false, 21, 0)

theorem dv_bd {c : UInt8} (h : isD c = true) : 0 ≤ dv c ∧ dv c ≤ 9 := by
  simp [isD] at h; unfold dv; omega
theorem valof_bd {most : Int} {l : List UInt8} : ∀ {v r : Int}, (∀ c ∈ l, isD c = true) → 0 ≤ v → v ≤ most → valof most l v = some r → 0 ≤ r ∧ r ≤ most := by
  induction l with
  | nil => intro v r _ h0 h1 h; simp [valof] at h; omega
  | cons d l ih =>
    intro v r hd h0 h1 h
    simp only [valof] at h
    split at h
    · cases h
    · rename_i hn
      have := dv_bd (hd d (by simp))
      refine ih (fun c hc => hd c (by simp [hc])) (by omega) ?_ h
      have : v ≤ (most - dv d) / 10 := by omega
      omega
theorem valof_snoc (most : Int) (l : List UInt8) (d : UInt8) : ∀ (v : Int), valof most (l ++ [d]) v = (valof most l v).bind fun x => if dv d > most ∨ x > (most - dv d) / 10 then none else some (x * 10 + dv d) := by
  induction l with
  | nil => intro v; simp [valof]
  | cons c l ih =>
    intro v
    simp only [List.cons_append, valof]
    split
    · rfl
    · exact ih _

theorem takeWhile_take_of {α : Type} (p : α → Bool) (l : List α) (n : Nat) (hn : n ≤ l.length) (h1 : ∀ j (hj : j < n), p (l[j]'(by omega)) = true) (h2 : ∀ (h : n < l.length), p l[n] = false) : l.takeWhile p = l.take n := by
  induction l generalizing n with
  | nil => simp
  | cons a l ih =>
    cases n with
    | zero => have := h2 (by simp); simp at this; simp [this]
    | succ n =>
      have ha := h1 0 (by omega)
      simp at ha
      simp only [List.takeWhile_cons, ha, if_true, List.take_succ_cons, List.cons.injEq, true_and]
      exact ih n (by simpa using hn) (fun j hj => by simpa using h1 (j + 1) (by omega)) (fun h => by have h3 := h2 (by simpa using h); rwa [List.getElem_cons_succ] at h3)
end Go.Proofs.YtppambkffgmkgaaGreatDoor
end
