/- Merged: LgPs LgPa LgRp -/
import Derived.Test.YtggnkefhegnokaaDoorMg18
import Derived.Test.YtggnkefhegnokaaDoorMg10
section
/- What a parser keeps in memory: its results' blocks, its history, whose events lie in a row of its own. -/
namespace Go.Proofs.YtggnkefhegnokaaDoor
open Go.RowKit
set_option linter.unusedVariables false

structure PSt (w wr : World) (g2 g3 g6 : Nat) (K : Nat → Prop) (n : Int) (oa : Option Addr) (oc : Nat) (F : List Ev) : Prop where
  z0 : wr.cell? ⟨g2, 0, none⟩ = some (.int .u64 0)
  z1 : wr.cell? ⟨g2, 1, none⟩ = some (.slice none 0 0)
  p0 : wr.cell? ⟨g3, 0, none⟩ = some (.int .i64 0)
  p1 : wr.cell? ⟨g3, 1, none⟩ = some (.int .i64 0)
  q0 : wr.cell? ⟨g6, 0, none⟩ = some (.int .u64 n)
  q1 : wr.cell? ⟨g6, 1, none⟩ = some (.slice oa F.length oc)
  f2 : ∀ j, wr.frozen? ⟨g2, j, none⟩ = false
  f3 : ∀ j, wr.frozen? ⟨g3, j, none⟩ = false
  f6 : ∀ j, wr.frozen? ⟨g6, j, none⟩ = false
  row : wr.ownsRow 0 61 4 (.slice oa F.length oc) F.length (F.flatMap encV)
  mod : Mod w wr NoB
  sep : ∀ q, (Value.slice oa F.length oc).ownBlock = some q → w.heap.size ≤ q ∧ q ≠ g2 ∧ q ≠ g3 ∧ q ≠ g6 ∧ ¬ K q
  y : w.heap.size ≤ g2 ∧ w.heap.size ≤ g3 ∧ w.heap.size ≤ g6
  d : g2 ≠ g3 ∧ g2 ≠ g6 ∧ g3 ≠ g6
  ky : ∀ q, K q → w.heap.size ≤ q ∧ q < wr.heap.size ∧ q ≠ g2 ∧ q ≠ g3 ∧ q ≠ g6
theorem frozenS {S : Nat → Prop} {w w' : World} (hm : Mod w w' S) {g j : Nat} {v : Value} {i : Nat} (c : w.cell? ⟨g, i, none⟩ = some v) (hs : ¬ S g) (h : w.frozen? ⟨g, j, none⟩ = false) : w'.frozen? ⟨g, j, none⟩ = false :=
  (hm.frozen (p := ⟨g, j, none⟩) (by have := World.block_lt_of_cell? _ _ c; exact this) hs).trans h
theorem PSt.keep {S : Nat → Prop} {w wr w' : World} {g2 g3 g6 : Nat} {K : Nat → Prop} {n : Int} {oa : Option Addr} {oc : Nat} {F : List Ev} (h : PSt w wr g2 g3 g6 K n oa oc F) (hm : Mod wr w' S) (hS : ∀ q, S q → K q) : PSt w w' g2 g3 g6 K n oa oc F := by
  have n2 : ¬ S g2 := fun c => (h.ky g2 (hS _ c)).2.2.1 rfl
  have n3 : ¬ S g3 := fun c => (h.ky g3 (hS _ c)).2.2.2.1 rfl
  have n6 : ¬ S g6 := fun c => (h.ky g6 (hS _ c)).2.2.2.2 rfl
  exact ⟨keepS h.z0 hm n2, keepS h.z1 hm n2, keepS h.p0 hm n3, keepS h.p1 hm n3, keepS h.q0 hm n6, keepS h.q1 hm n6, fun j => frozenS hm h.z0 n2 (h.f2 j), fun j => frozenS hm h.p0 n3 (h.f3 j), fun j => frozenS hm h.q0 n6 (h.f6 j),
    hm.row h.row (fun q hq c => (h.sep q hq).2.2.2.2 (hS _ c)), h.mod.trans hm (fun i hi c => absurd hi (Nat.not_lt.2 (h.ky i (hS _ c)).1)), h.sep, h.y, h.d, fun q hq => ⟨(h.ky q hq).1, Nat.lt_of_lt_of_le (h.ky q hq).2.1 hm.size, (h.ky q hq).2.2⟩⟩
theorem PSt.evs {w wr : World} {g2 g3 g6 : Nat} {K : Nat → Prop} {n : Int} {oa : Option Addr} {oc : Nat} {F : List Ev} (h : PSt w wr g2 g3 g6 K n oa oc F) : Evs wr oa F := evs_of_row rfl h.row
/-- One event more. -/
theorem PSt.app {w wr w8 : World} {g2 g3 g6 : Nat} {K : Nat → Prop} {n : Int} {oa a8 : Option Addr} {oc c8 : Nat} {F : List Ev} {x : Ev} {o : Obj} (h : PSt w wr g2 g3 g6 K n oa oc F)
    (hown : w8.ownsRow 0 61 4 (.slice a8 (F.length + 1) c8) (F.length + 1) (F.flatMap encV ++ encV x)) (hgrow : (wr.alloc o).grownBy w8 (Value.slice oa F.length oc).ownBlock) (hat : (Value.slice a8 (F.length + 1) c8).ownBlock = (Value.slice oa F.length oc).ownBlock ∨ (Value.slice a8 (F.length + 1) c8).ownBlock = some (wr.alloc o).heap.size) :
    PSt w (w8.setCell ⟨g6, 1, none⟩ (.slice a8 (F.length + 1) c8)) g2 g3 g6 K n a8 c8 (F ++ [x]) := by
  have hm8 : Mod wr w8 (fun q => (Value.slice oa F.length oc).ownBlock = some q) := ((Mod.refl _ _).alloc o).grown hgrow (fun k hk _ => hk)
  have l2 : g2 < wr.heap.size := by have := World.block_lt_of_cell? _ _ h.z0; exact this
  have l3 : g3 < wr.heap.size := by have := World.block_lt_of_cell? _ _ h.p0; exact this
  have l6 : g6 < wr.heap.size := by have := World.block_lt_of_cell? _ _ h.q0; exact this
  have n2 : ¬ (Value.slice oa F.length oc).ownBlock = some g2 := fun c => (h.sep _ c).2.1 rfl
  have n3 : ¬ (Value.slice oa F.length oc).ownBlock = some g3 := fun c => (h.sep _ c).2.2.1 rfl
  have n6 : ¬ (Value.slice oa F.length oc).ownBlock = some g6 := fun c => (h.sep _ c).2.2.2.1 rfl
  have e8 : ∀ q, (Value.slice a8 (F.length + 1) c8).ownBlock = some q → w.heap.size ≤ q ∧ q ≠ g2 ∧ q ≠ g3 ∧ q ≠ g6 ∧ ¬ K q := by
    intro q hq
    rcases hat with c | c
    · exact h.sep q (c.symm.trans hq)
    · have e1 : q = (wr.alloc o).heap.size := Option.some.inj (hq.symm.trans c)
      have e2 : (wr.alloc o).heap.size = wr.heap.size + 1 := by simp
      have e3 := h.mod.size
      exact ⟨by omega, by omega, by omega, by omega, fun hk => by have := (h.ky q hk).2.1; omega⟩
  have hs : Mod w8 (w8.setCell ⟨g6, 1, none⟩ (.slice a8 (F.length + 1) c8)) (OneB g6) := Mod.set1 w8 g6 1 _
  have m2 : ¬ OneB g6 g2 := fun c => h.d.2.1 c
  have m3 : ¬ OneB g6 g3 := fun c => h.d.2.2 c
  have hlen : (F ++ [x]).length = F.length + 1 := by simp
  refine ⟨keepS (keepS h.z0 hm8 n2) hs m2, keepS (keepS h.z1 hm8 n2) hs m2, keepS (keepS h.p0 hm8 n3) hs m3, keepS (keepS h.p1 hm8 n3) hs m3, ?_, ?_, fun j => by rw [World.frozen?_setCell]; exact frozenS hm8 h.z0 n2 (h.f2 j), fun j => by rw [World.frozen?_setCell]; exact frozenS hm8 h.p0 n3 (h.f3 j),
    fun j => by rw [World.frozen?_setCell]; exact frozenS hm8 h.q0 n6 (h.f6 j), ?_, ?_, ?_, h.y, h.d, fun q hq => ⟨(h.ky q hq).1, Nat.lt_of_lt_of_le (h.ky q hq).2.1 (Nat.le_trans hm8.size hs.size), (h.ky q hq).2.2⟩⟩
  · rw [World.cell?_setCell_other _ _ _ _ (by simp)]; exact keepS h.q0 hm8 n6
  · rw [hlen]; exact World.cell?_setCell_same _ _ _ (keepS h.q1 hm8 n6)
  · rw [hlen, List.flatMap_append]
    have : ([x] : List Ev).flatMap encV = encV x := by simp
    rw [this]
    exact hs.row hown (fun q hq c => (e8 q hq).2.2.2.1 c)
  · refine (h.mod.trans hm8 (fun i hi c => absurd hi (Nat.not_lt.2 (h.sep i c).1))).trans hs (fun i hi c => ?_)
    have e : i = g6 := c
    have := h.y.2.2
    omega
  · rw [hlen]; exact e8
/-- What an append leaves alone. -/
theorem PSt.appc {w wr w8 : World} {g2 g3 g6 : Nat} {K : Nat → Prop} {n : Int} {oa : Option Addr} {oc : Nat} {F : List Ev} {o : Obj} (h : PSt w wr g2 g3 g6 K n oa oc F)
    (hgrow : (wr.alloc o).grownBy w8 (Value.slice oa F.length oc).ownBlock) : w8.cell? ⟨g6, 1, none⟩ = some (.slice oa F.length oc) ∧ w8.frozen? ⟨g6, 1, none⟩ = false ∧ Mod wr w8 (fun q => (Value.slice oa F.length oc).ownBlock = some q) := by
  have hm8 : Mod wr w8 (fun q => (Value.slice oa F.length oc).ownBlock = some q) := ((Mod.refl _ _).alloc o).grown hgrow (fun k hk _ => hk)
  have n6 : ¬ (Value.slice oa F.length oc).ownBlock = some g6 := fun c => (h.sep _ c).2.2.2.1 rfl
  exact ⟨keepS h.q1 hm8 n6, frozenS hm8 h.q0 n6 (h.f6 1), hm8⟩
end Go.Proofs.YtggnkefhegnokaaDoor
end

section
/- The contract of logfmt.Parse. -/
namespace Go.Proofs.YtggnkefhegnokaaDoor
open Go.RowKit
set_option linter.unusedVariables false

/-- The results' blocks at the start. -/
structure PS0 (w wr : World) (g2 g3 : Nat) : Prop where
  z0 : wr.cell? ⟨g2, 0, none⟩ = some (.int .u64 0)
  z1 : wr.cell? ⟨g2, 1, none⟩ = some (.slice none 0 0)
  p0 : wr.cell? ⟨g3, 0, none⟩ = some (.int .i64 0)
  p1 : wr.cell? ⟨g3, 1, none⟩ = some (.int .i64 0)
  f2 : ∀ j, wr.frozen? ⟨g2, j, none⟩ = false
  f3 : ∀ j, wr.frozen? ⟨g3, j, none⟩ = false
  mod : Mod w wr NoB
  y : w.heap.size ≤ g2 ∧ w.heap.size ≤ g3
  d : g2 ≠ g3
theorem PS0.keep {S : Nat → Prop} {w wr w' : World} {g2 g3 : Nat} (h : PS0 w wr g2 g3) (hm : Mod wr w' S) (hS : ∀ q, S q → w.heap.size ≤ q ∧ q ≠ g2 ∧ q ≠ g3) : PS0 w w' g2 g3 := by
  have n2 : ¬ S g2 := fun c => (hS g2 c).2.1 rfl
  have n3 : ¬ S g3 := fun c => (hS g3 c).2.2 rfl
  exact ⟨keepS h.z0 hm n2, keepS h.z1 hm n2, keepS h.p0 hm n3, keepS h.p1 hm n3, fun j => frozenS hm h.z0 n2 (h.f2 j), fun j => frozenS hm h.p0 n3 (h.f3 j), h.mod.trans hm (fun i hi c => absurd hi (Nat.not_lt.2 (hS i c).1)), h.y, h.d⟩
theorem PS0.start {w : World} : PS0 w ((w.alloc (.cells #[.int .u64 0, .slice none 0 0] 25)).alloc (.cells #[.int .i64 0, .int .i64 0] 38)) w.heap.size (w.heap.size + 1) := by
  have hs1 : (w.alloc (.cells #[.int .u64 0, .slice none 0 0] 25)).heap.size = w.heap.size + 1 := by simp
  have lt : w.heap.size < (w.alloc (.cells #[.int .u64 0, .slice none 0 0] 25)).heap.size := by rw [hs1]; omega
  exact ⟨(World.cell?_alloc_lt _ _ _ lt).trans (World.cell?_alloc_at _ _ _ _ rfl), (World.cell?_alloc_lt _ _ _ lt).trans (World.cell?_alloc_at _ _ _ _ rfl), World.cell?_alloc_at _ _ _ _ hs1.symm, World.cell?_alloc_at _ _ _ _ hs1.symm,
    fun j => (((Mod.refl _ NoB).alloc _).frozen (p := ⟨w.heap.size, j, none⟩) lt (by simp [NoB])).trans (frozen_alloc_at _ _ _ _ _ rfl), fun j => frozen_alloc_at _ _ _ _ _ hs1.symm, ((Mod.refl _ _).alloc _).alloc _, ⟨Nat.le_refl _, Nat.le_succ _⟩, by omega⟩
theorem PS0.lt {w wr : World} {g2 g3 : Nat} (h : PS0 w wr g2 g3) : g2 < wr.heap.size ∧ g3 < wr.heap.size := ⟨World.block_lt_of_cell? _ _ h.z0, World.block_lt_of_cell? _ _ h.p0⟩
/-- The history's own block is laid. -/
theorem PS0.pst {w wr : World} {g2 g3 : Nat} (h : PS0 w wr g2 g3) (n : Int) (K : Nat → Prop) (hK : ∀ q, K q → w.heap.size ≤ q ∧ q < wr.heap.size ∧ q ≠ g2 ∧ q ≠ g3) : PSt w (wr.alloc (.cells #[.int .u64 n, .slice none 0 0] 25)) g2 g3 wr.heap.size K n none 0 [] := by
  have hm : Mod wr (wr.alloc (.cells #[.int .u64 n, .slice none 0 0] 25)) NoB := (Mod.refl _ _).alloc _
  have hh := h.keep hm (fun q c => c.elim)
  have hl := h.lt
  exact ⟨hh.z0, hh.z1, hh.p0, hh.p1, World.cell?_alloc_at _ _ _ _ rfl, World.cell?_alloc_at _ _ _ _ rfl, hh.f2, hh.f3, fun j => frozen_alloc_at _ _ _ _ _ rfl, World.ownsRow_nil _ _ _ _, hh.mod, (fun q hq => by cases hq), ⟨h.y.1, h.y.2, h.mod.size⟩, ⟨h.d, by omega, by omega⟩,
    fun q hq => ⟨(hK q hq).1, Nat.lt_of_lt_of_le (hK q hq).2.1 hm.size, (hK q hq).2.2.1, (hK q hq).2.2.2, by have := (hK q hq).2.1; omega⟩⟩
/-- What goes out at last. -/
theorem PSt.fin {w wr : World} {g2 g3 g6 : Nat} {K : Nat → Prop} {n : Int} {oa : Option Addr} {oc : Nat} {F : List Ev} (h : PSt w wr g2 g3 g6 K n oa oc F) (u : Int) (v : Value) (a b : Int) :
    let W := (((wr.setCell ⟨g2, 0, none⟩ (.int .u64 u)).setCell ⟨g2, 1, none⟩ v).setCell ⟨g3, 0, none⟩ (.int .i64 a)).setCell ⟨g3, 1, none⟩ (.int .i64 b)
    (W.cell? ⟨g2, 0, none⟩ = some (.int .u64 u) ∧ W.cell? ⟨g2, 1, none⟩ = some v ∧ W.cell? ⟨g3, 0, none⟩ = some (.int .i64 a) ∧ W.cell? ⟨g3, 1, none⟩ = some (.int .i64 b)) ∧ Mod w W NoB ∧ Evs W oa F := by
  intro W
  have hm : Mod wr W (fun q => q = g2 ∨ q = g3) := ((((Mod.refl wr (fun q => q = g2 ∨ q = g3)).setS (i := 0) (Or.inl rfl) _).setS (i := 1) (Or.inl rfl) _).setS (i := 0) (Or.inr rfl) _).setS (i := 1) (Or.inr rfl) _
  have o : ∀ (z : World) (g g' i j : Nat) (v : Value), (g ≠ g' ∨ i ≠ j) → (z.setCell ⟨g, i, none⟩ v).cell? ⟨g', j, none⟩ = z.cell? ⟨g', j, none⟩ := fun z g g' i j v hij => World.cell?_setCell_other _ _ _ _ (by intro c; cases c; rcases hij with c | c <;> exact c rfl)
  refine ⟨⟨?_, ?_, ?_, ?_⟩, h.mod.trans hm (fun i hi c => by
    have h1 := h.y.1
    have h2 := h.y.2.1
    rcases c with c | c
    · omega
    · omega), ?_⟩
  · rw [o _ g3 g2 1 0 _ (Or.inl h.d.1.symm), o _ g3 g2 0 0 _ (Or.inl h.d.1.symm), o _ g2 g2 1 0 _ (Or.inr (by decide))]; exact World.cell?_setCell_same _ _ _ h.z0
  · rw [o _ g3 g2 1 1 _ (Or.inl h.d.1.symm), o _ g3 g2 0 1 _ (Or.inl h.d.1.symm)]; exact World.cell?_setCell_same _ _ _ ((o _ g2 g2 0 1 _ (Or.inr (by decide))).trans h.z1)
  · rw [o _ g3 g3 1 0 _ (Or.inr (by decide))]; exact World.cell?_setCell_same _ _ _ ((o _ g2 g3 1 0 _ (Or.inl h.d.1)).trans ((o _ g2 g3 0 0 _ (Or.inl h.d.1)).trans h.p0))
  · exact World.cell?_setCell_same _ _ _ ((o _ g3 g3 0 1 _ (Or.inr (by decide))).trans ((o _ g2 g3 1 1 _ (Or.inl h.d.1)).trans ((o _ g2 g3 0 1 _ (Or.inl h.d.1)).trans h.p1)))
  · refine evs_of_row rfl (hm.row h.row (fun q hq c => ?_))
    rcases c with c | c
    · exact (h.sep q hq).2.1 c
    · exact (h.sep q hq).2.2.1 c
/-- How much text is left, told by the memory. -/
def lenAt (w : World) (g : Nat) : Nat := match w.cell? ⟨g, 0, none⟩ with | some (.string t) => t.size | _ => 0
theorem ScA.len {w : World} {g : Nat} {st : SS} (h : ScA w g st) : lenAt w g = st.l.length := by
  obtain ⟨s, h1, h2⟩ := h
  unfold lenAt
  rw [h1.cells.1, ← h2, L_len]

/-- What stands at the loop. -/
structure LSt (w wr : World) (g2 g3 g6 gs m : Nat) (n : Int) (oa : Option Addr) (oc : Nat) (F : List Ev) (st : SS) (k : Nat) (R : List Ev × (Int × Int) × Int) : Prop where
  pst : PSt w wr g2 g3 g6 (fun q => q = gs ∨ q = m) n oa oc F
  sc : ScA wr gs st
  map : EMap wr m (.bool false) (fun e => .bool (thereOf F e))
  pl : plF n k F st = R
  lt : st.l.length < k
  sz : F.length + st.l.length ≤ 40000

set_option maxRecDepth 100000 in
set_option maxHeartbeats 8000000 in
theorem parse_any (w : World) (s : ByteArray) (hs : s.size ≤ 40000) :
    Calls Tryd.prog 14 #[.string s] w fun e w' => ∃ a' cap', e = .returned (.tuple #[.agg #[.int .u64 (parseN (L s)), .slice a' (parseR (L s)).1.length cap'], .agg #[.int .i64 (parseR (L s)).2.1.1, .int .i64 (parseR (L s)).2.1.2], .int .i64 (parseR (L s)).2.2]) ∧ Evs w' a' (parseR (L s)).1 ∧ Mod w w' NoB := by
  have hmx := mixed
  have hmm := @run_makeMap Tryd.prog
  obtain ⟨R, hR⟩ : ∃ R, parseR (L s) = R := ⟨_, rfl⟩
  obtain ⟨hd, hhd⟩ : ∃ hd, hdS (L s) = hd := ⟨_, rfl⟩
  have hPN : parseN (L s) = if R.2.2 = 0 then hd.1 else 0 := by unfold parseN; rw [hR, hhd]
  have hPR : plF hd.1 ((L s).length + 1) [] hd.2 = R := by rw [← hR, ← hhd]; rfl
  have hlen : hd.2.l.length ≤ s.size := by rw [← hhd, ← L_len]; exact hdS_len _
  have hNb := hdS_bd (L s)
  rw [hhd] at hNb
  rw [L_len] at hPR
  rw [hPN, hR]
  have HPR := Lib.hid hPR
  have HP0 := Lib.hid (PS0.start (w := w))
  clear hPN hR hPR
  obtain ⟨g2, hg2⟩ : ∃ g2, g2 = w.heap.size := ⟨_, rfl⟩
  obtain ⟨g3, hg3⟩ : ∃ g3, g3 = w.heap.size + 1 := ⟨_, rfl⟩
  obtain ⟨W, hW⟩ : ∃ W, W = ((w.alloc (.cells #[.int .u64 0, .slice none 0 0] 25)).alloc (.cells #[.int .i64 0, .int .i64 0] 38)) := ⟨_, rfl⟩
  rw [← hW, ← hg3, ← hg2] at HP0
  unfold hdS at hhd
  dsimp only at hhd
  go_enter Tryd.func14, Tryd.ntmps14
  go_upto_region 1 with (fail)
  rw [← hW, ← hg3, ← hg2]
  clear hW hg2 hg3
  go_wp2_with fail
  refine (snew_sca _ s (by omega)).mono ?_
  rintro e w1 ⟨rfl, hsc, hm⟩
  obtain ⟨gs, hgs⟩ : ∃ gs, gs = W.heap.size := ⟨_, rfl⟩
  rw [← hgs] at hsc ⊢
  have hgK : w.heap.size ≤ gs ∧ gs ≠ g2 ∧ gs ≠ g3 := by have := HP0.out.lt; have := HP0.out.mod.size; omega
  have HS := Lib.hid hsc
  have HP := Lib.hid (HP0.out.keep hm (fun q c => c.elim))
  have hone : ∀ q, OneB gs q → w.heap.size ≤ q ∧ q ≠ g2 ∧ q ≠ g3 := fun q c => by have e : q = gs := c; rw [e]; exact hgK
  clear hsc hm HP0 hgs
  go_wp2_with fail
  refine (sword_sca _ gs _ ⟨#[108, 111, 103]⟩ HS.out (by unfold maxLen; decide)).mono ?_
  rintro e w2 ⟨rfl, hsc, hm⟩
  rw [show L ⟨#[108, 111, 103]⟩ = [108, 111, 103] from rfl] at hsc ⊢
  obtain ⟨s1, hs1⟩ : ∃ x, (wordS [108, 111, 103] ⟨L s, (1, 1), 0⟩).2 = x := ⟨_, rfl⟩
  rw [hs1] at hhd hsc
  replace HS := Lib.hid hsc
  replace HP := Lib.hid (HP.out.keep hm hone)
  clear hsc hm hs1
  go_wp2_with fail
  refine (sbyte_sca _ gs s1 32 32 rfl HS.out).mono ?_
  rintro e w3 ⟨rfl, hsc, hm⟩
  obtain ⟨s2, hs2⟩ : ∃ x, (wordS [32] s1).2 = x := ⟨_, rfl⟩
  rw [hs2] at hhd hsc
  replace HS := Lib.hid hsc
  replace HP := Lib.hid (HP.out.keep hm hone)
  clear hsc hm hs2
  go_wp2_with fail
  refine (snum_sca _ gs s2 4294967296 HS.out (by decide)).mono ?_
  rintro e w4 ⟨rfl, hsc, hm⟩
  obtain ⟨n, hn⟩ : ∃ x, (numS 4294967296 s2).1 = x := ⟨_, rfl⟩
  obtain ⟨s3, hs3⟩ : ∃ x, (numS 4294967296 s2).2 = x := ⟨_, rfl⟩
  rw [hn] at hhd ⊢
  rw [hs3] at hhd hsc
  replace HS := Lib.hid hsc
  replace HP := Lib.hid (HP.out.keep hm hone)
  clear hsc hm hs3 hn
  go_upto_region 5 with (fail)
  have HQ := Lib.hid (HP.out.pst n (OneB gs) (fun q c => by have e : q = gs := c; subst e; exact ⟨hgK.1, HS.out.lt, hgK.2⟩))
  replace HS := Lib.hid (HS.out.mod (S := NoB) ((Mod.refl _ _).alloc (.cells #[.int .u64 n, .slice none 0 0] 25)) (by simp [NoB]))
  obtain ⟨g6, hg6⟩ : ∃ g6, g6 = w4.heap.size := ⟨_, rfl⟩
  obtain ⟨V, hV⟩ : ∃ V, V = w4.alloc (.cells #[.int .u64 n, .slice none 0 0] 25) := ⟨_, rfl⟩
  rw [← hV, ← hg6] at HQ
  rw [← hV] at HS
  rw [← hV, ← hg6]
  clear hV hg6 HP
  go_wp2_with fail
  refine (sbyte_sca _ gs s3 10 10 rfl HS.out).mono ?_
  rintro e w5 ⟨rfl, hsc, hm⟩
  obtain ⟨st0, hst0⟩ : ∃ x, (wordS [10] s3).2 = x := ⟨_, rfl⟩
  rw [hst0] at hhd hsc
  subst hhd
  replace HS := Lib.hid hsc
  replace HQ := Lib.hid (HQ.out.keep hm (fun q c => c))
  clear hsc hm hst0
  go_upto_region 7 with (fail)
  have HMp : Hid (EMap (w5.alloc (.map #[] 0)) w5.heap.size (.bool false) (fun e => .bool (thereOf [] e))) := EMap.made _ _
  have HS7 := Lib.hid (HS.out.mod (S := NoB) ((Mod.refl _ _).alloc (.map #[] 0)) (by simp [NoB]))
  have HQ7 := Lib.hid (HQ.out.keep (S := NoB) ((Mod.refl _ _).alloc (.map #[] 0)) (fun q c => c.elim))
  have hl5 := HS.out.lt
  have hl6 : g6 < w5.heap.size := by have := World.block_lt_of_cell? _ _ HQ.out.q0; exact this
  have hl2 : g2 < w5.heap.size := by have := World.block_lt_of_cell? _ _ HQ.out.z0; exact this
  have hl3 : g3 < w5.heap.size := by have := World.block_lt_of_cell? _ _ HQ.out.p0; exact this
  have hwm := HQ.out.mod.size
  obtain ⟨m, hm⟩ : ∃ m, m = w5.heap.size := ⟨_, rfl⟩
  obtain ⟨X, hX⟩ : ∃ X, X = w5.alloc (.map #[] 0) := ⟨_, rfl⟩
  rw [← hX, ← hm] at HMp
  rw [← hX] at HS7 HQ7
  rw [← hX, ← hm]
  have hmK : w.heap.size ≤ m ∧ m ≠ g2 ∧ m ≠ g3 ∧ m ≠ g6 ∧ m ≠ gs := by omega
  have HQ8 : Hid (PSt w X g2 g3 g6 (fun q => q = gs ∨ q = m) n none 0 []) := by
    have h := HQ7.out
    exact ⟨h.z0, h.z1, h.p0, h.p1, h.q0, h.q1, h.f2, h.f3, h.f6, h.row, h.mod, (fun q hq => by cases hq), h.y, h.d, fun q hq => by
      rcases hq with rfl | rfl
      · exact h.ky q rfl
      · exact ⟨hmK.1, HMp.out.lt, hmK.2.1, hmK.2.2.1, hmK.2.2.2.1⟩⟩
  clear hX hm HS HQ HQ7 hl5 hl6 hl2 hl3 hwm
  go_wp2_with fail
  refine (snext_sca _ gs st0 HS7.out).mono ?_
  rintro e w6 ⟨rfl, rfl⟩
  unfold nextW
  have HL : Hid (LSt w X g2 g3 g6 gs m n none 0 [] st0 (s.size + 1) R) := ⟨HQ8.out, HS7.out, HMp.out, HPR.out, by show st0.l.length < s.size + 1; have : st0.l.length ≤ s.size := hlen; omega, by show 0 + st0.l.length ≤ 40000; have : st0.l.length ≤ s.size := hlen; omega⟩
  clear HQ8 HS7 HMp HPR
  go_wp2_with fail
  go_loopw [9] (fun v9 wr => ∃ (oa : Option Addr) (oc : Nat) (F : List Ev) (st : SS) (k : Nat), v9 = .bool (nextS st).isSome ∧ Hid (LSt w wr g2 g3 g6 gs m n oa oc F st k R)) (fun _ wr => lenAt wr gs)
  case atStart => exact ⟨none, 0, [], st0, _, rfl, HL.out⟩
  case round =>
    obtain ⟨oa, oc, F, st, k, rfl, HI⟩ := hrel
    cases hns : (nextS st).isSome with
    | false =>
      have hRe := plF_end HI.out.pl (by have := HI.out.lt; omega) hns
      by_cases he : st.er = 0
      · rw [if_pos he] at hRe
        subst hRe
        go_wp2_with fail
        refine (serr_sca _ gs st HI.out.sc).mono ?_
        rintro e w7 ⟨rfl, rfl⟩
        rw [he]
        have q0 := HI.out.pst.q0
        have q1 := HI.out.pst.q1
        have z0 := HI.out.pst.z0
        have z1 := HI.out.pst.z1
        have p0 := HI.out.pst.p0
        have p1 := HI.out.pst.p1
        have f20 := HI.out.pst.f2 0
        have f21 := HI.out.pst.f2 1
        have f30 := HI.out.pst.f3 0
        have f31 := HI.out.pst.f3 1
        have d23 : ¬ g2 = g3 := HI.out.pst.d.1
        have d32 : ¬ g3 = g2 := fun c => d23 c.symm
        have HF := Lib.hid (HI.out.pst.fin n (.slice oa F.length oc) 0 0)
        go_wp2_with fail
        obtain ⟨r0, r1, r2, r3⟩ := HF.out.1
        exact bodyPost_ret (v := .tuple #[.agg #[.int .u64 n, .slice oa F.length oc], .agg #[.int .i64 0, .int .i64 0], .int .i64 0]) (by simp [results, Tryd.results14, go_sem, r0, r1, r2, r3]) rfl ⟨oa, ⟨oc, rfl⟩, HF.out.2.2, HF.out.2.1⟩
      · rw [if_neg he] at hRe
        subst hRe
        go_wp2_with fail
        refine (serr_sca _ gs st HI.out.sc).mono ?_
        rintro e w7 ⟨rfl, rfl⟩
        have hne : (st.er == 0) = false := beq_eq_false_iff_ne.2 he
        go_wp2_with fail
        refine (splace_sca _ gs st HI.out.sc).mono ?_
        rintro e w8 ⟨rfl, hm⟩
        have HP8 := Lib.hid (HI.out.pst.keep (S := NoB) hm (fun q c => c.elim))
        clear hm
        have z0 := HP8.out.z0
        have z1 := HP8.out.z1
        have p0 := HP8.out.p0
        have p1 := HP8.out.p1
        have f20 := HP8.out.f2 0
        have f21 := HP8.out.f2 1
        have f30 := HP8.out.f3 0
        have f31 := HP8.out.f3 1
        have d23 : ¬ g2 = g3 := HP8.out.d.1
        have d32 : ¬ g3 = g2 := fun c => d23 c.symm
        have HF := Lib.hid (HP8.out.fin 0 (.slice none 0 0) st.p.1 st.p.2)
        go_wp2_with fail
        obtain ⟨r0, r1, r2, r3⟩ := HF.out.1
        exact bodyPost_ret (v := .tuple #[.agg #[.int .u64 0, .slice none 0 0], .agg #[.int .i64 st.p.1, .int .i64 st.p.2], .int .i64 st.er]) (by simp [results, Tryd.results14, go_sem, r0, r1, r2, r3]) rfl ⟨none, ⟨0, rfl⟩, Or.inl rfl, HF.out.2.1⟩
    | true =>
      obtain ⟨k', rfl⟩ : ∃ k', k = k' + 1 := ⟨k - 1, by have := HI.out.lt; omega⟩
      obtain ⟨M1, M2, M3⟩ := plF_more HI.out.pl hns
      have HM1 := Lib.hid M1
      have HM2 := Lib.hid M2
      have HM3 := Lib.hid M3
      have hsz := HI.out.sz
      have hlt := HI.out.lt
      have hess := evS_less (st := st)
      have hxbd := evS_bd st
      obtain ⟨x, hx⟩ : ∃ x, (evS st).1 = x := ⟨_, rfl⟩
      obtain ⟨s4, hs4⟩ : ∃ y, (evS st).2 = y := ⟨_, rfl⟩
      rw [hs4] at HM1
      rw [hx, hs4] at HM2 HM3
      rw [hs4] at hess
      rw [hx] at hxbd
      have HX := Lib.hid (And.intro hess hxbd)
      clear M1 M2 M3 hess hxbd
      go_wp2_with fail
      refine (splace_sca _ gs st HI.out.sc).mono ?_
      rintro e w7 ⟨rfl, hm⟩
      have HP7 := Lib.hid (HI.out.pst.keep (S := NoB) hm (fun q c => c.elim))
      have HS7 := Lib.hid (HI.out.sc.mod hm (by simp [NoB]))
      have HE7 := Lib.hid (HI.out.map.mod hm (by simp [NoB]))
      clear hm
      go_upto_region 11 with (fail)
      have h0 : Mod w7 (w7.alloc (.cells #[.int .i64 st.p.1, .int .i64 st.p.2] 38)) NoB := (Mod.refl _ _).alloc _
      have HP8 := Lib.hid (HP7.out.keep h0 (fun q c => c.elim))
      have HS8 := Lib.hid (HS7.out.mod h0 (by simp [NoB]))
      have HE8 := Lib.hid (HE7.out.mod h0 (by simp [NoB]))
      have HA8 : Hid ((w7.alloc (.cells #[.int .i64 st.p.1, .int .i64 st.p.2] 38)).cell? ⟨w7.heap.size, 0, none⟩ = some (.int .i64 st.p.1) ∧ (w7.alloc (.cells #[.int .i64 st.p.1, .int .i64 st.p.2] 38)).cell? ⟨w7.heap.size, 1, none⟩ = some (.int .i64 st.p.2)) := ⟨World.cell?_alloc_at _ _ _ _ rfl, World.cell?_alloc_at _ _ _ _ rfl⟩
      obtain ⟨ga, hga⟩ : ∃ ga, ga = w7.heap.size := ⟨_, rfl⟩
      obtain ⟨X8, hX8⟩ : ∃ X8, X8 = w7.alloc (.cells #[.int .i64 st.p.1, .int .i64 st.p.2] 38) := ⟨_, rfl⟩
      rw [← hX8] at HP8 HS8 HE8
      rw [← hX8, ← hga] at HA8
      rw [← hX8, ← hga]
      have hgas : ga ≠ gs := by have := HS7.out.lt; omega
      have hga2 : ¬ ga = g2 := by have : g2 < w7.heap.size := World.block_lt_of_cell? _ _ HP7.out.z0; omega
      have hga3 : ¬ ga = g3 := by have : g3 < w7.heap.size := World.block_lt_of_cell? _ _ HP7.out.p0; omega
      have hg2a : ¬ g2 = ga := fun c => hga2 c.symm
      have hg3a : ¬ g3 = ga := fun c => hga3 c.symm
      clear h0 hX8 hga HP7 HS7 HE7
      go_wp2_with fail
      refine (event_any _ gs st HS8.out).mono ?_
      rintro e w9 ⟨rfl, hsc, hm⟩
      rw [hx]
      rw [hs4] at hsc
      have HP9 := Lib.hid (HP8.out.keep hm (fun q c => Or.inl c))
      have HE9 := Lib.hid (HE8.out.mod hm (fun c => by have e : m = gs := c; exact hmK.2.2.2.2 e))
      have HA9 := Lib.hid (And.intro (keepS HA8.out.1 hm (fun c => hgas c)) (keepS HA8.out.2 hm (fun c => hgas c)))
      have HS9 := Lib.hid hsc
      clear hsc hm HP8 HS8 HE8 HA8 hx hs4
      go_upto_region 12 with (fail)
      have h0 : Mod w9 (w9.alloc (.cells #[.int .i64 x.t, .int .u32 x.e.u, .int .u32 x.e.v, .bool x.add] 61)) NoB := (Mod.refl _ _).alloc _
      have HP10 := Lib.hid (HP9.out.keep h0 (fun q c => c.elim))
      have HS10 := Lib.hid (HS9.out.mod h0 (by simp [NoB]))
      have HE10 := Lib.hid (HE9.out.mod h0 (by simp [NoB]))
      have HA10 := Lib.hid (And.intro (keepc HA9.out.1 h0) (keepc HA9.out.2 h0))
      have HX10 : Hid (EvAt (w9.alloc (.cells #[.int .i64 x.t, .int .u32 x.e.u, .int .u32 x.e.v, .bool x.add] 61)) w9.heap.size 0 x) := ⟨World.cell?_alloc_at _ _ _ _ rfl, World.cell?_alloc_at _ _ _ _ rfl, World.cell?_alloc_at _ _ _ _ rfl, World.cell?_alloc_at _ _ _ _ rfl⟩
      obtain ⟨gx, hgx⟩ : ∃ gx, gx = w9.heap.size := ⟨_, rfl⟩
      obtain ⟨X10, hX10⟩ : ∃ X10, X10 = w9.alloc (.cells #[.int .i64 x.t, .int .u32 x.e.u, .int .u32 x.e.v, .bool x.add] 61) := ⟨_, rfl⟩
      rw [← hX10] at HP10 HS10 HE10 HA10
      rw [← hX10, ← hgx] at HX10
      rw [← hX10, ← hgx]
      have hgxm : gx ≠ m := by have := HE9.out.lt; omega
      clear h0 hX10 hgx HP9 HS9 HE9 HA9
      go_wp2_with fail
      refine (serr_sca _ gs s4 HS10.out).mono ?_
      rintro e w11 ⟨rfl, rfl⟩
      by_cases he : s4.er = 0
      · rw [he]
        have q0 := HP10.out.q0
        have q1 := HP10.out.q1
        obtain ⟨k0, k1, k2, k3⟩ := HX10.out
        simp only [Nat.zero_add] at k1 k2 k3
        obtain ⟨R5, hR5⟩ : ∃ R5, evErr n (prevOf F F.length) (thereOf F) x = R5 := ⟨_, rfl⟩
        have HWr : Hid (Calls Tryd.prog 42 #[.agg #[.int .u64 n, .slice oa F.length oc], .map (some m), .agg #[.int .i64 x.t, .int .u32 x.e.u, .int .u32 x.e.v, .bool x.add]] X10 fun e w' => e = .returned (.int .i64 (R5 : Nat)) ∧ Mod X10 w' NoB) := by
          have := wrong_any X10 n oa oc F m (thereOf F) x HP10.out.evs (by omega) HE10.out HX.out.2.2 HX.out.2.1
          rw [hR5] at this
          exact this
        have HM2b := Lib.hid (HM2.out he)
        have HM3b := Lib.hid (HM3.out he)
        rw [hR5] at HM2b HM3b
        clear hR5 HM1 HM2 HM3
        go_wp2_with fail
        refine HWr.out.mono ?_
        rintro e w12 ⟨rfl, hm⟩
        have HP12 := Lib.hid (HP10.out.keep (S := NoB) hm (fun q c => c.elim))
        have HS12 := Lib.hid (HS10.out.mod hm (by simp [NoB]))
        have HE12 := Lib.hid (HE10.out.mod hm (by simp [NoB]))
        have HA12 := Lib.hid (And.intro (keepc HA10.out.1 hm) (keepc HA10.out.2 hm))
        have HX12 := Lib.hid (HX10.out.mod hm)
        clear hm q0 q1 k0 k1 k2 k3 HP10 HS10 HE10 HA10 HX10 HWr
        by_cases hv : R5 = 0
        · have HPl := Lib.hid (HM3b.out hv)
          subst hv
          clear HM2b HM3b
          obtain ⟨k0, k1, k2, k3⟩ := HX12.out
          simp only [Nat.zero_add] at k1 k2 k3
          obtain ⟨w13, hs1, hs2, hs3⟩ := HE12.out.store Tryd.underlying90 HX.out.2.2 (.bool x.add)
          have hfun : (fun y : Ed => if y = ⟨x.e.u, x.e.v⟩ then Value.bool x.add else .bool (thereOf F y)) = fun y => .bool (thereOf (F ++ [x]) y) := by
            funext y
            rw [thereOf_snoc]
            show _ = Value.bool (if y = x.e then x.add else thereOf F y)
            by_cases hy : y = x.e
            · rw [if_pos hy, if_pos (by rw [hy])]
            · rw [if_neg hy, if_neg (fun c => hy c)]
          have hs2' : EMap w13 m (.bool false) (fun e => .bool (thereOf (F ++ [x]) e)) := by rw [← hfun]; exact hs2
          have HE13 := Lib.hid hs2'
          have HS13 := Lib.hid (HS12.out.mod hs3 (fun c => by have e : gs = m := c; exact hmK.2.2.2.2 e.symm))
          have HP13 := Lib.hid (HP12.out.keep hs3 (fun q c => Or.inr c))
          have HX13 : Hid (EvAt w13 gx 0 x) := ⟨keepS HX12.out.1 hs3 hgxm, keepS HX12.out.2.1 hs3 hgxm, keepS HX12.out.2.2.1 hs3 hgxm, keepS HX12.out.2.2.2 hs3 hgxm⟩
          clear hs2 hs2' hs3 hfun HE12
          go_upto_region 17 with (fail)
          clear k0 k1 k2 k3 hs1 HP12 HS12 HX12 HA12
          obtain ⟨k0, k1, k2, k3⟩ := HX13.out
          simp only [Nat.zero_add] at k1 k2 k3
          have q1 := HP13.out.q1
          obtain ⟨i0, hi0, hz0, hz1, hz2⟩ := info_parts info_event2
          have HB : Hid (F.length + 1 ≤ maxLen ∧ (F.length + 1) * 24 ≤ 140737488355328) := by
            unfold maxLen; exact ⟨by omega, by omega⟩
          have hone1 : ∀ u ∈ encV x, u.oneCell' = true := by simp [encV, Value.oneCell']
          go_upto_region 9 with (at_builtin; refine wpList_append_row _ rfl _ _ 23 rfl 61 i0 (.agg #[.int .i64 0, .int .u32 0, .int .u32 0, .bool false]) 4 24 Tryd.underlying23 hi0 hz0 hz1 hz2 rfl (by decide) (.slice oa F.length oc) F.length _ rfl (HP13.out.row.alloc _) _ 1 _ (encV x) rfl rfl (fun j u hu => ⟨_, rfl, World.news_of_block (MapKept.heap_alloc _ _).1 j u hu⟩) hone1 HB.out.1 HB.out.2 ?_; intro v8 w14 hown8 hgrow8 hat8; obtain ⟨a8, c8, rfl⟩ := row_form hown8; have hac := HP13.out.appc hgrow8; have b1 := hac.1; have b2 := hac.2.1; have HAp := Lib.hid (And.intro (HP13.out.app hown8 hgrow8 hat8) hac.2.2); clear hown8 hgrow8 hat8 hac)
          have hmG : Mod w13 (w14.setCell ⟨g6, 1, none⟩ (.slice a8 (F.length + 1) c8)) (fun q => (Value.slice oa F.length oc).ownBlock = some q ∨ q = g6) :=
            (HAp.out.2.mono (fun i _ c => Or.inl c)).trans (Mod.set1 w14 g6 1 _) (fun i _ c => Or.inr c)
          have hgs1 : ¬ ((Value.slice oa F.length oc).ownBlock = some gs ∨ gs = g6) := fun c => by
            rcases c with c | c
            · exact (HP13.out.sep gs c).2.2.2.2 (Or.inl rfl)
            · exact (HP13.out.ky gs (Or.inl rfl)).2.2.2.2 c
          have hgm1 : ¬ ((Value.slice oa F.length oc).ownBlock = some m ∨ m = g6) := fun c => by
            rcases c with c | c
            · exact (HP13.out.sep m c).2.2.2.2 (Or.inr rfl)
            · exact (HP13.out.ky m (Or.inr rfl)).2.2.2.2 c
          have HSA := Lib.hid (HS13.out.mod hmG hgs1)
          have HEA := Lib.hid (HE13.out.mod hmG hgm1)
          clear hmG hgs1 hgm1 b1 b2 k0 k1 k2 k3 q1
          go_wp2_with fail
          refine (snext_sca _ gs s4 HSA.out).mono ?_
          rintro e w15 ⟨rfl, rfl⟩
          unfold nextW
          go_wp2_with fail
          go_roundw
          case rel => exact ⟨a8, c8, F ++ [x], s4, k', rfl, HAp.out.1, HSA.out, HEA.out, HPl.out, by have := HX.out.1 he; omega, by have := HX.out.1 he; simp; omega⟩
          case measure => rw [HSA.out.len, HI.out.sc.len]; exact HX.out.1 he
        · have hRe := HM2b.out hv
          subst hRe
          have hne : ((R5 : Int) == 0) = false := beq_eq_false_iff_ne.2 (by omega)
          have a0 := HA12.out.1
          have a1 := HA12.out.2
          have z0 := HP12.out.z0
          have z1 := HP12.out.z1
          have p0 := HP12.out.p0
          have p1 := HP12.out.p1
          have f20 := HP12.out.f2 0
          have f21 := HP12.out.f2 1
          have f30 := HP12.out.f3 0
          have f31 := HP12.out.f3 1
          have d23 : ¬ g2 = g3 := HP12.out.d.1
          have d32 : ¬ g3 = g2 := fun c => d23 c.symm
          have HF := Lib.hid (HP12.out.fin 0 (.slice none 0 0) st.p.1 st.p.2)
          go_upto_region 15 with (fail)
          go_region
          all_goals
            go_wp2_with fail
            obtain ⟨r0, r1, r2, r3⟩ := HF.out.1
            exact bodyPost_ret (v := .tuple #[.agg #[.int .u64 0, .slice none 0 0], .agg #[.int .i64 st.p.1, .int .i64 st.p.2], .int .i64 R5]) (by simp [results, Tryd.results14, go_sem, r0, r1, r2, r3]) rfl ⟨none, ⟨0, rfl⟩, Or.inl rfl, HF.out.2.1.drew⟩
      · have hRe := HM1.out he
        subst hRe
        have hne : (s4.er == 0) = false := beq_eq_false_iff_ne.2 he
        go_wp2_with fail
        refine (serr_sca _ gs s4 HS10.out).mono ?_
        rintro e w12 ⟨rfl, rfl⟩
        go_wp2_with fail
        refine (splace_sca _ gs s4 HS10.out).mono ?_
        rintro e w13 ⟨rfl, hm⟩
        have HP13 := Lib.hid (HP10.out.keep (S := NoB) hm (fun q c => c.elim))
        clear hm
        have z0 := HP13.out.z0
        have z1 := HP13.out.z1
        have p0 := HP13.out.p0
        have p1 := HP13.out.p1
        have f20 := HP13.out.f2 0
        have f21 := HP13.out.f2 1
        have f30 := HP13.out.f3 0
        have f31 := HP13.out.f3 1
        have d23 : ¬ g2 = g3 := HP13.out.d.1
        have d32 : ¬ g3 = g2 := fun c => d23 c.symm
        have HF := Lib.hid (HP13.out.fin 0 (.slice none 0 0) s4.p.1 s4.p.2)
        go_wp2_with fail
        obtain ⟨r0, r1, r2, r3⟩ := HF.out.1
        exact bodyPost_ret (v := .tuple #[.agg #[.int .u64 0, .slice none 0 0], .agg #[.int .i64 s4.p.1, .int .i64 s4.p.2], .int .i64 s4.er]) (by simp [results, Tryd.results14, go_sem, r0, r1, r2, r3]) rfl ⟨none, ⟨0, rfl⟩, Or.inl rfl, HF.out.2.1⟩
end Go.Proofs.YtggnkefhegnokaaDoor
end

section
/- The contract of the reference's ParseLog. -/
namespace Go.Proofs.YtggnkefhegnokaaDoor
open Go.RowKit
set_option linter.unusedVariables false

theorem chkFrom_snoc {n : Int} {x : Ev} : ∀ {l : List Ev} {i : Nat} {prev : Option Ev} {there : Ed → Bool}, AllOk n prev there l →
    (chkFrom n i prev there (l ++ [x])).2 = evErr n (if l = [] then prev else l.getLast?) (l.foldl turn there) x
  | [], i, prev, there, _ => by
    simp only [List.nil_append, chkFrom, List.foldl_nil, if_true]
    split
    · rename_i h; exact h.symm
    · rfl
  | y :: l, i, prev, there, h => by
    simp only [List.cons_append, chkFrom, if_pos h.1, List.foldl_cons]
    rw [chkFrom_snoc h.2]
    cases l with
    | nil => simp
    | cons z l => simp
theorem chk_snoc {n : Int} {x : Ev} {F : List Ev} (h : AllOk n none (fun _ => false) F) (hn : n ≤ 4294967296) (hl : F.length ≤ 100000) : (chk n (F ++ [x])).2 = evErr n (prevOf F F.length) (thereOf F) x := by
  unfold chk
  rw [if_neg (by simp only [List.length_append, List.length_singleton]; unfold maxN; omega), chkFrom_snoc h]
  congr 1
  unfold prevOf
  cases F with
  | nil => rfl
  | cons y l => rw [if_neg (by simp), if_neg (by simp), List.getLast?_eq_getElem?]
theorem allOk_snoc {n : Int} {x : Ev} {F : List Ev} (h : AllOk n none (fun _ => false) F) (hv : evErr n (prevOf F F.length) (thereOf F) x = 0) : AllOk n none (fun _ => false) (F ++ [x]) := by
  have key : ∀ (l : List Ev) (prev : Option Ev) (there : Ed → Bool), AllOk n prev there l → evErr n (if l = [] then prev else l.getLast?) (l.foldl turn there) x = 0 → AllOk n prev there (l ++ [x]) := by
    intro l
    induction l with
    | nil => intro prev there _ h; exact ⟨by simpa using h, trivial⟩
    | cons y l ih =>
      intro prev there h h2
      refine ⟨h.1, ih _ _ h.2 ?_⟩
      cases l with
      | nil => simpa using h2
      | cons z l => simpa using h2
  refine key F none _ h ?_
  rw [← hv]
  congr 1
  unfold prevOf
  cases F with
  | nil => rfl
  | cons y l => rw [if_neg (by simp), if_neg (by simp), List.getLast?_eq_getElem?]
/-- How much text is left, told by the memory. -/
def lenR (w : World) (g : Nat) : Nat := match w.cell? ⟨g, 0, none⟩, w.cell? ⟨g, 1, none⟩ with | some (.string t), some (.int _ a) => t.size - a.toNat | _, _ => 0
theorem RsA.len {w : World} {g : Nat} {st : SS} (h : RsA w g st) : lenR w g = st.l.length := by
  obtain ⟨s, a, h1, h2⟩ := h
  unfold lenR
  rw [h1.1.cells.1, h1.1.cells.2.1, ← h2, lft_len]
  rfl
theorem RsA.cells {w : World} {g : Nat} {st : SS} (h : RsA w g st) : w.cell? ⟨g, 2, none⟩ = some (.int .i64 st.p.1) ∧ w.cell? ⟨g, 3, none⟩ = some (.int .i64 st.p.2) ∧ w.cell? ⟨g, 4, none⟩ = some (.int .i64 st.er) := by
  obtain ⟨s, a, h1, h2⟩ := h
  exact ⟨h1.1.cells.2.2.1, h1.1.cells.2.2.2.1, h1.1.cells.2.2.2.2.1⟩
theorem nextS_l {st : SS} (he : st.er = 0) : (nextS st).isSome = false ↔ st.l = [] := by
  unfold nextS
  rw [if_pos he]
  cases st.l <;> simp
/-- What stands at the loop. -/
structure MSt (w wr : World) (g2 g3 g6 gs : Nat) (n : Int) (oa : Option Addr) (oc : Nat) (F : List Ev) (st : SS) (k : Nat) (R : List Ev × (Int × Int) × Int) : Prop where
  pst : PSt w wr g2 g3 g6 (OneB gs) n oa oc F
  sc : RsA wr gs st
  ok : AllOk n none (fun _ => false) F
  bd : ∀ y ∈ F, EvB y
  pl : plF n k F st = R
  lt : st.l.length < k
  sz : F.length + st.l.length ≤ 40000

set_option maxRecDepth 100000 in
set_option maxHeartbeats 8000000 in
theorem rparse_any (w : World) (s : ByteArray) (hs : s.size ≤ 40000) :
    Calls Tryd.prog 18 #[.string s] w fun e w' => ∃ a' cap', e = .returned (.tuple #[.agg #[.int .u64 (parseN (L s)), .slice a' (parseR (L s)).1.length cap'], .agg #[.int .i64 (parseR (L s)).2.1.1, .int .i64 (parseR (L s)).2.1.2], .int .i64 (parseR (L s)).2.2]) ∧ Evs w' a' (parseR (L s)).1 ∧ Mod w w' NoB := by
  have hmx := mixed
  obtain ⟨R, hR⟩ : ∃ R, parseR (L s) = R := ⟨_, rfl⟩
  obtain ⟨hd, hhd⟩ : ∃ hd, hdS (L s) = hd := ⟨_, rfl⟩
  have hPN : parseN (L s) = if R.2.2 = 0 then hd.1 else 0 := by unfold parseN; rw [hR, hhd]
  have hPR : plF hd.1 ((L s).length + 1) [] hd.2 = R := by rw [← hR, ← hhd]; rfl
  have hlen : hd.2.l.length ≤ s.size := by rw [← hhd, ← L_len]; exact hdS_len _
  have hNb := hdS_bd (L s)
  rw [hhd] at hNb
  rw [L_len] at hPR
  rw [hPN, hR]
  have HPR := Lib.hid hPR
  have HP0 := Lib.hid (PS0.start (w := w))
  clear hPN hR hPR
  obtain ⟨g2, hg2⟩ : ∃ g2, g2 = w.heap.size := ⟨_, rfl⟩
  obtain ⟨g3, hg3⟩ : ∃ g3, g3 = w.heap.size + 1 := ⟨_, rfl⟩
  obtain ⟨W, hW⟩ : ∃ W, W = ((w.alloc (.cells #[.int .u64 0, .slice none 0 0] 25)).alloc (.cells #[.int .i64 0, .int .i64 0] 38)) := ⟨_, rfl⟩
  rw [← hW, ← hg3, ← hg2] at HP0
  unfold hdS at hhd
  dsimp only at hhd
  go_enter Tryd.func18, Tryd.ntmps18
  go_upto_region 1 with (fail)
  rw [← hW, ← hg3, ← hg2]
  clear hW hg2 hg3
  go_wp2_with fail
  refine (rnew_rsa _ s (by omega)).mono ?_
  rintro e w1 ⟨rfl, hsc, hm⟩
  obtain ⟨gs, hgs⟩ : ∃ gs, gs = W.heap.size := ⟨_, rfl⟩
  rw [← hgs] at hsc ⊢
  have hgK : w.heap.size ≤ gs ∧ gs ≠ g2 ∧ gs ≠ g3 := by have := HP0.out.lt; have := HP0.out.mod.size; omega
  have HS := Lib.hid hsc
  have HP := Lib.hid (HP0.out.keep hm (fun q c => c.elim))
  have hone : ∀ q, OneB gs q → w.heap.size ≤ q ∧ q ≠ g2 ∧ q ≠ g3 := fun q c => by have e : q = gs := c; rw [e]; exact hgK
  clear hsc hm HP0 hgs
  go_wp2_with fail
  refine (rword_rsa _ gs _ ⟨#[108, 111, 103]⟩ HS.out (by unfold maxLen; decide)).mono ?_
  rintro e w2 ⟨rfl, hsc, hm⟩
  rw [show L ⟨#[108, 111, 103]⟩ = [108, 111, 103] from rfl] at hsc ⊢
  obtain ⟨s1, hs1⟩ : ∃ x, (wordS [108, 111, 103] ⟨L s, (1, 1), 0⟩).2 = x := ⟨_, rfl⟩
  rw [hs1] at hhd hsc
  replace HS := Lib.hid hsc
  replace HP := Lib.hid (HP.out.keep hm hone)
  clear hsc hm hs1
  go_wp2_with fail
  refine (rbyte_rsa _ gs s1 32 32 rfl HS.out).mono ?_
  rintro e w3 ⟨rfl, hsc, hm⟩
  obtain ⟨s2, hs2⟩ : ∃ x, (wordS [32] s1).2 = x := ⟨_, rfl⟩
  rw [hs2] at hhd hsc
  replace HS := Lib.hid hsc
  replace HP := Lib.hid (HP.out.keep hm hone)
  clear hsc hm hs2
  go_wp2_with fail
  refine (rnum_rsa _ gs s2 4294967296 HS.out (by decide)).mono ?_
  rintro e w4 ⟨rfl, hsc, hm⟩
  obtain ⟨n, hn⟩ : ∃ x, (numS 4294967296 s2).1 = x := ⟨_, rfl⟩
  obtain ⟨s3, hs3⟩ : ∃ x, (numS 4294967296 s2).2 = x := ⟨_, rfl⟩
  rw [hn] at hhd ⊢
  rw [hs3] at hhd hsc
  replace HS := Lib.hid hsc
  replace HP := Lib.hid (HP.out.keep hm hone)
  clear hsc hm hs3 hn
  go_upto_region 5 with (fail)
  have HQ := Lib.hid (HP.out.pst n (OneB gs) (fun q c => by have e : q = gs := c; subst e; exact ⟨hgK.1, HS.out.lt, hgK.2⟩))
  replace HS := Lib.hid (HS.out.mod (S := NoB) ((Mod.refl _ _).alloc (.cells #[.int .u64 n, .slice none 0 0] 25)) (by simp [NoB]))
  obtain ⟨g6, hg6⟩ : ∃ g6, g6 = w4.heap.size := ⟨_, rfl⟩
  obtain ⟨V, hV⟩ : ∃ V, V = w4.alloc (.cells #[.int .u64 n, .slice none 0 0] 25) := ⟨_, rfl⟩
  rw [← hV, ← hg6] at HQ
  rw [← hV] at HS
  rw [← hV, ← hg6]
  clear hV hg6 HP
  go_wp2_with fail
  refine (rbyte_rsa _ gs s3 10 10 rfl HS.out).mono ?_
  rintro e w5 ⟨rfl, hsc, hm⟩
  obtain ⟨st0, hst0⟩ : ∃ x, (wordS [10] s3).2 = x := ⟨_, rfl⟩
  rw [hst0] at hhd hsc
  subst hhd
  replace HS := Lib.hid hsc
  replace HQ := Lib.hid (HQ.out.keep hm (fun q c => c))
  clear hsc hm hst0
  have HL : Hid (MSt w w5 g2 g3 g6 gs n none 0 [] st0 (s.size + 1) R) := ⟨HQ.out, HS.out, trivial, by simp, HPR.out, by show st0.l.length < s.size + 1; have : st0.l.length ≤ s.size := hlen; omega, by show 0 + st0.l.length ≤ 40000; have : st0.l.length ≤ s.size := hlen; omega⟩
  have hNn : n ≤ 4294967296 := hNb.2
  clear HQ HS HPR
  go_wp2_with fail
  go_loopw [7] (fun _ wr => ∃ (oa : Option Addr) (oc : Nat) (F : List Ev) (st : SS) (k : Nat), Hid (MSt w wr g2 g3 g6 gs n oa oc F st k R)) (fun _ wr => lenR wr gs)
  case atStart => exact ⟨none, 0, [], st0, _, HL.out⟩
  case round =>
    obtain ⟨oa, oc, F, st, k, HI⟩ := hrel
    obtain ⟨t2, t3, t4⟩ := HI.out.sc.cells
    by_cases he : st.er = 0
    · have HE0 := Lib.hid he
      rw [he] at t4
      go_wp2_with fail
      refine (rnext_rsa _ gs st HI.out.sc).mono ?_
      rintro e w7 ⟨rfl, k7, rfl⟩
      have h7 : Mod wr (wr.drewN k7) NoB := (Mod.refl _ _).drewN _
      have HP7 := Lib.hid (HI.out.pst.keep (S := NoB) h7 (fun q c => c.elim))
      have HS7 := Lib.hid (HI.out.sc.mod h7 (by simp [NoB]))
      clear t2 t3 t4 h7
      obtain ⟨t2, t3, t4⟩ := HS7.out.cells
      rw [he] at t4
      obtain ⟨V7, hV7⟩ : ∃ V7, V7 = wr.drewN k7 := ⟨_, rfl⟩
      rw [← hV7] at HP7 HS7 t2 t3 t4 ⊢
      clear hV7
      unfold nextW
      cases hns : (nextS st).isSome with
      | false =>
        have hRe := plF_end HI.out.pl (by have := HI.out.lt; omega) hns
        rw [if_pos he] at hRe
        subst hRe
        have q0 := HP7.out.q0
        have q1 := HP7.out.q1
        have z0 := HP7.out.z0
        have z1 := HP7.out.z1
        have p0 := HP7.out.p0
        have p1 := HP7.out.p1
        have f20 := HP7.out.f2 0
        have f21 := HP7.out.f2 1
        have f30 := HP7.out.f3 0
        have f31 := HP7.out.f3 1
        have d23 : ¬ g2 = g3 := HP7.out.d.1
        have d32 : ¬ g3 = g2 := fun c => d23 c.symm
        have s2 : ¬ gs = g2 := (HP7.out.ky gs rfl).2.2.1
        have s3 : ¬ gs = g3 := (HP7.out.ky gs rfl).2.2.2.1
        have s2' : ¬ g2 = gs := fun c => s2 c.symm
        have s3' : ¬ g3 = gs := fun c => s3 c.symm
        have HF := Lib.hid (HP7.out.fin n (.slice oa F.length oc) 0 0)
        clear he
        go_wp2_with fail
        obtain ⟨r0, r1, r2, r3⟩ := HF.out.1
        exact bodyPost_ret (v := .tuple #[.agg #[.int .u64 n, .slice oa F.length oc], .agg #[.int .i64 0, .int .i64 0], .int .i64 0]) (by simp [results, Tryd.results18, go_sem, r0, r1, r2, r3]) rfl ⟨oa, ⟨oc, rfl⟩, HF.out.2.2, HF.out.2.1⟩
      | true =>
        obtain ⟨k', rfl⟩ : ∃ k', k = k' + 1 := ⟨k - 1, by have := HI.out.lt; omega⟩
        obtain ⟨M1, M2, M3⟩ := plF_more HI.out.pl hns
        have HM1 := Lib.hid M1
        have HM2 := Lib.hid M2
        have HM3 := Lib.hid M3
        have hsz := HI.out.sz
        have hlt := HI.out.lt
        have hess := evS_less (st := st)
        have hxbd := evS_bd st
        obtain ⟨x, hx⟩ : ∃ x, (evS st).1 = x := ⟨_, rfl⟩
        obtain ⟨s4, hs4⟩ : ∃ y, (evS st).2 = y := ⟨_, rfl⟩
        rw [hs4] at HM1
        rw [hx, hs4] at HM2 HM3
        rw [hs4] at hess
        rw [hx] at hxbd
        have HX := Lib.hid (And.intro hess hxbd)
        clear M1 M2 M3 hess hxbd he
        go_upto_region 11 with (fail)
        have h0 : Mod V7 (V7.alloc (.cells #[.int .i64 st.p.1, .int .i64 st.p.2] 38)) NoB := (Mod.refl _ _).alloc _
        have HP8 := Lib.hid (HP7.out.keep h0 (fun q c => c.elim))
        have HS8 := Lib.hid (HS7.out.mod h0 (by simp [NoB]))
        have HA8 : Hid ((V7.alloc (.cells #[.int .i64 st.p.1, .int .i64 st.p.2] 38)).cell? ⟨V7.heap.size, 0, none⟩ = some (.int .i64 st.p.1) ∧ (V7.alloc (.cells #[.int .i64 st.p.1, .int .i64 st.p.2] 38)).cell? ⟨V7.heap.size, 1, none⟩ = some (.int .i64 st.p.2)) := ⟨World.cell?_alloc_at _ _ _ _ rfl, World.cell?_alloc_at _ _ _ _ rfl⟩
        obtain ⟨ga, hga⟩ : ∃ ga, ga = V7.heap.size := ⟨_, rfl⟩
        obtain ⟨X8, hX8⟩ : ∃ X8, X8 = V7.alloc (.cells #[.int .i64 st.p.1, .int .i64 st.p.2] 38) := ⟨_, rfl⟩
        rw [← hX8] at HP8 HS8
        rw [← hX8, ← hga] at HA8
        rw [← hX8, ← hga]
        have hgas : ga ≠ gs := by have := HS7.out.lt; omega
        have hga2 : ¬ ga = g2 := by have : g2 < V7.heap.size := World.block_lt_of_cell? _ _ HP7.out.z0; omega
        have hga3 : ¬ ga = g3 := by have : g3 < V7.heap.size := World.block_lt_of_cell? _ _ HP7.out.p0; omega
        have hga6 : ¬ ga = g6 := by have : g6 < V7.heap.size := World.block_lt_of_cell? _ _ HP7.out.q0; omega
        have hg2a : ¬ g2 = ga := fun c => hga2 c.symm
        have hg3a : ¬ g3 = ga := fun c => hga3 c.symm
        have hgaw : ∀ q, (Value.slice oa F.length oc).ownBlock = some q → q < ga := fun q hq => by rw [hga]; exact (HP7.out.row.lt q hq).2
        clear h0 hX8 hga HP7 HS7 t2 t3 t4
        go_wp2_with fail
        refine (revent_any _ gs st HS8.out).mono ?_
        rintro e w9 ⟨rfl, hsc, hm⟩
        rw [hx]
        rw [hs4] at hsc
        have HP9 := Lib.hid (HP8.out.keep hm (fun q c => c))
        have HA9 := Lib.hid (And.intro (keepS HA8.out.1 hm (fun c => hgas c)) (keepS HA8.out.2 hm (fun c => hgas c)))
        have HS9 := Lib.hid hsc
        clear hsc hm HP8 HS8 HA8 hx hs4
        go_upto_region 12 with (fail)
        have h0 : Mod w9 (w9.alloc (.cells #[.int .i64 x.t, .int .u32 x.e.u, .int .u32 x.e.v, .bool x.add] 61)) NoB := (Mod.refl _ _).alloc _
        have HP10 := Lib.hid (HP9.out.keep h0 (fun q c => c.elim))
        have HS10 := Lib.hid (HS9.out.mod h0 (by simp [NoB]))
        have HA10 := Lib.hid (And.intro (keepc HA9.out.1 h0) (keepc HA9.out.2 h0))
        have HX10 : Hid (EvAt (w9.alloc (.cells #[.int .i64 x.t, .int .u32 x.e.u, .int .u32 x.e.v, .bool x.add] 61)) w9.heap.size 0 x) := ⟨World.cell?_alloc_at _ _ _ _ rfl, World.cell?_alloc_at _ _ _ _ rfl, World.cell?_alloc_at _ _ _ _ rfl, World.cell?_alloc_at _ _ _ _ rfl⟩
        obtain ⟨gx, hgx⟩ : ∃ gx, gx = w9.heap.size := ⟨_, rfl⟩
        obtain ⟨X10, hX10⟩ : ∃ X10, X10 = w9.alloc (.cells #[.int .i64 x.t, .int .u32 x.e.u, .int .u32 x.e.v, .bool x.add] 61) := ⟨_, rfl⟩
        rw [← hX10] at HP10 HS10 HA10
        rw [← hX10, ← hgx] at HX10
        rw [← hX10, ← hgx]
        clear h0 hX10 hgx HP9 HS9 HA9
        obtain ⟨t2, t3, t4⟩ := HS10.out.cells
        by_cases he : s4.er = 0
        · have HE4 := Lib.hid he
          rw [he] at t4
          have HM2b := Lib.hid (HM2.out he)
          have HM3b := Lib.hid (HM3.out he)
          obtain ⟨R5, hR5⟩ : ∃ R5, evErr n (prevOf F F.length) (thereOf F) x = R5 := ⟨_, rfl⟩
          rw [hR5] at HM2b HM3b
          have HR5 := Lib.hid hR5
          have q1 := HP10.out.q1
          obtain ⟨k0, k1, k2, k3⟩ := HX10.out
          simp only [Nat.zero_add] at k1 k2 k3
          obtain ⟨i0, hi0, hz0, hz1, hz2⟩ := info_parts info_event2
          have HB : Hid (F.length + 1 ≤ maxLen ∧ (F.length + 1) * 24 ≤ 140737488355328) := by
            unfold maxLen; exact ⟨by omega, by omega⟩
          have hone1 : ∀ u ∈ encV x, u.oneCell' = true := by simp [encV, Value.oneCell']
          clear HM1 HM2 HM3 hR5 he
          go_upto_region 14 with (at_builtin; refine wpList_append_row _ rfl _ _ 23 rfl 61 i0 (.agg #[.int .i64 0, .int .u32 0, .int .u32 0, .bool false]) 4 24 Tryd.underlying23 hi0 hz0 hz1 hz2 rfl (by decide) (.slice oa F.length oc) F.length _ rfl (HP10.out.row.alloc _) _ 1 _ (encV x) rfl rfl (fun j u hu => ⟨_, rfl, World.news_of_block (MapKept.heap_alloc _ _).1 j u hu⟩) hone1 HB.out.1 HB.out.2 ?_; intro v8 w14 hown8 hgrow8 hat8; obtain ⟨a8, c8, rfl⟩ := row_form hown8; have hac := HP10.out.appc hgrow8; have b1 := hac.1; have b2 := hac.2.1; have HAp := Lib.hid (And.intro (HP10.out.app hown8 hgrow8 hat8) hac.2.2); clear hown8 hgrow8 hat8 hac)
          have hmG : Mod X10 (w14.setCell ⟨g6, 1, none⟩ (.slice a8 (F.length + 1) c8)) (fun q => (Value.slice oa F.length oc).ownBlock = some q ∨ q = g6) :=
            (HAp.out.2.mono (fun i _ c => Or.inl c)).trans (Mod.set1 w14 g6 1 _) (fun i _ c => Or.inr c)
          have hgs1 : ¬ ((Value.slice oa F.length oc).ownBlock = some gs ∨ gs = g6) := fun c => by
            rcases c with c | c
            · exact (HP10.out.sep gs c).2.2.2.2 rfl
            · exact (HP10.out.ky gs rfl).2.2.2.2 c
          have hga1 : ¬ ((Value.slice oa F.length oc).ownBlock = some ga ∨ ga = g6) := fun c => by
            rcases c with c | c
            · have := hgaw ga c; omega
            · exact hga6 c
          have HSA := Lib.hid (HS10.out.mod hmG hgs1)
          have HAA := Lib.hid (And.intro (keepS HA10.out.1 hmG hga1) (keepS HA10.out.2 hmG hga1))
          have HPA := Lib.hid HAp.out.1
          have hbd : ∀ y ∈ F ++ [x], EvB y := fun y hy => by
            rcases List.mem_append.1 hy with c | c
            · exact HI.out.bd y c
            · rw [List.mem_singleton.1 c]; exact HX.out.2.2
          have HBd := Lib.hid hbd
          clear hmG hgs1 hga1 b1 b2 k0 k1 k2 k3 q1 HAp HP10 HS10 HA10 HX10 t2 t3 t4 hone1 hbd hgaw
          obtain ⟨Z, hZ⟩ : ∃ Z, Z = w14.setCell ⟨g6, 1, none⟩ (.slice a8 (F.length + 1) c8) := ⟨_, rfl⟩
          rw [← hZ] at HSA HAA HPA
          rw [← hZ]
          have hl1 : (F ++ [x]).length = F.length + 1 := by simp
          have q0 := HPA.out.q0
          have q1 := HPA.out.q1
          rw [hl1] at q1
          have HCk : Hid (∃ c1 : Nat, Calls Tryd.prog 33 #[.agg #[.int .u64 n, .slice a8 (F.length + 1) c8]] Z fun e w' => e = .returned (.tuple #[.int .i64 c1, .int .i64 (R5 : Nat)]) ∧ Mod Z w' NoB) := by
            have := rcheck_any Z n a8 c8 (F ++ [x]) HPA.out.evs (by rw [hl1]; omega) HBd.out
            rw [chk_snoc HI.out.ok hNn (by omega), HR5.out, hl1] at this
            exact ⟨_, this⟩
          obtain ⟨c1, hck⟩ := HCk.out
          have HCk2 := Lib.hid hck
          clear hZ hck HCk
          go_wp2_with fail
          refine HCk2.out.mono ?_
          rintro e w12 ⟨rfl, hm⟩
          have HP12 := Lib.hid (HPA.out.keep (S := NoB) hm (fun q c => c.elim))
          have HS12 := Lib.hid (HSA.out.mod hm (by simp [NoB]))
          have HA12 := Lib.hid (And.intro (keepc HAA.out.1 hm) (keepc HAA.out.2 hm))
          clear hm q0 q1 HPA HSA HAA HCk2
          by_cases hv : R5 = 0
          · have HPl := Lib.hid (HM3b.out hv)
            have HOk := Lib.hid (allOk_snoc HI.out.ok (HR5.out.trans hv))
            subst hv
            clear HM2b HM3b HR5
            go_wp2_with fail
            go_roundw
            case rel => exact ⟨a8, c8, F ++ [x], s4, k', HP12.out, HS12.out, HOk.out, HBd.out, HPl.out, by have := HX.out.1 HE4.out; omega, by have := HX.out.1 HE4.out; simp; omega⟩
            case measure => rw [HS12.out.len, HI.out.sc.len]; exact HX.out.1 HE4.out
          · have hRe := HM2b.out hv
            subst hRe
            have hne : ((R5 : Int) == 0) = false := beq_eq_false_iff_ne.2 (by omega)
            have a0 := HA12.out.1
            have a1 := HA12.out.2
            have z0 := HP12.out.z0
            have z1 := HP12.out.z1
            have p0 := HP12.out.p0
            have p1 := HP12.out.p1
            have f20 := HP12.out.f2 0
            have f21 := HP12.out.f2 1
            have f30 := HP12.out.f3 0
            have f31 := HP12.out.f3 1
            have d23 : ¬ g2 = g3 := HP12.out.d.1
            have d32 : ¬ g3 = g2 := fun c => d23 c.symm
            have s2 : ¬ gs = g2 := (HP12.out.ky gs rfl).2.2.1
            have s3 : ¬ gs = g3 := (HP12.out.ky gs rfl).2.2.2.1
            have s2' : ¬ g2 = gs := fun c => s2 c.symm
            have s3' : ¬ g3 = gs := fun c => s3 c.symm
            have HF := Lib.hid (HP12.out.fin 0 (.slice none 0 0) st.p.1 st.p.2)
            go_upto_region 16 with (fail)
            go_region
            all_goals
              go_wp2_with fail
              obtain ⟨r0, r1, r2, r3⟩ := HF.out.1
              exact bodyPost_ret (v := .tuple #[.agg #[.int .u64 0, .slice none 0 0], .agg #[.int .i64 st.p.1, .int .i64 st.p.2], .int .i64 R5]) (by simp [results, Tryd.results18, go_sem, r0, r1, r2, r3]) rfl ⟨none, ⟨0, rfl⟩, Or.inl rfl, HF.out.2.1.drew⟩
        · have hRe := HM1.out he
          subst hRe
          have hne : (s4.er == 0) = false := beq_eq_false_iff_ne.2 he
          have z0 := HP10.out.z0
          have z1 := HP10.out.z1
          have p0 := HP10.out.p0
          have p1 := HP10.out.p1
          have f20 := HP10.out.f2 0
          have f21 := HP10.out.f2 1
          have f30 := HP10.out.f3 0
          have f31 := HP10.out.f3 1
          have d23 : ¬ g2 = g3 := HP10.out.d.1
          have d32 : ¬ g3 = g2 := fun c => d23 c.symm
          have s2 : ¬ gs = g2 := (HP10.out.ky gs rfl).2.2.1
          have s3 : ¬ gs = g3 := (HP10.out.ky gs rfl).2.2.2.1
          have s2' : ¬ g2 = gs := fun c => s2 c.symm
          have s3' : ¬ g3 = gs := fun c => s3 c.symm
          have HF := Lib.hid (HP10.out.fin 0 (.slice none 0 0) s4.p.1 s4.p.2)
          go_upto_region 17 with (fail)
          go_region
          all_goals
            go_wp2_with fail
            obtain ⟨r0, r1, r2, r3⟩ := HF.out.1
            exact bodyPost_ret (v := .tuple #[.agg #[.int .u64 0, .slice none 0 0], .agg #[.int .i64 s4.p.1, .int .i64 s4.p.2], .int .i64 s4.er]) (by simp [results, Tryd.results18, go_sem, r0, r1, r2, r3]) rfl ⟨none, ⟨0, rfl⟩, Or.inl rfl, HF.out.2.1.drew⟩
    · have hns : (nextS st).isSome = false := by unfold nextS; rw [if_neg he]; rfl
      have hRe := plF_end HI.out.pl (by have := HI.out.lt; omega) hns
      rw [if_neg he] at hRe
      subst hRe
      have hne : (st.er == 0) = false := beq_eq_false_iff_ne.2 he
      have HP7 := Lib.hid HI.out.pst
      have z0 := HP7.out.z0
      have z1 := HP7.out.z1
      have p0 := HP7.out.p0
      have p1 := HP7.out.p1
      have f20 := HP7.out.f2 0
      have f21 := HP7.out.f2 1
      have f30 := HP7.out.f3 0
      have f31 := HP7.out.f3 1
      have d23 : ¬ g2 = g3 := HP7.out.d.1
      have d32 : ¬ g3 = g2 := fun c => d23 c.symm
      have s2 : ¬ gs = g2 := (HP7.out.ky gs rfl).2.2.1
      have s3 : ¬ gs = g3 := (HP7.out.ky gs rfl).2.2.2.1
      have s2' : ¬ g2 = gs := fun c => s2 c.symm
      have s3' : ¬ g3 = gs := fun c => s3 c.symm
      have HF := Lib.hid (HP7.out.fin 0 (.slice none 0 0) st.p.1 st.p.2)
      go_upto_region 17 with (fail)
      go_region
      all_goals
        go_wp2_with fail
        obtain ⟨r0, r1, r2, r3⟩ := HF.out.1
        exact bodyPost_ret (v := .tuple #[.agg #[.int .u64 0, .slice none 0 0], .agg #[.int .i64 st.p.1, .int .i64 st.p.2], .int .i64 st.er]) (by simp [results, Tryd.results18, go_sem, r0, r1, r2, r3]) rfl ⟨none, ⟨0, rfl⟩, Or.inl rfl, HF.out.2.1.drew⟩
end Go.Proofs.YtggnkefhegnokaaDoor
end
