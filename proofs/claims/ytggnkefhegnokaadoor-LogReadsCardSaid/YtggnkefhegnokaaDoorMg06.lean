/- Merged: LfO LfR LfAp -/
import Derived.Test.YtggnkefhegnokaaDoorProg
import Derived.Test.YtggnkefhegnokaaDoorMg01
import Derived.Test.YtggnkefhegnokaaDoorMg04
import Derived.Test.YtggnkefhegnokaaDoorMg05
import Derived.Test.YtggnkefhegnokaaDoorMg02
import Derived.Deep.RegionHeld3
import Derived.BigQuiet
import Derived.OwnWalk
import Derived.Laws.EntriesVeiled
import Derived.Deep.AppendLies
import Derived.OneCell
import Derived.Maps.AppendAt
section
/- The contract of life.Of. -/
namespace Go.Proofs.YtggnkefhegnokaaDoor
open Go.RowKit
set_option linter.unusedVariables false

theorem info_event : (Tryd.prog.info? 61).map (fun i => (i.zero, i.size, i.bytes)) = some (some (.agg #[.int .i64 0, .int .u32 0, .int .u32 0, .bool false]), 4, 24) := by kernel_rfl
theorem zero_i64 (w : World) : (zeroValue 3).run Tryd.prog w = .ok (.int .i64 0) w := by kernel_rfl

/-- The lives of a history. -/
def ofL (n : Int) (l : List Ev) : List Lf := if (chk n l).2 = 0 then putAll lfLt (raw l) else []

theorem raw_len (l : List Ev) : (raw l).length ≤ l.length := by
  induction l with
  | nil => simp [raw]
  | cons e l ih => simp only [raw]; split <;> simp <;> omega

theorem le_alloc {w : World} {o : Obj} {n : Nat} (h : n ≤ w.heap.size) : n ≤ (w.alloc o).heap.size := Nat.le_trans h (by simp)
/-- An event that may be: what is kept turns so. -/
theorem opn_step {n : Int} {l : List Ev} {k : Nat} {x : Ev} {prev : Option Ev} {at' : Ed → Nat} (hx : l[k]? = some x) (ho : Opn (l.take k) at') (h0 : ∀ y ∈ l, 0 ≤ y.t) (hA : AllOk n prev (thereOf (l.take k)) (l.drop k)) :
    AllOk n (some x) (thereOf (l.take (k + 1))) (l.drop (k + 1)) ∧
    (x.add = true → raw (l.take (k + 1)) = raw (l.take k) ++ [⟨x.e, x.t, -1⟩] ∧ Opn (l.take (k + 1)) (fun y => if y = x.e then (raw (l.take k)).length else at' y)) ∧
    (x.add = false → Opn (l.take (k + 1)) at' ∧ at' x.e < (raw (l.take k)).length ∧ ∃ fr, (raw (l.take k))[at' x.e]? = some ⟨x.e, fr, -1⟩ ∧ raw (l.take (k + 1)) = (raw (l.take k)).set (at' x.e) ⟨x.e, fr, x.t⟩) := by
  obtain ⟨h1, h2⟩ := List.getElem?_eq_some_iff.1 hx
  have ht : l.take (k + 1) = l.take k ++ [x] := by rw [List.take_succ_eq_append_getElem h1, h2]
  rw [List.drop_eq_getElem_cons h1, h2] at hA
  obtain ⟨a1, a2⟩ := hA
  obtain ⟨⟨t0, _⟩, _, _, hne⟩ := evErr_ok a1
  have h0' : ∀ y ∈ l.take k, 0 ≤ y.t := fun y hy => h0 y (List.mem_of_mem_take hy)
  rw [ht, thereOf_snoc]
  refine ⟨a2, fun ha => ?_, fun ha => ?_⟩
  · rw [ha] at hne
    exact ho.add h0' ha (by simpa using hne)
  · rw [ha] at hne
    obtain ⟨⟨fr, k1, k2⟩, k3⟩ := ho.del h0' t0 ha (by simpa using hne)
    exact ⟨k3, (List.getElem?_eq_some_iff.1 k1).1, fr, k1, k2⟩
theorem allOk_t {n : Int} : ∀ {l : List Ev} {prev : Option Ev} {there : Ed → Bool}, AllOk n prev there l → ∀ y ∈ l, 0 ≤ y.t
  | [], _, _, _, y, hy => by simp at hy
  | e :: l, _, _, h, y, hy => by
    rcases List.mem_cons.1 hy with rfl | hy
    · exact (evErr_ok h.1).1.1
    · exact allOk_t h.2 y hy

end Go.Proofs.YtggnkefhegnokaaDoor
end

section
/- The contract of life.Back. -/
namespace Go.Proofs.YtggnkefhegnokaaDoor
open Go.RowKit
set_option linter.unusedVariables false

def backN (n : Int) (l : List Lf) : Int := if (lchk n l).2 = 0 then n else 0
/-- The events of lives, in order. -/
def backE (n : Int) (l : List Lf) : List Ev := if (lchk n l).2 = 0 then putAll before (evs l) else []

/-- What Back keeps: the history that grows. -/
structure BSt (w wr : World) (h4 h8 : Nat) (n : Int) (v : Value) (L : Nat) (es : List Ev) : Prop where
  mod : Mod w wr NoB
  hh : w.heap.size ≤ h4 ∧ h4 < h8
  a0 : wr.cell? ⟨h4, 0, none⟩ = some (.int .u64 0)
  a1 : wr.cell? ⟨h4, 1, none⟩ = some (.slice none 0 0)
  fa0 : wr.frozen? ⟨h4, 0, none⟩ = false
  fa1 : wr.frozen? ⟨h4, 1, none⟩ = false
  b0 : wr.cell? ⟨h8, 0, none⟩ = some (.int .u64 n)
  b1 : wr.cell? ⟨h8, 1, none⟩ = some v
  fb0 : wr.frozen? ⟨h8, 0, none⟩ = false
  fb1 : wr.frozen? ⟨h8, 1, none⟩ = false
  len : L = es.length
  row : wr.ownsRow (h8 + 1) 61 4 v L (es.flatMap encV)

namespace BSt
variable {w V w8 : World} {h4 h8 L : Nat} {n : Int} {v : Value} {es : List Ev}
theorem own (h : BSt w V h4 h8 n v L es) : ∀ q, v.ownBlock = some q → h8 + 1 ≤ q ∧ q < V.heap.size := h.row.lt
theorem moved {S : Nat → Prop} (h : BSt w V h4 h8 n v L es) (hm : Mod V w8 S) (hs : ∀ q, S q → V.heap.size ≤ q) : BSt w w8 h4 h8 n v L es := by
  have l4 := World.block_lt_of_cell? _ _ h.a0
  have l8 := World.block_lt_of_cell? _ _ h.b0
  have n4 : ¬ S h4 := fun c => Nat.not_lt.2 (hs _ c) l4
  have n8 : ¬ S h8 := fun c => Nat.not_lt.2 (hs _ c) l8
  exact ⟨h.mod.trans hm (fun i hi c => absurd (Nat.lt_of_lt_of_le hi h.mod.size) (Nat.not_lt.2 (hs _ c))), h.hh, keepS h.a0 hm n4, keepS h.a1 hm n4, (hm.frozen (p := ⟨h4, 0, none⟩) l4 n4).trans h.fa0, (hm.frozen (p := ⟨h4, 1, none⟩) l4 n4).trans h.fa1,
    keepS h.b0 hm n8, keepS h.b1 hm n8, (hm.frozen (p := ⟨h8, 0, none⟩) l8 n8).trans h.fb0, (hm.frozen (p := ⟨h8, 1, none⟩) l8 n8).trans h.fb1, h.len, hm.row h.row (fun q hq c => Nat.not_lt.2 (hs _ c) (h.own q hq).2)⟩
theorem quiet (h : BSt w V h4 h8 n v L es) (hm : Mod V w8 NoB) : BSt w w8 h4 h8 n v L es := h.moved hm (fun _ c => c.elim)
/-- Behind an append. -/
theorem app {o : Obj} {g1 cap1 : Nat} {e : Ev} (h : BSt w V h4 h8 n v L es) (hown : w8.ownsRow (h8 + 1) 61 4 (.slice (some ⟨g1, 0, none⟩) (L + 1) cap1) (L + 1) (es.flatMap encV ++ encV e)) (hgrow : (V.alloc o).grownBy w8 v.ownBlock) :
    (w8.cell? ⟨h8, 1, none⟩ = some v ∧ w8.frozen? ⟨h8, 1, none⟩ = false) ∧ BSt w (w8.setCell ⟨h8, 1, none⟩ (.slice (some ⟨g1, 0, none⟩) (L + 1) cap1)) h4 h8 n (.slice (some ⟨g1, 0, none⟩) (L + 1) cap1) (L + 1) (es ++ [e]) ∧
      Mod V (w8.setCell ⟨h8, 1, none⟩ (.slice (some ⟨g1, 0, none⟩) (L + 1) cap1)) (fun q => v.ownBlock = some q ∨ q = h8) := by
  have hm : Mod V w8 (fun q => v.ownBlock = some q) := ((Mod.refl _ _).alloc _).grown hgrow (fun q hq _ => hq)
  have l4 := World.block_lt_of_cell? _ _ h.a0
  have l8 := World.block_lt_of_cell? _ _ h.b0
  have n4 : ¬ v.ownBlock = some h4 := fun c => by have := (h.own _ c).1; have := h.hh.2; omega
  have n8 : ¬ v.ownBlock = some h8 := fun c => by have := (h.own _ c).1; omega
  have c8 := keepS h.b1 hm n8
  have hg := (hown.lt g1 rfl).1
  have h48 : h4 ≠ h8 := Nat.ne_of_lt h.hh.2
  have ne0 : (⟨h4, 0, none⟩ : Addr) ≠ ⟨h8, 1, none⟩ := fun c => h48 (congrArg Addr.block c)
  have ne1 : (⟨h4, 1, none⟩ : Addr) ≠ ⟨h8, 1, none⟩ := fun c => h48 (congrArg Addr.block c)
  have hm2 : Mod V (w8.setCell ⟨h8, 1, none⟩ (.slice (some ⟨g1, 0, none⟩) (L + 1) cap1)) (fun q => v.ownBlock = some q ∨ q = h8) := Mod.setS (S := fun q => v.ownBlock = some q ∨ q = h8) (g := h8) (i := 1) (hm.mono (fun _ _ c => Or.inl c)) (Or.inr rfl) _
  refine ⟨⟨c8, (hm.frozen (p := ⟨h8, 1, none⟩) l8 n8).trans h.fb1⟩, ⟨h.mod.trans hm2 (fun i hi c => ?_), h.hh, ?_, ?_, ?_, ?_, ?_, ?_, ?_, ?_, ?_, ?_⟩, hm2⟩
  · rcases c with c | c
    · have := (h.own _ c).1; have := h.hh; omega
    · have := h.hh; omega
  · rw [World.cell?_setCell_other _ _ _ _ ne0.symm]; exact keepS h.a0 hm n4
  · rw [World.cell?_setCell_other _ _ _ _ ne1.symm]; exact keepS h.a1 hm n4
  · rw [World.frozen?_setCell]; exact (hm.frozen (p := ⟨h4, 0, none⟩) l4 n4).trans h.fa0
  · rw [World.frozen?_setCell]; exact (hm.frozen (p := ⟨h4, 1, none⟩) l4 n4).trans h.fa1
  · rw [World.cell?_setCell_other _ _ _ _ (by simp)]; exact keepS h.b0 hm n8
  · exact World.cell?_setCell_same _ _ _ c8
  · rw [World.frozen?_setCell]; exact (hm.frozen (p := ⟨h8, 0, none⟩) l8 n8).trans h.fb0
  · rw [World.frozen?_setCell]; exact (hm.frozen (p := ⟨h8, 1, none⟩) l8 n8).trans h.fb1
  · rw [List.length_append, ← h.len]; rfl
  · have := ownsRow_setCell_other hown (a := ⟨h8, 1, none⟩) (by intro c; cases c; omega) (.slice (some ⟨g1, 0, none⟩) (L + 1) cap1)
    rw [List.flatMap_append]
    simpa using this
/-- Behind a sort. -/
theorem sorted {z w6 : World} {es' : List Ev} (h : BSt w V h4 h8 n v L es) (hz : Mod V z NoB) (hl : es'.length = L) (hrow : w6.ownsRow (h8 + 1) 61 4 v L (es'.flatMap encV)) (hm : Mod z w6 (fun q => v.ownBlock = some q)) : BSt w w6 h4 h8 n v L es' := by
  have g := h.quiet hz
  have l4 := World.block_lt_of_cell? _ _ g.a0
  have l8 := World.block_lt_of_cell? _ _ g.b0
  have n4 : ¬ v.ownBlock = some h4 := fun c => by have := (h.own _ c).1; have := h.hh.2; omega
  have n8 : ¬ v.ownBlock = some h8 := fun c => by have := (h.own _ c).1; omega
  exact ⟨g.mod.trans hm (fun i hi c => by have := (h.own _ c).1; have := h.hh; omega), h.hh, keepS g.a0 hm n4, keepS g.a1 hm n4, (hm.frozen (p := ⟨h4, 0, none⟩) l4 n4).trans g.fa0, (hm.frozen (p := ⟨h4, 1, none⟩) l4 n4).trans g.fa1,
    keepS g.b0 hm n8, keepS g.b1 hm n8, (hm.frozen (p := ⟨h8, 0, none⟩) l8 n8).trans g.fb0, (hm.frozen (p := ⟨h8, 1, none⟩) l8 n8).trans g.fb1, hl.symm, hrow⟩
end BSt

theorem strictE {m : List Ev} (hs : m.Pairwise (fun a b => ¬ before b a)) (hd : m.Pairwise (fun a b => before a b ∨ before b a)) : m.Pairwise before := by
  induction m with
  | nil => exact List.Pairwise.nil
  | cons a m ih =>
    obtain ⟨h1, h2⟩ := List.pairwise_cons.1 hs
    obtain ⟨k1, k2⟩ := List.pairwise_cons.1 hd
    refine List.pairwise_cons.2 ⟨fun b hb => ?_, ih h2 k2⟩
    rcases k1 b hb with c | c
    · exact c
    · exact absurd c (h1 b hb)
/-- A sort of the events of lives that may be. -/
theorem sort_back {n : Int} {l : List Lf} (h : AllLf n none l) {m : List Ev} (hs : m.Pairwise (fun a b => ¬ before b a)) (hp : m.Perm (evs l)) : m = putAll before (evs l) := by
  obtain ⟨k1, k2, _⟩ := allLf_far h
  exact sort_evs h (strictE hs ((hp.pairwise_iff (fun h => h.symm)).2 (evs_pair k1 k2))) hp

theorem evs_take {l : List Lf} {k : Nat} {x : Lf} (hx : l[k]? = some x) : evs (l.take (k + 1)) = evs (l.take k) ++ evsOf x := by
  obtain ⟨h1, h2⟩ := List.getElem?_eq_some_iff.1 hx
  rw [List.take_succ_eq_append_getElem h1, h2]
  unfold evs
  rw [List.flatMap_append]; simp
theorem evs_len (l : List Lf) : (evs l).length ≤ 2 * l.length := by
  induction l with
  | nil => simp [evs]
  | cons x l ih =>
    have h1 : evs (x :: l) = evsOf x ++ evs l := by unfold evs; rw [List.flatMap_cons]
    have h2 : (evsOf x).length ≤ 2 := by unfold evsOf; split <;> simp
    rw [h1, List.length_append, List.length_cons]
    omega

end Go.Proofs.YtggnkefhegnokaaDoor
end

section
/- append, as a step of a region that draws its order, of a slice that may be nothing, at elements of any number of cells. Nothing of the program in it. -/
namespace Go.Proofs.YtggnkefhegnokaaDoor
open Go.RowKit
set_option linter.unusedVariables false

theorem run_append_nothing {P : Program} (w : World) (t ty e : TypeId) (i : TypeInfo) (z : Value) (ht : P.underlying t = some (.slice e)) (hi : P.info? e = some i) (hz : i.zero = some z) {base size n c : Nat} {v : Value} {xs : List Value} (hown : w.ownsRow base e size v n xs) :
    (Builtin.append_ #[t, t] ty #[v, .slice none 0 c]).run P w = .ok v w := by
  rcases hown.2 with ⟨rfl, rfl⟩ | ⟨g, cap, cur, rfl, hb, hg, h1, h2, h3, h4⟩
  · simp [Builtin.append_, run_underlying ht, sizeOf, typeInfo, zeroValue, hi, hz, Builtin.lenOf, run_firstCells_none]
  · simp [Builtin.append_, run_underlying ht, sizeOf, typeInfo, zeroValue, hi, hz, Builtin.lenOf, run_firstCells_none, h1, storeCells]

/-- append, of what may be nothing, to what may be nothing. -/
theorem step_append_row {P : Program} (w : World) {ops : Array Oper} {o : Oper} {a : Act} {K : Act → World → Prop} {Q : Exit → Act → World → Prop} {E : Prop} (hgd : o.guard = none) (s x : Operand) (t : TypeId)
    (ho : o.op = .call { callee := .builtin .append, args := #[s, x], argTypes := #[t, t] })
    (e : TypeId) (i : TypeInfo) (z : Value) (size bytes : Nat) (ht : P.underlying t = some (.slice e)) (hi : P.info? e = some i) (hz : i.zero = some z)
    (hsize : i.size = size) (hby : i.bytes = bytes) (hzs : z.cells.size = size) (hsz : 0 < size)
    (v : Value) (n : Nat) (xs : List Value) (hs : a.eval s = v) (hown : w.ownsRow 0 e size v n xs)
    (ap : Option Addr) (m c : Nat) (news : List Value) (hx : a.eval x = .slice ap m c) (hl : news.length = m * size) (hnews : ∀ j u, news[j]? = some u → ∃ ad, ap = some ad ∧ w.cell? (ad.add j) = some u) (h1 : ∀ u ∈ news, u.oneCell' = true)
    (h63 : n + m ≤ maxLen) (hbytes : (n + m) * bytes ≤ 140737488355328)
    (h : ∀ v' w', w'.ownsRow 0 e size v' (n + m) (xs ++ news) → w.grownBy w' v.ownBlock → (v'.ownBlock = v.ownBlock ∨ v'.ownBlock = some w.heap.size) → K (a.put o.dst v') w') :
    if Region.wanted o (yielded ops a.tmps) = true then Oper.wp P o a w K Q else E := by
  have hw : Region.wanted o (yielded ops a.tmps) = true := by simp [Region.wanted, hgd]
  rw [if_pos hw]
  cases ap with
  | none =>
    have hn : news = [] := by
      cases news with
      | nil => rfl
      | cons u r => obtain ⟨ad, h0, _⟩ := hnews 0 u rfl; cases h0
    have hm : m = 0 := by
      rw [hn] at hl
      simp only [List.length_nil] at hl
      rcases Nat.eq_zero_or_pos m with c | c
      · exact c
      · have := Nat.mul_pos c hsz; omega
    subst hn hm
    have hr := run_append_nothing (P := P) w t o.type e i z ht hi hz (c := c) hown
    unfold Oper.wp execOp
    simp only [ho, resolve, invoke, builtin, Sem.run_bind, Sem.run_pure, Result.andThen_ok, List.map_toArray, List.map_cons, List.map_nil, hs, hx, hr]
    exact h v w (by simpa using hown) ⟨rfl, rfl, rfl, Nat.le_refl _, fun _ _ _ => rfl⟩ (Or.inl rfl)
  | some ad =>
    obtain ⟨v', w', hr, h2, h3, _, h5⟩ := run_append_own_at (P := P) w 0 t o.type e i z size bytes ht hi hz hsize hby hzs hsz v n xs hown ad m c news hl (fun j u hu => by obtain ⟨ad', k1, k2⟩ := hnews j u hu; cases k1; exact k2) h1 h63 hbytes (Nat.zero_le _)
    unfold Oper.wp execOp
    simp only [ho, resolve, invoke, builtin, Sem.run_bind, Sem.run_pure, Result.andThen_ok, List.map_toArray, List.map_cons, List.map_nil, hs, hx, hr]
    exact h v' w' h2 h3 h5
/-- The same at a plain region's list. -/
theorem wpList_append_row {P : Program} (w : World) {ops : Array Oper} {rest : List Oper} {o : Oper} {a : Act} {Q : Exit → Act → World → Prop} (hgd : o.guard = none) (s x : Operand) (t : TypeId)
    (ho : o.op = .call { callee := .builtin .append, args := #[s, x], argTypes := #[t, t] })
    (e : TypeId) (i : TypeInfo) (z : Value) (size bytes : Nat) (ht : P.underlying t = some (.slice e)) (hi : P.info? e = some i) (hz : i.zero = some z)
    (hsize : i.size = size) (hby : i.bytes = bytes) (hzs : z.cells.size = size) (hsz : 0 < size)
    (v : Value) (n : Nat) (xs : List Value) (hs : a.eval s = v) (hown : w.ownsRow 0 e size v n xs)
    (ap : Option Addr) (m c : Nat) (news : List Value) (hx : a.eval x = .slice ap m c) (hl : news.length = m * size) (hnews : ∀ j u, news[j]? = some u → ∃ ad, ap = some ad ∧ w.cell? (ad.add j) = some u) (h1 : ∀ u ∈ news, u.oneCell' = true)
    (h63 : n + m ≤ maxLen) (hbytes : (n + m) * bytes ≤ 140737488355328)
    (h : ∀ v' w', w'.ownsRow 0 e size v' (n + m) (xs ++ news) → w.grownBy w' v.ownBlock → (v'.ownBlock = v.ownBlock ∨ v'.ownBlock = some w.heap.size) → wpList P ops Q rest (a.put o.dst v') w') :
    wpList P ops Q (o :: rest) a w := by
  refine wpList_plain hgd fun K hK => ?_
  cases ap with
  | none =>
    have hn : news = [] := by
      cases news with
      | nil => rfl
      | cons u r => obtain ⟨ad, h0, _⟩ := hnews 0 u rfl; cases h0
    have hm : m = 0 := by
      rw [hn] at hl
      simp only [List.length_nil] at hl
      rcases Nat.eq_zero_or_pos m with c | c
      · exact c
      · have := Nat.mul_pos c hsz; omega
    subst hn hm
    have hr := run_append_nothing (P := P) w t o.type e i z ht hi hz (c := c) hown
    unfold Oper.wp execOp
    simp only [ho, resolve, invoke, builtin, Sem.run_bind, Sem.run_pure, Result.andThen_ok, List.map_toArray, List.map_cons, List.map_nil, hs, hx, hr]
    exact hK _ _ (h v w (by simpa using hown) ⟨rfl, rfl, rfl, Nat.le_refl _, fun _ _ _ => rfl⟩ (Or.inl rfl))
  | some ad =>
    obtain ⟨v', w', hr, h2, h3, _, h5⟩ := run_append_own_at (P := P) w 0 t o.type e i z size bytes ht hi hz hsize hby hzs hsz v n xs hown ad m c news hl (fun j u hu => by obtain ⟨ad', k1, k2⟩ := hnews j u hu; cases k1; exact k2) h1 h63 hbytes (Nat.zero_le _)
    unfold Oper.wp execOp
    simp only [ho, resolve, invoke, builtin, Sem.run_bind, Sem.run_pure, Result.andThen_ok, List.map_toArray, List.map_cons, List.map_nil, hs, hx, hr]
    exact hK _ _ (h v' w' h2 h3 h5)
end Go.Proofs.YtggnkefhegnokaaDoor
end
