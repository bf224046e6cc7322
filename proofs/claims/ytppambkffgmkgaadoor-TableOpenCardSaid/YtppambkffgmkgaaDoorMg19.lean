/- Merged: LfCo LfCk LfTa -/
import Derived.Test.YtppambkffgmkgaaDoorMg18
import Derived.Test.YtppambkffgmkgaaDoorMg09
import Derived.Test.YtppambkffgmkgaaDoorMg05
section
/- The walk of LifeCounts. -/
namespace Go.Proofs.YtppambkffgmkgaaDoor
open Go.RowKit
set_option linter.unusedVariables false

/-- How many of the first i are of a kind. -/
def cnt (b : Bool) (l : List Ev) (i : Nat) : Nat := ((l.take i).filter (fun e => e.add == b)).length
theorem cnt_succ {b : Bool} {l : List Ev} {i : Nat} {x : Ev} (h : l[i]? = some x) : cnt b l (i + 1) = cnt b l i + (if x.add = b then 1 else 0) := by
  unfold cnt
  obtain ⟨h1, h2⟩ := List.getElem?_eq_some_iff.1 h
  rw [List.take_succ_eq_append_getElem h1, h2, List.filter_append, List.length_append]
  congr 1
  by_cases hb : x.add = b
  · simp [hb]
  · simp [hb]
theorem cnt_le (b : Bool) (l : List Ev) (i : Nat) : cnt b l i ≤ l.length := by
  unfold cnt
  exact Nat.le_trans (List.length_filter_le _ _) (by simp; omega)

/-- A history of the statements' own, and its lives, in memory. -/
structure CSt (w wr : World) (h5 : Nat) (n : Int) (a x' : Option Addr) (len cap : Nat) (F : List Ev) (X : List Lf) : Prop where
  mod : Mod w wr NoB
  c0 : wr.cell? ⟨h5, 0, none⟩ = some (.int .u64 n)
  c1 : wr.cell? ⟨h5, 1, none⟩ = some (.slice a len cap)
  evs : Evs wr a F
  lvs : Lvs wr x' X
theorem CSt.quiet {w wr w' : World} {h5 len cap : Nat} {n : Int} {a x' : Option Addr} {F : List Ev} {X : List Lf} (h : CSt w wr h5 n a x' len cap F X) (hm : Mod wr w' NoB) : CSt w w' h5 n a x' len cap F X :=
  ⟨h.mod.trans hm (fun _ _ c => c), keepc h.c0 hm, keepc h.c1 hm, h.evs.mod hm, h.lvs.mod hm⟩

theorem flag_evb {n top : Int} {T : List Ev} (h : Times n top T) (hn : n ≤ 4294967296) : ∀ x ∈ flag (fun _ => false) T, EvB x := by
  intro x hx
  obtain ⟨y, hy, he, _⟩ := flag_mem hx
  obtain ⟨_, _, hr, h0, _⟩ := h.bd y hy
  unfold EvB EdB
  rw [he]
  unfold right at hr
  omega
theorem raw_evb {l : List Ev} (h : ∀ x ∈ l, EvB x) : ∀ x ∈ raw l, EdB x.e := by
  intro x hx
  obtain ⟨y, hy, he, _⟩ := mem_raw hx
  rw [← he]; exact h y hy

end Go.Proofs.YtppambkffgmkgaaDoor
end

section
/- The reference: Check of a history. -/
namespace Go.Proofs.YtppambkffgmkgaaDoor
open Go.RowKit
set_option linter.unusedVariables false

/-- What the check keeps. -/
structure RInv (w0 wr : World) (h0 : Nat) (n : Int) (a : Option Addr) (len cap : Nat) (l : List Ev) (R : Nat × Nat) (k : Nat) (na : Option Addr) (nc : Nat) (N : List Ed) (there : Ed → Bool) : Prop where
  mod : Mod w0 wr NoB
  c0 : wr.cell? ⟨h0, 0, none⟩ = some (.int .u64 n)
  c1 : wr.cell? ⟨h0, 1, none⟩ = some (.slice a len cap)
  eds : Eds wr na N
  plain : Plain na
  cap : N.length ≤ nc
  len : N.length ≤ k
  now : NowOk N there
  chk : chkFrom n k (prevOf l k) there (l.drop k) = R

end Go.Proofs.YtppambkffgmkgaaDoor
end

section
/- The reference: Upto and After. -/
namespace Go.Proofs.YtppambkffgmkgaaDoor
open Go.RowKit
set_option linter.unusedVariables false

/-- A history in a block of its own, and its events. -/
structure HAt (w wr : World) (h0 : Nat) (n : Int) (a : Option Addr) (len cap : Nat) (l : List Ev) : Prop where
  mod : Mod w wr NoB
  c0 : wr.cell? ⟨h0, 0, none⟩ = some (.int .u64 n)
  c1 : wr.cell? ⟨h0, 1, none⟩ = some (.slice a len cap)
  evs : Evs wr a l
theorem HAt.next {w wr w' : World} {h0 len cap : Nat} {n : Int} {a : Option Addr} {l : List Ev} (h : HAt w wr h0 n a len cap l) (hm : Mod wr w' NoB) : HAt w w' h0 n a len cap l :=
  ⟨h.mod.trans hm (fun _ _ c => c), keepc h.c0 hm, keepc h.c1 hm, h.evs.mod hm⟩
theorem HAt.start {w : World} {n : Int} {a : Option Addr} {len cap : Nat} {l : List Ev} (h : Evs w a l) : HAt w (w.alloc (.cells #[.int .u64 n, .slice a len cap] 28)) w.heap.size n a len cap l :=
  ⟨(Mod.refl _ _).alloc _, World.cell?_alloc_at _ _ _ _ rfl, World.cell?_alloc_at _ _ _ _ rfl, h.mod ((Mod.refl _ _).alloc _)⟩

/-- What After keeps. -/
structure NSt (w0 wr : World) (h0 : Nat) (n : Int) (a : Option Addr) (len cap : Nat) (l : List Ev) (i : Nat) (na : Option Addr) (nc : Nat) (N : List Ed) : Prop where
  h : HAt w0 wr h0 n a len cap l
  eds : Eds wr na N
  plain : Plain na
  cap : N.length ≤ nc
  len : N.length ≤ i
  now : NowOk N (thereOf (l.take i))

theorem allOk_at {n : Int} : ∀ {l : List Ev} {prev : Option Ev} {there : Ed → Bool} (i : Nat) (x : Ev), AllOk n prev there l → l[i]? = some x → (l.take i).foldl turn there x.e ≠ x.add
  | [], _, _, i, x, _, h => by simp at h
  | y :: l, prev, there, 0, x, h, hx => by
    cases hx
    obtain ⟨h1, _⟩ := h
    obtain ⟨_, _, _, hne⟩ := evErr_ok h1
    simpa using hne
  | y :: l, prev, there, i + 1, x, h, hx => by
    have := allOk_at i x h.2 (by simpa using hx)
    simpa using this

end Go.Proofs.YtppambkffgmkgaaDoor
end
