/- An arena's nodes in memory, and the contracts of the small functions of package treap. -/
import Derived.Test.YtlmbkmjjiebpbaaProg
import Derived.Test.YtlmbkmjjiebpbaaMem
import Derived.Test.YtlmbkmjjiebpbaaTr
import Derived.WalkSpells
import Derived.WalkLawsBesides
import Derived.Lib.Hide
import Derived.BigQuiet
import Derived.Outline
import Derived.Laws.OwnMore
import Derived.Deep.RegionWith
namespace Go.Proofs.Ytlmbkmjjiebpbaa
open Go.RowKit
set_option linter.unusedVariables false

/-- The cells of a node. -/
def ndCells (d : Nd) : List Value := [.int .i64 d.up, .int .i64 d.left, .int .i64 d.right, .int .i64 d.size, .int .u64 d.rank]
def rowOf (f : Nat → Nd) : Nat → List Value
  | 0 => []
  | n + 1 => rowOf f n ++ ndCells (f n)

theorem rowOf_len (f : Nat → Nd) (n : Nat) : (rowOf f n).length = n * 5 := by
  induction n with
  | zero => rfl
  | succ n ih => simp [rowOf, ih, ndCells]; omega
theorem rowOf_get (f : Nat → Nd) {n x j : Nat} (hx : x < n) (hj : j < 5) : (rowOf f n)[x * 5 + j]? = (ndCells (f x))[j]? := by
  induction n with
  | zero => omega
  | succ n ih =>
    by_cases e : x = n
    · subst e
      simp only [rowOf]
      rw [List.getElem?_append_right (by rw [rowOf_len]; omega), rowOf_len, show x * 5 + j - x * 5 = j by omega]
    · simp only [rowOf]
      rw [List.getElem?_append_left (by rw [rowOf_len]; omega)]
      exact ih (by omega)
theorem rowOf_congr {f f' : Nat → Nd} {n : Nat} (h : ∀ x, x < n → f' x = f x) : rowOf f' n = rowOf f n := by
  induction n with
  | zero => rfl
  | succ n ih => simp only [rowOf]; rw [ih (fun x hx => h x (by omega)), h n (by omega)]
theorem rowOf_set {f f' : Nat → Nd} {n x j : Nat} {v : Value} (hx : x < n) (hj : j < 5) (hf : ∀ y, y ≠ x → f' y = f y) (he : ndCells (f' x) = (ndCells (f x)).set j v) :
    (rowOf f n).set (x * 5 + j) v = rowOf f' n := by
  induction n with
  | zero => omega
  | succ n ih =>
    simp only [rowOf]
    by_cases e : x = n
    · subst e
      rw [List.set_append_right _ _ (by rw [rowOf_len]; omega), rowOf_len, show x * 5 + j - x * 5 = j by omega, he, rowOf_congr (fun y hy => hf y (by omega))]
    · rw [List.set_append_left _ _ (by rw [rowOf_len]; omega), ih (by omega), hf n (fun h => e h.symm)]

/-- The arena at block g, its nodes in block b: n of them, as f says. -/
structure In (w : World) (g b n cap : Nat) (f : Nat → Nd) : Prop where
  c0 : w.cell? ⟨g, 0, none⟩ = some (.slice (some ⟨b, 0, none⟩) n cap)
  row : w.ownsRow 0 51 5 (.slice (some ⟨b, 0, none⟩) n cap) n (rowOf f n)
  ne : b ≠ g
  top : n ≤ 1048576

namespace In
variable {w w' : World} {g b n cap : Nat} {f : Nat → Nd}

theorem cell (h : In w g b n cap f) {x : Nat} (hx : x < n) :
    w.cell? ⟨b, x * 5, none⟩ = some (.int .i64 (f x).up) ∧ w.cell? ⟨b, x * 5 + 1, none⟩ = some (.int .i64 (f x).left) ∧ w.cell? ⟨b, x * 5 + 2, none⟩ = some (.int .i64 (f x).right) ∧
    w.cell? ⟨b, x * 5 + 3, none⟩ = some (.int .i64 (f x).size) ∧ w.cell? ⟨b, x * 5 + 4, none⟩ = some (.int .u64 (f x).rank) := by
  refine ⟨?_, ?_, ?_, ?_, ?_⟩
  · rw [h.row.cellAt (x * 5) (by omega)]; exact rowOf_get f hx (by omega : 0 < 5)
  all_goals
    rw [h.row.cellAt _ (by omega)]; exact rowOf_get f hx (by omega)
theorem fr (h : In w g b n cap f) (j : Nat) : w.frozen? ⟨b, j, none⟩ = false := h.row.frozenAt j
theorem gl (h : In w g b n cap f) : g < w.heap.size := World.block_lt_of_cell? _ _ h.c0
theorem bl (h : In w g b n cap f) : b < w.heap.size := (h.row.lt b rfl).2
theorem mod {S : Nat → Prop} (h : In w g b n cap f) (hm : Mod w w' S) (hg : ¬ S g) (hb : ¬ S b) : In w' g b n cap f :=
  ⟨(hm.cell h.gl hg).trans h.c0, hm.row h.row (fun k hk => by simp [Value.ownBlock] at hk; subst hk; exact hb), h.ne, h.top⟩
theorem drew (h : In w g b n cap f) : In w.drew g b n cap f := ⟨h.c0, h.row, h.ne, h.top⟩
theorem drewN (h : In w g b n cap f) (k : Nat) : In (w.drewN k) g b n cap f := ⟨h.c0, h.row, h.ne, h.top⟩
theorem alloc (h : In w g b n cap f) (o : Obj) : In (w.alloc o) g b n cap f := h.mod ((Mod.refl _ NoB).alloc o) (by simp [NoB]) (by simp [NoB])
theorem congr (h : In w g b n cap f) {f' : Nat → Nd} (he : ∀ x, x < n → f' x = f x) : In w g b n cap f' := ⟨h.c0, by rw [rowOf_congr he]; exact h.row, h.ne, h.top⟩
theorem capb (h : In w g b n cap f) (hn : 0 < n) : n ≤ cap ∧ cap ≤ maxLen := by
  obtain ⟨g', cap', e, _, _, h1, h2⟩ := row_open h.row hn
  simp only [Value.slice.injEq] at e
  obtain ⟨_, _, rfl⟩ := e
  exact ⟨h1, h2⟩

theorem stored (h : In w g b n cap f) {f' : Nat → Nd} {x j : Nat} {v : Value} (hx : x < n) (hj : j < 5) (hf : ∀ y, y ≠ x → f' y = f y) (he : ndCells (f' x) = (ndCells (f x)).set j v) :
    In (w.setCell ⟨b, x * 5 + j, none⟩ v) g b n cap f' := by
  refine ⟨?_, ?_, h.ne, h.top⟩
  · rw [World.cell?_setCell_other _ _ _ _ (by intro e; exact h.ne (congrArg Addr.block e))]; exact h.c0
  · have := (h.row.stored (x * 5 + j) v).1
    rwa [rowOf_set hx hj hf he] at this
theorem storeUp (h : In w g b n cap f) {x : Nat} (hx : x < n) (v : Int) : In (w.setCell ⟨b, x * 5, none⟩ (.int .i64 v)) g b n cap (setUp f x v) :=
  h.stored (j := 0) hx (by omega) (fun y hy => by unfold setUp; rw [if_neg (by omega)]) (by simp [setUp, ndCells])
theorem storeIn (h : In w g b n cap f) {x : Nat} (hx : x < n) (l r s : Int) :
    In (((w.setCell ⟨b, x * 5 + 1, none⟩ (.int .i64 l)).setCell ⟨b, x * 5 + 2, none⟩ (.int .i64 r)).setCell ⟨b, x * 5 + 3, none⟩ (.int .i64 s)) g b n cap (setIn f x l r s) := by
  have h1 := h.stored (f' := fun y => if y = x then { f y with left := l } else f y) (j := 1) (v := .int .i64 l) hx (by omega) (fun y hy => if_neg hy) (by simp [ndCells])
  have h2 := h1.stored (f' := fun y => if y = x then { f y with left := l, right := r } else f y) (j := 2) (v := .int .i64 r) hx (by omega) (fun y hy => by simp [hy]) (by simp [ndCells])
  exact h2.stored (f' := setIn f x l r s) (j := 3) (v := .int .i64 s) hx (by omega) (fun y hy => by simp [hy, setIn]) (by simp [ndCells, setIn])
end In

theorem size_neg (w : World) (g : Nat) : Calls Try.prog 31 #[.pointer (some ⟨g, 0, none⟩), .int .i64 (-1)] w fun e w' => e = .returned (.int .i64 0) ∧ w = w' := by
  go_enter Try.func31, Try.ntmps31
  go_wp2_with fail
  go_ret
  exact ⟨rfl, rfl⟩

theorem size_at (w : World) (g b n cap : Nat) (f : Nat → Nd) (x : Nat) (hI : In w g b n cap f) (hx : x < n) :
    Calls Try.prog 31 #[.pointer (some ⟨g, 0, none⟩), .int .i64 x] w fun e w' => e = .returned (.int .i64 (f x).size) ∧ w = w' := by
  obtain ⟨c0, c1, c2, c3, c4⟩ := hI.cell hx
  have cg := hI.c0
  have hg := hI.gl
  have hb := hI.bl
  have htop := hI.top
  have hcap := hI.capb (by omega)
  unfold maxLen at hcap
  have hx' : (x : Int) < n := by omega
  have hne : ((x : Int) == -1) = false := by simp
  clear hI
  go_enter Try.func31, Try.ntmps31
  go_wp2_with fail
  go_ret
  exact ⟨rfl, rfl⟩

/-- A node, or none. -/
def Ok (n : Nat) (z : Int) : Prop := z = -1 ∨ ∃ x : Nat, z = x ∧ x < n

theorem size_any (w : World) (g b n cap : Nat) (f : Nat → Nd) (z : Int) (hI : In w g b n cap f) (hz : Ok n z) :
    Calls Try.prog 31 #[.pointer (some ⟨g, 0, none⟩), .int .i64 z] w fun e w' => e = .returned (.int .i64 (sz f z)) ∧ w = w' := by
  rcases hz with rfl | ⟨x, rfl, hx⟩
  · exact size_neg w g
  · have : sz f x = (f x).size := by unfold sz; rw [if_neg (by omega)]; rfl
    rw [this]
    exact size_at w g b n cap f x hI hx
end Go.Proofs.Ytlmbkmjjiebpbaa
