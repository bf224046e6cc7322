/- Rows of lives; the contract of life's events. -/
import Derived.Test.YthncgmmfnghliaaLfD
namespace Go.Proofs.Ythncgmmfnghliaa
open Go.RowKit
set_option linter.unusedVariables false

/-- A life, at a place. -/
def LfAt (w : World) (b o : Nat) (x : Lf) : Prop := w.cell? ⟨b, o, none⟩ = some (.int .u32 x.e.u) ∧ w.cell? ⟨b, o + 1, none⟩ = some (.int .u32 x.e.v) ∧ w.cell? ⟨b, o + 2, none⟩ = some (.int .i64 x.fr) ∧ w.cell? ⟨b, o + 3, none⟩ = some (.int .i64 x.to)
/-- A slice of lives. -/
def Lvs (w : World) (a : Option Addr) (l : List Lf) : Prop := l = [] ∨ ∃ b off, a = some ⟨b, off, none⟩ ∧ b < w.heap.size ∧ ∀ (i : Nat) (x : Lf), l[i]? = some x → LfAt w b (off + i * 4) x
theorem LfAt.mod {w w' : World} {b o : Nat} {x : Lf} (h : LfAt w b o x) (hm : Mod w w' NoB) : LfAt w' b o x := ⟨keepc h.1 hm, keepc h.2.1 hm, keepc h.2.2.1 hm, keepc h.2.2.2 hm⟩
theorem Lvs.mod {w w' : World} {a : Option Addr} {l : List Lf} (h : Lvs w a l) (hm : Mod w w' NoB) : Lvs w' a l := by
  rcases h with h | ⟨b, off, rfl, hb, h⟩
  · exact Or.inl h
  · exact Or.inr ⟨b, off, rfl, Nat.lt_of_lt_of_le hb hm.size, fun i x hx => (h i x hx).mod hm⟩

/-- How many of the first k end. -/
def ends (l : List Lf) (k : Nat) : Nat := ((l.take k).filter (fun x => decide (0 ≤ x.to))).length
theorem ends_succ {l : List Lf} {k : Nat} {x : Lf} (h : l[k]? = some x) : ends l (k + 1) = ends l k + (if 0 ≤ x.to then 1 else 0) := by
  unfold ends
  obtain ⟨h1, h2⟩ := List.getElem?_eq_some_iff.1 h
  rw [List.take_succ_eq_append_getElem h1, h2, List.filter_append, List.length_append]
  congr 1
  split <;> simp_all
theorem ends_le (l : List Lf) (k : Nat) : ends l k ≤ l.length := by
  unfold ends
  exact Nat.le_trans (List.length_filter_le _ _) (by simp; omega)

set_option maxHeartbeats 2000000 in
theorem events_any (w : World) (a : Option Addr) (cap : Nat) (l : List Lf) (hL : Lvs w a l) (hl : l.length ≤ 1000000) :
    Calls Try.prog 37 #[.slice a l.length cap] w fun e w' => e = .returned (.int .i64 (evCount l : Nat)) ∧ Mod w w' NoB := by
  have HL := Lib.hid hL
  clear hL
  go_enter Try.func37, Try.ntmps37
  go_wp2_with fail
  go_loopw [3, 10] (fun v i wr => ∃ (k : Nat) (c : Int), k ≤ l.length ∧ v = .int .i64 c ∧ i = .int .i64 k ∧ Hid (c = ((l.length + ends l k : Nat) : Int) ∧ Mod w wr NoB)) (fun _ i _ => l.length - (intOf i).toNat)
  case atStart => exact ⟨0, _, Nat.zero_le _, rfl, rfl, by simp [ends], Mod.refl _ _⟩
  case round =>
    obtain ⟨k, c, hk, rfl, rfl, HR⟩ := hrel
    have hc0 : 0 ≤ c ∧ c ≤ 2000000 := by have := HR.out.1; have := ends_le l k; omega
    by_cases hlt : k < l.length
    · obtain ⟨x, hx⟩ : ∃ x, l[k]? = some x := ⟨l[k], List.getElem?_eq_getElem hlt⟩
      obtain ⟨b, off, rfl, hb, h⟩ : ∃ b off, a = some ⟨b, off, none⟩ ∧ b < wr.heap.size ∧ LfAt wr b (off + k * 4) x := by
        rcases HL.out.mod HR.out.2 with h | ⟨b, off, h1, h2, h3⟩
        · rw [h] at hlt; simp at hlt
        · exact ⟨b, off, h1, h2, h3 k x hx⟩
      obtain ⟨c0, c1, c2, c3⟩ := h
      have hE := ends_succ hx
      have hki : (k : Int) < l.length := by omega
      by_cases ht : 0 ≤ x.to
      · rw [if_pos ht] at hE
        have HE := Lib.hid hE
        clear hE hx
        go_wp2_with fail
        go_roundw
        case rel => exact ⟨k + 1, _, by omega, rfl, by go_num, by have := HR.out.1; rw [HE.out]; omega, HR.out.2.alloc _⟩
        case measure => simp [intOf]; omega
      · rw [if_neg ht] at hE
        have HE := Lib.hid hE
        clear hE hx
        go_wp2_with fail
        go_roundw
        case rel => exact ⟨k + 1, _, by omega, rfl, by go_num, by have := HR.out.1; rw [HE.out]; omega, HR.out.2.alloc _⟩
        case measure => simp [intOf]; omega
    · have hkl : k = l.length := by omega
      have HE : Hid (c = (evCount l : Nat)) := by
        have h1 := HR.out.1
        have h2 : ends l k = (l.filter (fun x => decide (0 ≤ x.to))).length := by unfold ends; rw [hkl, List.take_length]
        show c = _
        unfold evCount
        rw [h1, h2]
      clear hkl
      go_wp2_with fail
      go_ret
      exact ⟨by rw [← HE.out]; rfl, HR.out.2⟩
end Go.Proofs.Ythncgmmfnghliaa
