/- Merged: LgT LgPr LgRr -/
import Derived.Test.YtppambkffgmkgaaGreatDoorMg14
import Derived.Test.YtppambkffgmkgaaGreatDoorMg16
import Derived.Test.YtppambkffgmkgaaGreatDoorMg19
import Derived.Test.YtppambkffgmkgaaGreatDoorMg22
section
/- A log's text, plainly. -/
namespace Go.Proofs.YtppambkffgmkgaaGreatDoor
open Go.RowKit
set_option linter.unusedVariables false

def sgnL (b : Bool) : List UInt8 := if b = true then [32, 43, 32] else [32, 45, 32]
/-- An event's line. -/
def lineL (e : Ev) : List UInt8 := decL e.t.toNat ++ sgnL e.add ++ decL e.e.u.toNat ++ [32] ++ decL e.e.v.toNat ++ [10]
def logL (n : Int) (F : List Ev) : List UInt8 := [108, 111, 103, 32] ++ decL n.toNat ++ [10] ++ F.flatMap lineL
theorem decD (u : Nat) : Lib.decDigits u = decL u := by
  induction u using Nat.strongRecOn with
  | _ u ih =>
    rw [Lib.decDigits, decL]
    split
    · rfl
    · rw [ih (u / 10) (by omega)]
theorem lineL_len {e : Ev} (h : 0 ≤ e.t ∧ e.t ≤ 4611686018427387903) (hb : EvB e) : (lineL e).length ≤ 65 := by
  have h1 := decL_len20 e.t.toNat (by omega)
  have h2 := decL_len20 e.e.u.toNat (by have := hb.1; omega)
  have h3 := decL_len20 e.e.v.toNat (by have := hb.2; omega)
  unfold lineL sgnL
  simp only [List.length_append, List.length_singleton]
  split <;> simp <;> omega
theorem logL_take {n : Int} {F : List Ev} {k : Nat} {x : Ev} (hx : F[k]? = some x) : logL n (F.take (k + 1)) = logL n (F.take k) ++ lineL x := by
  obtain ⟨h1, h2⟩ := List.getElem?_eq_some_iff.1 hx
  unfold logL
  rw [List.take_succ_eq_append_getElem h1, h2, List.flatMap_append]
  simp
theorem logL_len {n : Int} {F : List Ev} (hn : 0 ≤ n ∧ n ≤ 4294967296) (h : ∀ x ∈ F, (0 ≤ x.t ∧ x.t ≤ 4611686018427387903) ∧ EvB x) : (logL n F).length ≤ 25 + 65 * F.length := by
  have h1 := decL_len20 n.toNat (by omega)
  unfold logL
  have key : ∀ F : List Ev, (∀ x ∈ F, (0 ≤ x.t ∧ x.t ≤ 4611686018427387903) ∧ EvB x) → (F.flatMap lineL).length ≤ 65 * F.length := by
    intro F
    induction F with
    | nil => intro _; simp
    | cons y F ih =>
      intro h
      have h2 := ih (fun x hx => h x (by simp [hx]))
      have h3 := lineL_len (h y (by simp)).1 (h y (by simp)).2
      rw [List.flatMap_cons, List.length_append, List.length_cons]
      omega
  have := key F h
  simp only [List.length_append, List.length_cons, List.length_nil]
  omega
/-- The text that is printed, if the history may be. -/
def prS (n : Int) (F : List Ev) : ByteArray := if (chk n F).2 = 0 then ⟨(logL n F).toArray⟩ else ⟨#[]⟩
theorem byteCells_app (a b : List UInt8) : Lib.byteCells (a ++ b) = Lib.byteCells a ++ Lib.byteCells b := by simp [Lib.byteCells]
theorem strCells_L (s : ByteArray) : Lib.strCells s = Lib.byteCells (L s) := rfl
theorem chk_ok_bd {n : Int} {F : List Ev} (h : (chk n F).2 = 0) : n ≤ 4294967296 ∧ AllOk n none (fun _ => false) F := by
  unfold chk at h
  split at h
  · cases h
  · rename_i hn
    exact ⟨by unfold maxN at hn; omega, allOk_of h⟩
theorem allOk_tt {n : Int} : ∀ {l : List Ev} {prev : Option Ev} {there : Ed → Bool}, AllOk n prev there l → ∀ y ∈ l, 0 ≤ y.t ∧ y.t ≤ 4611686018427387903
  | [], _, _, _, y, hy => by simp at hy
  | e :: l, _, _, h, y, hy => by
    rcases List.mem_cons.1 hy with rfl | hy
    · exact (evErr_ok h.1).1
    · exact allOk_tt h.2 y hy
end Go.Proofs.YtppambkffgmkgaaGreatDoor
end

section
/- The contract of logfmt.Print. -/
namespace Go.Proofs.YtppambkffgmkgaaGreatDoor
open Go.RowKit
set_option linter.unusedVariables false

/-- What stands at the loop. -/
structure OPr (w wr : World) (h0 b : Nat) (n : Int) (a : Option Addr) (len cap : Nat) (F : List Ev) (v : Value) (bs : List UInt8) : Prop where
  h : HAt w wr h0 n a len cap F
  bl : Bl b wr b v (Lib.byteCells bs)
  lt : h0 < b ∧ w.heap.size ≤ h0
theorem OPr.next {w wr w' : World} {h0 b : Nat} {n : Int} {a : Option Addr} {len cap : Nat} {F : List Ev} {v : Value} {bs : List UInt8} (h : OPr w wr h0 b n a len cap F v bs) (hm : Mod wr w' NoB) : OPr w w' h0 b n a len cap F v bs :=
  ⟨h.h.next hm, h.bl.mod hm (by simp [NoB]) (fun _ _ c => c), h.lt⟩
theorem OPr.ge {w wr : World} {h0 b : Nat} {n : Int} {a : Option Addr} {len cap : Nat} {F : List Ev} {v : Value} {bs : List UInt8} (h : OPr w wr h0 b n a len cap F v bs) : ∀ q, BlS b v q → b ≤ q ∧ q < wr.heap.size := by
  intro q hq
  rcases hq with rfl | hq
  · exact ⟨Nat.le_refl _, h.bl.lt⟩
  · exact h.bl.2.2.1.lt q hq
/-- The builder has been written to. -/
theorem OPr.wrote {w wr w' : World} {h0 b : Nat} {n : Int} {a : Option Addr} {len cap : Nat} {F : List Ev} {v v' : Value} {bs bs' : List UInt8} (h : OPr w wr h0 b n a len cap F v bs) (hE : Evs w a F) (hb : Bl b w' b v' (Lib.byteCells bs')) (hm : Mod wr w' (BlS b v)) : OPr w w' h0 b n a len cap F v' bs' := by
  have hn : ¬ BlS b v h0 := fun c => by have := (h.ge h0 c).1; have := h.lt.1; omega
  have hm0 : Mod w w' NoB := h.h.mod.trans hm (fun i hi c => by have := (h.ge i c).1; have := h.lt.1; have := h.lt.2; omega)
  exact ⟨⟨hm0, keepS h.h.c0 hm hn, keepS h.h.c1 hm hn, hE.mod hm0⟩, hb, h.lt⟩
theorem head_cells (un : Nat) : Lib.byteCells [] ++ Lib.strCells (⟨#[108, 111, 103, 32]⟩ ++ dec un ++ ⟨#[10]⟩) = Lib.byteCells (logL (un : Int) []) := by
  rw [strCells_L, app_L, app_L, dec_L]
  simp [logL, Lib.byteCells, L]
theorem line_cells {n : Int} {F : List Ev} {k : Nat} {x : Ev} (hx : F[k]? = some x) (sg : ByteArray) (hsg : L sg = sgnL x.add) :
    Lib.byteCells (logL n (F.take k)) ++ Lib.strCells (dec x.t.toNat ++ sg ++ dec x.e.u.toNat ++ ⟨#[32]⟩ ++ dec x.e.v.toNat ++ ⟨#[10]⟩) = Lib.byteCells (logL n (F.take (k + 1))) := by
  rw [logL_take hx, byteCells_app, strCells_L, app_L, app_L, app_L, app_L, app_L, dec_L, dec_L, dec_L, hsg]
  rfl
theorem u64_of {t : Int} (h : 0 ≤ t ∧ t ≤ 4294967295) : IntKind.u64.wrap t = t := by rw [IntKind.wrap_u64]; omega
def sgB (b : Bool) : ByteArray := if b = true then ⟨#[32, 43, 32]⟩ else ⟨#[32, 45, 32]⟩
theorem sgB_L (b : Bool) : L (sgB b) = sgnL b := by cases b <;> rfl
theorem sgB_size (b : Bool) : (sgB b).size = 3 := by cases b <;> rfl
theorem nat_of {z : Int} (h : 0 ≤ z) : z = ((z.toNat : Nat) : Int) := by omega

end Go.Proofs.YtppambkffgmkgaaGreatDoor
end

section
/- The contract of the reference's PrintLog. -/
namespace Go.Proofs.YtppambkffgmkgaaGreatDoor
open Go.RowKit
set_option linter.unusedVariables false

theorem str_eq {a b : ByteArray} (h : L a = L b) : a = b := by
  apply ByteArray.ext
  exact Array.toList_inj.1 h
theorem logS_head (un : Nat) : (⟨#[108, 111, 103, 32]⟩ ++ dec un ++ ⟨#[10]⟩ : ByteArray) = ⟨(logL (un : Int) []).toArray⟩ := by
  apply str_eq
  rw [app_L, app_L, dec_L]
  simp [logL, L]
theorem logS_line {n : Int} {F : List Ev} {k : Nat} {x : Ev} (hx : F[k]? = some x) (sg : ByteArray) (hsg : L sg = sgnL x.add) :
    (⟨(logL n (F.take k)).toArray⟩ ++ dec x.t.toNat ++ sg ++ dec x.e.u.toNat ++ ⟨#[32]⟩ ++ dec x.e.v.toNat ++ ⟨#[10]⟩ : ByteArray) = ⟨(logL n (F.take (k + 1))).toArray⟩ := by
  apply str_eq
  rw [app_L, app_L, app_L, app_L, app_L, app_L, dec_L, dec_L, dec_L, hsg]
  show _ = (logL n (F.take (k + 1))).toArray.toList
  rw [logL_take hx]
  simp [L, lineL]

theorem decimal_mod (n : Nat) (w : World) (h : n < 18446744073709551616) : Calls Tryz.prog 29 #[.int .u64 n] w fun e w' => e = .returned (.string (dec n)) ∧ Mod w w' NoB :=
  (decimal_any n w h).mono fun _ _ k => ⟨k.1, by obtain ⟨m, hm⟩ := k.2; rw [hm]; exact (Mod.refl _ _).drewN _⟩

end Go.Proofs.YtppambkffgmkgaaGreatDoor
end
