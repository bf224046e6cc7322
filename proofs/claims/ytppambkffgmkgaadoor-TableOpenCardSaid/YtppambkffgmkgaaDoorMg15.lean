/- Merged: LActs By Chg -/
import Derived.Test.YtppambkffgmkgaaDoorMg09
import Derived.Test.YtppambkffgmkgaaDoorProg
import Derived.Deep.Slices
import Derived.Deep.Strs
import Derived.Lib.SmallJoins
import Derived.ChangeArms
import Derived.Test.YtppambkffgmkgaaDoorMg07
import Derived.Test.YtppambkffgmkgaaDoorMg11
import Derived.Laws.IdiomStrings
import Derived.Lib.UnsafeStr
import Derived.Deep.RegionHeld3
section
/- A life that came in. -/
namespace Go.Proofs.YtppambkffgmkgaaDoor
open Go.RowKit Go.ChangeShapes Go.WideShapes
set_option linter.unusedVariables false

set_option maxRecDepth 100000 in
theorem open_lf {H : Type} {enc : TypeId × Value → H} {w : World} {base : Nat} {spare : Nat → Bool} {held : Bool} {fuel : Nat} {x : DataW H × List MemPlace} {cs : List Value}
    (h : DataW.trod enc Tryd.prog w base spare held fuel 67 cs = some x) : ∃ u v fr ti : Int, cs = [.int .u32 u, .int .u32 v, .int .i64 fr, .int .i64 ti] ∧
      (Lit.int .u32 u).wf = true ∧ (Lit.int .u32 v).wf = true ∧ (Lit.int .i64 fr).wf = true ∧ (Lit.int .i64 ti).wf = true := by
  have hc4 : Tryd.prog.cellsOf 67 = 4 := by kernel_rfl
  have hc2 : Tryd.prog.cellsOf 41 = 2 := by kernel_rfl
  have hk : Tryd.prog.cellsOf 39 = 1 := by kernel_rfl
  have hk2 : Tryd.prog.cellsOf 2 = 1 := by kernel_rfl
  obtain ⟨y0, y1, y2, n', _, hlen, ht0, ht1, ht2⟩ := Go.Deep.trod_struct3 Tryd.underlying67 h
  rw [hc4] at hlen
  match cs, hlen with
  | [v0, v1, v2, v3], _ =>
    simp only [hc2] at ht0
    obtain ⟨q0, q1, n2, _, _, hs0, hs1⟩ := trod_struct2 Tryd.underlying41 ht0
    obtain ⟨u, hu, _, hwu⟩ := DataW.trod_int Tryd.underlying39 hs0
    obtain ⟨p, hp, _, hwp⟩ := DataW.trod_int Tryd.underlying39 hs1
    obtain ⟨q, hq, _, hwq⟩ := DataW.trod_int Tryd.underlying2 ht1
    obtain ⟨r, hr, _, hwr⟩ := DataW.trod_int Tryd.underlying2 ht2
    have e0 : v0 = .int .u32 u := by simp [hk] at hu; exact hu
    have e1 : v1 = .int .u32 p := by simp [hk] at hp; exact hp
    have e2 : v2 = .int .i64 q := by simp [hk2] at hq; exact hq
    have e3 : v3 = .int .i64 r := by simp [hk2] at hr; exact hr
    subst e0 e1 e2 e3
    exact ⟨u, p, q, r, rfl, hwu, hwp, hwq, hwr⟩
set_option maxRecDepth 100000 in
theorem open_lf_arg {H : Type} {enc : TypeId × Value → H} {w w2 : World} {base base2 : Nat} {r : Reach} {spare : Nat → Bool} {held : Bool} {v : Value} {x : DataW H × List MemPlace}
    (ho : Value.okWide Tryd.prog w2 r base2 67 v) (h : ∃ fuel, DataW.trod enc Tryd.prog w base spare held fuel 67 v.cells.toList = some x) : ∃ u q fr ti : Int, v = .agg #[.int .u32 u, .int .u32 q, .int .i64 fr, .int .i64 ti] ∧
      (Lit.int .u32 u).wf = true ∧ (Lit.int .u32 q).wf = true ∧ (Lit.int .i64 fr).wf = true ∧ (Lit.int .i64 ti).wf = true := by
  obtain ⟨cs, rfl, _⟩ := okWide_struct Tryd.underlying67 ho
  obtain ⟨fuel, hf⟩ := h
  obtain ⟨u, q, fr, ti, hcs, hw⟩ := open_lf hf
  refine ⟨u, q, fr, ti, ?_, hw⟩
  have : cs.toList = [.int .u32 u, .int .u32 q, .int .i64 fr, .int .i64 ti] := by simpa [Value.cells] using hcs
  rw [show cs = #[.int .u32 u, .int .u32 q, .int .i64 fr, .int .i64 ti] from Array.toList_inj.1 this]
end Go.Proofs.YtppambkffgmkgaaDoor
end

section
/- Bytes in memory: slices of bytes, their texts. Nothing of one function in it. -/
namespace Go.Proofs.YtppambkffgmkgaaDoor
open Go.RowKit
set_option linter.unusedVariables false

theorem info_byte : (Tryd.prog.info? 5).map (fun i => (i.zero, i.size, i.bytes)) = some (some (.int .u8 0), 1, 1) := by kernel_rfl
/-- A slice of bytes. -/
def Byt (w : World) (a : Option Addr) (l : List UInt8) : Prop := l = [] ∨ ∃ b off, a = some ⟨b, off, none⟩ ∧ b < w.heap.size ∧ ∀ (i : Nat) (c : UInt8), l[i]? = some c → w.cell? ⟨b, off + i, none⟩ = some (.int .u8 c.toNat)
theorem Byt.modS {S : Nat → Prop} {w w' : World} {a : Option Addr} {l : List UInt8} (h : Byt w a l) (hm : Mod w w' S) (hs : ∀ b, b < w.heap.size → (∃ p, a = some p ∧ p.block = b) → ¬ S b) : Byt w' a l := by
  rcases h with h | ⟨b, off, rfl, hb, h⟩
  · exact Or.inl h
  · have hn : ¬ S b := hs b hb ⟨_, rfl, rfl⟩
    exact Or.inr ⟨b, off, rfl, Nat.lt_of_lt_of_le hb hm.size, fun i c hc => (hm.cell (p := ⟨b, off + i, none⟩) hb hn).trans (h i c hc)⟩
theorem Byt.mod {w w' : World} {a : Option Addr} {l : List UInt8} (h : Byt w a l) (hm : Mod w w' NoB) : Byt w' a l := h.modS hm (fun _ _ _ c => c)
theorem Byt.young {S : Nat → Prop} {w w' : World} {a : Option Addr} {l : List UInt8} (h : Byt w a l) (hm : Mod w w' S) (hs : ∀ q, S q → w.heap.size ≤ q) : Byt w' a l := h.modS hm (fun b hb _ c => Nat.not_lt.2 (hs b c) hb)
theorem Byt.at {w : World} {a : Option Addr} {l : List UInt8} (h : Byt w a l) {k : Nat} (hk : k < l.length) : ∃ b off, a = some ⟨b, off, none⟩ ∧ b < w.heap.size ∧ w.cell? ⟨b, off + k, none⟩ = some (.int .u8 (l[k].toNat : Int)) := by
  rcases h with h | ⟨b, off, h1, h2, h3⟩
  · rw [h] at hk; simp at hk
  · exact ⟨b, off, h1, h2, h3 k _ (List.getElem?_eq_getElem hk)⟩
theorem Byt.nil (w : World) (a : Option Addr) : Byt w a [] := Or.inl rfl
theorem byteCells_len (l : List UInt8) : (Lib.byteCells l).length = l.length := by simp [Lib.byteCells]
theorem byteCells_get {l : List UInt8} {j : Nat} {u : Value} (h : (Lib.byteCells l)[j]? = some u) : ∃ c, l[j]? = some c ∧ u = .int .u8 (c.toNat : Int) := by
  simp only [Lib.byteCells, List.getElem?_map, Option.map_eq_some_iff] at h
  obtain ⟨c, h1, h2⟩ := h
  exact ⟨c, h1, h2.symm⟩
theorem byteCells_at {l : List UInt8} {j : Nat} {c : UInt8} (h : l[j]? = some c) : (Lib.byteCells l)[j]? = some (.int .u8 (c.toNat : Int)) := by
  simp [Lib.byteCells, List.getElem?_map, h]
theorem byteCells_one (l : List UInt8) : ∀ u ∈ Lib.byteCells l, u.oneCell' = true := by
  intro u hu
  simp only [Lib.byteCells, List.mem_map] at hu
  obtain ⟨c, _, rfl⟩ := hu
  rfl
theorem byteCells_append (a b : List UInt8) : Lib.byteCells (a ++ b) = Lib.byteCells a ++ Lib.byteCells b := by simp [Lib.byteCells]
theorem Byt.of_row {w : World} {base n cap : Nat} {e : TypeId} {a : Option Addr} {l : List UInt8} (hl : l.length = n) (h : w.ownsRow base e 1 (.slice a n cap) n (Lib.byteCells l)) : Byt w a l := by
  rcases Nat.eq_zero_or_pos n with c | c
  · left; exact List.length_eq_zero_iff.1 (by omega)
  · right
    obtain ⟨g, cap', hv, h1, _⟩ := row_open h c
    cases hv
    have hb : g < w.heap.size := by
      have h0 : l[0]? = some (l[0]'(by omega)) := List.getElem?_eq_getElem _
      exact World.block_lt_of_cell? _ _ (h1 0 _ (byteCells_at h0))
    exact ⟨g, 0, rfl, hb, fun i x hx => by rw [Nat.zero_add]; exact h1 _ _ (byteCells_at hx)⟩
theorem Byt.news {w : World} {a : Option Addr} {l : List UInt8} (h : Byt w a l) : ∀ (j : Nat) (u : Value), (Lib.byteCells l)[j]? = some u → ∃ ad, a = some ad ∧ w.cell? (ad.add j) = some u := by
  intro j u hu
  obtain ⟨c, h1, rfl⟩ := byteCells_get hu
  rcases h with h | ⟨b, off, h2, _, h3⟩
  · rw [h] at h1; simp at h1
  · refine ⟨_, h2, ?_⟩
    have hadd : (⟨b, off, none⟩ : Addr).add j = ⟨b, off + j, none⟩ := by unfold Addr.add; split <;> simp_all
    rw [hadd]
    exact h3 j c h1
theorem Byt.take {w : World} {a : Option Addr} {l : List UInt8} (h : Byt w a l) (k : Nat) : Byt w a (l.take k) := by
  rcases h with h | ⟨b, off, h2, h3, h4⟩
  · left; rw [h]; simp
  · refine Or.inr ⟨b, off, h2, h3, fun i c hc => h4 i c ?_⟩
    rw [List.getElem?_take] at hc
    split at hc
    · exact hc
    · cases hc
theorem Byt.drop {w : World} {b off : Nat} {l : List UInt8} (h : Byt w (some ⟨b, off, none⟩) l) (k : Nat) : Byt w (some ⟨b, off + k, none⟩) (l.drop k) := by
  rcases h with h | ⟨b', off', h2, h3, h4⟩
  · left; rw [h]; simp
  · cases h2
    refine Or.inr ⟨b, off + k, rfl, h3, fun i c hc => ?_⟩
    rw [List.getElem?_drop] at hc
    rw [Nat.add_assoc]
    exact h4 _ _ hc
theorem Byt.conv {P : Program} {w : World} {a : Option Addr} {l : List UInt8} (h : Byt w a l) (cap : Nat) (src dst e : TypeId) (hs : P.underlying src = some (.slice e)) (hd : P.underlying dst = some .string) (he : P.underlying e = some (.int .u8)) :
    (convert src dst (.slice a l.length cap)).run P w = .ok (.string ⟨l.toArray⟩) w := by
  rcases h with h | ⟨b, off, rfl, _, h3⟩
  · subst h
    cases a with
    | none => exact run_convert_bytes_nil w src e hs he 0 cap dst hd
    | some x =>
      show (convert src dst (.slice (some x) 0 cap)).run P w = _
      rw [run_convert_bytes_string w src dst e _ 0 cap hs he hd]
      have hl : (loadCells x 0).run P w = .ok #[] w := by
        have := run_loadCells_list (P := P) w x [] (fun j v hj => by simp at hj)
        simpa using this
      have := run_bytesToString (P := P) w x 0 cap [] (by simpa using hl)
      rw [this]
      rfl
  · refine run_convert_bytes_back w src dst e ⟨b, off, none⟩ cap l hs he hd (fun j hj => ?_)
    have hadd : (⟨b, off, none⟩ : Addr).add j = ⟨b, off + j, none⟩ := by unfold Addr.add; split <;> simp_all
    rw [hadd]
    exact h3 j _ (List.getElem?_eq_getElem hj)
/-- '[]byte(s)'. -/
theorem Byt.made (w : World) (s : ByteArray) (cap : Nat) (e : TypeId) (fr : Nat × Nat) : Byt (w.drew.alloc (.cells (bytesRow s cap) e fr)) (some ⟨w.heap.size, 0, none⟩) (L s) := by
  refine Or.inr ⟨w.heap.size, 0, rfl, by show w.heap.size < (w.drew.alloc _).heap.size; simp, fun i c hc => ?_⟩
  rw [Nat.zero_add]
  refine (World.cell?_alloc_mark w.drew (bytesRow s cap) e fr i).trans ?_
  have hi : i < s.data.size := by
    have := (List.getElem?_eq_some_iff.1 hc).1
    simpa [L] using this
  unfold bytesRow
  rw [Array.getElem?_append_left (by simpa using hi), Array.getElem?_map]
  have : s.data[i]? = some c := by rw [← hc]; simp [L]
  rw [this]
  rfl
/-- A slice of bytes that came in. -/
def rowL (len : Nat) (zs : List Int) : List UInt8 := (zs.take len).map fun z => UInt8.ofNat z.toNat
theorem rowL_len {w : World} {a : Option Addr} {len cap : Nat} {zs : List Int} (h : IsRow .u8 w a len cap zs) : (rowL len zs).length = len := by
  obtain ⟨h1, h2, h3⟩ := isrow_len h
  unfold rowL
  rw [List.length_map, List.length_take]
  omega
theorem Byt.of_isrow {w : World} {a : Option Addr} {len cap : Nat} {zs : List Int} (h : IsRow .u8 w a len cap zs) : Byt w a (rowL len zs) := by
  have hl := rowL_len h
  obtain ⟨h1, h2, h3⟩ := isrow_len h
  by_cases h0 : len = 0
  · left; exact List.length_eq_zero_iff.1 (by omega)
  · obtain ⟨b, off, rfl, hb, _, _⟩ := isrow_at h (k := 0) (by omega)
    refine Or.inr ⟨b, off, rfl, hb, fun i c hc => ?_⟩
    have hi : i < len := by have := (List.getElem?_eq_some_iff.1 hc).1; omega
    obtain ⟨b', off', hx, _, hc', hw⟩ := isrow_at h hi
    simp only [Option.some.injEq, Addr.mk.injEq, and_true] at hx
    obtain ⟨rfl, rfl⟩ := hx
    rw [hc']
    have : c = UInt8.ofNat (zs.getD i 0).toNat := by
      unfold rowL at hc
      rw [List.getElem?_map, List.getElem?_take_of_lt hi] at hc
      have hiz : i < zs.length := by omega
      rw [List.getElem?_eq_getElem hiz] at hc
      have := Option.some.inj hc
      rw [← this]
      simp [hiz]
    rw [this, byte_back hw]
/-- One byte of a row is set. -/
theorem byteCells_set (l : List UInt8) (k : Nat) (c : UInt8) : (Lib.byteCells l).set k (.int .u8 (c.toNat : Int)) = Lib.byteCells (l.set k c) := by
  simp [Lib.byteCells, List.map_set]
end Go.Proofs.YtppambkffgmkgaaDoor
end

section
/- The contract of the statements' Change. -/
namespace Go.Proofs.YtppambkffgmkgaaDoor
open Go.RowKit
set_option linter.unusedVariables false

theorem New.byt {w w' : World} {n : Nat} {v : Value} {l : List UInt8} (h : New w w' 5 1 v n (Lib.byteCells l)) (hn : n = l.length) : ∃ a' cap', v = .slice a' l.length cap' ∧ Byt w' a' l ∧ (∀ p, a' = some p → w.heap.size ≤ p.block) ∧ l.length ≤ cap' := by
  subst hn
  obtain ⟨a', cap', rfl⟩ := row_form h.row
  refine ⟨a', cap', rfl, Byt.of_row rfl h.row, h.yg, ?_⟩
  rcases h.row.2 with ⟨hv, h0⟩ | ⟨g, c, cur, hv, _, _, h1, _⟩
  · rw [h0]; exact Nat.zero_le _
  · cases hv; exact h1

end Go.Proofs.YtppambkffgmkgaaDoor
end
