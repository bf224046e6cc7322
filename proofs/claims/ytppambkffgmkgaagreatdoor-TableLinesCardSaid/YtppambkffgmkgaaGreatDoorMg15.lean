/- Merged: LActs By Chg -/
import Derived.Test.YtppambkffgmkgaaGreatDoorMg09
import Derived.Test.YtppambkffgmkgaaGreatDoorProg
import Derived.Deep.Slices
import Derived.Deep.Strs
import Derived.Lib.SmallJoins
import Derived.ChangeArms
import Derived.Test.YtppambkffgmkgaaGreatDoorMg07
import Derived.Test.YtppambkffgmkgaaGreatDoorMg11
import Derived.Laws.IdiomStrings
import Derived.Lib.UnsafeStr
import Derived.Deep.RegionHeld3
section
/- A life that came in. -/
namespace Go.Proofs.YtppambkffgmkgaaGreatDoor
open Go.RowKit Go.ChangeShapes Go.WideShapes
set_option linter.unusedVariables false

set_option maxRecDepth 100000 in
theorem open_lf {H : Type} {enc : TypeId × Value → H} {w : World} {base : Nat} {spare : Nat → Bool} {held : Bool} {fuel : Nat} {x : DataW H × List MemPlace} {cs : List Value}
    (h : DataW.trod enc Tryz.prog w base spare held fuel 81 cs = some x) : ∃ u v fr ti : Int, cs = [.int .u32 u, .int .u32 v, .int .i64 fr, .int .i64 ti] ∧
      (Lit.int .u32 u).wf = true ∧ (Lit.int .u32 v).wf = true ∧ (Lit.int .i64 fr).wf = true ∧ (Lit.int .i64 ti).wf = true := by
  have hc4 : Tryz.prog.cellsOf 81 = 4 := by kernel_rfl
  have hc2 : Tryz.prog.cellsOf 57 = 2 := by kernel_rfl
  have hk : Tryz.prog.cellsOf 55 = 1 := by kernel_rfl
  have hk2 : Tryz.prog.cellsOf 2 = 1 := by kernel_rfl
  obtain ⟨y0, y1, y2, n', _, hlen, ht0, ht1, ht2⟩ := Go.Deep.trod_struct3 Tryz.underlying81 h
  rw [hc4] at hlen
  match cs, hlen with
  | [v0, v1, v2, v3], _ =>
    simp only [hc2] at ht0
    obtain ⟨q0, q1, n2, _, _, hs0, hs1⟩ := trod_struct2 Tryz.underlying57 ht0
    obtain ⟨u, hu, _, hwu⟩ := DataW.trod_int Tryz.underlying55 hs0
    obtain ⟨p, hp, _, hwp⟩ := DataW.trod_int Tryz.underlying55 hs1
    obtain ⟨q, hq, _, hwq⟩ := DataW.trod_int Tryz.underlying2 ht1
    obtain ⟨r, hr, _, hwr⟩ := DataW.trod_int Tryz.underlying2 ht2
    have e0 : v0 = .int .u32 u := by simp [hk] at hu; exact hu
    have e1 : v1 = .int .u32 p := by simp [hk] at hp; exact hp
    have e2 : v2 = .int .i64 q := by simp [hk2] at hq; exact hq
    have e3 : v3 = .int .i64 r := by simp [hk2] at hr; exact hr
    subst e0 e1 e2 e3
    exact ⟨u, p, q, r, rfl, hwu, hwp, hwq, hwr⟩
set_option maxRecDepth 100000 in
theorem open_lf_arg {H : Type} {enc : TypeId × Value → H} {w w2 : World} {base base2 : Nat} {r : Reach} {spare : Nat → Bool} {held : Bool} {v : Value} {x : DataW H × List MemPlace}
    (ho : Value.okWide Tryz.prog w2 r base2 81 v) (h : ∃ fuel, DataW.trod enc Tryz.prog w base spare held fuel 81 v.cells.toList = some x) : ∃ u q fr ti : Int, v = .agg #[.int .u32 u, .int .u32 q, .int .i64 fr, .int .i64 ti] ∧
      (Lit.int .u32 u).wf = true ∧ (Lit.int .u32 q).wf = true ∧ (Lit.int .i64 fr).wf = true ∧ (Lit.int .i64 ti).wf = true := by
  obtain ⟨cs, rfl, _⟩ := okWide_struct Tryz.underlying81 ho
  obtain ⟨fuel, hf⟩ := h
  obtain ⟨u, q, fr, ti, hcs, hw⟩ := open_lf hf
  refine ⟨u, q, fr, ti, ?_, hw⟩
  have : cs.toList = [.int .u32 u, .int .u32 q, .int .i64 fr, .int .i64 ti] := by simpa [Value.cells] using hcs
  rw [show cs = #[.int .u32 u, .int .u32 q, .int .i64 fr, .int .i64 ti] from Array.toList_inj.1 this]
end Go.Proofs.YtppambkffgmkgaaGreatDoor
end

section
/- Bytes in memory: slices of bytes, their texts. Nothing of one function in it. -/
namespace Go.Proofs.YtppambkffgmkgaaGreatDoor
open Go.RowKit
set_option linter.unusedVariables false

theorem info_byte : (Tryz.prog.info? 5).map (fun i => (i.zero, i.size, i.bytes)) = some (some (.int .u8 0), 1, 1) := by kernel_rfl
/-- A slice of bytes. -/
def Byt (w : World) (a : Option Addr) (l : List UInt8) : Prop := l = [] ∨ ∃ b off, a = some ⟨b, off, none⟩ ∧ b < w.heap.size ∧ ∀ (i : Nat) (c : UInt8), l[i]? = some c → w.cell? ⟨b, off + i, none⟩ = some (.int .u8 c.toNat)
theorem Byt.modS {S : Nat → Prop} {w w' : World} {a : Option Addr} {l : List UInt8} (h : Byt w a l) (hm : Mod w w' S) (hs : ∀ b, b < w.heap.size → (∃ p, a = some p ∧ p.block = b) → ¬ S b) : Byt w' a l := by
  rcases h with h | ⟨b, off, rfl, hb, h⟩
  · exact Or.inl h
  · have hn : ¬ S b := hs b hb ⟨_, rfl, rfl⟩
    exact Or.inr ⟨b, off, rfl, Nat.lt_of_lt_of_le hb hm.size, fun i c hc => (hm.cell (p := ⟨b, off + i, none⟩) hb hn).trans (h i c hc)⟩
theorem Byt.mod {w w' : World} {a : Option Addr} {l : List UInt8} (h : Byt w a l) (hm : Mod w w' NoB) : Byt w' a l := h.modS hm (fun _ _ _ c => c)
theorem Byt.young {S : Nat → Prop} {w w' : World} {a : Option Addr} {l : List UInt8} (h : Byt w a l) (hm : Mod w w' S) (hs : ∀ q, S q → w.heap.size ≤ q) : Byt w' a l := h.modS hm (fun b hb _ c => Nat.not_lt.2 (hs b c) hb)
theorem Byt.at {w : World} {a : Option Addr} {l : List UInt8} (h : Byt w a l) {k : Nat} (hk : k < l.length) : ∃ b off, a = some ⟨b, off, none⟩ ∧ b < w.heap.size ∧ w.cell? ⟨b, off + k, none⟩ = some (.int .u8 (l[k].toNat : Int)) := by
  rcases h with h | ⟨b, off, h1, h2, h3⟩
  · rw [h] at hk; simp at hk
  · exact ⟨b, off, h1, h2, h3 k _ (List.getElem?_eq_getElem hk)⟩
theorem Byt.nil (w : World) (a : Option Addr) : Byt w a [] := Or.inl rfl
theorem byteCells_len (l : List UInt8) : (Lib.byteCells l).length = l.length := by simp [Lib.byteCells]
theorem byteCells_get {l : List UInt8} {j : Nat} {u : Value} (h : (Lib.byteCells l)[j]? = some u) : ∃ c, l[j]? = some c ∧ u = .int .u8 (c.toNat : Int) := by
  simp only [Lib.byteCells, List.getElem?_map, Option.map_eq_some_iff] at h
  obtain ⟨c, h1, h2⟩ := h
  exact ⟨c, h1, h2.symm⟩
theorem byteCells_at {l : List UInt8} {j : Nat} {c : UInt8} (h : l[j]? = some c) : (Lib.byteCells l)[j]? = some (.int .u8 (c.toNat : Int)) := by
  simp [Lib.byteCells, List.getElem?_map, h]
theorem byteCells_one (l : List UInt8) : ∀ u ∈ Lib.byteCells l, u.oneCell' = true := by
  intro u hu
  simp only [Lib.byteCells, List.mem_map] at hu
  obtain ⟨c, _, rfl⟩ := hu
  rfl
theorem byteCells_append (a b : List UInt8) : Lib.byteCells (a ++ b) = Lib.byteCells a ++ Lib.byteCells b := by simp [Lib.byteCells]
theorem Byt.of_row {w : World} {base n cap : Nat} {e : TypeId} {a : Option Addr} {l : List UInt8} (hl : l.length = n) (h : w.ownsRow base e 1 (.slice a n cap) n (Lib.byteCells l)) : Byt w a l := by
  rcases Nat.eq_zero_or_pos n with c | c
  · left; exact List.length_eq_zero_iff.1 (by omega)
  · right
    obtain ⟨g, cap', hv, h1, _⟩ := row_open h c
    cases hv
    have hb : g < w.heap.size := by
      have h0 : l[0]? = some (l[0]'(by omega)) := List.getElem?_eq_getElem _
      exact World.block_lt_of_cell? _ _ (h1 0 _ (byteCells_at h0))
    exact ⟨g, 0, rfl, hb, fun i x hx => by rw [Nat.zero_add]; exact h1 _ _ (byteCells_at hx)⟩
theorem Byt.news {w : World} {a : Option Addr} {l : List UInt8} (h : Byt w a l) : ∀ (j : Nat) (u : Value), (Lib.byteCells l)[j]? = some u → ∃ ad, a = some ad ∧ w.cell? (ad.add j) = some u := by
  intro j u hu
  obtain ⟨c, h1, rfl⟩ := byteCells_get hu
  rcases h with h | ⟨b, off, h2, _, h3⟩
  · rw [h] at h1; simp at h1
  · refine ⟨_, h2, ?_⟩
    have hadd : (⟨b, off, none⟩ : Addr).add j = ⟨b, off + j, none⟩ := by unfold Addr.add; split <;> simp_all
    rw [hadd]
    exact h3 j c h1
theorem Byt.take {w : World} {a : Option Addr} {l : List UInt8} (h : Byt w a l) (k : Nat) : Byt w a (l.take k) := by
  rcases h with h | ⟨b, off, h2, h3, h4⟩
  · left; rw [h]; simp
  · refine Or.inr ⟨b, off, h2, h3, fun i c hc => h4 i c ?_⟩
    rw [List.getElem?_take] at hc
    split at hc
    · exact hc
    · cases hc
theorem Byt.drop {w : World} {b off : Nat} {l : List UInt8} (h : Byt w (some ⟨b, off, none⟩) l) (k : Nat) : Byt w (some ⟨b, off + k, none⟩) (l.drop k) := by
  rcases h with h | ⟨b', off', h2, h3, h4⟩
  · left; rw [h]; simp
  · cases h2
    refine Or.inr ⟨b, off + k, rfl, h3, fun i c hc => ?_⟩
    rw [List.getElem?_drop] at hc
    rw [Nat.add_assoc]
    exact h4 _ _ hc
theorem Byt.conv {P : Program} {w : World} {a : Option Addr} {l : List UInt8} (h : Byt w a l) (cap : Nat) (src dst e : TypeId) (hs : P.underlying src = some (.slice e)) (hd : P.underlying dst = some .string) (he : P.underlying e = some (.int .u8)) :
    (convert src dst (.slice a l.length cap)).run P w = .ok (.string ⟨l.toArray⟩) w := by
  rcases h with h | ⟨b, off, rfl, _, h3⟩
  · subst h
    cases a with
    | none => exact run_convert_bytes_nil w src e hs he 0 cap dst hd
    | some x =>
      show (convert src dst (.slice (some x) 0 cap)).run P w = _
      rw [run_convert_bytes_string w src dst e _ 0 cap hs he hd]
      have hl : (loadCells x 0).run P w = .ok #[] w := by
        have := run_loadCells_list (P := P) w x [] (fun j v hj => by simp at hj)
        simpa using this
      have := run_bytesToString (P := P) w x 0 cap [] (by simpa using hl)
      rw [this]
      rfl
  · refine run_convert_bytes_back w src dst e ⟨b, off, none⟩ cap l hs he hd (fun j hj => ?_)
    have hadd : (⟨b, off, none⟩ : Addr).add j = ⟨b, off + j, none⟩ := by unfold Addr.add; split <;> simp_all
    rw [hadd]
    exact h3 j _ (List.getElem?_eq_getElem hj)
/-- '[]byte(s)'. -/
theorem Byt.made (w : World) (s : ByteArray) (cap : Nat) (e : TypeId) (fr : Nat × Nat) : Byt (w.drew.alloc (.cells (bytesRow s cap) e fr)) (some ⟨w.heap.size, 0, none⟩) (L s) := by
  refine Or.inr ⟨w.heap.size, 0, rfl, by show w.heap.size < (w.drew.alloc _).heap.size; simp, fun i c hc => ?_⟩
  rw [Nat.zero_add]
  refine (World.cell?_alloc_mark w.drew (bytesRow s cap) e fr i).trans ?_
  have hi : i < s.data.size := by
    have := (List.getElem?_eq_some_iff.1 hc).1
    simpa [L] using this
  unfold bytesRow
  rw [Array.getElem?_append_left (by simpa using hi), Array.getElem?_map]
  have : s.data[i]? = some c := by rw [← hc]; simp [L]
  rw [this]
  rfl
/-- A slice of bytes that came in. -/
def rowL (len : Nat) (zs : List Int) : List UInt8 := (zs.take len).map fun z => UInt8.ofNat z.toNat
theorem rowL_len {w : World} {a : Option Addr} {len cap : Nat} {zs : List Int} (h : IsRow .u8 w a len cap zs) : (rowL len zs).length = len := by
  obtain ⟨h1, h2, h3⟩ := isrow_len h
  unfold rowL
  rw [List.length_map, List.length_take]
  omega
theorem Byt.of_isrow {w : World} {a : Option Addr} {len cap : Nat} {zs : List Int} (h : IsRow .u8 w a len cap zs) : Byt w a (rowL len zs) := by
  have hl := rowL_len h
  obtain ⟨h1, h2, h3⟩ := isrow_len h
  by_cases h0 : len = 0
  · left; exact List.length_eq_zero_iff.1 (by omega)
  · obtain ⟨b, off, rfl, hb, _, _⟩ := isrow_at h (k := 0) (by omega)
    refine Or.inr ⟨b, off, rfl, hb, fun i c hc => ?_⟩
    have hi : i < len := by have := (List.getElem?_eq_some_iff.1 hc).1; omega
    obtain ⟨b', off', hx, _, hc', hw⟩ := isrow_at h hi
    simp only [Option.some.injEq, Addr.mk.injEq, and_true] at hx
    obtain ⟨rfl, rfl⟩ := hx
    rw [hc']
    have : c = UInt8.ofNat (zs.getD i 0).toNat := by
      unfold rowL at hc
      rw [List.getElem?_map, List.getElem?_take_of_lt hi] at hc
      have hiz : i < zs.length := by omega
      rw [List.getElem?_eq_getElem hiz] at hc
      have := Option.some.inj hc
      rw [← this]
      simp [hiz]
    rw [this, byte_back hw]
/-- One byte of a row is set. -/
theorem byteCells_set (l : List UInt8) (k : Nat) (c : UInt8) : (Lib.byteCells l).set k (.int .u8 (c.toNat : Int)) = Lib.byteCells (l.set k c) := by
  simp [Lib.byteCells, List.map_set]
end Go.Proofs.YtppambkffgmkgaaGreatDoor
end

section
/- The contract of the statements' Change. -/
namespace Go.Proofs.YtppambkffgmkgaaGreatDoor
open Go.RowKit
set_option linter.unusedVariables false

theorem New.byt {w w' : World} {n : Nat} {v : Value} {l : List UInt8} (h : New w w' 5 1 v n (Lib.byteCells l)) (hn : n = l.length) : ∃ a' cap', v = .slice a' l.length cap' ∧ Byt w' a' l ∧ (∀ p, a' = some p → w.heap.size ≤ p.block) ∧ l.length ≤ cap' := by
  subst hn
  obtain ⟨a', cap', rfl⟩ := row_form h.row
  refine ⟨a', cap', rfl, Byt.of_row rfl h.row, h.yg, ?_⟩
  rcases h.row.2 with ⟨hv, h0⟩ | ⟨g, c, cur, hv, _, _, h1, _⟩
  · rw [h0]; exact Nat.zero_le _
  · cases hv; exact h1

set_option maxRecDepth 100000 in
set_option maxHeartbeats 4000000 in
theorem change_any (w : World) (a am : Option Addr) (cap capm : Nat) (B M : List UInt8) (how ath c : Int) (hB : Byt w a B) (hM : Byt w am M) (hcap : B.length ≤ cap) (hl : B.length ≤ 40000) (hlm : M.length ≤ 40000) (h1 : 0 ≤ how ∧ how ≤ 255) (h2 : 0 ≤ ath ∧ ath ≤ 65535) (h3 : 0 ≤ c ∧ c ≤ 255) :
    Calls Tryz.prog 14 #[.slice a B.length cap, .int .u8 how, .int .u16 ath, .int .u8 c, .slice am M.length capm] w fun e w' => ∃ (a' : Option Addr) (cap' : Nat) (R : List UInt8), e = .returned (.slice a' R.length cap') ∧ Byt w' a' R ∧ R.length ≤ B.length + M.length ∧ R.length ≤ cap' ∧ Mod w w' NoB := by
  have hmx := mixed
  obtain ⟨i0, hi, hz0, hz1, hz2⟩ := info_parts info_byte
  have HB := Lib.hid (And.intro hB hM)
  have N1 : 0 + B.length ≤ maxLen := by unfold maxLen; omega
  have N2 : (0 + B.length) * 1 ≤ 140737488355328 := by omega
  clear hB hM
  go_enter Tryz.func14, Tryz.ntmps14
  go_upto_region 2 with (at_builtin; refine wpList_append_row _ rfl _ _ 26 rfl 5 i0 (.int .u8 0) 1 1 Tryz.underlying26 hi hz0 hz1 hz2 rfl (by decide) (.slice none 0 0) 0 [] rfl (World.ownsRow_nil _ _ _ _) a B.length cap (Lib.byteCells B) rfl (by rw [byteCells_len, Nat.mul_one]) HB.out.1.news (byteCells_one B) N1 N2 ?_; intro v1 w1 hown hgrow hat; have H1 := Lib.hid (New.first hown hgrow hat); clear hown hgrow hat)
  obtain ⟨a1, c1, rfl, k1, k2, k3⟩ := H1.out.byt rfl
  have HB1 := Lib.hid (And.intro k1 k2)
  clear k1 k2
  by_cases hB0 : B.length = 0
  · have hBi : (B.length : Int) = 0 := by omega
    have M1 : 0 + M.length ≤ maxLen := by unfold maxLen; omega
    have M2 : (0 + M.length) * 1 ≤ 140737488355328 := by omega
    go_wp2_with (at_builtin; refine wpList_append_row _ rfl _ _ 26 rfl 5 i0 (.int .u8 0) 1 1 Tryz.underlying26 hi hz0 hz1 hz2 rfl (by decide) (.slice none 0 0) 0 [] rfl (World.ownsRow_nil _ _ _ _) am M.length capm (Lib.byteCells M) rfl (by rw [byteCells_len, Nat.mul_one]) (HB.out.2.mod H1.out.mod).news (byteCells_one M) M1 M2 ?_; intro v2 w2 hown hgrow hat; have H2 := Lib.hid (New.first hown hgrow hat); clear hown hgrow hat)
    obtain ⟨a2, c2, rfl, k1, k2, k4⟩ := H2.out.byt rfl
    have HB2 := Lib.hid k1
    clear k1 k2
    go_ret
    exact ⟨a2, c2, M, rfl, HB2.out, by omega, k4, H1.out.mod.trans H2.out.mod (fun _ _ c => c)⟩
  · have hBi : ¬ (B.length : Int) = 0 := by omega
    have hBp : (0 : Int) < B.length := by omega
    obtain ⟨b, off, rfl, hbl, hcell⟩ : ∃ b off, a = some ⟨b, off, none⟩ ∧ b < w.heap.size ∧ ∀ (i : Nat) (c : UInt8), B[i]? = some c → w.cell? ⟨b, off + i, none⟩ = some (.int .u8 c.toNat) := by
      rcases HB.out.1 with h | h
      · rw [h] at hB0; simp at hB0
      · exact h
    obtain ⟨g, c1', hv, hg1, hg2, hg3, hg4⟩ := row_open H1.out.row (by omega)
    have ha1 : a1 = some ⟨g, 0, none⟩ := by injection hv
    subst ha1
    clear hv hcell hbl hg1 hg3 hg4
    obtain ⟨k, hk, hkl⟩ : ∃ k : Nat, ath % (B.length : Int) = (k : Int) ∧ k < B.length := by
      have e1 := Int.emod_nonneg ath (show (B.length : Int) ≠ 0 by omega)
      have e2 := Int.emod_lt_of_pos ath hBp
      exact ⟨(ath % (B.length : Int)).toNat, by omega, by omega⟩
    have hml : how % 5 = 0 ∨ how % 5 = 1 ∨ how % 5 = 2 ∨ how % 5 = 3 ∨ how % 5 = 4 := by omega
    have hki : (k : Int) < B.length := by omega
    have hki2 : (k : Int) ≤ B.length := by omega
    have hkc : (k : Int) ≤ cap := by omega
    have hkc1 : (k : Int) ≤ c1 := by omega
    have hk0 : (0 : Int) ≤ k := by omega
    have hBc : (B.length : Int) ≤ cap := by omega
    have HBa : Hid (∀ z, Mod w z NoB → Byt z (some ⟨b, off, none⟩) B) := fun z hz => HB.out.1.mod hz
    have HMa : Hid (∀ z, Mod w z NoB → Byt z am M) := fun z hz => HB.out.2.mod hz
    have hcc := H1.out.mod
    have HM1 := Lib.hid hcc
    clear hcc
    go_upto_block 0 with (fail)
    rw [hk]
    obtain ⟨m, hm⟩ : ∃ m, how % 5 = m := ⟨_, rfl⟩
    rw [hm] at hml ⊢
    clear hm
    rcases hml with rfl | rfl | rfl | rfl | rfl
    · obtain ⟨g', o', e1, -, u0⟩ := HB1.out.1.at hkl
      cases e1
      have fr := hg2 (0 + k)
      simp only [Nat.zero_add] at u0 fr
      have HR : Hid (Byt (w1.setCell ⟨g, k, none⟩ (.int .u8 c)) (some ⟨g, 0, none⟩) (B.set k (UInt8.ofNat c.toNat)) ∧ Mod w (w1.setCell ⟨g, k, none⟩ (.int .u8 c)) NoB) := by
        have hc8 : (((UInt8.ofNat c.toNat).toNat : Nat) : Int) = c := by
          have h2 : c.toNat < 256 := by omega
          rw [UInt8.toNat_ofNat_of_lt' h2]; omega
        have hr := row_set k (.int .u8 c) H1.out.row
        rw [show (Value.int .u8 c) = .int .u8 (((UInt8.ofNat c.toNat).toNat : Nat) : Int) by rw [hc8]] at hr ⊢
        rw [byteCells_set] at hr
        refine ⟨Byt.of_row (by simp) hr, ?_⟩
        exact HM1.out.setCell (p := ⟨g, k, none⟩) (fun c => absurd c (Nat.not_lt.2 (HB1.out.2 ⟨g, 0, none⟩ rfl))) _
      have HL : Hid ((B.set k (UInt8.ofNat c.toNat)).length = B.length) := by show _ = _; simp
      go_wp2_with fail
      go_ret
      exact ⟨some ⟨g, 0, none⟩, c1, B.set k (UInt8.ofNat c.toNat), by rw [HL.out]; rfl, HR.out.1, by rw [HL.out]; omega, by rw [HL.out]; exact k3, HR.out.2⟩
    · obtain ⟨g', o', e1, -, u0⟩ := HB1.out.1.at hkl
      cases e1
      have fr := hg2 (0 + k)
      simp only [Nat.zero_add] at u0 fr
      have HR : Hid (Byt (w1.setCell ⟨g, k, none⟩ (.int .u8 c)) (some ⟨g, 0, none⟩) (B.set k (UInt8.ofNat c.toNat)) ∧ Mod w (w1.setCell ⟨g, k, none⟩ (.int .u8 c)) NoB) := by
        have hc8 : (((UInt8.ofNat c.toNat).toNat : Nat) : Int) = c := by
          have h2 : c.toNat < 256 := by omega
          rw [UInt8.toNat_ofNat_of_lt' h2]; omega
        have hr := row_set k (.int .u8 c) H1.out.row
        rw [show (Value.int .u8 c) = .int .u8 (((UInt8.ofNat c.toNat).toNat : Nat) : Int) by rw [hc8]] at hr ⊢
        rw [byteCells_set] at hr
        refine ⟨Byt.of_row (by simp) hr, ?_⟩
        exact HM1.out.setCell (p := ⟨g, k, none⟩) (fun c => absurd c (Nat.not_lt.2 (HB1.out.2 ⟨g, 0, none⟩ rfl))) _
      have HL : Hid ((B.set k (UInt8.ofNat c.toNat)).length = B.length) := by show _ = _; simp
      go_wp2_with fail
      go_ret
      exact ⟨some ⟨g, 0, none⟩, c1, B.set k (UInt8.ofNat c.toNat), by rw [HL.out]; rfl, HR.out.1, by rw [HL.out]; omega, by rw [HL.out]; exact k3, HR.out.2⟩
    · have HN : Hid ((Lib.byteCells (B.take k)).length = k * 1 ∧ (∀ z, Mod w z NoB → ∀ (j : Nat) (u : Value), (Lib.byteCells (B.take k))[j]? = some u → ∃ ad, (some ⟨b, off, none⟩ : Option Addr) = some ad ∧ z.cell? (ad.add j) = some u) ∧ 0 + k ≤ maxLen ∧ (0 + k) * 1 ≤ 140737488355328) :=
        ⟨by rw [byteCells_len, List.length_take]; omega, fun z hz => ((HBa.out z hz).take k).news, by omega, by omega⟩
      have HN2 : Hid ((Lib.byteCells M).length = M.length * 1 ∧ (∀ z, Mod w z NoB → ∀ (j : Nat) (u : Value), (Lib.byteCells M)[j]? = some u → ∃ ad, am = some ad ∧ z.cell? (ad.add j) = some u) ∧ k + M.length ≤ maxLen ∧ (k + M.length) * 1 ≤ 140737488355328) :=
        ⟨by rw [byteCells_len, Nat.mul_one], fun z hz => (HMa.out z hz).news, by unfold maxLen; omega, by omega⟩
      have HN3 : Hid ((Lib.byteCells (B.drop k)).length = (B.length - k) * 1 ∧ (∀ z, Mod w z NoB → ∀ (j : Nat) (u : Value), (Lib.byteCells (B.drop k))[j]? = some u → ∃ ad, (some ⟨b, off + k, none⟩ : Option Addr) = some ad ∧ z.cell? (ad.add j) = some u) ∧ k + M.length + (B.length - k) ≤ maxLen ∧ (k + M.length + (B.length - k)) * 1 ≤ 140737488355328) :=
        ⟨by rw [byteCells_len, List.length_drop, Nat.mul_one], fun z hz => ((HBa.out z hz).drop k).news, by unfold maxLen; omega, by omega⟩
      have hck : ¬ cap = k := by omega
      have hck2 : ¬ cap - k = 0 := by omega
      go_upto_region 11 with (fail)
      go_region_held3 (fun _ => True) (trivial) (first
        | (refine step_append_row _ rfl _ _ 26 rfl 5 i0 (.int .u8 0) 1 1 Tryz.underlying26 hi hz0 hz1 hz2 rfl (by decide) (.slice none 0 0) 0 [] rfl (World.ownsRow_nil _ _ _ _) _ k _ (Lib.byteCells (B.take k)) rfl HN.out.1 (HN.out.2.1 _ (HM1.out.trans (Mod.drew (Mod.refl _ _)) (fun _ _ c => c))) (byteCells_one _) HN.out.2.2.1 HN.out.2.2.2 ?_; intro v6 w6 hown6 hgrow6 hat6; have H6 := Lib.hid ((New.first hown6 hgrow6 hat6).from (HM1.out.trans (Mod.drew (Mod.refl w1 NoB)) (fun _ _ c => c))); clear hown6 hgrow6 hat6)
        | (refine step_append_row _ rfl _ _ 26 rfl 5 i0 (.int .u8 0) 1 1 Tryz.underlying26 hi hz0 hz1 hz2 rfl (by decide) v6 k _ rfl H6.out.row _ M.length _ (Lib.byteCells M) rfl HN2.out.1 (HN2.out.2.1 _ H6.out.mod) (byteCells_one _) HN2.out.2.2.1 HN2.out.2.2.2 ?_; intro v7 w7 hown7 hgrow7 hat7; have H7 := Lib.hid (H6.out.more hown7 hgrow7 hat7); clear hown7 hgrow7 hat7)
        | (refine step_append_row _ rfl _ _ 26 rfl 5 i0 (.int .u8 0) 1 1 Tryz.underlying26 hi hz0 hz1 hz2 rfl (by decide) v7 (k + M.length) _ rfl H7.out.row _ (B.length - k) _ (Lib.byteCells (B.drop k)) rfl HN3.out.1 (HN3.out.2.1 _ H7.out.mod) (byteCells_one _) HN3.out.2.2.1 HN3.out.2.2.2 ?_; intro v8 w8 hown8 hgrow8 hat8; have H8 := Lib.hid (H7.out.more hown8 hgrow8 hat8); clear hown8 hgrow8 hat8))
      all_goals
        obtain ⟨a8, c8, rfl⟩ := row_form H8.out.row
        have HR : Hid (Byt w8 a8 (B.take k ++ M ++ B.drop k) ∧ (B.take k ++ M ++ B.drop k).length = k + M.length + (B.length - k) ∧ k + M.length + (B.length - k) ≤ c8) := by
          have hlen : (B.take k ++ M ++ B.drop k).length = k + M.length + (B.length - k) := by simp; omega
          have hr := H8.out.row
          rw [← byteCells_append, ← byteCells_append] at hr
          refine ⟨Byt.of_row hlen hr, hlen, ?_⟩
          rcases hr.2 with ⟨hv, h0⟩ | ⟨g, c, cur, hv, _, _, h1, _⟩
          · rw [h0]; exact Nat.zero_le _
          · cases hv; exact h1
        go_wp2_with fail
        go_ret
        exact ⟨a8, c8, B.take k ++ M ++ B.drop k, by rw [HR.out.2.1]; rfl, HR.out.1, by rw [HR.out.2.1]; omega, by rw [HR.out.2.1]; exact HR.out.2.2, H8.out.mod⟩
    · have HL : Hid ((B.take k).length = k) := by show _ = _; rw [List.length_take]; omega
      go_wp2_with fail
      go_ret
      exact ⟨some ⟨g, 0, none⟩, c1, B.take k, by rw [HL.out]; rfl, HB1.out.1.take k, by rw [HL.out]; omega, by rw [HL.out]; omega, HM1.out⟩
    · have HN : Hid ((Lib.byteCells (B.take k)).length = k * 1 ∧ (∀ z, Mod w z NoB → ∀ (j : Nat) (u : Value), (Lib.byteCells (B.take k))[j]? = some u → ∃ ad, (some ⟨b, off, none⟩ : Option Addr) = some ad ∧ z.cell? (ad.add j) = some u) ∧ 0 + k ≤ maxLen ∧ (0 + k) * 1 ≤ 140737488355328) :=
        ⟨by rw [byteCells_len, List.length_take]; omega, fun z hz => ((HBa.out z hz).take k).news, by omega, by omega⟩
      have hw1 : IntKind.i64.wrap ((k : Int) + 1) = (k : Int) + 1 := IntWalk.i64_in _ (by omega)
      have hk1 : (0 : Int) ≤ (k : Int) + 1 := by omega
      have hk2 : (k : Int) + 1 ≤ B.length := by omega
      have hk3 : (k : Int) + 1 ≤ cap := by omega
      have hti : ((k : Int) + 1).toNat = k + 1 := by omega
      by_cases hce : cap = k + 1
      · have HN3 : Hid (B.length - (k + 1) = 0 ∧ k + 0 ≤ maxLen ∧ (k + 0) * 1 ≤ 140737488355328) := by refine ⟨by omega, by unfold maxLen; omega, by omega⟩
        subst hce
        have hx1 : (k : Int) ≤ (k : Int) + 1 := by omega
        have hx2 : (B.length : Int) ≤ (k : Int) + 1 := by omega
        go_upto_region 6 with (fail)
        go_region_held3 (fun _ => True) (trivial) (first
          | (refine step_append_row _ rfl _ _ 26 rfl 5 i0 (.int .u8 0) 1 1 Tryz.underlying26 hi hz0 hz1 hz2 rfl (by decide) (.slice none 0 0) 0 [] rfl (World.ownsRow_nil _ _ _ _) _ k _ (Lib.byteCells (B.take k)) rfl HN.out.1 (HN.out.2.1 _ (HM1.out.trans (Mod.drew (Mod.refl _ _)) (fun _ _ c => c))) (byteCells_one _) HN.out.2.2.1 HN.out.2.2.2 ?_; intro v6 w6 hown6 hgrow6 hat6; have H6 := Lib.hid ((New.first hown6 hgrow6 hat6).from (HM1.out.trans (Mod.drew (Mod.refl w1 NoB)) (fun _ _ c => c))); clear hown6 hgrow6 hat6)
          | (refine step_append_row _ rfl _ _ 26 rfl 5 i0 (.int .u8 0) 1 1 Tryz.underlying26 hi hz0 hz1 hz2 rfl (by decide) v6 k _ rfl H6.out.row _ 0 _ [] rfl rfl (no_news rfl) (fun u hu => by cases hu) HN3.out.2.1 HN3.out.2.2 ?_; intro v7 w7 hown7 hgrow7 hat7; have H7 := Lib.hid (H6.out.more hown7 hgrow7 hat7); clear hown7 hgrow7 hat7))
        all_goals
          obtain ⟨a7, c7, rfl⟩ := row_form H7.out.row
          have HR : Hid (Byt w7 a7 (B.take k) ∧ (B.take k).length = k ∧ k ≤ c7) := by
            have hlen : (B.take k).length = k := by rw [List.length_take]; omega
            have hr := H7.out.row
            rw [List.append_nil, Nat.add_zero] at hr
            refine ⟨Byt.of_row hlen hr, hlen, ?_⟩
            rcases hr.2 with ⟨hv, h0⟩ | ⟨g, c, cur, hv, _, _, h1, _⟩
            · cases hv; omega
            · cases hv; exact h1
          go_wp2_with fail
          go_ret
          exact ⟨a7, c7, B.take k, by rw [HR.out.2.1]; rfl, HR.out.1, by rw [HR.out.2.1]; omega, by rw [HR.out.2.1]; exact HR.out.2.2, H7.out.mod⟩
      · have hce2 : ¬ cap - (k + 1) = 0 := by omega
        have HN3 : Hid ((Lib.byteCells (B.drop (k + 1))).length = (B.length - (k + 1)) * 1 ∧ (∀ z, Mod w z NoB → ∀ (j : Nat) (u : Value), (Lib.byteCells (B.drop (k + 1)))[j]? = some u → ∃ ad, (some ⟨b, off + (k + 1), none⟩ : Option Addr) = some ad ∧ z.cell? (ad.add j) = some u) ∧ k + (B.length - (k + 1)) ≤ maxLen ∧ (k + (B.length - (k + 1))) * 1 ≤ 140737488355328) :=
          ⟨by rw [byteCells_len, List.length_drop, Nat.mul_one], fun z hz => ((HBa.out z hz).drop (k + 1)).news, by unfold maxLen; omega, by omega⟩
        go_upto_region 6 with (fail)
        go_region_held3 (fun _ => True) (trivial) (first
          | (refine step_append_row _ rfl _ _ 26 rfl 5 i0 (.int .u8 0) 1 1 Tryz.underlying26 hi hz0 hz1 hz2 rfl (by decide) (.slice none 0 0) 0 [] rfl (World.ownsRow_nil _ _ _ _) _ k _ (Lib.byteCells (B.take k)) rfl HN.out.1 (HN.out.2.1 _ (HM1.out.trans (Mod.drew (Mod.refl _ _)) (fun _ _ c => c))) (byteCells_one _) HN.out.2.2.1 HN.out.2.2.2 ?_; intro v6 w6 hown6 hgrow6 hat6; have H6 := Lib.hid ((New.first hown6 hgrow6 hat6).from (HM1.out.trans (Mod.drew (Mod.refl w1 NoB)) (fun _ _ c => c))); clear hown6 hgrow6 hat6)
          | (refine step_append_row _ rfl _ _ 26 rfl 5 i0 (.int .u8 0) 1 1 Tryz.underlying26 hi hz0 hz1 hz2 rfl (by decide) v6 k _ rfl H6.out.row _ (B.length - (k + 1)) _ (Lib.byteCells (B.drop (k + 1))) rfl HN3.out.1 (HN3.out.2.1 _ H6.out.mod) (byteCells_one _) HN3.out.2.2.1 HN3.out.2.2.2 ?_; intro v7 w7 hown7 hgrow7 hat7; have H7 := Lib.hid (H6.out.more hown7 hgrow7 hat7); clear hown7 hgrow7 hat7))
        all_goals
          obtain ⟨a7, c7, rfl⟩ := row_form H7.out.row
          have HR : Hid (Byt w7 a7 (B.take k ++ B.drop (k + 1)) ∧ (B.take k ++ B.drop (k + 1)).length = k + (B.length - (k + 1)) ∧ k + (B.length - (k + 1)) ≤ c7) := by
            have hlen : (B.take k ++ B.drop (k + 1)).length = k + (B.length - (k + 1)) := by simp; omega
            have hr := H7.out.row
            rw [← byteCells_append] at hr
            refine ⟨Byt.of_row hlen hr, hlen, ?_⟩
            rcases hr.2 with ⟨hv, h0⟩ | ⟨g, c, cur, hv, _, _, h1, _⟩
            · rw [h0]; exact Nat.zero_le _
            · cases hv; exact h1
          go_wp2_with fail
          go_ret
          exact ⟨a7, c7, B.take k ++ B.drop (k + 1), by rw [HR.out.2.1]; rfl, HR.out.1, by rw [HR.out.2.1]; omega, by rw [HR.out.2.1]; exact HR.out.2.2, H7.out.mod⟩
end Go.Proofs.YtppambkffgmkgaaGreatDoor
end
