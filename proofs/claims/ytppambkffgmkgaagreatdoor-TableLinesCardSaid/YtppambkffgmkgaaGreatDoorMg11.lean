/- Merged: Scan ScanN ScanM -/
import Derived.Test.YtppambkffgmkgaaGreatDoorProg
import Derived.Test.YtppambkffgmkgaaGreatDoorMg01
import Derived.Test.YtppambkffgmkgaaGreatDoorMg10
import Derived.WalkSpells
import Derived.WalkLawsBesides
import Derived.Lib.Hide
import Derived.BigQuiet
import Derived.Lib.Strings
import Derived.Lib.IndexBytes
import Derived.Outline
import Derived.Deep.DeepCutAuto
import Derived.Deep.CutBlock
import Derived.Deep.LoopGhost
section
/- The contracts of package scan. -/
namespace Go.Proofs.YtppambkffgmkgaaGreatDoor
open Go.RowKit
set_option linter.unusedVariables false

/-- A scanner at block g: what is left, where it stands, its error. -/
def Sc (w : World) (g : Nat) (s : ByteArray) (ln cl er : Int) : Prop :=
  w.heap[g]? = some (.cells #[.string s, .int .i64 ln, .int .i64 cl, .int .i64 er] 124 (0, 0)) ∧ s.size ≤ maxLen ∧ 1 ≤ ln ∧ 1 ≤ cl ∧ ln + s.size ≤ 4611686018427387904 ∧ cl + s.size ≤ 4611686018427387904

/-- The block alone. -/
def ScB (w : World) (g : Nat) (s : ByteArray) (ln cl er : Int) : Prop := w.heap[g]? = some (.cells #[.string s, .int .i64 ln, .int .i64 cl, .int .i64 er] 124 (0, 0))

theorem ScB.cells {w : World} {g : Nat} {s : ByteArray} {ln cl er : Int} (h : ScB w g s ln cl er) :
    w.cell? ⟨g, 0, none⟩ = some (.string s) ∧ w.cell? ⟨g, 1, none⟩ = some (.int .i64 ln) ∧ w.cell? ⟨g, 2, none⟩ = some (.int .i64 cl) ∧ w.cell? ⟨g, 3, none⟩ = some (.int .i64 er) ∧
    w.frozen? ⟨g, 0, none⟩ = false ∧ w.frozen? ⟨g, 1, none⟩ = false ∧ w.frozen? ⟨g, 2, none⟩ = false ∧ w.frozen? ⟨g, 3, none⟩ = false := by
  have h1 := h
  unfold ScB at h1
  refine ⟨?_, ?_, ?_, ?_, ?_, ?_, ?_, ?_⟩ <;> simp [World.cell?, World.frozen?, h1]
theorem ScB.lt {w : World} {g : Nat} {s : ByteArray} {ln cl er : Int} (h : ScB w g s ln cl er) : g < w.heap.size := (Array.getElem?_eq_some_iff.1 h).1

theorem Sc.cells {w : World} {g : Nat} {s : ByteArray} {ln cl er : Int} (h : Sc w g s ln cl er) :
    w.cell? ⟨g, 0, none⟩ = some (.string s) ∧ w.cell? ⟨g, 1, none⟩ = some (.int .i64 ln) ∧ w.cell? ⟨g, 2, none⟩ = some (.int .i64 cl) ∧ w.cell? ⟨g, 3, none⟩ = some (.int .i64 er) ∧
    w.frozen? ⟨g, 0, none⟩ = false ∧ w.frozen? ⟨g, 1, none⟩ = false ∧ w.frozen? ⟨g, 2, none⟩ = false ∧ w.frozen? ⟨g, 3, none⟩ = false := ScB.cells h.1

theorem Sc.lt {w : World} {g : Nat} {s : ByteArray} {ln cl er : Int} (h : Sc w g s ln cl er) : g < w.heap.size := (Array.getElem?_eq_some_iff.1 h.1).1
theorem Sc.mod {w w' : World} {g : Nat} {s : ByteArray} {ln cl er : Int} {S : Nat → Prop} (h : Sc w g s ln cl er) (hm : Mod w w' S) (hn : ¬ S g) : Sc w' g s ln cl er := ⟨(hm.block g h.lt hn).trans h.1, h.2⟩
theorem Sc.drew {w : World} {g : Nat} {s : ByteArray} {ln cl er : Int} (h : Sc w g s ln cl er) : Sc w.drew g s ln cl er := h
theorem Sc.drewN {w : World} {g : Nat} {s : ByteArray} {ln cl er : Int} (h : Sc w g s ln cl er) (n : Nat) : Sc (w.drewN n) g s ln cl er := h
theorem Sc.alloc {w : World} {g : Nat} {s : ByteArray} {ln cl er : Int} (h : Sc w g s ln cl er) (o : Obj) : Sc (w.alloc o) g s ln cl er := h.mod ((Mod.refl _ NoB).alloc o) (by simp [NoB])

theorem heap_set_cells {w : World} {g i : Nat} {cs : Array Value} {t : TypeId} {fr : Nat × Nat} (h : w.heap[g]? = some (.cells cs t fr)) (v : Value) : (w.setCell ⟨g, i, none⟩ v).heap[g]? = some (.cells (cs.setIfInBounds i v) t fr) := by
  simp only [World.setCell, Array.getElem?_modify, h]
  simp

theorem snew_any (w : World) (s : ByteArray) (hs : s.size ≤ 1099511627776) :
    Calls Tryz.prog 30 #[.string s] w fun e w' => e = .returned (.pointer (some ⟨w.heap.size, 0, none⟩)) ∧ Sc w' w.heap.size s 1 1 0 ∧ Mod w w' NoB ∧ w'.heap.size = w.heap.size + 1 := by
  go_enter Tryz.func30, Tryz.ntmps30
  go_wp2_with fail
  go_ret
  exact ⟨rfl, ⟨(MapKept.heap_alloc w _).1, by unfold maxLen; omega, by omega, by omega, by omega, by omega⟩, (Mod.refl _ _).alloc _, by simp⟩

/-- What Next answers. -/
def nextV (s : ByteArray) (er : Int) : Value := if h : er = 0 ∧ 0 < s.size then .tuple #[.int .u8 (s[0]'h.2).toNat, .bool true] else .tuple #[.int .u8 0, .bool false]
theorem nextV_some {s : ByteArray} (h : 0 < s.size) : nextV s 0 = .tuple #[.int .u8 s[0].toNat, .bool true] := by simp [nextV, h]
theorem nextV_none {s : ByteArray} {er : Int} (h : er ≠ 0 ∨ s.size = 0) : nextV s er = .tuple #[.int .u8 0, .bool false] := by
  unfold nextV; rw [dif_neg (by omega)]

theorem digit_any (c : UInt8) (w : World) : Calls Tryz.prog 68 #[.int .u8 c.toNat] w fun e w' => e = .returned (.bool (isD c)) ∧ w = w' := by
  have hc : c.toNat < 256 := c.toNat_lt
  by_cases h1 : (48 : Int) ≤ (c.toNat : Int)
  · by_cases h2 : (c.toNat : Int) ≤ 57
    · have hd : isD c = true := by simp [isD]; omega
      rw [hd]
      go_enter Tryz.func68, Tryz.ntmps68
      go_wp2_with fail
      go_ret
      exact ⟨rfl, rfl⟩
    · have hd : isD c = false := by simp [isD]; omega
      rw [hd]
      go_enter Tryz.func68, Tryz.ntmps68
      go_wp2_with fail
      go_ret
      exact ⟨rfl, rfl⟩
  · have hd : isD c = false := by simp [isD]; omega
    rw [hd]
    go_enter Tryz.func68, Tryz.ntmps68
    go_wp2_with fail
    go_ret
    exact ⟨rfl, rfl⟩

theorem fail_any (w : World) (g : Nat) (s : ByteArray) (ln cl er x : Int) (hSc : Sc w g s ln cl er) :
    Calls Tryz.prog 67 #[.pointer (some ⟨g, 0, none⟩), .int .i64 x] w fun e w' => e = .returned (.tuple #[]) ∧ Sc w' g s ln cl (if er = 0 then x else er) ∧ Mod w w' (OneB g) := by
  obtain ⟨c0, c1, c2, c3, f0, f1, f2, f3⟩ := hSc.cells
  have hg := hSc.lt
  by_cases he : er = 0
  · subst he
    go_enter Tryz.func67, Tryz.ntmps67
    go_wp2_with fail
    go_end0
    exact ⟨rfl, ⟨by rw [heap_set_cells hSc.1]; rfl, hSc.2⟩, Mod.set1 _ _ _ _⟩
  · have hb : (er == 0) = false := by simpa using he
    rw [if_neg he]
    clear he
    go_enter Tryz.func67, Tryz.ntmps67
    go_wp2_with fail
    go_end0
    exact ⟨rfl, hSc, Mod.refl _ _⟩

theorem err_any (w : World) (g : Nat) (s : ByteArray) (ln cl er : Int) (hSc : Sc w g s ln cl er) :
    Calls Tryz.prog 37 #[.pointer (some ⟨g, 0, none⟩)] w fun e w' => e = .returned (.int .i64 er) ∧ w = w' := by
  obtain ⟨c0, c1, c2, c3, f0, f1, f2, f3⟩ := hSc.cells
  have hg := hSc.lt
  go_enter Tryz.func37, Tryz.ntmps37
  go_wp2_with fail
  go_ret
  exact ⟨rfl, rfl⟩

theorem place_any (w : World) (g : Nat) (s : ByteArray) (ln cl er : Int) (hSc : Sc w g s ln cl er) :
    Calls Tryz.prog 35 #[.pointer (some ⟨g, 0, none⟩)] w fun e w' => e = .returned (.agg #[.int .i64 ln, .int .i64 cl]) ∧ w' = w.alloc (.cells #[.int .i64 ln, .int .i64 cl] 38) := by
  obtain ⟨c0, c1, c2, c3, f0, f1, f2, f3⟩ := hSc.cells
  have hg := hSc.lt
  go_enter Tryz.func35, Tryz.ntmps35
  go_wp2_with fail
  exact bodyPost_ret (v := .agg #[.int .i64 ln, .int .i64 cl]) (by simp [results, Tryz.results35, go_sem]) rfl ⟨rfl, rfl⟩

/-- The first byte. -/
theorem at_byte (s : ByteArray) (k : Nat) (h : k < s.size) : s.data.toList[k]? = some s[k] := by
  rw [List.getElem?_eq_getElem (by simpa using h)]; rfl

theorem empty_of {s : ByteArray} (h : s.size = 0) : s.toList.isEmpty = true := by
  rw [ByteArray.toList_eq]
  have : s.data.toList = [] := List.length_eq_zero_iff.1 (by simpa using h)
  simp [this]
theorem nonempty_of {s : ByteArray} (h : ¬ s.size = 0) : s.toList.isEmpty = false := by
  rw [ByteArray.toList_eq]
  cases hs : s.data.toList with
  | nil => exact absurd (by have := congrArg List.length hs; simpa using this) h
  | cons a l => rfl

theorem next_any (w : World) (g : Nat) (s : ByteArray) (ln cl er : Int) (hSc : Sc w g s ln cl er) :
    Calls Tryz.prog 34 #[.pointer (some ⟨g, 0, none⟩)] w fun e w' => e = .returned (nextV s er) ∧ w = w' := by
  obtain ⟨c0, c1, c2, c3, f0, f1, f2, f3⟩ := hSc.cells
  have hg := hSc.lt
  by_cases he : er = 0
  · subst he
    by_cases h0 : s.size = 0
    · rw [nextV_none (Or.inr h0)]
      have hb := empty_of h0
      clear h0
      go_enter Tryz.func34, Tryz.ntmps34
      go_wp2_with fail
      go_ret2
      exact ⟨rfl, rfl⟩
    · have hpos : 0 < s.size := by omega
      rw [nextV_some hpos]
      have hb := nonempty_of h0
      clear h0
      go_enter Tryz.func34, Tryz.ntmps34
      go_wp2_with fail
      go_ret2
      exact ⟨rfl, rfl⟩
  · have hb : (er != 0) = true := by simpa using he
    rw [nextV_none (Or.inl he)]
    go_enter Tryz.func34, Tryz.ntmps34
    by_cases h0 : s.size = 0
    · have hb2 := empty_of h0
      clear h0 he
      go_wp2_with fail
      go_ret2
      exact ⟨rfl, rfl⟩
    · have hb2 := nonempty_of h0
      clear h0 he
      go_wp2_with fail
      go_ret2
      exact ⟨rfl, rfl⟩

/-- The place of adv, of a part of a string. -/
def advK (ln cl : Int) (s : ByteArray) (k : Nat) : Int × Int := adv (ln, cl) (s.data.toList.take k)
theorem advK_succ (ln cl : Int) (s : ByteArray) (k : Nat) (h : k < s.size) : advK ln cl s (k + 1) = if s[k].toNat = 10 then ((advK ln cl s k).1 + 1, 1) else ((advK ln cl s k).1, (advK ln cl s k).2 + 1) := by
  unfold advK
  rw [List.take_succ_eq_append_getElem (by simpa using h), adv_snoc]; rfl
theorem advK_bd (ln cl : Int) (s : ByteArray) (k : Nat) (hk : k ≤ s.size) (hcl : 1 ≤ cl) : ln ≤ (advK ln cl s k).1 ∧ (advK ln cl s k).1 ≤ ln + k ∧ 1 ≤ (advK ln cl s k).2 ∧ (advK ln cl s k).2 ≤ cl + k := by
  have := adv_bd (s.data.toList.take k) (ln, cl) hcl
  have hl : (s.data.toList.take k).length = k := by simp; exact Nat.min_eq_left hk
  unfold advK
  rw [hl] at this
  exact this

theorem ScB.place1 {w : World} {g : Nat} {s : ByteArray} {ln cl er : Int} (h : ScB w g s ln cl er) (x y : Int) :
    ScB ((w.setCell ⟨g, 1, none⟩ (.int .i64 x)).setCell ⟨g, 2, none⟩ (.int .i64 y)) g s x y er := by
  unfold ScB; rw [heap_set_cells (heap_set_cells h _)]; rfl
theorem ScB.place2 {w : World} {g : Nat} {s : ByteArray} {ln cl er : Int} (h : ScB w g s ln cl er) (y : Int) :
    ScB (w.setCell ⟨g, 2, none⟩ (.int .i64 y)) g s ln y er := by
  unfold ScB; rw [heap_set_cells h]; rfl
theorem ScB.text {w : World} {g : Nat} {s : ByteArray} {ln cl er : Int} (h : ScB w g s ln cl er) (t : ByteArray) :
    ScB (w.setCell ⟨g, 0, none⟩ (.string t)) g t ln cl er := by
  unfold ScB; rw [heap_set_cells h]; rfl

set_option maxRecDepth 100000 in
set_option maxHeartbeats 1000000 in
theorem skip_any (w : World) (g : Nat) (s : ByteArray) (ln cl er : Int) (n : Nat) (hSc : Sc w g s ln cl er) (hn : n ≤ s.size) :
    Calls Tryz.prog 66 #[.pointer (some ⟨g, 0, none⟩), .int .i64 n] w fun e w' => e = .returned (.tuple #[]) ∧ Sc w' g (s.extract n s.size) (advK ln cl s n).1 (advK ln cl s n).2 er ∧ Mod w w' (OneB g) := by
  obtain ⟨hB0, hm, hl0, hc0, hl1, hc1⟩ := id hSc
  unfold maxLen at hm
  have hg := hSc.lt
  go_enter Tryz.func66, Tryz.ntmps66
  go_wp2_with fail
  go_loopw [6] (fun i wr => ∃ k : Nat, k ≤ n ∧ i = .int .i64 k ∧ Hid (ScB wr g s (advK ln cl s k).1 (advK ln cl s k).2 er ∧ Mod w wr (OneB g))) (fun i _ => n - (intOf i).toNat)
  case atStart => exact ⟨0, Nat.zero_le _, rfl, hB0, Mod.refl _ _⟩
  case round =>
    obtain ⟨k, hk, rfl, HR⟩ := hrel
    clear hSc hB0
    obtain ⟨c0, c1, c2, c3, f0, f1, f2, f3⟩ := HR.out.1.cells
    have hgr := HR.out.1.lt
    have hbd := advK_bd ln cl s k (by omega) hc0
    by_cases hlt : k < n
    · have hks : k < s.size := by omega
      have hsucc := advK_succ ln cl s k hks
      obtain ⟨x, hx⟩ : ∃ x, x = (advK ln cl s k).1 := ⟨_, rfl⟩
      obtain ⟨y, hy⟩ : ∃ y, y = (advK ln cl s k).2 := ⟨_, rfl⟩
      rw [← hx] at c1 hbd hsucc
      rw [← hy] at c2 hbd hsucc
      have HB := Lib.hid HR.out
      rw [← hx, ← hy] at HB
      have HS := Lib.hid hsucc
      clear HR hx hy hsucc
      by_cases h10 : s[k].toNat = 10
      · have hb : (((s[k].toNat : Nat) : Int) == 10) = true := by simp [h10]
        have HE : Hid (advK ln cl s (k + 1) = (x + 1, 1)) := by have := HS.out; rwa [if_pos h10] at this
        clear h10 HS
        go_wp2_with fail
        go_roundw
        case rel => exact ⟨k + 1, by omega, by go_num, by rw [HE.out]; exact HB.out.1.place1 _ _, (HB.out.2.setG _).setG _⟩
        case measure => simp [intOf]; omega
      · have hb : (((s[k].toNat : Nat) : Int) == 10) = false := by simp; omega
        have HE : Hid (advK ln cl s (k + 1) = (x, y + 1)) := by have := HS.out; rwa [if_neg h10] at this
        clear h10 HS
        go_wp2_with fail
        go_roundw
        case rel => exact ⟨k + 1, by omega, by go_num, by rw [HE.out]; exact HB.out.1.place2 _, HB.out.2.setG _⟩
        case measure => simp [intOf]; omega
    · have hke : k = n := by omega
      subst hke
      clear hlt
      go_wp2_with fail
      go_end0
      refine ⟨rfl, ⟨HR.out.1.text _, ?_⟩, HR.out.2.setG _⟩
      have hsz : (s.extract k s.size).size = s.size - k := by simp
      rw [hsz]
      unfold maxLen
      omega

/-- Does one text begin with another? -/
def preB (u s : ByteArray) : Bool := u.data.toList.isPrefixOf s.data.toList
theorem pre_eq (s u : ByteArray) (h : u.size ≤ s.size) : ((s.extract 0 u.size).toList == u.toList) = preB u s := by
  unfold preB
  rw [ByteArray.toList_eq, ByteArray.toList_eq, Lib.extract_data, Bool.eq_iff_iff, beq_iff_eq, List.isPrefixOf_iff_prefix, List.prefix_iff_eq_take]
  simp [eq_comm]
theorem pre_long (s u : ByteArray) (h : ¬ u.size ≤ s.size) : preB u s = false := by
  rw [Bool.eq_false_iff]
  intro hp
  have := (List.isPrefixOf_iff_prefix.1 hp).length_le
  simp at this
  exact h this

theorem hasPrefix_in (s u : ByteArray) (w : World) (hs : s.size ≤ maxLen) (hu : u.size ≤ maxLen) :
    Calls Tryz.prog 89 #[.string s, .string u] w fun e w' => e = .returned (.bool (preB u s)) ∧ w = w' := by
  unfold maxLen at hs hu
  by_cases hl : u.size ≤ s.size
  · have hle : decide ((u.size : Int) ≤ (s.size : Int)) = true := by simp; exact hl
    rw [← pre_eq s u hl]
    go_enter Tryz.func89, Tryz.ntmps89
    go_wp2_with fail
    go_ret
    exact ⟨rfl, rfl⟩
  · have hle : decide ((u.size : Int) ≤ (s.size : Int)) = false := by simp; omega
    rw [pre_long s u hl]
    go_enter Tryz.func89, Tryz.ntmps89
    go_wp2_with fail
    go_ret
    exact ⟨rfl, rfl⟩

theorem hasPrefix_any (s u : ByteArray) (w : World) (hs : s.size ≤ maxLen) (hu : u.size ≤ maxLen) :
    Calls Tryz.prog 65 #[.string s, .string u] w fun e w' => e = .returned (.bool (preB u s)) ∧ w = w' := by
  go_enter Tryz.func65, Tryz.ntmps65
  go_wp2_with fail
  refine (hasPrefix_in _ _ _ hs hu).mono ?_
  rintro e w1 ⟨rfl, rfl⟩
  go_wp2_with fail
  go_ret
  exact ⟨rfl, rfl⟩

/-- What is left of the text, and the place, behind n bytes. -/
structure ScPost (w w' : World) (g : Nat) (s : ByteArray) (ln cl : Int) (n : Nat) (er : Int) : Prop where
  sc : Sc w' g (s.extract n s.size) (advK ln cl s n).1 (advK ln cl s n).2 er
  mod : Mod w w' (OneB g)

theorem extract_zero (s : ByteArray) : s.extract 0 s.size = s := by simp
theorem Sc.post0 {w w' : World} {g : Nat} {s : ByteArray} {ln cl er : Int} (h : Sc w' g s ln cl er) (hm : Mod w w' (OneB g)) : ScPost w w' g s ln cl 0 er :=
  ⟨by rw [extract_zero]; exact h, hm⟩

def L (s : ByteArray) : List UInt8 := s.data.toList
theorem L_len (s : ByteArray) : (L s).length = s.size := by simp [L]
theorem preB_iff {u s : ByteArray} : preB u s = true ↔ L u <+: L s := List.isPrefixOf_iff_prefix

theorem word_any (w : World) (g : Nat) (s u : ByteArray) (ln cl er : Int) (hSc : Sc w g s ln cl er) (hu : u.size ≤ maxLen) :
    Calls Tryz.prog 31 #[.pointer (some ⟨g, 0, none⟩), .string u] w fun e w' => e = .returned (.bool (wordOut (L u) (L s) er).1) ∧ ScPost w w' g s ln cl (wordOut (L u) (L s) er).2.2 (wordOut (L u) (L s) er).2.1 := by
  obtain ⟨c0, c1, c2, c3, f0, f1, f2, f3⟩ := hSc.cells
  have hg := hSc.lt
  have hsm := hSc.2.1
  by_cases he : er = 0
  · subst he
    by_cases hp : L u <+: L s
    · have hpt : preB u s = true := preB_iff.2 hp
      have hle : u.size ≤ s.size := by have := hp.length_le; rwa [L_len, L_len] at this
      have hW : wordOut (L u) (L s) 0 = (true, 0, u.size) := by simp [wordOut, hp, L_len]
      rw [hW]
      have HP := Lib.hid hpt
      clear hpt hp hW
      go_enter Tryz.func31, Tryz.ntmps31
      go_wp2_with fail
      refine (hasPrefix_any _ _ _ hsm hu).mono ?_
      rintro e w1 ⟨rfl, rfl⟩
      rw [HP.out]
      go_wp2_with fail
      refine (skip_any _ _ _ _ _ _ _ hSc hle).mono ?_
      rintro e w1 ⟨rfl, h1, hm1⟩
      have H1 := Lib.hid (ScPost.mk h1 hm1)
      clear h1 hm1
      go_wp2_with fail
      go_ret
      exact ⟨rfl, H1.out⟩
    · have hpf : preB u s = false := by
        rw [Bool.eq_false_iff]; intro h; exact hp (preB_iff.1 h)
      have HP := Lib.hid hpf
      clear hpf
      by_cases hq : L s <+: L u
      · have hqt : preB s u = true := preB_iff.2 hq
        have hW : wordOut (L u) (L s) 0 = (false, 20, 0) := by simp [wordOut, hp, hq]
        rw [hW]
        have HQ := Lib.hid hqt
        clear hqt hq hp hW
        go_enter Tryz.func31, Tryz.ntmps31
        go_wp2_with fail
        refine (hasPrefix_any _ _ _ hsm hu).mono ?_
        rintro e w1 ⟨rfl, rfl⟩
        rw [HP.out]
        go_wp2_with fail
        refine (hasPrefix_any _ _ _ hu hsm).mono ?_
        rintro e w1 ⟨rfl, rfl⟩
        rw [HQ.out]
        go_wp2_with fail
        refine (fail_any _ _ _ _ _ _ _ hSc).mono ?_
        rintro e w1 ⟨rfl, h1, hm1⟩
        have H1 := Lib.hid (And.intro h1 hm1)
        clear h1 hm1
        go_wp2_with fail
        go_ret
        exact ⟨rfl, Sc.post0 (by simpa using H1.out.1) H1.out.2⟩
      · have hqf : preB s u = false := by
          rw [Bool.eq_false_iff]; intro h; exact hq (preB_iff.1 h)
        have hW : wordOut (L u) (L s) 0 = (false, 21, 0) := by simp [wordOut, hp, hq]
        rw [hW]
        have HQ := Lib.hid hqf
        clear hqf hq hp hW
        go_enter Tryz.func31, Tryz.ntmps31
        go_wp2_with fail
        refine (hasPrefix_any _ _ _ hsm hu).mono ?_
        rintro e w1 ⟨rfl, rfl⟩
        rw [HP.out]
        go_wp2_with fail
        refine (hasPrefix_any _ _ _ hu hsm).mono ?_
        rintro e w1 ⟨rfl, rfl⟩
        rw [HQ.out]
        go_wp2_with fail
        refine (fail_any _ _ _ _ _ _ _ hSc).mono ?_
        rintro e w1 ⟨rfl, h1, hm1⟩
        have H1 := Lib.hid (And.intro h1 hm1)
        clear h1 hm1
        go_wp2_with fail
        go_ret
        exact ⟨rfl, Sc.post0 (by simpa using H1.out.1) H1.out.2⟩
  · have hb : (er != 0) = true := by simpa using he
    have hW : wordOut (L u) (L s) er = (false, er, 0) := by simp [wordOut, he]
    rw [hW]
    clear hW he
    go_enter Tryz.func31, Tryz.ntmps31
    go_wp2_with fail
    go_ret
    exact ⟨rfl, hSc.post0 (Mod.refl _ _)⟩

theorem one_str (c : UInt8) : strOfNums [(c.toNat : Int)] = ⟨#[c]⟩ := by
  simp [strOfNums]

theorem byte_any (w : World) (g : Nat) (s : ByteArray) (c : UInt8) (ln cl er : Int) (hSc : Sc w g s ln cl er) :
    Calls Tryz.prog 32 #[.pointer (some ⟨g, 0, none⟩), .int .u8 c.toNat] w fun e w' => e = .returned (.bool (wordOut [c] (L s) er).1) ∧ ScPost w w' g s ln cl (wordOut [c] (L s) er).2.2 (wordOut [c] (L s) er).2.1 := by
  have hconv := run_convert_bytes_arg (P := Tryz.prog) (w.alloc (.cells #[.int .u8 c.toNat] 5)) 26 5 Tryz.underlying26 Tryz.underlying5 w.heap.size 0 1 1 [(c.toNat : Int)] rfl (fun i hi => by
    obtain rfl : i = 0 := by omega
    simp) 9 Tryz.underlying9
  rw [one_str] at hconv
  go_enter Tryz.func32, Tryz.ntmps32
  go_wp2_with fail
  refine (word_any _ _ _ _ _ _ _ (hSc.alloc _) (show (ByteArray.mk #[c]).size ≤ maxLen by unfold maxLen; exact Nat.le_of_lt (by decide : 1 < 2 ^ 63 - 1))).mono ?_
  rintro e w1 ⟨rfl, h1⟩
  have H1 := Lib.hid h1
  clear h1 hconv
  go_wp2_with fail
  go_ret
  exact ⟨rfl, H1.out.sc, ((Mod.refl w (OneB g)).alloc _).trans H1.out.mod (fun _ _ h => h)⟩
end Go.Proofs.YtppambkffgmkgaaGreatDoor
end

section
/- The contract of Number. -/
namespace Go.Proofs.YtppambkffgmkgaaGreatDoor
open Go.RowKit
set_option linter.unusedVariables false

/-- How many digits a text begins with. -/
def nd (s : ByteArray) : Nat := ((L s).takeWhile isD).length
theorem nd_le (s : ByteArray) : nd s ≤ s.size := by
  unfold nd; rw [← L_len]; exact (List.takeWhile_sublist _).length_le
theorem takeWhile_eq_take {α : Type} (p : α → Bool) : ∀ (l : List α), l.takeWhile p = l.take (l.takeWhile p).length
  | [] => rfl
  | a :: l => by
    by_cases h : p a = true
    · simp only [List.takeWhile_cons, h, if_true, List.length_cons, List.take_succ_cons]; rw [← takeWhile_eq_take p l]
    · simp [h]
theorem nd_take (s : ByteArray) : (L s).takeWhile isD = (L s).take (nd s) := takeWhile_eq_take _ _
theorem nd_digit (s : ByteArray) (k : Nat) (h : k < nd s) (hk : k < s.size) : isD s[k] = true := by
  have h1 : k < ((L s).takeWhile isD).length := h
  have h2 : ((L s).takeWhile isD)[k] = s[k] := by
    have : ((L s).takeWhile isD)[k]? = (L s)[k]? := by rw [nd_take, List.getElem?_take_of_lt h]
    rw [List.getElem?_eq_getElem h1, show (L s)[k]? = some s[k] from at_byte s k hk] at this
    exact Option.some.inj this
  rw [← h2]
  exact List.all_eq_true.1 (List.all_takeWhile) _ (List.getElem_mem h1)
theorem nd_stop (s : ByteArray) (h : nd s < s.size) : isD s[nd s] = false := by
  have key : ∀ (l : List UInt8) (h : (l.takeWhile isD).length < l.length), isD l[(l.takeWhile isD).length] = false := by
    intro l
    induction l with
    | nil => intro h; simp at h
    | cons a l ih =>
      intro h
      by_cases ha : isD a = true
      · simp only [List.takeWhile_cons, ha, if_true, List.length_cons] at h ⊢
        exact ih (by omega)
      · simp [ha]
  have h2 := key (L s) (by rw [L_len]; exact h)
  exact h2

theorem num_err (w : World) (g : Nat) (s : ByteArray) (ln cl er most : Int) (hSc : Sc w g s ln cl er) (he : er ≠ 0) :
    Calls Tryz.prog 33 #[.pointer (some ⟨g, 0, none⟩), .int .u64 most] w fun e w' => e = .returned (.int .u64 0) ∧ w = w' := by
  obtain ⟨c0, c1, c2, c3, f0, f1, f2, f3⟩ := hSc.cells
  have hg := hSc.lt
  have hb : (er != 0) = true := by simpa using he
  clear he
  go_enter Tryz.func33, Tryz.ntmps33
  go_wp2_with fail
  go_ret
  exact ⟨rfl, rfl⟩

set_option maxHeartbeats 1000000 in
set_option maxRecDepth 100000 in
theorem num_short (w : World) (g : Nat) (s : ByteArray) (ln cl most : Int) (hSc : Sc w g s ln cl 0) (h0 : s.size = 0) :
    Calls Tryz.prog 33 #[.pointer (some ⟨g, 0, none⟩), .int .u64 most] w fun e w' => e = .returned (.int .u64 0) ∧ Sc w' g s ln cl 20 ∧ Mod w w' (OneB g) := by
  obtain ⟨c0, c1, c2, c3, f0, f1, f2, f3⟩ := hSc.cells
  have hg := hSc.lt
  have hb := empty_of h0
  have hlt : ¬ (0 < s.size) := by omega
  have H0 := Lib.hid h0
  clear h0
  go_enter Tryz.func33, Tryz.ntmps33
  go_wp2_with fail
  go_loop [5] (fun i => i = .int .i64 0) (fun _ => 0)
  case atStart => rfl
  case round =>
    subst hrel
    go_wp2_with fail
    refine (fail_any _ _ _ _ _ _ _ hSc).mono ?_
    rintro e w1 ⟨rfl, h1, hm1⟩
    rw [if_pos rfl] at h1
    have H1 := Lib.hid (And.intro h1 hm1)
    obtain ⟨d0, d1, d2, d3, _⟩ := h1.cells
    clear h1 hm1
    go_wp2_with fail
    go_loopw [7] (fun i wx => i = .int .i64 0 ∧ wx = w1) (fun _ _ => 0)
    case atStart => exact ⟨rfl, rfl⟩
    case round =>
      obtain ⟨rfl, rfl⟩ := hrel
      go_wp2_with fail
      go_ret
      exact ⟨rfl, H1.out⟩

set_option maxHeartbeats 1000000 in
set_option maxRecDepth 100000 in
theorem num_form (w : World) (g : Nat) (s : ByteArray) (ln cl most : Int) (hSc : Sc w g s ln cl 0) (h0 : 0 < s.size) (hf : nd s = 0 ∨ (1 < nd s ∧ s[0].toNat = 48)) :
    Calls Tryz.prog 33 #[.pointer (some ⟨g, 0, none⟩), .int .u64 most] w fun e w' => e = .returned (.int .u64 0) ∧ Sc w' g s ln cl 21 ∧ Mod w w' (OneB g) := by
  obtain ⟨c0, c1, c2, c3, f0, f1, f2, f3⟩ := hSc.cells
  have hg := hSc.lt
  have hm := hSc.2.1
  unfold maxLen at hm
  have hb := nonempty_of (s := s) (by omega)
  have HF := Lib.hid hf
  clear hf
  go_enter Tryz.func33, Tryz.ntmps33
  go_upto_block 0 with (fail)
  go_cut [5] (fun v wc => v = .int .i64 (nd s) ∧ wc = w)
  case first =>
    go_wp2_with fail
    go_loop [5] (fun i => ∃ k : Nat, k ≤ nd s ∧ i = .int .i64 k) (fun i => nd s - (intOf i).toNat)
    case atStart => exact ⟨0, Nat.zero_le _, rfl⟩
    case round =>
      obtain ⟨k, hk, rfl⟩ := hrel
      have hns := nd_le s
      by_cases hlt : k < nd s
      · have hks : k < s.size := by omega
        have hd := Lib.hid (nd_digit s k hlt hks)
        go_wp2_with fail
        refine (digit_any _ _).mono ?_
        rintro e w1 ⟨rfl, rfl⟩
        rw [hd.out]
        go_wp2_with fail
        go_round
        case rel => exact ⟨k + 1, by omega, by go_num⟩
        case measure => simp [intOf]; omega
      · obtain rfl : k = nd s := by omega
        by_cases hks : nd s < s.size
        · have hd := Lib.hid (nd_stop s hks)
          go_wp2_with fail
          refine (digit_any _ _).mono ?_
          rintro e w1 ⟨rfl, rfl⟩
          rw [hd.out]
          go_wp2_with fail
          go_meet
          case rel => exact ⟨rfl, rfl⟩
        · go_wp2_with fail
          go_meet
          case rel => exact ⟨rfl, rfl⟩
  case rest =>
    obtain ⟨rfl, rfl⟩ := hcut
    have hns := nd_le s
    by_cases hz : nd s = 0
    · have hz1 : ((nd s : Int) == 0) = true := by simp [hz]
      have hz2 : ¬ (0 < nd s) := by omega
      clear hz
      go_wp2_with fail
      refine (fail_any _ _ _ _ _ _ _ hSc).mono ?_
      rintro e w1 ⟨rfl, h1, hm1⟩
      rw [if_pos rfl] at h1
      have H1 := Lib.hid (And.intro h1 hm1)
      obtain ⟨d0, d1, d2, d3, _⟩ := h1.cells
      clear h1 hm1
      go_wp2_with fail
      go_loopw [7] (fun i wx => i = .int .i64 0 ∧ wx = w1) (fun _ _ => 0)
      case atStart => exact ⟨rfl, rfl⟩
      case round =>
        obtain ⟨rfl, rfl⟩ := hrel
        go_wp2_with fail
        go_ret
        exact ⟨rfl, H1.out⟩
    · have hz1 : ((nd s : Int) == 0) = false := by simp; omega
      have hz3 : (1 : Int) < (nd s : Int) := by have := HF.out; omega
      have hz4 : (((s[0].toNat : Nat) : Int) == 48) = true := by have := HF.out; simp; omega
      clear hz
      go_wp2_with fail
      refine (fail_any _ _ _ _ _ _ _ hSc).mono ?_
      rintro e w1 ⟨rfl, h1, hm1⟩
      rw [if_pos rfl] at h1
      have H1 := Lib.hid (And.intro h1 hm1)
      obtain ⟨d0, d1, d2, d3, _⟩ := h1.cells
      clear h1 hm1
      go_wp2_with fail
      go_loopw [7] (fun i wx => i = .int .i64 0 ∧ wx = w1) (fun _ _ => 0)
      case atStart => exact ⟨rfl, rfl⟩
      case round =>
        obtain ⟨rfl, rfl⟩ := hrel
        go_wp2_with fail
        go_ret
        exact ⟨rfl, H1.out⟩
end Go.Proofs.YtppambkffgmkgaaGreatDoor
end

section
/- The contract of Number, whole. -/
namespace Go.Proofs.YtppambkffgmkgaaGreatDoor
open Go.RowKit
set_option linter.unusedVariables false

/-- The digits that a text begins with. -/
def ds (s : ByteArray) : List UInt8 := (L s).takeWhile isD
theorem ds_len (s : ByteArray) : (ds s).length = nd s := rfl
theorem ds_digit (s : ByteArray) : ∀ c ∈ ds s, isD c = true := fun c hc => List.all_eq_true.1 (List.all_takeWhile) c hc
theorem ds_take_succ (s : ByteArray) (j : Nat) (h : j < nd s) (hs : j < s.size) : (ds s).take (j + 1) = (ds s).take j ++ [s[j]] := by
  have h1 : (ds s)[j]? = some s[j] := by
    have : (ds s)[j]? = (L s)[j]? := by unfold ds; rw [nd_take, List.getElem?_take_of_lt h]
    rw [this]; exact at_byte s j hs
  rw [List.take_add_one, h1]; rfl

/-- Where the second loop stands: the value so far, or an error. -/
def NumAt (w wr : World) (g : Nat) (s : ByteArray) (ln cl most : Int) (j : Nat) (v : Int) : Prop :=
  (Sc wr g s ln cl 0 ∧ valof most ((ds s).take j) 0 = some v ∧ 0 ≤ v ∧ v ≤ most ∧ Mod w wr (OneB g)) ∨ (Sc wr g s ln cl 22 ∧ valof most (ds s) 0 = none ∧ Mod w wr (OneB g))

theorem valof_none_of {most : Int} {l r : List UInt8} {v : Int} (h : valof most l v = none) : valof most (l ++ r) v = none := by
  induction l generalizing v with
  | nil => simp [valof] at h
  | cons d l ih =>
    simp only [List.cons_append, valof] at h ⊢
    split
    · rfl
    · rename_i hn; rw [if_neg hn] at h; exact ih h

theorem valof_step {most : Int} {s : ByteArray} {j : Nat} {v : Int} (h : j < nd s) (hs : j < s.size) (hv : valof most ((ds s).take j) 0 = some v) :
    valof most ((ds s).take (j + 1)) 0 = if dv s[j] > most ∨ v > (most - dv s[j]) / 10 then none else some (v * 10 + dv s[j]) := by
  rw [ds_take_succ s j h hs, valof_snoc, hv]; rfl

set_option maxHeartbeats 4000000 in
set_option maxRecDepth 100000 in
theorem num_ok (w : World) (g : Nat) (s : ByteArray) (ln cl most : Int) (hSc : Sc w g s ln cl 0) (h0 : 0 < nd s) (hf : ¬ (1 < nd s ∧ (L s).head? = some 48)) (hmo : 0 ≤ most ∧ most < 18446744073709551616) :
    Calls Tryz.prog 33 #[.pointer (some ⟨g, 0, none⟩), .int .u64 most] w fun e w' => e = .returned (.int .u64 (numOut most (L s) 0).1) ∧ ScPost w w' g s ln cl (numOut most (L s) 0).2.2 (numOut most (L s) 0).2.1 := by
  obtain ⟨c0, c1, c2, c3, f0, f1, f2, f3⟩ := hSc.cells
  have hg := hSc.lt
  have hm := hSc.2.1
  unfold maxLen at hm
  have hns := nd_le s
  have hpos : 0 < s.size := by omega
  have hb := nonempty_of (s := s) (by omega)
  have hne : numErr (L s) = 0 := by
    unfold numErr
    rw [if_neg (fun e => by have h9 := L_len s; rw [e] at h9; simp only [List.length_nil] at h9; omega), if_neg]
    rintro (h | ⟨h1, h2⟩)
    · have : nd s = 0 := h
      omega
    · exact hf ⟨h1, h2⟩
  have hz1 : ((nd s : Int) == 0) = false := by simp; omega
  have hz3 : nd s = 1 ∨ ¬ (s[0]'hpos).toNat = 48 := by
    by_cases h1 : nd s = 1
    · exact Or.inl h1
    · refine Or.inr fun h48 => hf ⟨by omega, ?_⟩
      have : (L s)[0]? = some (s[0]'hpos) := at_byte s 0 hpos
      rw [List.head?_eq_getElem?, this]
      congr 1
      exact UInt8.toNat_inj.1 (by simpa using h48)
  have hO1 : ∀ v, valof most (ds s) 0 = some v → numOut most (L s) 0 = (v, 0, nd s) := fun v hv => by
    unfold numOut; rw [if_neg (by simp), if_neg (by simp [hne])]
    have : (L s).takeWhile isD = ds s := rfl
    rw [this, hv]; rfl
  have hO2 : valof most (ds s) 0 = none → numOut most (L s) 0 = (0, 22, 0) := fun hv => by
    unfold numOut; rw [if_neg (by simp), if_neg (by simp [hne])]
    have : (L s).takeWhile isD = ds s := rfl
    rw [this, hv]
  have HO := Lib.hid (And.intro hO1 hO2)
  have HZ := Lib.hid hz3
  have HMO := Lib.hid hmo
  have H0 := Lib.hid (And.intro h0 hns)
  clear hf hne hO1 hO2 hz3 hmo h0 hns
  go_enter Tryz.func33, Tryz.ntmps33
  go_upto_block 0 with (fail)
  go_cut [5] (fun v wc => v = .int .i64 (nd s) ∧ w = wc)
  case first =>
    go_wp2_with fail
    go_loop [5] (fun i => ∃ k : Nat, k ≤ nd s ∧ i = .int .i64 k) (fun i => nd s - (intOf i).toNat)
    case atStart => exact ⟨0, Nat.zero_le _, rfl⟩
    case round =>
      obtain ⟨k, hk, rfl⟩ := hrel
      have hns := nd_le s
      by_cases hlt : k < nd s
      · have hks : k < s.size := by omega
        have hd := Lib.hid (nd_digit s k hlt hks)
        go_wp2_with fail
        refine (digit_any _ _).mono ?_
        rintro e w1 ⟨rfl, rfl⟩
        rw [hd.out]
        go_wp2_with fail
        go_round
        case rel => exact ⟨k + 1, by omega, by go_num⟩
        case measure => simp [intOf]; omega
      · obtain rfl : k = nd s := by omega
        by_cases hks : nd s < s.size
        · have hd := Lib.hid (nd_stop s hks)
          go_wp2_with fail
          refine (digit_any _ _).mono ?_
          rintro e w1 ⟨rfl, rfl⟩
          rw [hd.out]
          go_wp2_with fail
          go_meet
          case rel => exact ⟨rfl, rfl⟩
        · go_wp2_with fail
          go_meet
          case rel => exact ⟨rfl, rfl⟩
  case rest =>
    obtain ⟨rfl, rfl⟩ := hcut
    have hns := H0.out.2
    have hn0 := H0.out.1
    go_upto_region 8 with (fail)
    go_cut [40] (fun v wc => v = .bool false ∧ w = wc)
    case first =>
      by_cases h1 : nd s = 1
      · have h2 : ¬ (1 < nd s) := by omega
        have h3 : ¬ ((1 : Int) < (nd s : Int)) := by omega
        clear h1
        go_wp2_with fail
        go_meet
        case rel => exact ⟨rfl, rfl⟩
      · have h2 : (1 : Int) < (nd s : Int) := by omega
        have h4 : ((((s[0]'hpos).toNat : Nat) : Int) == 48) = false := by
          have := HZ.out.resolve_left h1
          simp; omega
        clear h1
        go_wp2_with fail
        go_meet
        case rel => exact ⟨rfl, rfl⟩
    case rest =>
      obtain ⟨rfl, rfl⟩ := hcut
      have hmo := HMO.out
      go_wp2_with fail
      go_loopw [6, 7] (fun v i wr => ∃ (j : Nat) (x : Int), j ≤ nd s ∧ i = .int .i64 j ∧ v = .int .u64 x ∧ Hid (NumAt w wr g s ln cl most j x)) (fun _ i _ => nd s - (intOf i).toNat)
      case atStart => exact ⟨0, 0, Nat.zero_le _, rfl, rfl, Or.inl ⟨hSc, rfl, Int.le_refl _, hmo.1, Mod.refl _ _⟩⟩
      case round =>
        obtain ⟨j, x, hj, rfl, rfl, HA⟩ := hrel
        clear c0 c1 c2 c3 f0 f1 f2 f3 hg
        rcases HA.out with ⟨hA, hv, hx0, hx1, hM⟩ | ⟨hA, hv, hM⟩
        · obtain ⟨c0, c1, c2, c3, f0, f1, f2, f3⟩ := hA.cells
          have hg := hA.lt
          by_cases hlt : j < nd s
          · have hjs : j < s.size := by omega
            have hd := nd_digit s j hlt hjs
            have hdb := dv_bd hd
            have hst := valof_step hlt hjs hv
            have hdy : dv s[j] = ((s[j].toNat : Nat) : Int) - 48 := rfl
            rw [hdy] at hdb hst
            have HS := Lib.hid hst
            have HV := Lib.hid hv
            have HM := Lib.hid hM
            clear hd hst hv hdy HA hM
            have hy48 : 48 ≤ ((s[j].toNat : Nat) : Int) := by omega
            have hy57 : ((s[j].toNat : Nat) : Int) ≤ 57 := by omega
            clear hdb
            by_cases hbig : ((s[j].toNat : Nat) : Int) - 48 > most
            · have HE : Hid (valof most (ds s) 0 = none) := by
                have h1 := HS.out; rw [if_pos (Or.inl hbig)] at h1
                have h2 := valof_none_of (r := (ds s).drop (j + 1)) h1
                rwa [List.take_append_drop] at h2
              have hgt : most < ((s[j].toNat : Nat) : Int) - 48 := hbig
              clear hbig HS
              go_wp2_with fail
              refine (fail_any _ _ _ _ _ _ _ hA).mono ?_
              rintro e w1 ⟨rfl, h1, hm1⟩
              rw [if_pos rfl] at h1
              have H1 := Lib.hid (And.intro h1 (HM.out.trans hm1 (fun _ _ h => h)))
              clear h1 hm1
              go_wp2_with fail
              go_roundw
              case rel => exact ⟨j + 1, _, by omega, by go_num, rfl, Or.inr ⟨H1.out.1, HE.out, H1.out.2⟩⟩
              case measure => simp [intOf]; omega
            · have hle : ¬ (most < ((s[j].toNat : Nat) : Int) - 48) := by omega
              by_cases hov : x > (most - (((s[j].toNat : Nat) : Int) - 48)) / 10
              · have HE : Hid (valof most (ds s) 0 = none) := by
                  have h1 := HS.out; rw [if_pos (Or.inr hov)] at h1
                  have h2 := valof_none_of (r := (ds s).drop (j + 1)) h1
                  rwa [List.take_append_drop] at h2
                have hgt : (most - (((s[j].toNat : Nat) : Int) - 48)) / 10 < x := hov
                clear hbig hov HS
                go_wp2_with fail
                refine (fail_any _ _ _ _ _ _ _ hA).mono ?_
                rintro e w1 ⟨rfl, h1, hm1⟩
                rw [if_pos rfl] at h1
                have H1 := Lib.hid (And.intro h1 (HM.out.trans hm1 (fun _ _ h => h)))
                clear h1 hm1
                go_wp2_with fail
                go_roundw
                case rel => exact ⟨j + 1, _, by omega, by go_num, rfl, Or.inr ⟨H1.out.1, HE.out, H1.out.2⟩⟩
                case measure => simp [intOf]; omega
              · have HE : Hid (valof most ((ds s).take (j + 1)) 0 = some (x * 10 + (((s[j].toNat : Nat) : Int) - 48))) := by
                  have h1 := HS.out; rwa [if_neg (by omega)] at h1
                have hgt : ¬ ((most - (((s[j].toNat : Nat) : Int) - 48)) / 10 < x) := hov
                have hx2 : x * 10 + (((s[j].toNat : Nat) : Int) - 48) ≤ most := by omega
                clear hbig hov HS
                go_wp2_with fail
                go_roundw
                case rel => exact ⟨j + 1, _, by omega, by go_num, rfl, Or.inl ⟨hA, HE.out, by omega, hx2, HM.out⟩⟩
                case measure => simp [intOf]; omega
          · have hjn : j = nd s := by omega
            have hve : valof most (ds s) 0 = some x := by
              rw [hjn, ← ds_len, List.take_length] at hv; exact hv
            have HE := Lib.hid (HO.out.1 x hve)
            have HM := Lib.hid hM
            clear hv hve hM HA hjn
            go_wp2_with fail
            refine (skip_any _ _ _ _ _ _ _ hA hns).mono ?_
            rintro e w1 ⟨rfl, h1, hm1⟩
            have H1 := Lib.hid (And.intro h1 (HM.out.trans hm1 (fun _ _ h => h)))
            clear h1 hm1
            go_wp2_with fail
            go_ret
            rw [HE.out]
            exact ⟨rfl, ⟨H1.out.1, H1.out.2⟩⟩
        · obtain ⟨c0, c1, c2, c3, f0, f1, f2, f3⟩ := hA.cells
          have hg := hA.lt
          have HV := Lib.hid hv
          have HM := Lib.hid hM
          clear hv hM HA
          by_cases hlt : j < nd s
          · go_wp2_with fail
            go_ret
            rw [HO.out.2 HV.out]
            exact ⟨rfl, hA.post0 HM.out⟩
          · go_wp2_with fail
            go_ret
            rw [HO.out.2 HV.out]
            exact ⟨rfl, hA.post0 HM.out⟩

theorem number_any (w : World) (g : Nat) (s : ByteArray) (ln cl er most : Int) (hSc : Sc w g s ln cl er) (hmo : 0 ≤ most ∧ most < 18446744073709551616) :
    Calls Tryz.prog 33 #[.pointer (some ⟨g, 0, none⟩), .int .u64 most] w fun e w' => e = .returned (.int .u64 (numOut most (L s) er).1) ∧ ScPost w w' g s ln cl (numOut most (L s) er).2.2 (numOut most (L s) er).2.1 := by
  by_cases he : er = 0
  · subst he
    by_cases h0 : s.size = 0
    · have hl : L s = [] := List.length_eq_zero_iff.1 (by rw [L_len]; exact h0)
      refine (num_short w g s ln cl most hSc h0).mono ?_
      rintro e w' ⟨rfl, h1, h2⟩
      have hO : numOut most (L s) 0 = (0, 20, 0) := by simp [numOut, numErr, hl]
      rw [hO]
      exact ⟨rfl, h1.post0 h2⟩
    · have hpos : 0 < s.size := by omega
      have hl : L s ≠ [] := fun e => by have h9 := L_len s; rw [e] at h9; simp only [List.length_nil] at h9; omega
      have h8 : (L s).head? = some s[0] := by
        have : (L s)[0]? = some s[0] := at_byte s 0 hpos
        rw [List.head?_eq_getElem?, this]
      by_cases hf : nd s = 0 ∨ (1 < nd s ∧ s[0].toNat = 48)
      · refine (num_form w g s ln cl most hSc hpos hf).mono ?_
        rintro e w' ⟨rfl, h1, h2⟩
        have hN : numErr (L s) = 21 := by
          unfold numErr
          rw [if_neg hl, if_pos]
          rcases hf with hf | ⟨hf1, hf2⟩
          · exact Or.inl hf
          · exact Or.inr ⟨hf1, by rw [h8]; congr 1; exact UInt8.toNat_inj.1 (by simpa using hf2)⟩
        have hO : numOut most (L s) 0 = (0, 21, 0) := by
          unfold numOut; rw [if_neg (by simp), if_pos (by simp [hN]), hN]
        rw [hO]
        exact ⟨rfl, h1.post0 h2⟩
      · have hf1 : ¬ (1 < nd s ∧ (L s).head? = some 48) := by
          rintro ⟨h1, h2⟩
          rw [h8] at h2
          have h3 := Option.some.inj h2
          exact hf (Or.inr ⟨h1, by rw [h3]; rfl⟩)
        exact num_ok w g s ln cl most hSc (by omega) hf1 hmo
  · refine (num_err w g s ln cl er most hSc he).mono ?_
    rintro e w' ⟨rfl, rfl⟩
    have hO : numOut most (L s) er = (0, er, 0) := by simp [numOut, he]
    rw [hO]
    exact ⟨rfl, hSc.post0 (Mod.refl _ _)⟩
end Go.Proofs.YtppambkffgmkgaaGreatDoor
end
