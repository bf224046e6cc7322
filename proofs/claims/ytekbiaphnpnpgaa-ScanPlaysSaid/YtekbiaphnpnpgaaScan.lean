/- The contracts of package scan. -/
import Derived.Test.YtekbiaphnpnpgaaProg
import Derived.Test.YtekbiaphnpnpgaaMem
import Derived.Test.YtekbiaphnpnpgaaScanP
import Derived.WalkSpells
import Derived.WalkLawsBesides
import Derived.Lib.Hide
import Derived.BigQuiet
import Derived.Lib.Strings
import Derived.Lib.IndexBytes
import Derived.Outline
namespace Go.Proofs.Ytekbiaphnpnpgaa
open Go.RowKit
set_option linter.unusedVariables false

/-- A scanner at block g: what is left, where it stands, its error. -/
def Sc (w : World) (g : Nat) (s : ByteArray) (ln cl er : Int) : Prop :=
  w.heap[g]? = some (.cells #[.string s, .int .i64 ln, .int .i64 cl, .int .i64 er] 56 (0, 0)) ∧ s.size ≤ maxLen ∧ 1 ≤ ln ∧ 1 ≤ cl ∧ ln + s.size ≤ 4611686018427387904 ∧ cl + s.size ≤ 4611686018427387904

/-- The block alone. -/
def ScB (w : World) (g : Nat) (s : ByteArray) (ln cl er : Int) : Prop := w.heap[g]? = some (.cells #[.string s, .int .i64 ln, .int .i64 cl, .int .i64 er] 56 (0, 0))

theorem ScB.cells {w : World} {g : Nat} {s : ByteArray} {ln cl er : Int} (h : ScB w g s ln cl er) :
    w.cell? ⟨g, 0, none⟩ = some (.string s) ∧ w.cell? ⟨g, 1, none⟩ = some (.int .i64 ln) ∧ w.cell? ⟨g, 2, none⟩ = some (.int .i64 cl) ∧ w.cell? ⟨g, 3, none⟩ = some (.int .i64 er) ∧
    w.frozen? ⟨g, 0, none⟩ = false ∧ w.frozen? ⟨g, 1, none⟩ = false ∧ w.frozen? ⟨g, 2, none⟩ = false ∧ w.frozen? ⟨g, 3, none⟩ = false := by
  have h1 := h
  unfold ScB at h1
  refine ⟨?_, ?_, ?_, ?_, ?_, ?_, ?_, ?_⟩ <;> simp [World.cell?, World.frozen?, h1]
theorem ScB.lt {w : World} {g : Nat} {s : ByteArray} {ln cl er : Int} (h : ScB w g s ln cl er) : g < w.heap.size := (Array.getElem?_eq_some_iff.1 h).1

theorem Sc.cells {w : World} {g : Nat} {s : ByteArray} {ln cl er : Int} (h : Sc w g s ln cl er) :
    w.cell? ⟨g, 0, none⟩ = some (.string s) ∧ w.cell? ⟨g, 1, none⟩ = some (.int .i64 ln) ∧ w.cell? ⟨g, 2, none⟩ = some (.int .i64 cl) ∧ w.cell? ⟨g, 3, none⟩ = some (.int .i64 er) ∧
    w.frozen? ⟨g, 0, none⟩ = false ∧ w.frozen? ⟨g, 1, none⟩ = false ∧ w.frozen? ⟨g, 2, none⟩ = false ∧ w.frozen? ⟨g, 3, none⟩ = false := ScB.cells h.1

theorem Sc.lt {w : World} {g : Nat} {s : ByteArray} {ln cl er : Int} (h : Sc w g s ln cl er) : g < w.heap.size := (Array.getElem?_eq_some_iff.1 h.1).1
theorem Sc.mod {w w' : World} {g : Nat} {s : ByteArray} {ln cl er : Int} {S : Nat → Prop} (h : Sc w g s ln cl er) (hm : Mod w w' S) (hn : ¬ S g) : Sc w' g s ln cl er := ⟨(hm.block g h.lt hn).trans h.1, h.2⟩
theorem Sc.drew {w : World} {g : Nat} {s : ByteArray} {ln cl er : Int} (h : Sc w g s ln cl er) : Sc w.drew g s ln cl er := h
theorem Sc.drewN {w : World} {g : Nat} {s : ByteArray} {ln cl er : Int} (h : Sc w g s ln cl er) (n : Nat) : Sc (w.drewN n) g s ln cl er := h
theorem Sc.alloc {w : World} {g : Nat} {s : ByteArray} {ln cl er : Int} (h : Sc w g s ln cl er) (o : Obj) : Sc (w.alloc o) g s ln cl er := h.mod ((Mod.refl _ NoB).alloc o) (by simp [NoB])

theorem heap_set_cells {w : World} {g i : Nat} {cs : Array Value} {t : TypeId} {fr : Nat × Nat} (h : w.heap[g]? = some (.cells cs t fr)) (v : Value) : (w.setCell ⟨g, i, none⟩ v).heap[g]? = some (.cells (cs.setIfInBounds i v) t fr) := by
  simp only [World.setCell, Array.getElem?_modify, h]
  simp

theorem snew_any (w : World) (s : ByteArray) (hs : s.size ≤ 1099511627776) :
    Calls Try.prog 10 #[.string s] w fun e w' => e = .returned (.pointer (some ⟨w.heap.size, 0, none⟩)) ∧ Sc w' w.heap.size s 1 1 0 ∧ Mod w w' NoB ∧ w'.heap.size = w.heap.size + 1 := by
  go_enter Try.func10, Try.ntmps10
  go_wp2_with fail
  go_ret
  exact ⟨rfl, ⟨(MapKept.heap_alloc w _).1, by unfold maxLen; omega, by omega, by omega, by omega, by omega⟩, (Mod.refl _ _).alloc _, by simp⟩

/-- What Next answers. -/
def nextV (s : ByteArray) (er : Int) : Value := if h : er = 0 ∧ 0 < s.size then .tuple #[.int .u8 (s[0]'h.2).toNat, .bool true] else .tuple #[.int .u8 0, .bool false]
theorem nextV_some {s : ByteArray} (h : 0 < s.size) : nextV s 0 = .tuple #[.int .u8 s[0].toNat, .bool true] := by simp [nextV, h]
theorem nextV_none {s : ByteArray} {er : Int} (h : er ≠ 0 ∨ s.size = 0) : nextV s er = .tuple #[.int .u8 0, .bool false] := by
  unfold nextV; rw [dif_neg (by omega)]

theorem digit_any (c : UInt8) (w : World) : Calls Try.prog 25 #[.int .u8 c.toNat] w fun e w' => e = .returned (.bool (isD c)) ∧ w = w' := by
  have hc : c.toNat < 256 := c.toNat_lt
  by_cases h1 : (48 : Int) ≤ (c.toNat : Int)
  · by_cases h2 : (c.toNat : Int) ≤ 57
    · have hd : isD c = true := by simp [isD]; omega
      rw [hd]
      go_enter Try.func25, Try.ntmps25
      go_wp2_with fail
      go_ret
      exact ⟨rfl, rfl⟩
    · have hd : isD c = false := by simp [isD]; omega
      rw [hd]
      go_enter Try.func25, Try.ntmps25
      go_wp2_with fail
      go_ret
      exact ⟨rfl, rfl⟩
  · have hd : isD c = false := by simp [isD]; omega
    rw [hd]
    go_enter Try.func25, Try.ntmps25
    go_wp2_with fail
    go_ret
    exact ⟨rfl, rfl⟩

theorem fail_any (w : World) (g : Nat) (s : ByteArray) (ln cl er x : Int) (hSc : Sc w g s ln cl er) :
    Calls Try.prog 23 #[.pointer (some ⟨g, 0, none⟩), .int .i64 x] w fun e w' => e = .returned (.tuple #[]) ∧ Sc w' g s ln cl (if er = 0 then x else er) ∧ Mod w w' (OneB g) := by
  obtain ⟨c0, c1, c2, c3, f0, f1, f2, f3⟩ := hSc.cells
  have hg := hSc.lt
  by_cases he : er = 0
  · subst he
    go_enter Try.func23, Try.ntmps23
    go_wp2_with fail
    go_end0
    exact ⟨rfl, ⟨by rw [heap_set_cells hSc.1]; rfl, hSc.2⟩, Mod.set1 _ _ _ _⟩
  · have hb : (er == 0) = false := by simpa using he
    rw [if_neg he]
    clear he
    go_enter Try.func23, Try.ntmps23
    go_wp2_with fail
    go_end0
    exact ⟨rfl, hSc, Mod.refl _ _⟩

theorem err_any (w : World) (g : Nat) (s : ByteArray) (ln cl er : Int) (hSc : Sc w g s ln cl er) :
    Calls Try.prog 12 #[.pointer (some ⟨g, 0, none⟩)] w fun e w' => e = .returned (.int .i64 er) ∧ w = w' := by
  obtain ⟨c0, c1, c2, c3, f0, f1, f2, f3⟩ := hSc.cells
  have hg := hSc.lt
  go_enter Try.func12, Try.ntmps12
  go_wp2_with fail
  go_ret
  exact ⟨rfl, rfl⟩

theorem place_any (w : World) (g : Nat) (s : ByteArray) (ln cl er : Int) (hSc : Sc w g s ln cl er) :
    Calls Try.prog 13 #[.pointer (some ⟨g, 0, none⟩)] w fun e w' => e = .returned (.agg #[.int .i64 ln, .int .i64 cl]) ∧ w' = w.alloc (.cells #[.int .i64 ln, .int .i64 cl] 31) := by
  obtain ⟨c0, c1, c2, c3, f0, f1, f2, f3⟩ := hSc.cells
  have hg := hSc.lt
  go_enter Try.func13, Try.ntmps13
  go_wp2_with fail
  exact bodyPost_ret (v := .agg #[.int .i64 ln, .int .i64 cl]) (by simp [results, Try.results13, go_sem]) rfl ⟨rfl, rfl⟩

/-- The first byte. -/
theorem at_byte (s : ByteArray) (k : Nat) (h : k < s.size) : s.data.toList[k]? = some s[k] := by
  rw [List.getElem?_eq_getElem (by simpa using h)]; rfl

theorem empty_of {s : ByteArray} (h : s.size = 0) : s.toList.isEmpty = true := by
  rw [ByteArray.toList_eq]
  have : s.data.toList = [] := List.length_eq_zero_iff.1 (by simpa using h)
  simp [this]
theorem nonempty_of {s : ByteArray} (h : ¬ s.size = 0) : s.toList.isEmpty = false := by
  rw [ByteArray.toList_eq]
  cases hs : s.data.toList with
  | nil => exact absurd (by have := congrArg List.length hs; simpa using this) h
  | cons a l => rfl

theorem next_any (w : World) (g : Nat) (s : ByteArray) (ln cl er : Int) (hSc : Sc w g s ln cl er) :
    Calls Try.prog 19 #[.pointer (some ⟨g, 0, none⟩)] w fun e w' => e = .returned (nextV s er) ∧ w = w' := by
  obtain ⟨c0, c1, c2, c3, f0, f1, f2, f3⟩ := hSc.cells
  have hg := hSc.lt
  by_cases he : er = 0
  · subst he
    by_cases h0 : s.size = 0
    · rw [nextV_none (Or.inr h0)]
      have hb := empty_of h0
      clear h0
      go_enter Try.func19, Try.ntmps19
      go_wp2_with fail
      go_ret2
      exact ⟨rfl, rfl⟩
    · have hpos : 0 < s.size := by omega
      rw [nextV_some hpos]
      have hb := nonempty_of h0
      clear h0
      go_enter Try.func19, Try.ntmps19
      go_wp2_with fail
      go_ret2
      exact ⟨rfl, rfl⟩
  · have hb : (er != 0) = true := by simpa using he
    rw [nextV_none (Or.inl he)]
    go_enter Try.func19, Try.ntmps19
    by_cases h0 : s.size = 0
    · have hb2 := empty_of h0
      clear h0 he
      go_wp2_with fail
      go_ret2
      exact ⟨rfl, rfl⟩
    · have hb2 := nonempty_of h0
      clear h0 he
      go_wp2_with fail
      go_ret2
      exact ⟨rfl, rfl⟩

/-- The place of adv, of a part of a string. -/
def advK (ln cl : Int) (s : ByteArray) (k : Nat) : Int × Int := adv (ln, cl) (s.data.toList.take k)
theorem advK_succ (ln cl : Int) (s : ByteArray) (k : Nat) (h : k < s.size) : advK ln cl s (k + 1) = if s[k].toNat = 10 then ((advK ln cl s k).1 + 1, 1) else ((advK ln cl s k).1, (advK ln cl s k).2 + 1) := by
  unfold advK
  rw [List.take_succ_eq_append_getElem (by simpa using h), adv_snoc]; rfl
theorem advK_bd (ln cl : Int) (s : ByteArray) (k : Nat) (hk : k ≤ s.size) (hcl : 1 ≤ cl) : ln ≤ (advK ln cl s k).1 ∧ (advK ln cl s k).1 ≤ ln + k ∧ 1 ≤ (advK ln cl s k).2 ∧ (advK ln cl s k).2 ≤ cl + k := by
  have := adv_bd (s.data.toList.take k) (ln, cl) hcl
  have hl : (s.data.toList.take k).length = k := by simp; exact Nat.min_eq_left hk
  unfold advK
  rw [hl] at this
  exact this

theorem ScB.place1 {w : World} {g : Nat} {s : ByteArray} {ln cl er : Int} (h : ScB w g s ln cl er) (x y : Int) :
    ScB ((w.setCell ⟨g, 1, none⟩ (.int .i64 x)).setCell ⟨g, 2, none⟩ (.int .i64 y)) g s x y er := by
  unfold ScB; rw [heap_set_cells (heap_set_cells h _)]; rfl
theorem ScB.place2 {w : World} {g : Nat} {s : ByteArray} {ln cl er : Int} (h : ScB w g s ln cl er) (y : Int) :
    ScB (w.setCell ⟨g, 2, none⟩ (.int .i64 y)) g s ln y er := by
  unfold ScB; rw [heap_set_cells h]; rfl
theorem ScB.text {w : World} {g : Nat} {s : ByteArray} {ln cl er : Int} (h : ScB w g s ln cl er) (t : ByteArray) :
    ScB (w.setCell ⟨g, 0, none⟩ (.string t)) g t ln cl er := by
  unfold ScB; rw [heap_set_cells h]; rfl

set_option maxHeartbeats 1000000 in
theorem skip_any (w : World) (g : Nat) (s : ByteArray) (ln cl er : Int) (n : Nat) (hSc : Sc w g s ln cl er) (hn : n ≤ s.size) :
    Calls Try.prog 26 #[.pointer (some ⟨g, 0, none⟩), .int .i64 n] w fun e w' => e = .returned (.tuple #[]) ∧ Sc w' g (s.extract n s.size) (advK ln cl s n).1 (advK ln cl s n).2 er ∧ Mod w w' (OneB g) := by
  obtain ⟨hB0, hm, hl0, hc0, hl1, hc1⟩ := id hSc
  unfold maxLen at hm
  have hg := hSc.lt
  go_enter Try.func26, Try.ntmps26
  go_wp2_with fail
  go_loopw [6] (fun i wr => ∃ k : Nat, k ≤ n ∧ i = .int .i64 k ∧ Hid (ScB wr g s (advK ln cl s k).1 (advK ln cl s k).2 er ∧ Mod w wr (OneB g))) (fun i _ => n - (intOf i).toNat)
  case atStart => exact ⟨0, Nat.zero_le _, rfl, hB0, Mod.refl _ _⟩
  case round =>
    obtain ⟨k, hk, rfl, HR⟩ := hrel
    clear hSc hB0
    obtain ⟨c0, c1, c2, c3, f0, f1, f2, f3⟩ := HR.out.1.cells
    have hgr := HR.out.1.lt
    have hbd := advK_bd ln cl s k (by omega) hc0
    by_cases hlt : k < n
    · have hks : k < s.size := by omega
      have hsucc := advK_succ ln cl s k hks
      obtain ⟨x, hx⟩ : ∃ x, x = (advK ln cl s k).1 := ⟨_, rfl⟩
      obtain ⟨y, hy⟩ : ∃ y, y = (advK ln cl s k).2 := ⟨_, rfl⟩
      rw [← hx] at c1 hbd hsucc
      rw [← hy] at c2 hbd hsucc
      have HB := Lib.hid HR.out
      rw [← hx, ← hy] at HB
      have HS := Lib.hid hsucc
      clear HR hx hy hsucc
      by_cases h10 : s[k].toNat = 10
      · have hb : (((s[k].toNat : Nat) : Int) == 10) = true := by simp [h10]
        have HE : Hid (advK ln cl s (k + 1) = (x + 1, 1)) := by have := HS.out; rwa [if_pos h10] at this
        clear h10 HS
        go_wp2_with fail
        go_roundw
        case rel => exact ⟨k + 1, by omega, by go_num, by rw [HE.out]; exact HB.out.1.place1 _ _, (HB.out.2.setG _).setG _⟩
        case measure => simp [intOf]; omega
      · have hb : (((s[k].toNat : Nat) : Int) == 10) = false := by simp; omega
        have HE : Hid (advK ln cl s (k + 1) = (x, y + 1)) := by have := HS.out; rwa [if_neg h10] at this
        clear h10 HS
        go_wp2_with fail
        go_roundw
        case rel => exact ⟨k + 1, by omega, by go_num, by rw [HE.out]; exact HB.out.1.place2 _, HB.out.2.setG _⟩
        case measure => simp [intOf]; omega
    · have hke : k = n := by omega
      subst hke
      clear hlt
      go_wp2_with fail
      go_end0
      refine ⟨rfl, ⟨HR.out.1.text _, ?_⟩, HR.out.2.setG _⟩
      have hsz : (s.extract k s.size).size = s.size - k := by simp
      rw [hsz]
      unfold maxLen
      omega

/-- Does one text begin with another? -/
def preB (u s : ByteArray) : Bool := u.data.toList.isPrefixOf s.data.toList
theorem pre_eq (s u : ByteArray) (h : u.size ≤ s.size) : ((s.extract 0 u.size).toList == u.toList) = preB u s := by
  unfold preB
  rw [ByteArray.toList_eq, ByteArray.toList_eq, Lib.extract_data, Bool.eq_iff_iff, beq_iff_eq, List.isPrefixOf_iff_prefix, List.prefix_iff_eq_take]
  simp [eq_comm]
theorem pre_long (s u : ByteArray) (h : ¬ u.size ≤ s.size) : preB u s = false := by
  rw [Bool.eq_false_iff]
  intro hp
  have := (List.isPrefixOf_iff_prefix.1 hp).length_le
  simp at this
  exact h this

theorem hasPrefix_in (s u : ByteArray) (w : World) (hs : s.size ≤ maxLen) (hu : u.size ≤ maxLen) :
    Calls Try.prog 30 #[.string s, .string u] w fun e w' => e = .returned (.bool (preB u s)) ∧ w = w' := by
  unfold maxLen at hs hu
  by_cases hl : u.size ≤ s.size
  · have hle : decide ((u.size : Int) ≤ (s.size : Int)) = true := by simp; exact hl
    rw [← pre_eq s u hl]
    go_enter Try.func30, Try.ntmps30
    go_wp2_with fail
    go_ret
    exact ⟨rfl, rfl⟩
  · have hle : decide ((u.size : Int) ≤ (s.size : Int)) = false := by simp; omega
    rw [pre_long s u hl]
    go_enter Try.func30, Try.ntmps30
    go_wp2_with fail
    go_ret
    exact ⟨rfl, rfl⟩

theorem hasPrefix_any (s u : ByteArray) (w : World) (hs : s.size ≤ maxLen) (hu : u.size ≤ maxLen) :
    Calls Try.prog 27 #[.string s, .string u] w fun e w' => e = .returned (.bool (preB u s)) ∧ w = w' := by
  go_enter Try.func27, Try.ntmps27
  go_wp2_with fail
  refine (hasPrefix_in _ _ _ hs hu).mono ?_
  rintro e w1 ⟨rfl, rfl⟩
  go_wp2_with fail
  go_ret
  exact ⟨rfl, rfl⟩

/-- What is left of the text, and the place, behind n bytes. -/
structure ScPost (w w' : World) (g : Nat) (s : ByteArray) (ln cl : Int) (n : Nat) (er : Int) : Prop where
  sc : Sc w' g (s.extract n s.size) (advK ln cl s n).1 (advK ln cl s n).2 er
  mod : Mod w w' (OneB g)

theorem extract_zero (s : ByteArray) : s.extract 0 s.size = s := by simp
theorem Sc.post0 {w w' : World} {g : Nat} {s : ByteArray} {ln cl er : Int} (h : Sc w' g s ln cl er) (hm : Mod w w' (OneB g)) : ScPost w w' g s ln cl 0 er :=
  ⟨by rw [extract_zero]; exact h, hm⟩

def L (s : ByteArray) : List UInt8 := s.data.toList
theorem L_len (s : ByteArray) : (L s).length = s.size := by simp [L]
theorem preB_iff {u s : ByteArray} : preB u s = true ↔ L u <+: L s := List.isPrefixOf_iff_prefix

theorem word_any (w : World) (g : Nat) (s u : ByteArray) (ln cl er : Int) (hSc : Sc w g s ln cl er) (hu : u.size ≤ maxLen) :
    Calls Try.prog 14 #[.pointer (some ⟨g, 0, none⟩), .string u] w fun e w' => e = .returned (.bool (wordOut (L u) (L s) er).1) ∧ ScPost w w' g s ln cl (wordOut (L u) (L s) er).2.2 (wordOut (L u) (L s) er).2.1 := by
  obtain ⟨c0, c1, c2, c3, f0, f1, f2, f3⟩ := hSc.cells
  have hg := hSc.lt
  have hsm := hSc.2.1
  by_cases he : er = 0
  · subst he
    by_cases hp : L u <+: L s
    · have hpt : preB u s = true := preB_iff.2 hp
      have hle : u.size ≤ s.size := by have := hp.length_le; rwa [L_len, L_len] at this
      have hW : wordOut (L u) (L s) 0 = (true, 0, u.size) := by simp [wordOut, hp, L_len]
      rw [hW]
      have HP := Lib.hid hpt
      clear hpt hp hW
      go_enter Try.func14, Try.ntmps14
      go_wp2_with fail
      refine (hasPrefix_any _ _ _ hsm hu).mono ?_
      rintro e w1 ⟨rfl, rfl⟩
      rw [HP.out]
      go_wp2_with fail
      refine (skip_any _ _ _ _ _ _ _ hSc hle).mono ?_
      rintro e w1 ⟨rfl, h1, hm1⟩
      have H1 := Lib.hid (ScPost.mk h1 hm1)
      clear h1 hm1
      go_wp2_with fail
      go_ret
      exact ⟨rfl, H1.out⟩
    · have hpf : preB u s = false := by
        rw [Bool.eq_false_iff]; intro h; exact hp (preB_iff.1 h)
      have HP := Lib.hid hpf
      clear hpf
      by_cases hq : L s <+: L u
      · have hqt : preB s u = true := preB_iff.2 hq
        have hW : wordOut (L u) (L s) 0 = (false, 20, 0) := by simp [wordOut, hp, hq]
        rw [hW]
        have HQ := Lib.hid hqt
        clear hqt hq hp hW
        go_enter Try.func14, Try.ntmps14
        go_wp2_with fail
        refine (hasPrefix_any _ _ _ hsm hu).mono ?_
        rintro e w1 ⟨rfl, rfl⟩
        rw [HP.out]
        go_wp2_with fail
        refine (hasPrefix_any _ _ _ hu hsm).mono ?_
        rintro e w1 ⟨rfl, rfl⟩
        rw [HQ.out]
        go_wp2_with fail
        refine (fail_any _ _ _ _ _ _ _ hSc).mono ?_
        rintro e w1 ⟨rfl, h1, hm1⟩
        have H1 := Lib.hid (And.intro h1 hm1)
        clear h1 hm1
        go_wp2_with fail
        go_ret
        exact ⟨rfl, Sc.post0 (by simpa using H1.out.1) H1.out.2⟩
      · have hqf : preB s u = false := by
          rw [Bool.eq_false_iff]; intro h; exact hq (preB_iff.1 h)
        have hW : wordOut (L u) (L s) 0 = (false, 21, 0) := by simp [wordOut, hp, hq]
        rw [hW]
        have HQ := Lib.hid hqf
        clear hqf hq hp hW
        go_enter Try.func14, Try.ntmps14
        go_wp2_with fail
        refine (hasPrefix_any _ _ _ hsm hu).mono ?_
        rintro e w1 ⟨rfl, rfl⟩
        rw [HP.out]
        go_wp2_with fail
        refine (hasPrefix_any _ _ _ hu hsm).mono ?_
        rintro e w1 ⟨rfl, rfl⟩
        rw [HQ.out]
        go_wp2_with fail
        refine (fail_any _ _ _ _ _ _ _ hSc).mono ?_
        rintro e w1 ⟨rfl, h1, hm1⟩
        have H1 := Lib.hid (And.intro h1 hm1)
        clear h1 hm1
        go_wp2_with fail
        go_ret
        exact ⟨rfl, Sc.post0 (by simpa using H1.out.1) H1.out.2⟩
  · have hb : (er != 0) = true := by simpa using he
    have hW : wordOut (L u) (L s) er = (false, er, 0) := by simp [wordOut, he]
    rw [hW]
    clear hW he
    go_enter Try.func14, Try.ntmps14
    go_wp2_with fail
    go_ret
    exact ⟨rfl, hSc.post0 (Mod.refl _ _)⟩

theorem one_str (c : UInt8) : strOfNums [(c.toNat : Int)] = ⟨#[c]⟩ := by
  simp [strOfNums]

theorem byte_any (w : World) (g : Nat) (s : ByteArray) (c : UInt8) (ln cl er : Int) (hSc : Sc w g s ln cl er) :
    Calls Try.prog 21 #[.pointer (some ⟨g, 0, none⟩), .int .u8 c.toNat] w fun e w' => e = .returned (.bool (wordOut [c] (L s) er).1) ∧ ScPost w w' g s ln cl (wordOut [c] (L s) er).2.2 (wordOut [c] (L s) er).2.1 := by
  have hconv := run_convert_bytes_arg (P := Try.prog) (w.alloc (.cells #[.int .u8 c.toNat] 5)) 34 5 Try.underlying34 Try.underlying5 w.heap.size 0 1 1 [(c.toNat : Int)] rfl (fun i hi => by
    obtain rfl : i = 0 := by omega
    simp) 9 Try.underlying9
  rw [one_str] at hconv
  go_enter Try.func21, Try.ntmps21
  go_wp2_with fail
  refine (word_any _ _ _ _ _ _ _ (hSc.alloc _) (show (ByteArray.mk #[c]).size ≤ maxLen by unfold maxLen; exact Nat.le_of_lt (by decide : 1 < 2 ^ 63 - 1))).mono ?_
  rintro e w1 ⟨rfl, h1⟩
  have H1 := Lib.hid h1
  clear h1 hconv
  go_wp2_with fail
  go_ret
  exact ⟨rfl, H1.out.sc, ((Mod.refl w (OneB g)).alloc _).trans H1.out.mod (fun _ _ h => h)⟩
end Go.Proofs.Ytekbiaphnpnpgaa
