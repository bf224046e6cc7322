/- The contracts of the reference's scanner. -/
import Derived.Test.YtekbiaphnpnpgaaScanM
namespace Go.Proofs.Ytekbiaphnpnpgaa
open Go.RowKit
set_option linter.unusedVariables false

/-- The reference's scanner at block g: the text, where it is, its place, its error. -/
def RB (w : World) (g : Nat) (s : ByteArray) (at' : Nat) (ln cl er : Int) : Prop := w.heap[g]? = some (.cells #[.string s, .int .i64 at', .int .i64 ln, .int .i64 cl, .int .i64 er] 51 (0, 0))
def RSc (w : World) (g : Nat) (s : ByteArray) (at' : Nat) (ln cl er : Int) : Prop :=
  RB w g s at' ln cl er ∧ s.size ≤ 4611686018427387904 ∧ at' ≤ s.size ∧ 1 ≤ ln ∧ 1 ≤ cl ∧ ln + ((s.size - at' : Nat) : Int) ≤ 4611686018427387904 ∧ cl + ((s.size - at' : Nat) : Int) ≤ 4611686018427387904

theorem RB.cells {w : World} {g : Nat} {s : ByteArray} {a : Nat} {ln cl er : Int} (h : RB w g s a ln cl er) :
    w.cell? ⟨g, 0, none⟩ = some (.string s) ∧ w.cell? ⟨g, 1, none⟩ = some (.int .i64 a) ∧ w.cell? ⟨g, 2, none⟩ = some (.int .i64 ln) ∧ w.cell? ⟨g, 3, none⟩ = some (.int .i64 cl) ∧ w.cell? ⟨g, 4, none⟩ = some (.int .i64 er) ∧
    w.frozen? ⟨g, 0, none⟩ = false ∧ w.frozen? ⟨g, 1, none⟩ = false ∧ w.frozen? ⟨g, 2, none⟩ = false ∧ w.frozen? ⟨g, 3, none⟩ = false ∧ w.frozen? ⟨g, 4, none⟩ = false := by
  have h1 := h
  unfold RB at h1
  refine ⟨?_, ?_, ?_, ?_, ?_, ?_, ?_, ?_, ?_, ?_⟩ <;> simp [World.cell?, World.frozen?, h1]
theorem RB.lt {w : World} {g : Nat} {s : ByteArray} {a : Nat} {ln cl er : Int} (h : RB w g s a ln cl er) : g < w.heap.size := (Array.getElem?_eq_some_iff.1 h).1
theorem RSc.mod {w w' : World} {g : Nat} {s : ByteArray} {a : Nat} {ln cl er : Int} {S : Nat → Prop} (h : RSc w g s a ln cl er) (hm : Mod w w' S) (hn : ¬ S g) : RSc w' g s a ln cl er := ⟨(hm.block g h.1.lt hn).trans h.1, h.2⟩
theorem RSc.drewN {w : World} {g : Nat} {s : ByteArray} {a : Nat} {ln cl er : Int} (h : RSc w g s a ln cl er) (n : Nat) : RSc (w.drewN n) g s a ln cl er := h
theorem RSc.alloc {w : World} {g : Nat} {s : ByteArray} {a : Nat} {ln cl er : Int} (h : RSc w g s a ln cl er) (o : Obj) : RSc (w.alloc o) g s a ln cl er := h.mod ((Mod.refl _ NoB).alloc o) (by simp [NoB])
theorem RB.set {w : World} {g : Nat} {s : ByteArray} {a : Nat} {ln cl er : Int} (h : RB w g s a ln cl er) (x y : Int) : RB ((w.setCell ⟨g, 2, none⟩ (.int .i64 x)).setCell ⟨g, 3, none⟩ (.int .i64 y)) g s a x y er := by
  unfold RB; rw [heap_set_cells (heap_set_cells h _)]; rfl
theorem RB.setCol {w : World} {g : Nat} {s : ByteArray} {a : Nat} {ln cl er : Int} (h : RB w g s a ln cl er) (y : Int) : RB (w.setCell ⟨g, 3, none⟩ (.int .i64 y)) g s a ln y er := by
  unfold RB; rw [heap_set_cells h]; rfl
theorem RB.setAt {w : World} {g : Nat} {s : ByteArray} {a : Nat} {ln cl er : Int} (h : RB w g s a ln cl er) (b : Nat) : RB (w.setCell ⟨g, 1, none⟩ (.int .i64 b)) g s b ln cl er := by
  unfold RB; rw [heap_set_cells h]; rfl
theorem RB.setErr {w : World} {g : Nat} {s : ByteArray} {a : Nat} {ln cl er : Int} (h : RB w g s a ln cl er) (x : Int) : RB (w.setCell ⟨g, 4, none⟩ (.int .i64 x)) g s a ln cl x := by
  unfold RB; rw [heap_set_cells h]; rfl

/-- What is left of a text. -/
def lft (s : ByteArray) (a : Nat) : List UInt8 := (L s).drop a
theorem lft_at (s : ByteArray) (a k : Nat) (h : a + k < s.size) : (lft s a)[k]? = some s[a + k] := by
  unfold lft; rw [List.getElem?_drop]; exact at_byte s (a + k) h
theorem lft_len (s : ByteArray) (a : Nat) : (lft s a).length = s.size - a := by unfold lft; rw [List.length_drop, L_len]

/-- A place, k bytes on. -/
def advL (p : Int × Int) (l : List UInt8) (k : Nat) : Int × Int := adv p (l.take k)
theorem advL_succ (p : Int × Int) (l : List UInt8) (k : Nat) (c : UInt8) (h : l[k]? = some c) : advL p l (k + 1) = if c.toNat = 10 then ((advL p l k).1 + 1, 1) else ((advL p l k).1, (advL p l k).2 + 1) := by
  unfold advL; rw [List.take_add_one, h]; exact adv_snoc _ _ _
theorem advL_bd (p : Int × Int) (l : List UInt8) (k : Nat) (hk : k ≤ l.length) (hp : 1 ≤ p.2) : p.1 ≤ (advL p l k).1 ∧ (advL p l k).1 ≤ p.1 + k ∧ 1 ≤ (advL p l k).2 ∧ (advL p l k).2 ≤ p.2 + k := by
  have := adv_bd (l.take k) p hp
  rw [List.length_take, Nat.min_eq_left hk] at this
  exact this

theorem rnew_any (w : World) (s : ByteArray) (hs : s.size ≤ 1099511627776) :
    Calls Try.prog 16 #[.string s] w fun e w' => e = .returned (.pointer (some ⟨w.heap.size, 0, none⟩)) ∧ RSc w' w.heap.size s 0 1 1 0 ∧ Mod w w' NoB ∧ w'.heap.size = w.heap.size + 1 := by
  go_enter Try.func16, Try.ntmps16
  go_wp2_with fail
  go_ret
  exact ⟨rfl, ⟨(MapKept.heap_alloc w _).1, by omega, by omega, by omega, by omega, by omega, by omega⟩, (Mod.refl _ _).alloc _, by simp⟩

theorem rdigit_any (c : UInt8) (w : World) : Calls Try.prog 28 #[.int .u8 c.toNat] w fun e w' => e = .returned (.bool (isD c)) ∧ w = w' := by
  have hc : c.toNat < 256 := c.toNat_lt
  by_cases h1 : (48 : Int) ≤ (c.toNat : Int)
  · by_cases h2 : (c.toNat : Int) ≤ 57
    · have hd : isD c = true := by simp [isD]; omega
      rw [hd]
      go_enter Try.func28, Try.ntmps28
      go_wp2_with fail
      go_ret
      exact ⟨rfl, rfl⟩
    · have hd : isD c = false := by simp [isD]; omega
      rw [hd]
      go_enter Try.func28, Try.ntmps28
      go_wp2_with fail
      go_ret
      exact ⟨rfl, rfl⟩
  · have hd : isD c = false := by simp [isD]; omega
    rw [hd]
    go_enter Try.func28, Try.ntmps28
    go_wp2_with fail
    go_ret
    exact ⟨rfl, rfl⟩

theorem rfail_any (w : World) (g : Nat) (s : ByteArray) (a : Nat) (ln cl er x : Int) (hR : RSc w g s a ln cl er) :
    Calls Try.prog 24 #[.pointer (some ⟨g, 0, none⟩), .int .i64 x] w fun e w' => e = .returned (.tuple #[]) ∧ RSc w' g s a ln cl (if er = 0 then x else er) ∧ Mod w w' (OneB g) := by
  obtain ⟨c0, c1, c2, c3, c4, f0, f1, f2, f3, f4⟩ := hR.1.cells
  by_cases he : er = 0
  · subst he
    go_enter Try.func24, Try.ntmps24
    go_wp2_with fail
    go_end0
    exact ⟨rfl, ⟨hR.1.setErr _, hR.2⟩, Mod.set1 _ _ _ _⟩
  · have hb : (er == 0) = false := by simpa using he
    rw [if_neg he]
    clear he
    go_enter Try.func24, Try.ntmps24
    go_wp2_with fail
    go_end0
    exact ⟨rfl, hR, Mod.refl _ _⟩

/-- What Next answers. -/
def rnextV (s : ByteArray) (a : Nat) (er : Int) : Value := if h : er = 0 ∧ a < s.size then .tuple #[.int .u8 (s[a]'h.2).toNat, .bool true] else .tuple #[.int .u8 0, .bool false]
theorem rnextV_some {s : ByteArray} {a : Nat} (h : a < s.size) : rnextV s a 0 = .tuple #[.int .u8 s[a].toNat, .bool true] := by simp [rnextV, h]
theorem rnextV_none {s : ByteArray} {a : Nat} {er : Int} (h : er ≠ 0 ∨ ¬ a < s.size) : rnextV s a er = .tuple #[.int .u8 0, .bool false] := by
  unfold rnextV; rw [dif_neg (by omega)]

theorem rnext_any (w : World) (g : Nat) (s : ByteArray) (a : Nat) (ln cl er : Int) (hR : RSc w g s a ln cl er) :
    Calls Try.prog 20 #[.pointer (some ⟨g, 0, none⟩)] w fun e w' => e = .returned (rnextV s a er) ∧ ∃ n, w' = w.drewN n := by
  obtain ⟨c0, c1, c2, c3, c4, f0, f1, f2, f3, f4⟩ := hR.1.cells
  have hm := hR.2.1
  by_cases he : er = 0
  · subst he
    by_cases h0 : a < s.size
    · rw [rnextV_some h0]
      have h0' : (a : Int) < (s.size : Int) := by omega
      go_enter Try.func20, Try.ntmps20
      go_wp2_with fail
      go_quiet (fail)
      go_wp2_with fail
      go_quiet (fail)
      go_wp2_with fail
      go_ret2
      exact ⟨rfl, _, World.drewN_drewN _ _ _⟩
    · rw [rnextV_none (Or.inr h0)]
      have h0' : ¬ ((a : Int) < (s.size : Int)) := by omega
      go_enter Try.func20, Try.ntmps20
      go_wp2_with fail
      go_quiet (fail)
      go_wp2_with fail
      go_ret2
      exact ⟨rfl, _, rfl⟩
  · have hb : (er != 0) = true := by simpa using he
    rw [rnextV_none (Or.inl he)]
    clear he
    go_enter Try.func20, Try.ntmps20
    go_wp2_with fail
    go_quiet (fail)
    go_wp2_with fail
    go_ret2
    exact ⟨rfl, _, rfl⟩

structure RPost (w w' : World) (g : Nat) (s : ByteArray) (a : Nat) (ln cl : Int) (n : Nat) (er : Int) : Prop where
  sc : RSc w' g s (a + n) (advL (ln, cl) (lft s a) n).1 (advL (ln, cl) (lft s a) n).2 er
  mod : Mod w w' (OneB g)
theorem RSc.post0 {w w' : World} {g : Nat} {s : ByteArray} {a : Nat} {ln cl er : Int} (h : RSc w' g s a ln cl er) (hm : Mod w w' (OneB g)) : RPost w w' g s a ln cl 0 er := ⟨h, hm⟩

set_option maxHeartbeats 1000000 in
theorem rmove_any (w : World) (g : Nat) (s : ByteArray) (a : Nat) (ln cl er : Int) (n : Nat) (hR : RSc w g s a ln cl er) (hn : a + n ≤ s.size) :
    Calls Try.prog 29 #[.pointer (some ⟨g, 0, none⟩), .int .i64 n] w fun e w' => e = .returned (.tuple #[]) ∧ RPost w w' g s a ln cl n er := by
  obtain ⟨hB, hm, ha, hl0, hc0, hl1, hc1⟩ := id hR
  have hlen := lft_len s a
  go_enter Try.func29, Try.ntmps29
  go_wp2_with fail
  go_loopw [4] (fun i wr => ∃ k : Nat, k ≤ n ∧ i = .int .i64 k ∧ Hid (RB wr g s (a + k) (advL (ln, cl) (lft s a) k).1 (advL (ln, cl) (lft s a) k).2 er ∧ Mod w wr (OneB g))) (fun i _ => n - (intOf i).toNat)
  case atStart => exact ⟨0, Nat.zero_le _, rfl, hB, Mod.refl _ _⟩
  case round =>
    obtain ⟨k, hk, rfl, HR⟩ := hrel
    clear hR hB
    have hbd := advL_bd (ln, cl) (lft s a) k (by omega) hc0
    by_cases hlt : k < n
    · have hks : a + k < s.size := by omega
      have hsucc := advL_succ (ln, cl) (lft s a) k _ (lft_at s a k hks)
      obtain ⟨x, hx⟩ : ∃ x, x = (advL (ln, cl) (lft s a) k).1 := ⟨_, rfl⟩
      obtain ⟨y, hy⟩ : ∃ y, y = (advL (ln, cl) (lft s a) k).2 := ⟨_, rfl⟩
      obtain ⟨m, hmm⟩ : ∃ m, m = a + k := ⟨_, rfl⟩
      have HB := Lib.hid HR.out
      rw [← hx, ← hy, ← hmm] at HB
      rw [← hx, ← hy] at hsucc hbd
      have hms : m < s.size := by omega
      have hsucc2 : advL (ln, cl) (lft s a) (k + 1) = if (s[m]'hms).toNat = 10 then (x + 1, 1) else (x, y + 1) := by subst hmm; exact hsucc
      have HS := Lib.hid hsucc2
      have HM := Lib.hid hmm
      clear HR hx hy hsucc hsucc2 hmm hlen
      obtain ⟨c0, c1, c2, c3, c4, f0, f1, f2, f3, f4⟩ := HB.out.1.cells
      by_cases h10 : (s[m]'hms).toNat = 10
      · have hb : ((((s[m]'hms).toNat : Nat) : Int) == 10) = true := by simp [h10]
        have HE : Hid (advL (ln, cl) (lft s a) (k + 1) = (x + 1, 1)) := by have := HS.out; rwa [if_pos h10] at this
        clear h10 HS
        go_wp2_with fail
        go_quiet (fail)
        go_wp2_with fail
        go_roundw
        case rel => exact ⟨k + 1, by omega, by go_num, by rw [HE.out, show a + (k + 1) = m + 1 by have := HM.out; omega]; exact (HB.out.1.set _ _).setAt _, (((HB.out.2.drewN _).setG _).setG _).setG _⟩
        case measure => simp [intOf]; omega
      · have hb : ((((s[m]'hms).toNat : Nat) : Int) == 10) = false := by simp; omega
        have HE : Hid (advL (ln, cl) (lft s a) (k + 1) = (x, y + 1)) := by have := HS.out; rwa [if_neg h10] at this
        clear h10 HS
        go_wp2_with fail
        go_quiet (fail)
        go_wp2_with fail
        go_roundw
        case rel => exact ⟨k + 1, by omega, by go_num, by rw [HE.out, show a + (k + 1) = m + 1 by have := HM.out; omega]; exact (HB.out.1.setCol _).setAt _, ((HB.out.2.drewN _).setG _).setG _⟩
        case measure => simp [intOf]; omega
    · have hke : k = n := by omega
      subst hke
      clear hlt
      go_wp2_with fail
      go_end0
      exact ⟨rfl, ⟨HR.out.1, hm, by omega, by omega, by omega, by omega, by omega⟩, HR.out.2⟩
end Go.Proofs.Ytekbiaphnpnpgaa
