/- Merged: Ref RefW RefN -/
import Derived.Test.YtppambkffgmkgaaGreatDoorMg11
import Derived.IntWalk
section
/- The contracts of the reference's scanner. -/
namespace Go.Proofs.YtppambkffgmkgaaGreatDoor
open Go.RowKit
set_option linter.unusedVariables false

/-- The reference's scanner at block g: the text, where it is, its place, its error. -/
def RB (w : World) (g : Nat) (s : ByteArray) (at' : Nat) (ln cl er : Int) : Prop := w.heap[g]? = some (.cells #[.string s, .int .i64 at', .int .i64 ln, .int .i64 cl, .int .i64 er] 100 (0, 0))
def RSc (w : World) (g : Nat) (s : ByteArray) (at' : Nat) (ln cl er : Int) : Prop :=
  RB w g s at' ln cl er ∧ s.size ≤ 4611686018427387904 ∧ at' ≤ s.size ∧ 1 ≤ ln ∧ 1 ≤ cl ∧ ln + ((s.size - at' : Nat) : Int) ≤ 4611686018427387904 ∧ cl + ((s.size - at' : Nat) : Int) ≤ 4611686018427387904

theorem RB.cells {w : World} {g : Nat} {s : ByteArray} {a : Nat} {ln cl er : Int} (h : RB w g s a ln cl er) :
    w.cell? ⟨g, 0, none⟩ = some (.string s) ∧ w.cell? ⟨g, 1, none⟩ = some (.int .i64 a) ∧ w.cell? ⟨g, 2, none⟩ = some (.int .i64 ln) ∧ w.cell? ⟨g, 3, none⟩ = some (.int .i64 cl) ∧ w.cell? ⟨g, 4, none⟩ = some (.int .i64 er) ∧
    w.frozen? ⟨g, 0, none⟩ = false ∧ w.frozen? ⟨g, 1, none⟩ = false ∧ w.frozen? ⟨g, 2, none⟩ = false ∧ w.frozen? ⟨g, 3, none⟩ = false ∧ w.frozen? ⟨g, 4, none⟩ = false := by
  have h1 := h
  unfold RB at h1
  refine ⟨?_, ?_, ?_, ?_, ?_, ?_, ?_, ?_, ?_, ?_⟩ <;> simp [World.cell?, World.frozen?, h1]
theorem RB.lt {w : World} {g : Nat} {s : ByteArray} {a : Nat} {ln cl er : Int} (h : RB w g s a ln cl er) : g < w.heap.size := (Array.getElem?_eq_some_iff.1 h).1
theorem RSc.mod {w w' : World} {g : Nat} {s : ByteArray} {a : Nat} {ln cl er : Int} {S : Nat → Prop} (h : RSc w g s a ln cl er) (hm : Mod w w' S) (hn : ¬ S g) : RSc w' g s a ln cl er := ⟨(hm.block g h.1.lt hn).trans h.1, h.2⟩
theorem RSc.drewN {w : World} {g : Nat} {s : ByteArray} {a : Nat} {ln cl er : Int} (h : RSc w g s a ln cl er) (n : Nat) : RSc (w.drewN n) g s a ln cl er := h
theorem RSc.alloc {w : World} {g : Nat} {s : ByteArray} {a : Nat} {ln cl er : Int} (h : RSc w g s a ln cl er) (o : Obj) : RSc (w.alloc o) g s a ln cl er := h.mod ((Mod.refl _ NoB).alloc o) (by simp [NoB])
theorem RB.set {w : World} {g : Nat} {s : ByteArray} {a : Nat} {ln cl er : Int} (h : RB w g s a ln cl er) (x y : Int) : RB ((w.setCell ⟨g, 2, none⟩ (.int .i64 x)).setCell ⟨g, 3, none⟩ (.int .i64 y)) g s a x y er := by
  unfold RB; rw [heap_set_cells (heap_set_cells h _)]; rfl
theorem RB.setCol {w : World} {g : Nat} {s : ByteArray} {a : Nat} {ln cl er : Int} (h : RB w g s a ln cl er) (y : Int) : RB (w.setCell ⟨g, 3, none⟩ (.int .i64 y)) g s a ln y er := by
  unfold RB; rw [heap_set_cells h]; rfl
theorem RB.setAt {w : World} {g : Nat} {s : ByteArray} {a : Nat} {ln cl er : Int} (h : RB w g s a ln cl er) (b : Nat) : RB (w.setCell ⟨g, 1, none⟩ (.int .i64 b)) g s b ln cl er := by
  unfold RB; rw [heap_set_cells h]; rfl
theorem RB.setErr {w : World} {g : Nat} {s : ByteArray} {a : Nat} {ln cl er : Int} (h : RB w g s a ln cl er) (x : Int) : RB (w.setCell ⟨g, 4, none⟩ (.int .i64 x)) g s a ln cl x := by
  unfold RB; rw [heap_set_cells h]; rfl

/-- What is left of a text. -/
def lft (s : ByteArray) (a : Nat) : List UInt8 := (L s).drop a
theorem lft_at (s : ByteArray) (a k : Nat) (h : a + k < s.size) : (lft s a)[k]? = some s[a + k] := by
  unfold lft; rw [List.getElem?_drop]; exact at_byte s (a + k) h
theorem lft_len (s : ByteArray) (a : Nat) : (lft s a).length = s.size - a := by unfold lft; rw [List.length_drop, L_len]

/-- A place, k bytes on. -/
def advL (p : Int × Int) (l : List UInt8) (k : Nat) : Int × Int := adv p (l.take k)
theorem advL_succ (p : Int × Int) (l : List UInt8) (k : Nat) (c : UInt8) (h : l[k]? = some c) : advL p l (k + 1) = if c.toNat = 10 then ((advL p l k).1 + 1, 1) else ((advL p l k).1, (advL p l k).2 + 1) := by
  unfold advL; rw [List.take_add_one, h]; exact adv_snoc _ _ _
theorem advL_bd (p : Int × Int) (l : List UInt8) (k : Nat) (hk : k ≤ l.length) (hp : 1 ≤ p.2) : p.1 ≤ (advL p l k).1 ∧ (advL p l k).1 ≤ p.1 + k ∧ 1 ≤ (advL p l k).2 ∧ (advL p l k).2 ≤ p.2 + k := by
  have := adv_bd (l.take k) p hp
  rw [List.length_take, Nat.min_eq_left hk] at this
  exact this

theorem rnew_any (w : World) (s : ByteArray) (hs : s.size ≤ 1099511627776) :
    Calls Tryz.prog 41 #[.string s] w fun e w' => e = .returned (.pointer (some ⟨w.heap.size, 0, none⟩)) ∧ RSc w' w.heap.size s 0 1 1 0 ∧ Mod w w' NoB ∧ w'.heap.size = w.heap.size + 1 := by
  go_enter Tryz.func41, Tryz.ntmps41
  go_wp2_with fail
  go_ret
  exact ⟨rfl, ⟨(MapKept.heap_alloc w _).1, by omega, by omega, by omega, by omega, by omega, by omega⟩, (Mod.refl _ _).alloc _, by simp⟩

theorem rdigit_any (c : UInt8) (w : World) : Calls Tryz.prog 75 #[.int .u8 c.toNat] w fun e w' => e = .returned (.bool (isD c)) ∧ w = w' := by
  have hc : c.toNat < 256 := c.toNat_lt
  by_cases h1 : (48 : Int) ≤ (c.toNat : Int)
  · by_cases h2 : (c.toNat : Int) ≤ 57
    · have hd : isD c = true := by simp [isD]; omega
      rw [hd]
      go_enter Tryz.func75, Tryz.ntmps75
      go_wp2_with fail
      go_ret
      exact ⟨rfl, rfl⟩
    · have hd : isD c = false := by simp [isD]; omega
      rw [hd]
      go_enter Tryz.func75, Tryz.ntmps75
      go_wp2_with fail
      go_ret
      exact ⟨rfl, rfl⟩
  · have hd : isD c = false := by simp [isD]; omega
    rw [hd]
    go_enter Tryz.func75, Tryz.ntmps75
    go_wp2_with fail
    go_ret
    exact ⟨rfl, rfl⟩

theorem rfail_any (w : World) (g : Nat) (s : ByteArray) (a : Nat) (ln cl er x : Int) (hR : RSc w g s a ln cl er) :
    Calls Tryz.prog 73 #[.pointer (some ⟨g, 0, none⟩), .int .i64 x] w fun e w' => e = .returned (.tuple #[]) ∧ RSc w' g s a ln cl (if er = 0 then x else er) ∧ Mod w w' (OneB g) := by
  obtain ⟨c0, c1, c2, c3, c4, f0, f1, f2, f3, f4⟩ := hR.1.cells
  by_cases he : er = 0
  · subst he
    go_enter Tryz.func73, Tryz.ntmps73
    go_wp2_with fail
    go_end0
    exact ⟨rfl, ⟨hR.1.setErr _, hR.2⟩, Mod.set1 _ _ _ _⟩
  · have hb : (er == 0) = false := by simpa using he
    rw [if_neg he]
    clear he
    go_enter Tryz.func73, Tryz.ntmps73
    go_wp2_with fail
    go_end0
    exact ⟨rfl, hR, Mod.refl _ _⟩

/-- What Next answers. -/
def rnextV (s : ByteArray) (a : Nat) (er : Int) : Value := if h : er = 0 ∧ a < s.size then .tuple #[.int .u8 (s[a]'h.2).toNat, .bool true] else .tuple #[.int .u8 0, .bool false]
theorem rnextV_some {s : ByteArray} {a : Nat} (h : a < s.size) : rnextV s a 0 = .tuple #[.int .u8 s[a].toNat, .bool true] := by simp [rnextV, h]
theorem rnextV_none {s : ByteArray} {a : Nat} {er : Int} (h : er ≠ 0 ∨ ¬ a < s.size) : rnextV s a er = .tuple #[.int .u8 0, .bool false] := by
  unfold rnextV; rw [dif_neg (by omega)]

theorem rnext_any (w : World) (g : Nat) (s : ByteArray) (a : Nat) (ln cl er : Int) (hR : RSc w g s a ln cl er) :
    Calls Tryz.prog 45 #[.pointer (some ⟨g, 0, none⟩)] w fun e w' => e = .returned (rnextV s a er) ∧ ∃ n, w' = w.drewN n := by
  obtain ⟨c0, c1, c2, c3, c4, f0, f1, f2, f3, f4⟩ := hR.1.cells
  have hm := hR.2.1
  by_cases he : er = 0
  · subst he
    by_cases h0 : a < s.size
    · rw [rnextV_some h0]
      have h0' : (a : Int) < (s.size : Int) := by omega
      go_enter Tryz.func45, Tryz.ntmps45
      go_wp2_with fail
      go_quiet (fail)
      go_wp2_with fail
      go_quiet (fail)
      go_wp2_with fail
      go_ret2
      exact ⟨rfl, _, World.drewN_drewN _ _ _⟩
    · rw [rnextV_none (Or.inr h0)]
      have h0' : ¬ ((a : Int) < (s.size : Int)) := by omega
      go_enter Tryz.func45, Tryz.ntmps45
      go_wp2_with fail
      go_quiet (fail)
      go_wp2_with fail
      go_ret2
      exact ⟨rfl, _, rfl⟩
  · have hb : (er != 0) = true := by simpa using he
    rw [rnextV_none (Or.inl he)]
    clear he
    go_enter Tryz.func45, Tryz.ntmps45
    go_wp2_with fail
    go_quiet (fail)
    go_wp2_with fail
    go_ret2
    exact ⟨rfl, _, rfl⟩

structure RPost (w w' : World) (g : Nat) (s : ByteArray) (a : Nat) (ln cl : Int) (n : Nat) (er : Int) : Prop where
  sc : RSc w' g s (a + n) (advL (ln, cl) (lft s a) n).1 (advL (ln, cl) (lft s a) n).2 er
  mod : Mod w w' (OneB g)
theorem RSc.post0 {w w' : World} {g : Nat} {s : ByteArray} {a : Nat} {ln cl er : Int} (h : RSc w' g s a ln cl er) (hm : Mod w w' (OneB g)) : RPost w w' g s a ln cl 0 er := ⟨h, hm⟩

set_option maxRecDepth 100000 in
set_option maxHeartbeats 1000000 in
theorem rmove_any (w : World) (g : Nat) (s : ByteArray) (a : Nat) (ln cl er : Int) (n : Nat) (hR : RSc w g s a ln cl er) (hn : a + n ≤ s.size) :
    Calls Tryz.prog 74 #[.pointer (some ⟨g, 0, none⟩), .int .i64 n] w fun e w' => e = .returned (.tuple #[]) ∧ RPost w w' g s a ln cl n er := by
  obtain ⟨hB, hm, ha, hl0, hc0, hl1, hc1⟩ := id hR
  have hlen := lft_len s a
  go_enter Tryz.func74, Tryz.ntmps74
  go_wp2_with fail
  go_loopw [4] (fun i wr => ∃ k : Nat, k ≤ n ∧ i = .int .i64 k ∧ Hid (RB wr g s (a + k) (advL (ln, cl) (lft s a) k).1 (advL (ln, cl) (lft s a) k).2 er ∧ Mod w wr (OneB g))) (fun i _ => n - (intOf i).toNat)
  case atStart => exact ⟨0, Nat.zero_le _, rfl, hB, Mod.refl _ _⟩
  case round =>
    obtain ⟨k, hk, rfl, HR⟩ := hrel
    clear hR hB
    have hbd := advL_bd (ln, cl) (lft s a) k (by omega) hc0
    by_cases hlt : k < n
    · have hks : a + k < s.size := by omega
      have hsucc := advL_succ (ln, cl) (lft s a) k _ (lft_at s a k hks)
      obtain ⟨x, hx⟩ : ∃ x, x = (advL (ln, cl) (lft s a) k).1 := ⟨_, rfl⟩
      obtain ⟨y, hy⟩ : ∃ y, y = (advL (ln, cl) (lft s a) k).2 := ⟨_, rfl⟩
      obtain ⟨m, hmm⟩ : ∃ m, m = a + k := ⟨_, rfl⟩
      have HB := Lib.hid HR.out
      rw [← hx, ← hy, ← hmm] at HB
      rw [← hx, ← hy] at hsucc hbd
      have hms : m < s.size := by omega
      have hsucc2 : advL (ln, cl) (lft s a) (k + 1) = if (s[m]'hms).toNat = 10 then (x + 1, 1) else (x, y + 1) := by subst hmm; exact hsucc
      have HS := Lib.hid hsucc2
      have HM := Lib.hid hmm
      clear HR hx hy hsucc hsucc2 hmm hlen
      obtain ⟨c0, c1, c2, c3, c4, f0, f1, f2, f3, f4⟩ := HB.out.1.cells
      by_cases h10 : (s[m]'hms).toNat = 10
      · have hb : ((((s[m]'hms).toNat : Nat) : Int) == 10) = true := by simp [h10]
        have HE : Hid (advL (ln, cl) (lft s a) (k + 1) = (x + 1, 1)) := by have := HS.out; rwa [if_pos h10] at this
        clear h10 HS
        go_wp2_with fail
        go_quiet (fail)
        go_wp2_with fail
        go_roundw
        case rel => exact ⟨k + 1, by omega, by go_num, by rw [HE.out, show a + (k + 1) = m + 1 by have := HM.out; omega]; exact (HB.out.1.set _ _).setAt _, (((HB.out.2.drewN _).setG _).setG _).setG _⟩
        case measure => simp [intOf]; omega
      · have hb : ((((s[m]'hms).toNat : Nat) : Int) == 10) = false := by simp; omega
        have HE : Hid (advL (ln, cl) (lft s a) (k + 1) = (x, y + 1)) := by have := HS.out; rwa [if_neg h10] at this
        clear h10 HS
        go_wp2_with fail
        go_quiet (fail)
        go_wp2_with fail
        go_roundw
        case rel => exact ⟨k + 1, by omega, by go_num, by rw [HE.out, show a + (k + 1) = m + 1 by have := HM.out; omega]; exact (HB.out.1.setCol _).setAt _, ((HB.out.2.drewN _).setG _).setG _⟩
        case measure => simp [intOf]; omega
    · have hke : k = n := by omega
      subst hke
      clear hlt
      go_wp2_with fail
      go_end0
      exact ⟨rfl, ⟨HR.out.1, hm, by omega, by omega, by omega, by omega, by omega⟩, HR.out.2⟩
end Go.Proofs.YtppambkffgmkgaaGreatDoor
end

section
/- The contracts of the reference's Word and Byte. -/
namespace Go.Proofs.YtppambkffgmkgaaGreatDoor
open Go.RowKit
set_option linter.unusedVariables false

/-- The first k bytes are alike. -/
def Alike (u l : List UInt8) (k : Nat) : Prop := k ≤ u.length ∧ k ≤ l.length ∧ u.take k = l.take k
theorem alike_all {u l : List UInt8} (h : Alike u l u.length) : u <+: l := by
  have := h.2.2; rw [List.take_length] at this
  exact List.prefix_iff_eq_take.2 this
theorem alike_short {u l : List UInt8} (h : Alike u l l.length) (hlt : l.length < u.length) : ¬ u <+: l ∧ l <+: u := by
  refine ⟨fun hp => absurd hp.length_le (by omega), ?_⟩
  have := h.2.2; rw [List.take_length] at this
  exact List.prefix_iff_eq_take.2 this.symm
theorem alike_succ {u l : List UInt8} {k : Nat} {c : UInt8} (h : Alike u l k) (hu : u[k]? = some c) (hl : l[k]? = some c) : Alike u l (k + 1) := by
  have h1 := (List.getElem?_eq_some_iff.1 hu).1
  have h2 := (List.getElem?_eq_some_iff.1 hl).1
  exact ⟨h1, h2, by rw [List.take_add_one, List.take_add_one, hu, hl, h.2.2]⟩
theorem alike_not {u l : List UInt8} {k : Nat} {c d : UInt8} (hu : u[k]? = some c) (hl : l[k]? = some d) (hne : c ≠ d) : ¬ u <+: l ∧ ¬ l <+: u := by
  have h1 := (List.getElem?_eq_some_iff.1 hu).1
  have h2 := (List.getElem?_eq_some_iff.1 hl).1
  refine ⟨fun hp => ?_, fun hp => ?_⟩
  · obtain ⟨t, ht⟩ := hp
    rw [← ht, List.getElem?_append_left h1, hu] at hl
    exact hne (Option.some.inj hl)
  · obtain ⟨t, ht⟩ := hp
    rw [← ht, List.getElem?_append_left h2, hl] at hu
    exact hne (Option.some.inj hu).symm

set_option maxRecDepth 100000 in
set_option maxHeartbeats 2000000 in
theorem rword_any (w : World) (g : Nat) (s u : ByteArray) (a : Nat) (ln cl er : Int) (hR : RSc w g s a ln cl er) (hu : u.size ≤ maxLen) :
    Calls Tryz.prog 42 #[.pointer (some ⟨g, 0, none⟩), .string u] w fun e w' => e = .returned (.bool (wordOut (L u) (lft s a) er).1) ∧ RPost w w' g s a ln cl (wordOut (L u) (lft s a) er).2.2 (wordOut (L u) (lft s a) er).2.1 := by
  obtain ⟨c0, c1, c2, c3, c4, f0, f1, f2, f3, f4⟩ := hR.1.cells
  obtain ⟨hB, hm, ha, hl0, hc0, hl1, hc1⟩ := id hR
  unfold maxLen at hu
  have hlen := lft_len s a
  have hulen := L_len u
  by_cases he : er = 0
  · subst he
    have HR := Lib.hid hR
    clear hR hB
    go_enter Tryz.func42, Tryz.ntmps42
    go_wp2_with fail
    go_loopw [5] (fun i wr => ∃ k n : Nat, i = .int .i64 k ∧ wr = w.drewN n ∧ Hid (Alike (L u) (lft s a) k) ∧ k ≤ u.size ∧ a + k ≤ s.size) (fun i _ => u.size - (intOf i).toNat)
    case atStart => exact ⟨0, 0, rfl, rfl, ⟨Nat.zero_le _, Nat.zero_le _, rfl⟩, Nat.zero_le _, ha⟩
    case round =>
      obtain ⟨k, n, rfl, rfl, HA, hk, hak⟩ := hrel
      by_cases hlt : k < u.size
      · have hku : (k : Int) < (u.size : Int) := by omega
        by_cases h2 : a + k < s.size
        · have h2' : ¬ ((s.size : Int) ≤ (a : Int) + (k : Int)) := by omega
          have e1 := lft_at s a k h2
          have e2 : (L u)[k]? = some u[k] := at_byte u k hlt
          by_cases h3 : s[a + k] = u[k]
          · have HE := Lib.hid (alike_succ HA.out e2 (by rw [e1, h3]))
            have hb : (((s[a + k].toNat : Nat) : Int) != ((u[k].toNat : Nat) : Int)) = false := by rw [h3]; simp
            clear e1 e2 h3
            have q1 : IntKind.i64.wrap ((a : Int) + (k : Int)) = (a : Int) + (k : Int) := IntWalk.i64_in _ (by omega)
            have q2 : (0 : Int) ≤ (a : Int) + (k : Int) := by omega
            have q4 : (a : Int) + (k : Int) < (s.size : Int) := by omega
            have q3 : ((a : Int) + (k : Int)).toNat = a + k := by omega
            go_wp2_with fail
            go_quiet (fail)
            go_wp2_with fail
            go_quiet (fail)
            go_wp2_with fail
            go_roundw
            case rel => exact ⟨k + 1, _, by go_num, by first | rfl | (rw [World.drewN_drewN, World.drewN_drewN]; done) | (rw [World.drewN_drewN]; done), HE.out, hlt, by omega⟩
            case measure => simp [intOf]; omega
          · have hno := alike_not e2 e1 (fun e => h3 e.symm)
            have hW : wordOut (L u) (lft s a) 0 = (false, 21, 0) := by simp [wordOut, hno.1, hno.2]
            have HW := Lib.hid hW
            have hb : (((s[a + k].toNat : Nat) : Int) != ((u[k].toNat : Nat) : Int)) = true := by
              simp only [bne_iff_ne, ne_eq, Int.natCast_inj]
              exact fun e => h3 (UInt8.toNat_inj.1 e)
            clear e1 e2 h3 hno hW
            have q1 : IntKind.i64.wrap ((a : Int) + (k : Int)) = (a : Int) + (k : Int) := IntWalk.i64_in _ (by omega)
            have q2 : (0 : Int) ≤ (a : Int) + (k : Int) := by omega
            have q4 : (a : Int) + (k : Int) < (s.size : Int) := by omega
            have q3 : ((a : Int) + (k : Int)).toNat = a + k := by omega
            go_wp2_with fail
            go_quiet (fail)
            go_wp2_with fail
            go_quiet (fail)
            go_wp2_with fail
            refine (rfail_any _ _ _ _ _ _ _ _ (HR.out.drewN _)).mono ?_
            rintro e w1 ⟨rfl, h1, hm1⟩
            have H1 := Lib.hid (And.intro h1 hm1)
            clear h1 hm1
            go_wp2_with fail
            go_ret
            rw [HW.out]
            exact ⟨rfl, RSc.post0 (by simpa using H1.out.1) (((Mod.refl w _).drewN _).trans H1.out.2 (fun _ _ h => h))⟩
        · have h2' : (s.size : Int) ≤ (a : Int) + (k : Int) := by omega
          have hkl : k = (lft s a).length := by omega
          have hsh := alike_short (u := L u) (l := lft s a) (hkl ▸ HA.out) (by omega)
          have hW : wordOut (L u) (lft s a) 0 = (false, 20, 0) := by simp [wordOut, hsh.1, hsh.2]
          have HW := Lib.hid hW
          clear hkl hsh hW
          go_wp2_with fail
          go_quiet (fail)
          go_wp2_with fail
          refine (rfail_any _ _ _ _ _ _ _ _ (HR.out.drewN _)).mono ?_
          rintro e w1 ⟨rfl, h1, hm1⟩
          have H1 := Lib.hid (And.intro h1 hm1)
          clear h1 hm1
          go_wp2_with fail
          go_ret
          rw [HW.out]
          exact ⟨rfl, RSc.post0 (by simpa using H1.out.1) (((Mod.refl w _).drewN _).trans H1.out.2 (fun _ _ h => h))⟩
      · have hke : k = (L u).length := by omega
        have hp : L u <+: lft s a := alike_all (hke ▸ HA.out)
        have hW : wordOut (L u) (lft s a) 0 = (true, 0, u.size) := by simp [wordOut, hp, L_len]
        have HW := Lib.hid hW
        have hau : a + u.size ≤ s.size := by omega
        have hkk : ¬ ((k : Int) < (u.size : Int)) := by omega
        clear hke hp hW
        go_wp2_with fail
        refine (rmove_any _ _ _ _ _ _ _ _ (HR.out.drewN _) hau).mono ?_
        rintro e w1 ⟨rfl, h1⟩
        have H1 := Lib.hid h1
        clear h1
        go_wp2_with fail
        go_ret
        rw [HW.out]
        exact ⟨rfl, H1.out.sc, ((Mod.refl w _).drewN _).trans H1.out.mod (fun _ _ h => h)⟩
  · have hb : (er != 0) = true := by simpa using he
    have hW : wordOut (L u) (lft s a) er = (false, er, 0) := by simp [wordOut, he]
    rw [hW]
    clear hW he
    go_enter Tryz.func42, Tryz.ntmps42
    go_wp2_with fail
    go_ret
    exact ⟨rfl, hR.post0 (Mod.refl _ _)⟩

theorem rbyte_any (w : World) (g : Nat) (s : ByteArray) (c : UInt8) (a : Nat) (ln cl er : Int) (hR : RSc w g s a ln cl er) :
    Calls Tryz.prog 43 #[.pointer (some ⟨g, 0, none⟩), .int .u8 c.toNat] w fun e w' => e = .returned (.bool (wordOut [c] (lft s a) er).1) ∧ RPost w w' g s a ln cl (wordOut [c] (lft s a) er).2.2 (wordOut [c] (lft s a) er).2.1 := by
  have hconv := run_convert_bytes_arg (P := Tryz.prog) (w.alloc (.cells #[.int .u8 c.toNat] 5)) 26 5 Tryz.underlying26 Tryz.underlying5 w.heap.size 0 1 1 [(c.toNat : Int)] rfl (fun i hi => by
    obtain rfl : i = 0 := by omega
    simp) 9 Tryz.underlying9
  rw [one_str] at hconv
  go_enter Tryz.func43, Tryz.ntmps43
  go_wp2_with fail
  refine (rword_any _ _ _ _ _ _ _ _ (hR.alloc _) (show (ByteArray.mk #[c]).size ≤ maxLen by unfold maxLen; exact Nat.le_of_lt (by decide : 1 < 2 ^ 63 - 1))).mono ?_
  rintro e w1 ⟨rfl, h1⟩
  have H1 := Lib.hid h1
  clear h1 hconv
  go_wp2_with fail
  go_ret
  exact ⟨rfl, H1.out.sc, ((Mod.refl w (OneB g)).alloc _).trans H1.out.mod (fun _ _ h => h)⟩
end Go.Proofs.YtppambkffgmkgaaGreatDoor
end

section
/- The contract of the reference's Number. -/
namespace Go.Proofs.YtppambkffgmkgaaGreatDoor
open Go.RowKit
set_option linter.unusedVariables false

def ndl (l : List UInt8) : Nat := (l.takeWhile isD).length
theorem ndl_le (l : List UInt8) : ndl l ≤ l.length := (List.takeWhile_sublist _).length_le
theorem ndl_get {l : List UInt8} {k : Nat} (h : k < ndl l) : (l.takeWhile isD)[k]? = l[k]? := by
  have : l.takeWhile isD = l.take (ndl l) := takeWhile_eq_take _ _
  rw [this, List.getElem?_take_of_lt h]
theorem ndl_digit {l : List UInt8} {k : Nat} {c : UInt8} (h : k < ndl l) (hc : l[k]? = some c) : isD c = true := by
  rw [← ndl_get h] at hc
  exact List.all_eq_true.1 (List.all_takeWhile) _ (List.mem_of_getElem? hc)
theorem ndl_stop : ∀ {l : List UInt8} {c : UInt8}, l[ndl l]? = some c → isD c = false
  | [], c, h => by simp at h
  | a :: l, c, h => by
    by_cases ha : isD a = true
    · have e : ndl (a :: l) = ndl l + 1 := by simp [ndl, ha]
      rw [e, List.getElem?_cons_succ] at h
      exact ndl_stop h
    · have e : ndl (a :: l) = 0 := by simp [ndl, ha]
      rw [e, List.getElem?_cons_zero] at h
      cases h
      simpa using ha
theorem dsl_take_succ {l : List UInt8} {k : Nat} {c : UInt8} (h : k < ndl l) (hc : l[k]? = some c) : (l.takeWhile isD).take (k + 1) = (l.takeWhile isD).take k ++ [c] := by
  rw [List.take_add_one, ndl_get h, hc]; rfl
theorem valof_stepl {most : Int} {l : List UInt8} {j : Nat} {v : Int} {c : UInt8} (h : j < ndl l) (hc : l[j]? = some c) (hv : valof most ((l.takeWhile isD).take j) 0 = some v) :
    valof most ((l.takeWhile isD).take (j + 1)) 0 = if dv c > most ∨ v > (most - dv c) / 10 then none else some (v * 10 + dv c) := by
  rw [dsl_take_succ h hc, valof_snoc, hv]; rfl

theorem numErr_cases {l : List UInt8} : (l = [] ∧ numErr l = 20) ∨ (l ≠ [] ∧ (ndl l = 0 ∨ (1 < ndl l ∧ l.head? = some 48)) ∧ numErr l = 21) ∨ (0 < ndl l ∧ ¬ (1 < ndl l ∧ l.head? = some 48) ∧ numErr l = 0) := by
  by_cases h0 : l = []
  · exact Or.inl ⟨h0, by simp [numErr, h0]⟩
  · right
    by_cases h1 : ndl l = 0 ∨ (1 < ndl l ∧ l.head? = some 48)
    · exact Or.inl ⟨h0, h1, by unfold numErr; rw [if_neg h0]; exact if_pos h1⟩
    · exact Or.inr ⟨by omega, fun h => h1 (Or.inr h), by unfold numErr; rw [if_neg h0]; exact if_neg h1⟩

theorem rnum_err (w : World) (g : Nat) (s : ByteArray) (a : Nat) (ln cl er most : Int) (hR : RSc w g s a ln cl er) (he : er ≠ 0) :
    Calls Tryz.prog 44 #[.pointer (some ⟨g, 0, none⟩), .int .u64 most] w fun e w' => e = .returned (.int .u64 0) ∧ w = w' := by
  obtain ⟨c0, c1, c2, c3, c4, f0, f1, f2, f3, f4⟩ := hR.1.cells
  have hb : (er != 0) = true := by simpa using he
  clear he
  go_enter Tryz.func44, Tryz.ntmps44
  go_wp2_with fail
  go_ret
  exact ⟨rfl, rfl⟩

set_option maxHeartbeats 4000000 in
set_option maxRecDepth 100000 in
theorem rnum_ok (w : World) (g : Nat) (s : ByteArray) (a : Nat) (ln cl most : Int) (hR : RSc w g s a ln cl 0) (hmo : 0 ≤ most ∧ most < 18446744073709551616) :
    Calls Tryz.prog 44 #[.pointer (some ⟨g, 0, none⟩), .int .u64 most] w fun e w' => e = .returned (.int .u64 (numOut most (lft s a) 0).1) ∧ RPost w w' g s a ln cl (numOut most (lft s a) 0).2.2 (numOut most (lft s a) 0).2.1 := by
  obtain ⟨O, hOO⟩ : ∃ O, O = numOut most (lft s a) 0 := ⟨_, rfl⟩
  rw [← hOO]
  have HOO := Lib.hid hOO
  clear hOO
  obtain ⟨c0, c1, c2, c3, c4, f0, f1, f2, f3, f4⟩ := hR.1.cells
  obtain ⟨hB, hm, ha, _⟩ := id hR
  have hlen := lft_len s a
  have hnl := ndl_le (lft s a)
  obtain ⟨N, hN⟩ : ∃ N, N = ndl (lft s a) := ⟨_, rfl⟩
  have hNb : a + N ≤ s.size := by omega
  have HN := Lib.hid hN
  have HR := Lib.hid hR
  clear hN hR hB hlen hnl
  go_enter Tryz.func44, Tryz.ntmps44
  go_upto_block 0 with (fail)
  go_cut [5] (fun v wc => v = .int .i64 N ∧ Hid (RSc wc g s a ln cl 0 ∧ Mod w wc (OneB g)))
  case first =>
    go_wp2_with fail
    go_loopw [5] (fun i wr => ∃ k n : Nat, k ≤ N ∧ i = .int .i64 k ∧ wr = w.drewN n) (fun i _ => N - (intOf i).toNat)
    case atStart => exact ⟨0, 0, Nat.zero_le _, rfl, rfl⟩
    case round =>
      obtain ⟨k, n, hk, rfl, rfl⟩ := hrel
      by_cases hlt : a + k < s.size
      · have e1 := lft_at s a k hlt
        have hdd : isD s[a + k] = decide (k < N) := by
          by_cases h : k < N
          · rw [ndl_digit (l := lft s a) (by rw [← HN.out]; exact h) e1]; simp [h]
          · have hke : k = ndl (lft s a) := by have := HN.out; omega
            rw [ndl_stop (l := lft s a) (hke ▸ e1)]; simp [h]
        have HD := Lib.hid hdd
        have q1 : IntKind.i64.wrap ((a : Int) + (k : Int)) = (a : Int) + (k : Int) := IntWalk.i64_in _ (by omega)
        have q2 : (0 : Int) ≤ (a : Int) + (k : Int) := by omega
        have q4 : (a : Int) + (k : Int) < (s.size : Int) := by omega
        have q3 : ((a : Int) + (k : Int)).toNat = a + k := by omega
        have q5 : decide ((a : Int) + (k : Int) < (s.size : Int)) = true := decide_eq_true q4
        clear e1 hdd
        by_cases hkN : k < N
        · have hd : isD s[a + k] = true := by rw [HD.out]; simp [hkN]
          have HD2 := Lib.hid hd
          clear hd
          go_wp2_with fail
          go_quiet ((go_at_call 75; exact quiet_left2 (HD2.out ▸ rdigit_any s[a + k] _)))
          go_wp2_with fail
          go_roundw
          case rel => exact ⟨k + 1, _, by omega, by go_num, by first | rfl | (rw [World.drewN_drewN, World.drewN_drewN]; done) | (rw [World.drewN_drewN]; done)⟩
          case measure => simp [intOf]; omega
        · have hd : isD s[a + k] = false := by rw [HD.out]; simp [hkN]
          have HD2 := Lib.hid hd
          obtain rfl : k = N := by omega
          clear hd
          go_wp2_with fail
          go_quiet ((go_at_call 75; exact quiet_left2 (HD2.out ▸ rdigit_any s[a + k] _)))
          go_wp2_with fail
          go_meet
          case rel => exact ⟨rfl, (by first | exact HR.out.drewN _ | exact (HR.out.drewN _).drewN _), (by first | exact (Mod.refl _ _).drewN _ | exact ((Mod.refl _ _).drewN _).drewN _)⟩
      · obtain rfl : k = N := by omega
        have q4 : ¬ ((a : Int) + (k : Int) < (s.size : Int)) := by omega
        have q5 : decide ((a : Int) + (k : Int) < (s.size : Int)) = false := decide_eq_false q4
        go_wp2_with fail
        go_quiet (fail)
        go_wp2_with fail
        go_meet
        case rel => exact ⟨rfl, (by first | exact HR.out.drewN _ | exact (HR.out.drewN _).drewN _), (by first | exact (Mod.refl _ _).drewN _ | exact ((Mod.refl _ _).drewN _).drewN _)⟩
  case rest =>
    obtain ⟨rfl, HC⟩ := hcut
    clear c0 c1 c2 c3 c4 f0 f1 f2 f3 f4
    obtain ⟨c0, c1, c2, c3, c4, f0, f1, f2, f3, f4⟩ := HC.out.1.1.cells
    have hlen := lft_len s a
    have hNE := HN.out
    rcases numErr_cases (l := lft s a) with ⟨h1, h2⟩ | ⟨h1, h2, h3⟩ | ⟨h1, h2, h3⟩
    · have hN0 : N = 0 := by rw [hNE, h1]; rfl
      have has : a = s.size := by rw [h1] at hlen; simp at hlen; omega
      have hO : numOut most (lft s a) 0 = (0, 20, 0) := by unfold numOut; rw [if_neg (by simp), if_pos (by simp [h2]), h2]
      have HO := Lib.hid (HOO.out.trans hO)
      subst hN0
      have hb1 : ((a : Int) == (s.size : Int)) = true := by simp [has]
      clear h1 h2 hlen hNE has hO
      go_wp2_with fail
      go_quiet (fail)
      go_wp2_with fail
      refine (rfail_any _ _ _ _ _ _ _ _ (HC.out.1.drewN _)).mono ?_
      rintro e w1 ⟨rfl, h1, hm1⟩
      have H1 := Lib.hid (And.intro h1 hm1)
      clear h1 hm1
      go_wp2_with fail
      go_ret
      rw [HO.out]
      exact ⟨rfl, RSc.post0 (by simpa using H1.out.1) ((HC.out.2.drewN _).trans H1.out.2 (fun _ _ h => h))⟩
    · have hO : numOut most (lft s a) 0 = (0, 21, 0) := by unfold numOut; rw [if_neg (by simp), if_pos (by simp [h3]), h3]
      have has : a < s.size := by
        rcases Nat.lt_or_ge a s.size with h | h
        · exact h
        · exact absurd (List.length_eq_zero_iff.1 (by omega)) h1
      have HO := Lib.hid (HOO.out.trans hO)
      by_cases hN0 : N = 0
      · subst hN0
        have hb1 : ((a : Int) == (s.size : Int)) = false := by simp; omega
        clear h1 h2 h3 hlen hNE hO
        go_wp2_with fail
        go_quiet (fail)
        go_wp2_with fail
        go_quiet (fail)
        go_wp2_with fail
        refine (rfail_any _ _ _ _ _ _ _ _ (HC.out.1.drewN _)).mono ?_
        rintro e w1 ⟨rfl, h1, hm1⟩
        have H1 := Lib.hid (And.intro h1 hm1)
        clear h1 hm1
        go_wp2_with fail
        go_ret
        rw [HO.out]
        exact ⟨rfl, RSc.post0 (by simpa using H1.out.1) ((HC.out.2.drewN _).trans H1.out.2 (fun _ _ h => h))⟩
      · obtain ⟨h4, h5⟩ : 1 < N ∧ (lft s a).head? = some 48 := by
          rcases h2 with h | h
          · omega
          · exact ⟨by omega, h.2⟩
        have h6 : s[a].toNat = 48 := by
          have e1 := lft_at s a 0 (by omega)
          rw [List.head?_eq_getElem?, e1] at h5
          have := Option.some.inj h5
          simpa using congrArg UInt8.toNat this
        have hb0 : ((N : Int) == 0) = false := by simp; omega
        have hb1 : (1 : Int) < (N : Int) := by omega
        have hb2 : (((s[a].toNat : Nat) : Int) == 48) = true := by simp [h6]
        have has' : (a : Int) < (s.size : Int) := by omega
        have hb3 : (decide ((1 : Int) < (N : Int))) = true := decide_eq_true hb1
        clear h1 h2 h3 hlen hNE hO h4 h5 h6 hN0
        go_wp2_with fail
        go_quiet (fail)
        go_wp2_with fail
        go_quiet (fail)
        go_wp2_with fail
        refine (rfail_any _ _ _ _ _ _ _ _ (HC.out.1.drewN _)).mono ?_
        rintro e w1 ⟨rfl, h1, hm1⟩
        have H1 := Lib.hid (And.intro h1 hm1)
        clear h1 hm1
        go_wp2_with fail
        go_ret
        rw [HO.out]
        exact ⟨rfl, RSc.post0 (by simpa using H1.out.1) ((HC.out.2.drewN _).trans H1.out.2 (fun _ _ h => h))⟩
    · have hO1 : ∀ v, valof most ((lft s a).takeWhile isD) 0 = some v → numOut most (lft s a) 0 = (v, 0, N) := fun v hv => by
        unfold numOut; rw [if_neg (by simp), if_neg (by simp [h3]), hv, hNE]; rfl
      have hO2 : valof most ((lft s a).takeWhile isD) 0 = none → numOut most (lft s a) 0 = (0, 22, 0) := fun hv => by
        unfold numOut; rw [if_neg (by simp), if_neg (by simp [h3]), hv]
      have HO := Lib.hid (And.intro hO1 hO2)
      have has : a < s.size := by omega
      have h6 : N = 1 ∨ ¬ s[a].toNat = 48 := by
        by_cases h1' : N = 1
        · exact Or.inl h1'
        · refine Or.inr fun h48 => h2 ⟨by omega, ?_⟩
          have e1 := lft_at s a 0 (by omega)
          rw [List.head?_eq_getElem?, e1]
          congr 1
          exact UInt8.toNat_inj.1 (by simpa using h48)
      have H6 := Lib.hid h6
      have hb0 : ((N : Int) == 0) = false := by simp; omega
      have hNpos : 0 < N := by omega
      clear h1 h2 h3 hlen hO1 hO2 h6 hNE
      go_upto_region 9 with (go_quiet (fail))
      go_cut [59] (fun v wx => v = .bool false ∧ Hid (RSc wx g s a ln cl 0 ∧ Mod w wx (OneB g)))
      case first =>
        by_cases h1' : N = 1
        · have hb1 : ¬ ((1 : Int) < (N : Int)) := by omega
          have hb2 : decide ((1 : Int) < (N : Int)) = false := decide_eq_false hb1
          clear h1'
          go_quiet (fail)
          go_wp2_with fail
          go_meet
          case rel => exact ⟨rfl, (by first | exact HC.out.1.drewN _ | exact (HC.out.1.drewN _).drewN _), (by first | exact HC.out.2.drewN _ | exact (HC.out.2.drewN _).drewN _)⟩
        · have hb1 : (1 : Int) < (N : Int) := by omega
          have hb2 : decide ((1 : Int) < (N : Int)) = true := decide_eq_true hb1
          have has' : (a : Int) < (s.size : Int) := by omega
          have hb3 : (((s[a].toNat : Nat) : Int) == 48) = false := by
            have := H6.out.resolve_left h1'
            simp; omega
          clear h1'
          go_quiet (fail)
          go_wp2_with fail
          go_meet
          case rel => exact ⟨rfl, (by first | exact HC.out.1.drewN _ | exact (HC.out.1.drewN _).drewN _), (by first | exact HC.out.2.drewN _ | exact (HC.out.2.drewN _).drewN _)⟩
      case rest =>
        obtain ⟨rfl, HD⟩ := hcut
        clear c0 c1 c2 c3 c4 f0 f1 f2 f3 f4 HC
        go_wp2_with fail
        go_loopw [6, 7] (fun v i wr => ∃ (j : Nat) (x : Int), j ≤ N ∧ i = .int .i64 j ∧ v = .int .u64 x ∧ Hid (RSc wr g s a ln cl 0 ∧ valof most (((lft s a).takeWhile isD).take j) 0 = some x ∧ Mod w wr (OneB g)) ∧ 0 ≤ x ∧ x ≤ most) (fun _ i _ => N - (intOf i).toNat)
        case atStart => exact ⟨0, 0, Nat.zero_le _, rfl, rfl, ⟨HD.out.1, rfl, HD.out.2⟩, Int.le_refl _, hmo.1⟩
        case round =>
          obtain ⟨j, x, hj, rfl, rfl, HA, hx0, hx1⟩ := hrel
          obtain ⟨c0, c1, c2, c3, c4, f0, f1, f2, f3, f4⟩ := HA.out.1.1.cells
          by_cases hlt : j < N
          · have hjs : a + j < s.size := by omega
            have e1 := lft_at s a j hjs
            have hd := ndl_digit (l := lft s a) (by rw [← HN.out]; exact hlt) e1
            have hdb := dv_bd hd
            have hst := valof_stepl (by rw [← HN.out]; exact hlt) e1 HA.out.2.1
            have hdy : dv s[a + j] = ((s[a + j].toNat : Nat) : Int) - 48 := rfl
            rw [hdy] at hdb hst
            have HS := Lib.hid hst
            have q1 : IntKind.i64.wrap ((a : Int) + (j : Int)) = (a : Int) + (j : Int) := IntWalk.i64_in _ (by omega)
            have q2 : (0 : Int) ≤ (a : Int) + (j : Int) := by omega
            have q4 : (a : Int) + (j : Int) < (s.size : Int) := by omega
            have q3 : ((a : Int) + (j : Int)).toNat = a + j := by omega
            have hy48 : 48 ≤ ((s[a + j].toNat : Nat) : Int) := by omega
            have hy57 : ((s[a + j].toNat : Nat) : Int) ≤ 57 := by omega
            have hw1 : IntKind.u8.wrap (((s[a + j].toNat : Nat) : Int) - 48) = ((s[a + j].toNat : Nat) : Int) - 48 := by rw [IntKind.wrap_u8]; omega
            have hw2 : IntKind.u64.wrap (((s[a + j].toNat : Nat) : Int) - 48) = ((s[a + j].toNat : Nat) : Int) - 48 := by rw [IntKind.wrap_u64]; omega
            clear e1 hd hst hdy hdb
            by_cases hbig : ((s[a + j].toNat : Nat) : Int) - 48 > most
            · have hE : valof most ((lft s a).takeWhile isD) 0 = none := by
                have h1 := HS.out; rw [if_pos (Or.inl hbig)] at h1
                have h2 := valof_none_of (r := ((lft s a).takeWhile isD).drop (j + 1)) h1
                rwa [List.take_append_drop] at h2
              have HE := Lib.hid (HOO.out.trans (HO.out.2 hE))
              have hgt : most < ((s[a + j].toNat : Nat) : Int) - 48 := hbig
              clear hbig HS hE
              go_wp2_with fail
              go_quiet (fail)
              go_wp2_with fail
              refine (rfail_any _ _ _ _ _ _ _ _ (HA.out.1.drewN _)).mono ?_
              rintro e w1 ⟨rfl, h1, hm1⟩
              have H1 := Lib.hid (And.intro h1 hm1)
              clear h1 hm1
              go_wp2_with fail
              go_ret
              rw [HE.out]
              exact ⟨rfl, RSc.post0 (by simpa using H1.out.1) ((HA.out.2.2.drewN _).trans H1.out.2 (fun _ _ h => h))⟩
            · have hle : ¬ (most < ((s[a + j].toNat : Nat) : Int) - 48) := by omega
              by_cases hov : x > (most - (((s[a + j].toNat : Nat) : Int) - 48)) / 10
              · have hE : valof most ((lft s a).takeWhile isD) 0 = none := by
                  have h1 := HS.out; rw [if_pos (Or.inr hov)] at h1
                  have h2 := valof_none_of (r := ((lft s a).takeWhile isD).drop (j + 1)) h1
                  rwa [List.take_append_drop] at h2
                have HE := Lib.hid (HOO.out.trans (HO.out.2 hE))
                have hgt : (most - (((s[a + j].toNat : Nat) : Int) - 48)) / 10 < x := hov
                clear hbig hov HS hE
                go_wp2_with fail
                go_quiet (fail)
                go_wp2_with fail
                refine (rfail_any _ _ _ _ _ _ _ _ (HA.out.1.drewN _)).mono ?_
                rintro e w1 ⟨rfl, h1, hm1⟩
                have H1 := Lib.hid (And.intro h1 hm1)
                clear h1 hm1
                go_wp2_with fail
                go_ret
                rw [HE.out]
                exact ⟨rfl, RSc.post0 (by simpa using H1.out.1) ((HA.out.2.2.drewN _).trans H1.out.2 (fun _ _ h => h))⟩
              · have HE : Hid (valof most (((lft s a).takeWhile isD).take (j + 1)) 0 = some (x * 10 + (((s[a + j].toNat : Nat) : Int) - 48))) := by
                  have h1 := HS.out; rwa [if_neg (by omega)] at h1
                have hgt : ¬ ((most - (((s[a + j].toNat : Nat) : Int) - 48)) / 10 < x) := hov
                have hx2 : x * 10 + (((s[a + j].toNat : Nat) : Int) - 48) ≤ most := by omega
                clear hbig hov HS
                go_wp2_with fail
                go_quiet (fail)
                go_wp2_with fail
                go_roundw
                case rel => exact ⟨j + 1, x * 10 + (((s[a + j].toNat : Nat) : Int) - 48), by omega, by go_num, by congr 1; omega, ⟨HA.out.1.drewN _, HE.out, HA.out.2.2.drewN _⟩, by omega, hx2⟩
                case measure => simp [intOf]; omega
          · obtain rfl : j = N := by omega
            have hE : valof most ((lft s a).takeWhile isD) 0 = some x := by
              have h1 := HA.out.2.1
              have h2 : ((lft s a).takeWhile isD).take j = (lft s a).takeWhile isD := by
                rw [HN.out]; exact List.take_length
              rwa [h2] at h1
            have HE := Lib.hid (HOO.out.trans (HO.out.1 x hE))
            clear hE
            go_wp2_with fail
            refine (rmove_any _ _ _ _ _ _ _ _ HA.out.1 hNb).mono ?_
            rintro e w1 ⟨rfl, h1⟩
            have H1 := Lib.hid h1
            clear h1
            go_wp2_with fail
            go_ret
            rw [HE.out]
            exact ⟨rfl, H1.out.sc, HA.out.2.2.trans H1.out.mod (fun _ _ h => h)⟩

theorem rnumber_any (w : World) (g : Nat) (s : ByteArray) (a : Nat) (ln cl er most : Int) (hR : RSc w g s a ln cl er) (hmo : 0 ≤ most ∧ most < 18446744073709551616) :
    Calls Tryz.prog 44 #[.pointer (some ⟨g, 0, none⟩), .int .u64 most] w fun e w' => e = .returned (.int .u64 (numOut most (lft s a) er).1) ∧ RPost w w' g s a ln cl (numOut most (lft s a) er).2.2 (numOut most (lft s a) er).2.1 := by
  by_cases he : er = 0
  · subst he
    exact rnum_ok w g s a ln cl most hR hmo
  · refine (rnum_err w g s a ln cl er most hR he).mono ?_
    rintro e w' ⟨rfl, rfl⟩
    have hO : numOut most (lft s a) er = (0, er, 0) := by simp [numOut, he]
    rw [hO]
    exact ⟨rfl, hR.post0 (Mod.refl _ _)⟩
end Go.Proofs.YtppambkffgmkgaaGreatDoor
end
