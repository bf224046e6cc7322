/- Merged: LgLp LgLt TbQ -/
import Derived.Test.YtppambkffgmkgaaGreatDoorMg29
import Derived.Test.YtppambkffgmkgaaGreatDoorMg18
import Derived.Test.YtppambkffgmkgaaGreatDoorMg10
import Derived.Test.YtppambkffgmkgaaGreatDoorMg19
import Derived.WalkKit
import Derived.Test.YtppambkffgmkgaaGreatDoorMg28
import Derived.Test.YtppambkffgmkgaaGreatDoorMg25
section
/- Plain: LogLines' eight bad lines behind a log that may be. -/
namespace Go.Proofs.YtppambkffgmkgaaGreatDoor
set_option linter.unusedVariables false

def lastT (F : List Ev) : Int := if h : F = [] then -1 else (F.getLast h).t
theorem lastT_at {F : List Ev} {x : Ev} (h : F[F.length - 1]? = some x) : lastT F = x.t := by
  have hne : F ≠ [] := by rintro rfl; simp at h
  unfold lastT
  rw [dif_neg hne]
  rw [← List.getLast?_eq_getElem?, List.getLast?_eq_some_getLast hne] at h
  rw [Option.some.inj h]
theorem prevOf_lt {F : List Ev} {x : Ev} (h : lastT F < x.t) : (prevOf F F.length).any (fun p => decide (¬ before p x)) = false := by
  unfold prevOf
  by_cases hF : F.length = 0
  · rw [if_pos hF]; rfl
  · rw [if_neg hF]
    obtain ⟨y, hy⟩ : ∃ y, F[F.length - 1]? = some y := ⟨F[F.length - 1]'(by omega), List.getElem?_eq_getElem _⟩
    rw [hy]
    rw [lastT_at hy] at h
    have hb : before y x := by unfold before; exact Or.inl h
    simp [hb]
/-- The bad line of a number, t a time's text. -/
def badL (t : List UInt8) : Nat → List UInt8
  | 0 => [48, 32, 43, 32, 49, 32, 49, 10]
  | 1 => t ++ [32, 43, 32, 49, 32, 48, 10]
  | 2 => t ++ [32, 43, 32, 48, 32, 52, 50, 57, 52, 57, 54, 55, 50, 57, 53, 10]
  | 3 => [52, 54, 49, 49, 54, 56, 54, 48, 49, 56, 52, 50, 55, 51, 56, 55, 57, 48, 51, 32, 45, 32, 48, 32, 49, 10]
  | 4 => [120, 10]
  | 5 => [52, 54, 49, 49, 54, 56, 54, 48, 49, 56, 52, 50, 55, 51, 56, 55, 57, 48, 52, 32, 43, 32, 48, 32, 49, 10]
  | 6 => [32, 53, 32, 43, 32, 48, 32, 49, 10]
  | _ => [53, 32, 43, 32, 48, 32, 49, 32, 10]
def badE (b : Nat) : Int := [24, 24, 24, 25, 21, 22, 21, 21].getD b 21
def badC (b : Nat) : Int := [1, 1, 1, 1, 1, 1, 1, 8].getD b 8
theorem d0 : decL (0 : Int).toNat = [48] := by decide +kernel
theorem d1 : decL (1 : Int).toNat = [49] := by decide +kernel
theorem dm : decL (4294967295 : Int).toNat = [52, 50, 57, 52, 57, 54, 55, 50, 57, 53] := by decide +kernel
theorem dt : decL (4611686018427387903 : Int).toNat = [52, 54, 49, 49, 54, 56, 54, 48, 49, 56, 52, 50, 55, 51, 56, 55, 57, 48, 51] := by decide +kernel
theorem bad4 (m : Int) : (evS ⟨[120, 10], (m, 1), 0⟩).2.p = (m, 1) ∧ (evS ⟨[120, 10], (m, 1), 0⟩).2.er = 21 := ⟨by kernel_rfl, by kernel_rfl⟩
theorem bad5 (m : Int) : (evS ⟨badL [] 5, (m, 1), 0⟩).2.p = (m, 1) ∧ (evS ⟨badL [] 5, (m, 1), 0⟩).2.er = 22 := ⟨by kernel_rfl, by kernel_rfl⟩
theorem bad6 (m : Int) : (evS ⟨badL [] 6, (m, 1), 0⟩).2.p = (m, 1) ∧ (evS ⟨badL [] 6, (m, 1), 0⟩).2.er = 21 := ⟨by kernel_rfl, by kernel_rfl⟩
theorem bad7 (m : Int) : (evS ⟨badL [] 7, (m, 1), 0⟩).2.p = (m, 8) ∧ (evS ⟨badL [] 7, (m, 1), 0⟩).2.er = 21 := ⟨by kernel_rfl, by kernel_rfl⟩
/-- A line that is not well written. -/
theorem parse_ill {n : Int} {F : List Ev} {r : List UInt8} (hn0 : 0 ≤ n) (hz : (chk n F).2 = 0) (hb : ∀ x ∈ F, EvB x) (hr : r ≠ []) {c : Int} {e : Int} (he : e ≠ 0)
    (hE : (evS ⟨r, ((F.length : Int) + 2, 1), 0⟩).2.p = ((F.length : Int) + 2, c) ∧ (evS ⟨r, ((F.length : Int) + 2, 1), 0⟩).2.er = e) : parseR (logL n F ++ r) = ([], ((F.length : Int) + 2, c), e) := by
  obtain ⟨k, hk, h1, h2⟩ := parse_behind hn0 hz hb r
  rw [h1]
  obtain ⟨k, rfl⟩ : ∃ j, k = j + 1 := ⟨k - 1, by omega⟩
  have hs : (nextS ⟨r, ((F.length : Int) + 2, 1), 0⟩).isSome = true := by
    cases r with
    | nil => exact absurd rfl hr
    | cons c z => simp [nextS]
  rw [(plF_more (n := n) (k := k) (F := F) rfl hs).1 (by rw [hE.2]; exact he), hE.1, hE.2]
theorem lines_plain {n : Int} {F : List Ev} (hn0 : 2 ≤ n) (hz : (chk n F).2 = 0) (hb : ∀ x ∈ F, EvB x) (hl : lastT F < maxT) (t : Int) (ht : 0 ≤ t ∧ t ≤ maxT) (b : Nat) (hb8 : b < 8)
    (h2 : b = 2 → n ≠ 4294967296) (h3 : b = 3 → thereOf F ⟨0, 1⟩ = false) : parseR (logL n F ++ badL (decL t.toNat) b) = ([], ((F.length : Int) + 2, badC b), badE b) := by
  have key : ∀ x : Ev, (0 ≤ x.t ∧ x.t ≤ 4611686018427387903) → EvB x → ∀ e : Nat, e ≠ 0 → evErr n (prevOf F F.length) (thereOf F) x = e → parseR (logL n F ++ lineL x) = ([], ((F.length : Int) + 2, 1), (e : Int)) := by
    intro x hx hbx e he hv
    have h := parse_badline (by omega) hz hb x hx hbx [] (by rw [hv]; exact he)
    rw [List.append_nil, hv] at h
    exact h
  have tm : ¬ (t < 0 ∨ maxT < t) := by omega
  have t0 : ¬ ((0 : Int) < 0 ∨ maxT < 0) := by unfold maxT; omega
  unfold maxT at ht
  rcases (by omega : b = 0 ∨ b = 1 ∨ b = 2 ∨ b = 3 ∨ b = 4 ∨ b = 5 ∨ b = 6 ∨ b = 7) with rfl | rfl | rfl | rfl | rfl | rfl | rfl | rfl
  · have := key ⟨0, ⟨1, 1⟩, true⟩ (by decide) ⟨by simp, by simp⟩ 24 (by decide) (by
      unfold evErr
      rw [if_neg t0, if_pos (by unfold right; simp)])
    have e1 : lineL ⟨0, ⟨1, 1⟩, true⟩ = badL (decL t.toNat) 0 := by
      unfold lineL sgnL; dsimp only; rw [d0, d1]; rfl
    rwa [e1] at this
  · have := key ⟨t, ⟨1, 0⟩, true⟩ ht ⟨by simp, by simp⟩ 24 (by decide) (by
      unfold evErr
      rw [if_neg tm, if_pos (by unfold right; simp)])
    have e1 : lineL ⟨t, ⟨1, 0⟩, true⟩ = badL (decL t.toNat) 1 := by
      unfold lineL sgnL; dsimp only; rw [d0, d1]; simp [badL]
    rwa [e1] at this
  · have hne := h2 rfl
    have hbd := chk_ok_bd hz
    have := key ⟨t, ⟨0, 4294967295⟩, true⟩ ht ⟨by simp, by simp⟩ 24 (by decide) (by
      unfold evErr
      rw [if_neg tm, if_pos (by unfold right; dsimp only; omega)])
    have e1 : lineL ⟨t, ⟨0, 4294967295⟩, true⟩ = badL (decL t.toNat) 2 := by
      unfold lineL sgnL; dsimp only; rw [d0, dm]; simp [badL]
    rwa [e1] at this
  · have hth := h3 rfl
    have := key ⟨4611686018427387903, ⟨0, 1⟩, false⟩ (by decide) ⟨by simp, by simp⟩ 25 (by decide) (by
      unfold evErr
      rw [if_neg (by unfold maxT; decide), if_neg (by unfold right; dsimp only; omega), if_neg (by rw [prevOf_lt (x := ⟨4611686018427387903, ⟨0, 1⟩, false⟩) hl]; decide), if_pos (by exact hth)])
    have e1 : lineL ⟨4611686018427387903, ⟨0, 1⟩, false⟩ = badL (decL t.toNat) 3 := by
      unfold lineL sgnL; dsimp only; rw [d0, d1, dt]; simp [badL]
    rwa [e1] at this
  · exact parse_ill (n := n) (r := [120, 10]) (c := 1) (e := 21) (by omega) hz hb (by simp) (by decide) (bad4 _)
  · exact parse_ill (n := n) (r := badL [] 5) (c := 1) (e := 22) (by omega) hz hb (by simp [badL]) (by decide) (bad5 _)
  · exact parse_ill (n := n) (r := badL [] 6) (c := 1) (e := 21) (by omega) hz hb (by simp [badL]) (by decide) (bad6 _)
  · exact parse_ill (n := n) (r := badL [] 7) (c := 8) (e := 21) (by omega) hz hb (by simp [badL]) (by decide) (bad7 _)
/-- A log has a line of each event, and one more. -/
def tens (l : List UInt8) : Nat := (l.filter (fun c => decide (c.toNat = 10))).length
theorem tens_app (a b : List UInt8) : tens (a ++ b) = tens a + tens b := by simp [tens]
theorem tens_no10 {l : List UInt8} (h : ∀ c ∈ l, c.toNat ≠ 10) : tens l = 0 := by
  unfold tens
  rw [List.length_eq_zero_iff, List.filter_eq_nil_iff]
  intro c hc
  simpa using h c hc
theorem tens_log (n : Int) (F : List Ev) : tens (logL n F) = F.length + 1 := by
  have hlog : logL n F = (headA n.toNat ++ [10]) ++ F.flatMap lineL := by simp [logL, headA]
  have ten : tens [10] = 1 := rfl
  have key : ∀ G : List Ev, tens (G.flatMap lineL) = G.length := by
    intro G
    induction G with
    | nil => rfl
    | cons e G ih =>
      have : lineL e = lineA e ++ [10] := rfl
      rw [List.flatMap_cons, this, tens_app, tens_app, ih, tens_no10 (lineA_no10 e), ten, List.length_cons]
      omega
  rw [hlog, tens_app, tens_app, tens_no10 (headA_no10 _), ten, key]
  omega
end Go.Proofs.YtppambkffgmkgaaGreatDoor
end

section
/- The contract of the statements' Late. -/
namespace Go.Proofs.YtppambkffgmkgaaGreatDoor
open Go.RowKit Go.Maps
set_option linter.unusedVariables false

theorem lastT_mem {F : List Ev} (h : F ≠ []) : ∃ x ∈ F, x.t = lastT F := by
  unfold lastT
  rw [dif_neg h]
  exact ⟨_, List.getLast_mem h, rfl⟩
theorem lastT_cons (x y : Ev) (l : List Ev) : lastT (x :: y :: l) = lastT (y :: l) := by
  unfold lastT
  rw [dif_neg (by simp), dif_neg (by simp), List.getLast_cons (by simp)]
theorem before_le {a b : Ev} (h : before a b) : a.t ≤ b.t := by unfold before at h; omega
theorem allOk_last {n : Int} : ∀ {l : List Ev} {prev : Option Ev} {there : Ed → Bool}, AllOk n prev there l → ∀ x ∈ l, x.t ≤ lastT l
  | [], _, _, _, x, hx => by simp at hx
  | [y], _, _, _, x, hx => by
    rw [List.mem_singleton.1 hx]
    exact Int.le_refl _
  | y :: z :: l, prev, there, h, x, hx => by
    rw [lastT_cons]
    rcases List.mem_cons.1 hx with rfl | hx
    · have h1 := (evErr_ok h.2.1).2.2.1 _ rfl
      exact Int.le_trans (before_le h1) (allOk_last h.2 z (by simp))
    · exact allOk_last h.2 x hx
/-- An event, moved by so much. -/
def shE (d : Int) (x : Ev) : Ev := ⟨x.t + d, x.e, x.add⟩
def lateL (l : List Ev) : List Ev := l.map (shE (maxT - lastT l))
theorem lateL_len (l : List Ev) : (lateL l).length = l.length := by simp [lateL]
theorem lateL_evb {l : List Ev} (h : ∀ x ∈ l, EvB x) : ∀ x ∈ lateL l, EvB x := by
  intro x hx
  obtain ⟨y, hy, rfl⟩ := List.mem_map.1 hx
  exact h y hy
theorem before_sh (d : Int) {a b : Ev} (h : before a b) : before (shE d a) (shE d b) := by
  unfold before at *
  rcases h with h | ⟨h1, h2⟩
  · left; show a.t + d < b.t + d; omega
  · right; exact ⟨by show a.t + d = b.t + d; omega, h2⟩
theorem allOk_sh {n d : Int} : ∀ {l : List Ev} {prev : Option Ev} {there : Ed → Bool}, (∀ x ∈ l, 0 ≤ x.t + d ∧ x.t + d ≤ maxT) → AllOk n prev there l → AllOk n (prev.map (shE d)) there (l.map (shE d))
  | [], _, _, _, _ => trivial
  | x :: l, prev, there, hb, h => by
    obtain ⟨h1, h2⟩ := h
    obtain ⟨e1, e2, e3, e4⟩ := evErr_ok h1
    refine ⟨evErr_zero (hb x (by simp)) e2 (fun p hp => ?_) e4, ?_⟩
    · cases prev with
      | none => cases hp
      | some q =>
        cases hp
        exact before_sh d (e3 q rfl)
    · exact allOk_sh (prev := some x) (fun y hy => hb y (by simp [hy])) h2
theorem late_chk {n : Int} {F : List Ev} (hz : (chk n F).2 = 0) : chk n (lateL F) = (0, 0) := by
  obtain ⟨hn, hok⟩ := chk_ok_bd hz
  have hl : F.length ≤ 2147483648 := by
    unfold chk at hz
    split at hz
    · cases hz
    · rename_i c; omega
  unfold chk
  rw [if_neg (by unfold maxN; rw [lateL_len]; omega)]
  refine chkFrom_allOk ?_
  unfold lateL
  by_cases hF : F = []
  · subst hF; trivial
  · obtain ⟨y, hy, hyt⟩ := lastT_mem hF
    have h1 := allOk_tt hok y hy
    refine allOk_sh (prev := none) (fun x hx => ?_) hok
    have h2 := allOk_last hok x hx
    have h3 := allOk_tt hok x hx
    unfold maxT
    omega

/-- What Late keeps. -/
structure LtS (w wr : World) (h1 h2 h5 : Nat) (n : Int) (a : Option Addr) (len cap : Nat) (es : List Ev) (ea : Option Addr) (j ec : Nat) : Prop where
  bst : BSt w wr h2 h5 n (.slice ea j ec) j es
  c0 : wr.cell? ⟨h1, 0, none⟩ = some (.int .u64 n)
  c1 : wr.cell? ⟨h1, 1, none⟩ = some (.slice a len cap)
  lt : h1 < h2
theorem LtS.quiet {w wr w' : World} {h1 h2 h5 len cap j ec : Nat} {n : Int} {a ea : Option Addr} {es : List Ev} (h : LtS w wr h1 h2 h5 n a len cap es ea j ec) (hm : Mod wr w' NoB) : LtS w w' h1 h2 h5 n a len cap es ea j ec :=
  ⟨h.bst.quiet hm, keepc h.c0 hm, keepc h.c1 hm, h.lt⟩
theorem LtS.next {w V Z : World} {h1 h2 h5 len cap j ec ec2 g1 : Nat} {n : Int} {a ea : Option Addr} {es es2 : List Ev} (h : LtS w V h1 h2 h5 n a len cap es ea j ec)
    (hb : BSt w Z h2 h5 n (.slice (some ⟨g1, 0, none⟩) (j + 1) ec2) (j + 1) es2) (hm : Mod V Z (fun q => (Value.slice ea j ec).ownBlock = some q ∨ q = h5)) : LtS w Z h1 h2 h5 n a len cap es2 (some ⟨g1, 0, none⟩) (j + 1) ec2 := by
  have hne : ¬ ((Value.slice ea j ec).ownBlock = some h1 ∨ h1 = h5) := by
    have k1 := h.lt
    have k2 := h.bst.hh.2
    rintro (c | c)
    · have := (h.bst.own _ c).1; omega
    · omega
  exact ⟨hb, keepS h.c0 hm hne, keepS h.c1 hm hne, h.lt⟩

set_option maxRecDepth 100000 in
set_option maxHeartbeats 8000000 in
theorem late_any (w : World) (n : Int) (a : Option Addr) (cap : Nat) (l : List Ev) (hE : Evs w a l) (hl : l.length ≤ 40) (ht : ∀ x ∈ l, 0 ≤ x.t ∧ x.t ≤ lastT l) (hmax : lastT l ≤ maxT) :
    Calls Tryz.prog 8 #[.agg #[.int .u64 n, .slice a l.length cap]] w fun e w' => ∃ a' cap', e = .returned (.agg #[.int .u64 n, .slice a' l.length cap']) ∧ Evs w' a' (lateL l) ∧ Mod w w' NoB := by
  have hmx := mixed
  obtain ⟨i0, hi, hz0, hz1, hz2⟩ := info_parts info_event2
  have HE := Lib.hid (And.intro hE ht)
  have HB0 := Lib.hid (BnB.start (w := w) (n := n) (a := a) (len := l.length) (cap := cap))
  obtain ⟨h1, hh1⟩ : ∃ g, g = w.heap.size := ⟨_, rfl⟩
  obtain ⟨h2, hh2⟩ : ∃ g, g = w.heap.size + 1 := ⟨_, rfl⟩
  obtain ⟨W, hW⟩ : ∃ W, W = (w.alloc (.cells #[.int .u64 n, .slice a l.length cap] 25)).alloc (.cells #[.int .u64 0, .slice none 0 0] 25) := ⟨_, rfl⟩
  have HH : Hid (w.heap.size ≤ h2 ∧ h1 < h2) := by show _ ∧ _; omega
  rw [← hW, ← hh2, ← hh1] at HB0
  go_enter Tryz.func8, Tryz.ntmps8
  go_upto_region 1 with (fail)
  rw [← hW, ← hh2, ← hh1]
  clear hW hh2 hh1 hE ht
  obtain ⟨c0, c1, a0, a1, fa0, fa1, -, -, -⟩ := HB0.out
  by_cases hl0 : l.length = 0
  · have hli : (l.length : Int) = 0 := by omega
    have HL0 : Hid (lateL l = []) := by
      have : l = [] := List.length_eq_zero_iff.1 hl0
      subst this; rfl
    have HF : Hid (((W.setCell ⟨h2, 0, none⟩ (.int .u64 n)).setCell ⟨h2, 1, none⟩ (.slice a l.length cap)).cell? ⟨h2, 0, none⟩ = some (.int .u64 n) ∧ ((W.setCell ⟨h2, 0, none⟩ (.int .u64 n)).setCell ⟨h2, 1, none⟩ (.slice a l.length cap)).cell? ⟨h2, 1, none⟩ = some (.slice a l.length cap) ∧ Mod w ((W.setCell ⟨h2, 0, none⟩ (.int .u64 n)).setCell ⟨h2, 1, none⟩ (.slice a l.length cap)) NoB) := by
      have hm : Mod W ((W.setCell ⟨h2, 0, none⟩ (.int .u64 n)).setCell ⟨h2, 1, none⟩ (.slice a l.length cap)) (OneB h2) := (Mod.set1 W h2 0 _).setG _
      refine ⟨?_, World.cell?_setCell_same _ _ _ ((World.cell?_setCell_other _ _ _ _ (by simp)).trans a1), HB0.out.mod.trans hm (fun i hi c => by have : i = h2 := c; have := HH.out.1; omega)⟩
      rw [World.cell?_setCell_other _ _ _ _ (by simp)]
      exact World.cell?_setCell_same _ _ _ a0
    clear hl0
    go_wp2_with fail
    have z0 := HF.out.1
    have z1 := HF.out.2.1
    exact bodyPost_ret (v := .agg #[.int .u64 n, .slice a l.length cap]) (by simp [results, Tryz.results8, go_sem, z0, z1]) rfl ⟨a, cap, rfl, by rw [HL0.out]; exact Or.inl rfl, HF.out.2.2⟩
  · have hli : ¬ (l.length : Int) = 0 := by omega
    have hEW := HE.out.1.mod HB0.out.mod
    obtain ⟨b, off, y, rfl, hbw, hy, hC⟩ := hEW.at (show l.length - 1 < l.length by omega)
    have hlast := lastT_at hy
    have hy0 := (HE.out.2 y (List.mem_of_getElem? hy)).1
    obtain ⟨e0, -, -, -⟩ := hC
    have hii : ((l.length : Int) - 1) = ((l.length - 1 : Nat) : Int) := by omega
    have hlt : ((l.length - 1 : Nat) : Int) < l.length := by omega
    obtain ⟨jl, hjl⟩ : ∃ j, j = l.length - 1 := ⟨_, rfl⟩
    rw [← hjl] at e0 hii hlt
    have hwd : IntKind.i64.wrap (4611686018427387903 - y.t) = 4611686018427387903 - y.t := IntWalk.i64_in _ (by unfold maxT at hmax; omega)
    obtain ⟨d, hd⟩ : ∃ d, d = 4611686018427387903 - y.t := ⟨_, rfl⟩
    replace hwd : IntKind.i64.wrap (4611686018427387903 - y.t) = d := by rw [hd]; exact hwd
    have HD : Hid (d = maxT - lastT l ∧ 0 ≤ d) := by show _ ∧ _; unfold maxT at hmax ⊢; omega
    have HLT := Lib.hid hmax
    clear hy hjl hy0 hlast hbw hmax hl0 hd
    go_upto_region 5 with (fail)
    have HB5 : Hid (LtS w (W.alloc (.cells #[.int .u64 n, .slice none 0 0] 25)) h1 h2 W.heap.size n (some ⟨b, off, none⟩) l.length cap (([] : List Ev)) none 0 0) := by
      have hm : Mod W (W.alloc (.cells #[.int .u64 n, .slice none 0 0] 25)) NoB := (Mod.refl _ _).alloc _
      have hh := HB0.out.next hm
      have l2 := World.block_lt_of_cell? _ _ a0
      have l2' : h2 < W.heap.size := l2
      exact ⟨⟨hh.mod, ⟨HH.out.1, l2'⟩, hh.z0, hh.z1, hh.f0, hh.f1, World.cell?_alloc_at _ _ _ _ rfl, World.cell?_alloc_at _ _ _ _ rfl, frozen_alloc_at _ _ _ _ _ rfl, frozen_alloc_at _ _ _ _ _ rfl, rfl, World.ownsRow_nil _ _ _ _⟩, hh.c0, hh.c1, HH.out.2⟩
    obtain ⟨h5, hh5⟩ : ∃ g, g = W.heap.size := ⟨_, rfl⟩
    obtain ⟨w2, hw2⟩ : ∃ X, X = W.alloc (.cells #[.int .u64 n, .slice none 0 0] 25) := ⟨_, rfl⟩
    rw [← hw2, ← hh5] at HB5
    go_upto_region 6 with (fail)
    rw [← hw2, ← hh5]
    clear hw2 hh5 HB0 c0 c1 a0 a1 fa0 fa1 e0 hii hlt hwd hli
    go_wp2_with fail
    go_loopw [6] (fun v6 wr => ∃ (k : Nat) (ea : Option Addr) (ec : Nat), k ≤ l.length ∧ v6 = .int .i64 k ∧ Hid (LtS w wr h1 h2 h5 n (some ⟨b, off, none⟩) l.length cap ((lateL l).take k) ea k ec)) (fun v6 _ => l.length - (intOf v6).toNat)
    case atStart => exact ⟨0, none, 0, Nat.zero_le _, rfl, HB5⟩
    case round =>
      obtain ⟨k, ea, ec, hk, rfl, HI⟩ := hrel
      by_cases hlt : k < l.length
      · obtain ⟨b', off', x, hab, hbw, hx, hC⟩ := (HE.out.1.mod HI.out.bst.mod).at hlt
        have hb1 : b = b' := by injection hab with q; injection q
        have ho1 : off = off' := by injection hab with q; injection q
        subst hb1 ho1
        have hki : (k : Int) < l.length := by omega
        obtain ⟨q0, q1, q2, q3⟩ := hC
        have hxt := HE.out.2 x (List.mem_of_getElem? hx)
        have hwx : IntKind.i64.wrap (x.t + d) = x.t + d := IntWalk.i64_in _ (by have := HD.out; have := HLT.out; unfold maxT at *; omega)
        have hlx : (lateL l)[k]? = some ⟨x.t + d, x.e, x.add⟩ := by
          unfold lateL
          rw [List.getElem?_map, hx, ← HD.out.1]
          rfl
        have htk : (lateL l).take (k + 1) = (lateL l).take k ++ [⟨x.t + d, x.e, x.add⟩] := by
          obtain ⟨p1, p2⟩ := List.getElem?_eq_some_iff.1 hlx
          rw [List.take_succ_eq_append_getElem p1, p2]
        have HTK := Lib.hid htk
        have d0 := HI.out.c0
        have d1 := HI.out.c1
        obtain ⟨e0, he0⟩ : ∃ e0, e0 = wr.heap.size := ⟨_, rfl⟩
        obtain ⟨V, hV⟩ : ∃ V, V = wr.alloc (.cells #[.int .i64 x.t, .int .u32 x.e.u, .int .u32 x.e.v, .bool x.add] 62) := ⟨_, rfl⟩
        have HV : Hid (Mod wr V NoB) := by rw [hV]; exact (Mod.refl _ _).alloc _
        have HDD : Hid (EvAt V e0 0 x ∧ V.frozen? ⟨e0, 0, none⟩ = false ∧ wr.heap.size ≤ e0 ∧ e0 < V.heap.size) := by
          show _ ∧ _
          rw [hV, he0]
          exact ⟨⟨World.cell?_alloc_at _ _ _ _ rfl, World.cell?_alloc_at _ _ _ _ rfl, World.cell?_alloc_at _ _ _ _ rfl, World.cell?_alloc_at _ _ _ _ rfl⟩, by simp, Nat.le_refl _, by simp⟩
        clear hx hbw hxt hlx htk hab
        go_upto_region 10 with (fail)
        rw [← hV, ← he0]
        clear hV he0 q0 q1 q2 q3
        obtain ⟨v0, v1, v2, v3⟩ := HDD.out.1
        have fu := HDD.out.2.1
        simp only [Nat.zero_add] at v1 v2 v3
        go_upto_region 11 with (fail)
        obtain ⟨Y, hY⟩ : ∃ Y, Y = V.setCell ⟨e0, 0, none⟩ (.int .i64 (x.t + d)) := ⟨_, rfl⟩
        have HY : Hid (Mod wr Y NoB) := by show Mod wr Y NoB; rw [hY]; exact set_young HV.out HDD.out.2.2.1 _
        have y0 : Y.cell? ⟨e0, 0, none⟩ = some (.int .i64 (x.t + d)) := by rw [hY]; exact World.cell?_setCell_same _ _ _ v0
        have y1 : Y.cell? ⟨e0, 1, none⟩ = some (.int .u32 x.e.u) := by rw [hY, World.cell?_setCell_other _ _ _ _ (by simp)]; exact v1
        have y2 : Y.cell? ⟨e0, 2, none⟩ = some (.int .u32 x.e.v) := by rw [hY, World.cell?_setCell_other _ _ _ _ (by simp)]; exact v2
        have y3 : Y.cell? ⟨e0, 3, none⟩ = some (.bool x.add) := by rw [hY, World.cell?_setCell_other _ _ _ _ (by simp)]; exact v3
        rw [← hY]
        clear hY v0 v1 v2 v3 fu HV HDD d0 d1
        have HS := Lib.hid (HI.out.quiet HY.out)
        have b1 := HS.out.bst.b1
        have f1 := HS.out.bst.fb1
        have lb := World.block_lt_of_cell? _ _ b1
        have le := World.block_lt_of_cell? _ _ y0
        have hone : ∀ u ∈ encV ⟨x.t + d, x.e, x.add⟩, u.oneCell' = true := by simp [encV, Value.oneCell']
        have hms : h5 + 1 ≤ Y.heap.size := lb
        have hB1 : k + 1 ≤ maxLen := by unfold maxLen; omega
        have hB2 : (k + 1) * 24 ≤ 140737488355328 := by omega
        go_wp2_with (at_builtin; refine wpList_append_lies _ rfl _ _ 23 rfl (h5 + 1) 62 i0 _ 4 24 Tryz.underlying23 hi hz0 hz1 hz2 rfl (by decide) (.slice ea k ec) k _ rfl (HS.out.bst.row.alloc _) ⟨_, 0, none⟩ 1 1 (encV ⟨x.t + d, x.e, x.add⟩) rfl rfl (World.news_of_block (MapKept.heap_alloc _ _).1) hone (by decide) hB1 hB2 (le_alloc hms) _ rfl ?_; intro g1 cap1 w8 hown hgrow hat hlt8; have H8 := Lib.hid (HS.out.bst.app hown hgrow); clear hown hgrow hat hlt8 b1 f1; have b2 := H8.out.1.1; have f2 := H8.out.1.2)
        go_roundw
        case rel => exact ⟨k + 1, by omega, by go_num, some ⟨g1, 0, none⟩, cap1, by rw [HTK.out]; exact HS.out.next H8.out.2.1 H8.out.2.2⟩
        case measure => simp [intOf]; omega
      · have hki : ¬ (k : Int) < l.length := by omega
        have hkl : k = l.length := by omega
        have hI := HI.out.bst
        rw [show (lateL l).take k = lateL l from List.take_of_length_le (by rw [lateL_len]; omega)] at hI
        have HB := Lib.hid hI
        have HJ := Lib.hid hkl
        have q0 := hI.a0
        have q1 := hI.a1
        have q2 := hI.fa0
        have q3 := hI.fa1
        have q4 := hI.b0
        have q5 := hI.b1
        clear hI hkl
        go_wp2_with fail
        obtain ⟨z, hz⟩ : ∃ z, z = (wr.setCell ⟨h2, 0, none⟩ (.int .u64 n)).setCell ⟨h2, 1, none⟩ (.slice ea k ec) := ⟨_, rfl⟩
        have h46 : Mod wr z (OneB h2) := by
          rw [hz]; exact (Mod.set1 wr h2 0 (.int .u64 n)).setG _
        have hne : ¬ (Value.slice ea k ec).ownBlock = some h2 := fun c => by
          have := (HB.out.own _ c).1
          have := HB.out.hh.2
          omega
        have HZ : Hid (Evs z ea (lateL l) ∧ Mod w z NoB) := by
          have hrow := h46.row HB.out.row (fun q hq c => hne (by rw [hq, show q = h2 from c]))
          refine ⟨evs_of_row HB.out.len.symm hrow, HB.out.mod.trans h46 (fun i hi c => by
            have h1 : i = h2 := c
            have := HB.out.hh.1
            omega)⟩
        have z0 : z.cell? ⟨h2, 0, none⟩ = some (.int .u64 n) := by
          rw [hz, World.cell?_setCell_other _ _ _ _ (by simp)]; exact World.cell?_setCell_same _ _ _ q0
        have z1 : z.cell? ⟨h2, 1, none⟩ = some (.slice ea k ec) := by
          rw [hz]; exact World.cell?_setCell_same _ _ _ (by rw [World.cell?_setCell_other _ _ _ _ (by simp)]; exact q1)
        rw [← hz]
        clear hz q0 q1 q2 q3 q4 q5 h46 hne
        exact bodyPost_ret (v := .agg #[.int .u64 n, .slice ea k ec]) (by simp [results, Tryz.results8, go_sem, z0, z1]) rfl ⟨ea, ⟨ec, by rw [← HJ.out]⟩, HZ.out.1, HZ.out.2⟩
end Go.Proofs.YtppambkffgmkgaaGreatDoor
end

section
/- A table's text is read back, and what is read is a table's text: plainly. -/
namespace Go.Proofs.YtppambkffgmkgaaGreatDoor
set_option linter.unusedVariables false

def toL (t : Int) : List UInt8 := if 0 ≤ t then decL t.toNat else [45]
/-- A life's line. -/
def rowT (x : Lf) : List UInt8 := decL x.e.u.toNat ++ [32] ++ decL x.e.v.toNat ++ [32] ++ decL x.fr.toNat ++ [32] ++ toL x.to ++ [10]
def tblL (n : Int) (X : List Lf) : List UInt8 := [116, 97, 98, 108, 101, 32] ++ decL n.toNat ++ [10] ++ X.flatMap rowT
/-- A life that can be written. -/
def LfB (x : Lf) : Prop := EdB x.e ∧ (0 ≤ x.fr ∧ x.fr ≤ 4611686018427387903) ∧ (x.to = -1 ∨ 0 ≤ x.to) ∧ x.to ≤ 4611686018427387903
theorem decL_ne0 (n : Nat) : decL n ≠ [] := fun e => by have := (decL_len n).1; rw [e] at this; simp at this
theorem lf_eta {x : Lf} {u v f t : Int} (h1 : u = x.e.u) (h2 : v = x.e.v) (h3 : f = x.fr) (h4 : t = x.to) : (⟨⟨u, v⟩, f, t⟩ : Lf) = x := by
  subst h1 h2 h3 h4
  rfl
/-- A line is read. -/
theorem lfS_line (x : Lf) (hx : LfB x) (r : List UInt8) (p : Int × Int) : lfS ⟨rowT x ++ r, p, 0⟩ = (x, ⟨r, (p.1 + 1, 1), 0⟩) := by
  obtain ⟨⟨b1, b2⟩, b3, b4, b5⟩ := hx
  have e1 : rowT x ++ r = decL x.e.u.toNat ++ (32 :: (decL x.e.v.toNat ++ (32 :: (decL x.fr.toNat ++ (32 :: (toL x.to ++ 10 :: r)))))) := by
    unfold rowT; simp
  rw [lfS_eq]
  rw [e1, numS_dec (by decide) (by omega) _ _ (by intro c hc; simp at hc; subst hc; decide)]
  dsimp only
  rw [byte_there (by decide)]
  dsimp only
  rw [numS_dec (by decide) (by omega) _ _ (by intro c hc; simp at hc; subst hc; decide)]
  dsimp only
  rw [byte_there (by decide)]
  dsimp only
  rw [numS_dec (by decide) (by omega) _ _ (by intro c hc; simp at hc; subst hc; decide)]
  dsimp only
  rw [byte_there (by decide)]
  dsimp only
  by_cases ht : 0 ≤ x.to
  · have htl : toL x.to = decL x.to.toNat := if_pos ht
    rw [htl]
    obtain ⟨q, hq⟩ : ∃ q : Int × Int, q = (p.1, p.2 + ((decL x.e.u.toNat).length : Int) + 1 + ((decL x.e.v.toNat).length : Int) + 1 + ((decL x.fr.toNat).length : Int) + 1) := ⟨_, rfl⟩
    rw [← hq]
    have hq1 : q.1 = p.1 := by rw [hq]
    have hn : ¬ nextS ⟨decL x.to.toNat ++ 10 :: r, q, 0⟩ = some 45 := by
      unfold nextS
      rw [if_pos rfl]
      intro c
      cases hd : decL x.to.toNat with
      | nil => exact decL_ne0 _ hd
      | cons d l =>
        have h1 := decL_digits x.to.toNat d (by rw [hd]; simp)
        rw [hd] at c
        have : d = 45 := by simpa using c
        rw [this] at h1
        exact absurd h1 (by decide)
    have hto : toS ⟨decL x.to.toNat ++ 10 :: r, q, 0⟩ = ((x.to.toNat : Int), ⟨10 :: r, (q.1, q.2 + ((decL x.to.toNat).length : Int)), 0⟩) := by
      unfold toS
      rw [if_neg hn, numS_dec (by decide) (by omega) _ _ (by intro c hc; simp at hc; subst hc; decide)]
    rw [hto]
    dsimp only
    rw [line_there]
    refine Prod.ext (lf_eta (x := x) (by omega) (by omega) (by omega) (by omega)) ?_
    dsimp only
    rw [hq1]
  · have htl : toL x.to = [45] := if_neg ht
    rw [htl]
    obtain ⟨q, hq⟩ : ∃ q : Int × Int, q = (p.1, p.2 + ((decL x.e.u.toNat).length : Int) + 1 + ((decL x.e.v.toNat).length : Int) + 1 + ((decL x.fr.toNat).length : Int) + 1) := ⟨_, rfl⟩
    rw [← hq]
    have hq1 : q.1 = p.1 := by rw [hq]
    have hto : toS ⟨[45] ++ 10 :: r, q, 0⟩ = (-1, ⟨10 :: r, (q.1, q.2 + 1), 0⟩) := by
      unfold toS
      rw [if_pos (by rfl), List.singleton_append, byte_there (by decide)]
    rw [hto]
    dsimp only
    rw [line_there]
    refine Prod.ext (lf_eta (x := x) (by omega) (by omega) (by omega) (by omega)) ?_
    dsimp only
    rw [hq1]
theorem hdT_tbl {n : Int} (hn : 0 ≤ n ∧ n ≤ 4294967296) (r : List UInt8) : hdT ([116, 97, 98, 108, 101, 32] ++ decL n.toNat ++ [10] ++ r) = (n, ⟨r, (2, 1), 0⟩) := by
  have e1 : ([116, 97, 98, 108, 101, 32] ++ decL n.toNat ++ [10] ++ r : List UInt8) = [116, 97, 98, 108, 101] ++ (32 :: (decL n.toNat ++ 10 :: r)) := by simp
  unfold hdT
  dsimp only
  rw [e1, wordS_there]
  dsimp only
  rw [byte_there (by decide)]
  dsimp only
  rw [numS_dec (by decide) (by omega) _ _ (by intro c hc; simp at hc; subst hc; decide)]
  dsimp only
  rw [line_there]
  have e2 : (adv (1, 1) [116, 97, 98, 108, 101] : Int × Int).1 + 1 = 2 := by decide
  rw [Int.toNat_of_nonneg hn.1]
  exact Prod.ext rfl (by rw [e2])
theorem next_row (x : Lf) (r : List UInt8) (p : Int × Int) : (nextS ⟨rowT x ++ r, p, 0⟩).isSome = true := by
  unfold nextS rowT
  cases hd : decL x.e.u.toNat with
  | nil => exact absurd hd (decL_ne0 _)
  | cons c l => simp
theorem ptF_lines {n : Int} : ∀ (F G : List Lf) (k : Nat) (r : List UInt8) (p : Int × Int), AllLf n G.getLast? F → (∀ x ∈ F, LfB x) → F.length ≤ k →
    ptF n k G ⟨F.flatMap rowT ++ r, p, 0⟩ = ptF n (k - F.length) (G ++ F) ⟨r, (if F = [] then p else (p.1 + F.length, 1)), 0⟩
  | [], G, k, r, p, _, _, _ => by simp
  | x :: F, G, 0, r, p, _, _, hk => by simp at hk
  | x :: F, G, k + 1, r, p, hok, hb, hk => by
    have hl : (x :: F).flatMap rowT ++ r = rowT x ++ (F.flatMap rowT ++ r) := by rw [List.flatMap_cons, List.append_assoc]
    rw [hl]
    have he := lfS_line x (hb x (by simp)) (F.flatMap rowT ++ r) p
    have ih := ptF_lines F (G ++ [x]) k r (p.1 + 1, 1) (by rw [List.getLast?_concat]; exact hok.2) (fun y hy => hb y (by simp [hy])) (by simpa using hk)
    have h1 := (ptF_more (n := n) (k := k) (F := G) rfl (next_row x (F.flatMap rowT ++ r) p)).2.2 (by rw [he]) (by rw [he]; exact hok.1)
    rw [← h1, he]
    dsimp only
    rw [ih]
    congr 1
    · simp
    · simp
    · congr 1
      by_cases hF : F = []
      · subst hF; simp
      · rw [if_neg hF, if_neg (by simp)]
        refine Prod.ext ?_ rfl
        show p.1 + 1 + (F.length : Int) = p.1 + ((F.length + 1 : Nat) : Int)
        omega
theorem rows_len : ∀ F : List Lf, F.length ≤ (F.flatMap rowT).length
  | [] => by simp
  | x :: F => by
    have ih := rows_len F
    rw [List.flatMap_cons, List.length_append, List.length_cons]
    have : 1 ≤ (rowT x).length := by unfold rowT; simp; omega
    omega
/-- Lines that may be, and something behind them. -/
theorem parseT_behind {n : Int} {X : List Lf} (hn : 0 ≤ n ∧ n ≤ 4294967296) (hok : AllLf n none X) (hb : ∀ x ∈ X, LfB x) (r : List UInt8) :
    ∃ k, r.length < k ∧ parseT (tblL n X ++ r) = ptF n k X ⟨r, ((X.length : Int) + 2, 1), 0⟩ ∧ (hdT (tblL n X ++ r)).1 = n := by
  have hh : hdT (tblL n X ++ r) = (n, ⟨X.flatMap rowT ++ r, (2, 1), 0⟩) := by
    have h := hdT_tbl hn (X.flatMap rowT ++ r)
    unfold tblL
    simpa only [List.append_assoc] using h
  have h1 := rows_len X
  have h2 : (X.flatMap rowT).length ≤ (tblL n X).length := by unfold tblL; simp only [List.length_append]; omega
  refine ⟨(tblL n X ++ r).length + 1 - X.length, by rw [List.length_append]; omega, ?_, by rw [hh]⟩
  unfold parseT
  rw [hh]
  dsimp only
  rw [ptF_lines X [] _ r (2, 1) hok hb (by rw [List.length_append]; omega)]
  rw [List.nil_append]
  congr 2
  by_cases hF : X = []
  · subst hF; rfl
  · rw [if_neg hF]
    refine Prod.ext ?_ rfl
    show (2 : Int) + X.length = X.length + 2
    omega
/-- A table's text is read back. -/
theorem parse_table {n : Int} {X : List Lf} (hn : 0 ≤ n ∧ n ≤ 4294967296) (hok : AllLf n none X) (hb : ∀ x ∈ X, LfB x) : parseT (tblL n X) = (X, (0, 0), 0) ∧ parseTN (tblL n X) = n := by
  obtain ⟨k, hk, h1, h2⟩ := parseT_behind hn hok hb []
  rw [List.append_nil] at h1 h2
  have hp : parseT (tblL n X) = (X, (0, 0), 0) := by
    rw [h1]
    have := ptF_end (n := n) (k := k) (F := X) (st := ⟨[], ((X.length : Int) + 2, 1), 0⟩) rfl (by omega) (by rfl)
    rw [this]
    rfl
  refine ⟨hp, ?_⟩
  unfold parseTN
  rw [hp, if_pos rfl, h2]
/-- A line that is well written, of a life that may not be. -/
theorem parseT_badline {n : Int} {X : List Lf} (hn : 0 ≤ n ∧ n ≤ 4294967296) (hok : AllLf n none X) (hb : ∀ x ∈ X, LfB x) (x : Lf) (hx : LfB x) (r : List UInt8)
    (hv : lfErr n X.getLast? x ≠ 0) : parseT (tblL n X ++ (rowT x ++ r)) = ([], ((X.length : Int) + 2, 1), ((lfErr n X.getLast? x : Nat) : Int)) := by
  obtain ⟨k, hk, h1, h2⟩ := parseT_behind hn hok hb (rowT x ++ r)
  rw [h1]
  obtain ⟨k, rfl⟩ : ∃ j, k = j + 1 := ⟨k - 1, by omega⟩
  have he := lfS_line x hx r ((X.length : Int) + 2, 1)
  exact (ptF_more (n := n) (k := k) (F := X) rfl (next_row x r _)).2.1 (by rw [he]) (by rw [he]; exact hv) |>.trans (by rw [he])
theorem toS_inv {st : SS} (h : (toS st).2.er = 0) : st.er = 0 ∧ st.l = toL (toS st).1 ++ (toS st).2.l := by
  unfold toS at h ⊢
  by_cases hc : nextS st = some 45
  · rw [if_pos hc] at h ⊢
    obtain ⟨h1, _, l1⟩ := wordS_inv h
    exact ⟨h1, l1⟩
  · rw [if_neg hc] at h ⊢
    obtain ⟨h1, l1, h2⟩ := numS_inv (by decide) h
    refine ⟨h1, ?_⟩
    unfold toL
    rw [if_pos h2]
    exact l1
/-- What a line's reading has read. -/
theorem lfS_inv {st : SS} (h : (lfS st).2.er = 0) : st.er = 0 ∧ st.l = rowT (lfS st).1 ++ (lfS st).2.l := by
  rw [lfS_eq] at h ⊢
  dsimp only at h ⊢
  obtain ⟨h8, _, l8⟩ := wordS_inv h
  obtain ⟨h7, l7⟩ := toS_inv h8
  obtain ⟨h6, _, l6⟩ := wordS_inv h7
  obtain ⟨h5, l5, _⟩ := numS_inv (by decide) h6
  obtain ⟨h4, _, l4⟩ := wordS_inv h5
  obtain ⟨h3, l3, _⟩ := numS_inv (by decide) h4
  obtain ⟨h2, _, l2⟩ := wordS_inv h3
  obtain ⟨h1, l1, _⟩ := numS_inv (by decide) h2
  refine ⟨h1, ?_⟩
  unfold rowT
  dsimp only
  conv => lhs; rw [l1, l2, l3, l4, l5, l6, l7, l8]
  simp
theorem ptF_inv {n : Int} : ∀ (k : Nat) (G : List Lf) (st : SS) {F : List Lf} {p : Int × Int}, AllLf n none G → (∀ y ∈ G, LfB y) → st.l.length < k → ptF n k G st = (F, p, 0) →
    (∃ F', F = G ++ F' ∧ st.l = F'.flatMap rowT) ∧ p = (0, 0) ∧ AllLf n none F ∧ (∀ y ∈ F, LfB y) ∧ st.er = 0
  | 0, G, st, F, p, _, _, hk, _ => by omega
  | k + 1, G, st, F, p, hok, hb, hk, h => by
    cases hn : (nextS st).isSome with
    | false =>
      have hR := ptF_end h (by omega) hn
      by_cases he : st.er = 0
      · rw [if_pos he] at hR
        cases hR
        exact ⟨⟨[], by simp, by rw [(nextS_l he).1 hn]; rfl⟩, rfl, hok, hb, he⟩
      · rw [if_neg he] at hR
        have := (Prod.mk.inj (Prod.mk.inj hR).2).2
        exact absurd this.symm he
    | true =>
      obtain ⟨M1, M2, M3⟩ := ptF_more h hn
      by_cases he : (lfS st).2.er = 0
      · by_cases hv : lfErr n G.getLast? (lfS st).1 = 0
        · obtain ⟨i1, i2⟩ := lfS_inv he
          have hlt := lfS_less he
          have hbd := lfS_bd st
          obtain ⟨⟨F', k1, k2⟩, k3, k4, k5, k6⟩ := ptF_inv k (G ++ [(lfS st).1]) (lfS st).2 (allLf_snoc hok hv) (fun y hy => by
            rcases List.mem_append.1 hy with c | c
            · exact hb y c
            · rw [List.mem_singleton.1 c]; exact ⟨hbd.1, hbd.2.1, hbd.2.2⟩) (by omega) (M3 he hv)
          refine ⟨⟨(lfS st).1 :: F', by rw [k1]; simp, ?_⟩, k3, k4, k5, i1⟩
          rw [i2, k2, List.flatMap_cons]
        · have := M2 he hv
          have := (Prod.mk.inj (Prod.mk.inj this).2).2
          omega
      · have := M1 he
        have := (Prod.mk.inj (Prod.mk.inj this).2).2
        exact absurd this.symm he
/-- What is read well is a table's text. -/
theorem parseT_inv {l : List UInt8} (h : (parseT l).2.2 = 0) : l = tblL (parseTN l) (parseT l).1 ∧ AllLf (parseTN l) none (parseT l).1 ∧ (∀ y ∈ (parseT l).1, LfB y) ∧ (parseT l).2.1 = (0, 0) ∧ (parseT l).1.length ≤ l.length ∧ (0 ≤ parseTN l ∧ parseTN l ≤ 4294967296) := by
  obtain ⟨F, p, e, hR⟩ : ∃ F p e, parseT l = (F, p, e) := ⟨_, _, _, rfl⟩
  have hN : parseTN l = (hdT l).1 := by unfold parseTN; rw [if_pos h]
  rw [hR] at h
  dsimp only at h
  subst h
  have hp := hR
  unfold parseT at hp
  have hlen := hdT_len l
  obtain ⟨⟨F', k1, k2⟩, k3, k4, k5, k6⟩ := ptF_inv (l.length + 1) [] (hdT l).2 (n := (hdT l).1) trivial (by simp) (by omega) hp
  rw [List.nil_append] at k1
  subst k1
  have hbd := hdT_bd l
  have hlog : l = tblL (hdT l).1 F := by
    have h0 := k6
    unfold hdT at h0 k2 ⊢
    dsimp only at h0 k2 ⊢
    obtain ⟨h4, _, l4⟩ := wordS_inv h0
    obtain ⟨h3, l3, _⟩ := numS_inv (by decide) h4
    obtain ⟨h2, _, l2⟩ := wordS_inv h3
    obtain ⟨h1, _, l1⟩ := wordS_inv h2
    dsimp only at l1
    unfold tblL
    rw [← k2]
    conv => lhs; rw [l1, l2, l3, l4]
    simp
  have hFl : F.length ≤ l.length := by
    have := rows_len F
    rw [← k2] at this
    omega
  rw [hR, hN]
  exact ⟨hlog, k4, k5, k3, hFl, hbd⟩

/-- The text that is printed, if the history may be. -/
def prT (n : Int) (F : List Ev) : ByteArray := if (chk n F).2 = 0 then ⟨(tblL n (ofL n F)).toArray⟩ else ⟨#[]⟩
theorem rowT_len {x : Lf} (h : LfB x) : (rowT x).length ≤ 85 := by
  obtain ⟨⟨b1, b2⟩, b3, b4, b5⟩ := h
  have h1 := decL_len20 x.e.u.toNat (by omega)
  have h2 := decL_len20 x.e.v.toNat (by omega)
  have h3 := decL_len20 x.fr.toNat (by omega)
  have h4 : (toL x.to).length ≤ 20 := by
    unfold toL
    split
    · exact decL_len20 x.to.toNat (by omega)
    · simp
  unfold rowT
  simp only [List.length_append, List.length_singleton]
  omega
theorem tblL_len {n : Int} {X : List Lf} (hn : 0 ≤ n ∧ n ≤ 4294967296) (h : ∀ x ∈ X, LfB x) : (tblL n X).length ≤ 27 + 85 * X.length := by
  have h1 := decL_len20 n.toNat (by omega)
  have key : ∀ X : List Lf, (∀ x ∈ X, LfB x) → (X.flatMap rowT).length ≤ 85 * X.length := by
    intro X
    induction X with
    | nil => intro _; simp
    | cons y X ih =>
      intro h
      have h2 := ih (fun x hx => h x (by simp [hx]))
      have h3 := rowT_len (h y (by simp))
      rw [List.flatMap_cons, List.length_append, List.length_cons]
      omega
  have := key X h
  unfold tblL
  simp only [List.length_append, List.length_cons, List.length_nil]
  omega
/-- The lives of a history that may be. -/
theorem ofL_ok {n : Int} {F : List Ev} (h : (chk n F).2 = 0) (hl : F.length ≤ 40000) (hb : ∀ x ∈ F, EvB x) : AllLf n none (ofL n F) ∧ (∀ x ∈ ofL n F, LfB x) ∧ (ofL n F).length ≤ F.length ∧ putAll before (evs (ofL n F)) = F ∧ n ≤ 4294967296 := by
  obtain ⟨hn, hok⟩ := chk_ok_bd h
  have ho : ofL n F = putAll lfLt (raw F) := if_pos h
  obtain ⟨y1, y2, _, _⟩ := lives_ok hok (by unfold maxN; exact hn) (by omega)
  have hall : AllLf n none (ofL n F) := by
    rw [ho]
    have : (lchk n (putAll lfLt (raw F))).2 = 0 := by rw [y2]
    unfold lchk at this
    split at this
    · cases this
    · exact allLf_of this
  have hperm : (ofL n F).Perm (raw F) := by rw [ho]; exact putAll_perm _
  refine ⟨hall, fun x hx => ?_, by rw [hperm.length_eq]; exact raw_len _, ?_, hn⟩
  · have hr := hperm.subset hx
    have hg := raw_good hok x hr
    obtain ⟨y, hy, k1, k2, k3⟩ := mem_raw hr
    have hyb := hb y hy
    unfold EvB at hyb
    rw [k1] at hyb
    refine ⟨hyb, ⟨hg.1, hg.2.1⟩, ?_, hg.2.2.1⟩
    rcases raw_to hr with c | ⟨e, he, c⟩
    · exact Or.inl c
    · right; rw [c]; exact (allOk_tt hok e he).1
  · have hE := (evs_perm hperm).trans (evs_raw_all hok)
    exact (sort_evs hall (allOk_before hok).1 hE.symm).symm
theorem prT_ok {n : Int} {F : List Ev} (h : (chk n F).2 = 0) (hn0 : 0 ≤ n) (hb : ∀ x ∈ F, EvB x) (hl : F.length ≤ 40) : L (prT n F) = tblL n (ofL n F) ∧ (prT n F).size ≤ 40000 ∧ parseT (L (prT n F)) = (ofL n F, (0, 0), 0) ∧ parseTN (L (prT n F)) = n ∧ parseTE (L (prT n F)) = F := by
  obtain ⟨k1, k2, k3, k4, k5⟩ := ofL_ok h (by omega) hb
  have hpr : prT n F = ⟨(tblL n (ofL n F)).toArray⟩ := if_pos h
  have hL : L (prT n F) = tblL n (ofL n F) := by rw [hpr]; simp [L]
  obtain ⟨p1, p2⟩ := parse_table ⟨hn0, k5⟩ k1 k2
  refine ⟨hL, ?_, by rw [hL]; exact p1, by rw [hL]; exact p2, ?_⟩
  · rw [hpr]
    show (tblL n (ofL n F)).toArray.size ≤ _
    have := tblL_len (n := n) ⟨hn0, k5⟩ k2
    simp only [List.size_toArray]
    omega
  · unfold parseTE
    rw [hL, p1, if_pos rfl]
    exact k4
theorem prT_sz {n : Int} {F : List Ev} (hn0 : 0 ≤ n) (hb : ∀ x ∈ F, EvB x) (hl : F.length ≤ 40) : (prT n F).size ≤ 3500 := by
  unfold prT
  split
  · rename_i h
    obtain ⟨k1, k2, k3, k4, k5⟩ := ofL_ok h (by omega) hb
    show (tblL n (ofL n F)).toArray.size ≤ _
    have := tblL_len (n := n) ⟨hn0, k5⟩ k2
    simp only [List.size_toArray]
    omega
  · decide
theorem prT_inv {x : ByteArray} (hx : x.size ≤ 4500) (h : (parseT (L x)).2.2 = 0) : prT (parseTN (L x)) (parseTE (L x)) = x ∧ (chk (parseTN (L x)) (parseTE (L x))).2 = 0 ∧ (∀ y ∈ parseTE (L x), EvB y) ∧ (parseTE (L x)).length ≤ 9000 ∧ 0 ≤ parseTN (L x) := by
  obtain ⟨h1, h2, h3, h4, h5, h6⟩ := parseT_inv (l := L x) h
  rw [L_len] at h5
  have hE : parseTE (L x) = putAll before (evs (parseT (L x)).1) := if_pos h
  obtain ⟨c1, c2⟩ := lives_back h2 (by unfold maxN; exact h6.2) (by omega) (fun y hy => (h3 y hy).2.2.1)
  rw [hE]
  refine ⟨?_, by rw [c1], fun y hy => ?_, ?_, h6.1⟩
  · unfold prT
    rw [if_pos (by rw [c1]), c2]
    apply ByteArray.ext
    show (tblL (parseTN (L x)) (parseT (L x)).1).toArray = x.data
    rw [← h1]
    simp [L]
  · obtain ⟨z, hz, hyz⟩ := List.mem_flatMap.1 ((putAll_perm _).subset hy)
    have := (h3 z hz).1
    unfold EvB
    rw [(mem_evsOf hyz).1]
    exact this
  · rw [(putAll_perm _).length_eq]
    have := evs_len (parseT (L x)).1
    omega
end Go.Proofs.YtppambkffgmkgaaGreatDoor
end
