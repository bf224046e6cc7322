/- Merged: LgLp LgLt LgHi -/
import Derived.Test.YtggnkefhegnokaaDoorMg23
import Derived.Test.YtggnkefhegnokaaDoorMg09
import Derived.Test.YtggnkefhegnokaaDoorMg13
import Derived.Test.YtggnkefhegnokaaDoorMg11
import Derived.WalkKit
import Derived.Test.YtggnkefhegnokaaDoorMg21
section
/- Plain: LogLines' eight bad lines behind a log that may be. -/
namespace Go.Proofs.YtggnkefhegnokaaDoor
set_option linter.unusedVariables false

def lastT (F : List Ev) : Int := if h : F = [] then -1 else (F.getLast h).t
theorem lastT_at {F : List Ev} {x : Ev} (h : F[F.length - 1]? = some x) : lastT F = x.t := by
  have hne : F ≠ [] := by rintro rfl; simp at h
  unfold lastT
  rw [dif_neg hne]
  rw [← List.getLast?_eq_getElem?, List.getLast?_eq_some_getLast hne] at h
  rw [Option.some.inj h]
theorem prevOf_lt {F : List Ev} {x : Ev} (h : lastT F < x.t) : (prevOf F F.length).any (fun p => decide (¬ before p x)) = false := by
  unfold prevOf
  by_cases hF : F.length = 0
  · rw [if_pos hF]; rfl
  · rw [if_neg hF]
    obtain ⟨y, hy⟩ : ∃ y, F[F.length - 1]? = some y := ⟨F[F.length - 1]'(by omega), List.getElem?_eq_getElem _⟩
    rw [hy]
    rw [lastT_at hy] at h
    have hb : before y x := by unfold before; exact Or.inl h
    simp [hb]
/-- The bad line of a number, t a time's text. -/
def badL (t : List UInt8) : Nat → List UInt8
  | 0 => [48, 32, 43, 32, 49, 32, 49, 10]
  | 1 => t ++ [32, 43, 32, 49, 32, 48, 10]
  | 2 => t ++ [32, 43, 32, 48, 32, 52, 50, 57, 52, 57, 54, 55, 50, 57, 53, 10]
  | 3 => [52, 54, 49, 49, 54, 56, 54, 48, 49, 56, 52, 50, 55, 51, 56, 55, 57, 48, 51, 32, 45, 32, 48, 32, 49, 10]
  | 4 => [120, 10]
  | 5 => [52, 54, 49, 49, 54, 56, 54, 48, 49, 56, 52, 50, 55, 51, 56, 55, 57, 48, 52, 32, 43, 32, 48, 32, 49, 10]
  | 6 => [32, 53, 32, 43, 32, 48, 32, 49, 10]
  | _ => [53, 32, 43, 32, 48, 32, 49, 32, 10]
def badE (b : Nat) : Int := [24, 24, 24, 25, 21, 22, 21, 21].getD b 21
def badC (b : Nat) : Int := [1, 1, 1, 1, 1, 1, 1, 8].getD b 8
theorem d0 : decL (0 : Int).toNat = [48] := by decide +kernel
theorem d1 : decL (1 : Int).toNat = [49] := by decide +kernel
theorem dm : decL (4294967295 : Int).toNat = [52, 50, 57, 52, 57, 54, 55, 50, 57, 53] := by decide +kernel
theorem dt : decL (4611686018427387903 : Int).toNat = [52, 54, 49, 49, 54, 56, 54, 48, 49, 56, 52, 50, 55, 51, 56, 55, 57, 48, 51] := by decide +kernel
theorem bad4 (m : Int) : (evS ⟨[120, 10], (m, 1), 0⟩).2.p = (m, 1) ∧ (evS ⟨[120, 10], (m, 1), 0⟩).2.er = 21 := ⟨by kernel_rfl, by kernel_rfl⟩
theorem bad5 (m : Int) : (evS ⟨badL [] 5, (m, 1), 0⟩).2.p = (m, 1) ∧ (evS ⟨badL [] 5, (m, 1), 0⟩).2.er = 22 := ⟨by kernel_rfl, by kernel_rfl⟩
theorem bad6 (m : Int) : (evS ⟨badL [] 6, (m, 1), 0⟩).2.p = (m, 1) ∧ (evS ⟨badL [] 6, (m, 1), 0⟩).2.er = 21 := ⟨by kernel_rfl, by kernel_rfl⟩
theorem bad7 (m : Int) : (evS ⟨badL [] 7, (m, 1), 0⟩).2.p = (m, 8) ∧ (evS ⟨badL [] 7, (m, 1), 0⟩).2.er = 21 := ⟨by kernel_rfl, by kernel_rfl⟩
/-- A line that is not well written. -/
theorem parse_ill {n : Int} {F : List Ev} {r : List UInt8} (hn0 : 0 ≤ n) (hz : (chk n F).2 = 0) (hb : ∀ x ∈ F, EvB x) (hr : r ≠ []) {c : Int} {e : Int} (he : e ≠ 0)
    (hE : (evS ⟨r, ((F.length : Int) + 2, 1), 0⟩).2.p = ((F.length : Int) + 2, c) ∧ (evS ⟨r, ((F.length : Int) + 2, 1), 0⟩).2.er = e) : parseR (logL n F ++ r) = ([], ((F.length : Int) + 2, c), e) := by
  obtain ⟨k, hk, h1, h2⟩ := parse_behind hn0 hz hb r
  rw [h1]
  obtain ⟨k, rfl⟩ : ∃ j, k = j + 1 := ⟨k - 1, by omega⟩
  have hs : (nextS ⟨r, ((F.length : Int) + 2, 1), 0⟩).isSome = true := by
    cases r with
    | nil => exact absurd rfl hr
    | cons c z => simp [nextS]
  rw [(plF_more (n := n) (k := k) (F := F) rfl hs).1 (by rw [hE.2]; exact he), hE.1, hE.2]
theorem lines_plain {n : Int} {F : List Ev} (hn0 : 2 ≤ n) (hz : (chk n F).2 = 0) (hb : ∀ x ∈ F, EvB x) (hl : lastT F < maxT) (t : Int) (ht : 0 ≤ t ∧ t ≤ maxT) (b : Nat) (hb8 : b < 8)
    (h2 : b = 2 → n ≠ 4294967296) (h3 : b = 3 → thereOf F ⟨0, 1⟩ = false) : parseR (logL n F ++ badL (decL t.toNat) b) = ([], ((F.length : Int) + 2, badC b), badE b) := by
  have key : ∀ x : Ev, (0 ≤ x.t ∧ x.t ≤ 4611686018427387903) → EvB x → ∀ e : Nat, e ≠ 0 → evErr n (prevOf F F.length) (thereOf F) x = e → parseR (logL n F ++ lineL x) = ([], ((F.length : Int) + 2, 1), (e : Int)) := by
    intro x hx hbx e he hv
    have h := parse_badline (by omega) hz hb x hx hbx [] (by rw [hv]; exact he)
    rw [List.append_nil, hv] at h
    exact h
  have tm : ¬ (t < 0 ∨ maxT < t) := by omega
  have t0 : ¬ ((0 : Int) < 0 ∨ maxT < 0) := by unfold maxT; omega
  unfold maxT at ht
  rcases (by omega : b = 0 ∨ b = 1 ∨ b = 2 ∨ b = 3 ∨ b = 4 ∨ b = 5 ∨ b = 6 ∨ b = 7) with rfl | rfl | rfl | rfl | rfl | rfl | rfl | rfl
  · have := key ⟨0, ⟨1, 1⟩, true⟩ (by decide) ⟨by simp, by simp⟩ 24 (by decide) (by
      unfold evErr
      rw [if_neg t0, if_pos (by unfold right; simp)])
    have e1 : lineL ⟨0, ⟨1, 1⟩, true⟩ = badL (decL t.toNat) 0 := by
      unfold lineL sgnL; dsimp only; rw [d0, d1]; rfl
    rwa [e1] at this
  · have := key ⟨t, ⟨1, 0⟩, true⟩ ht ⟨by simp, by simp⟩ 24 (by decide) (by
      unfold evErr
      rw [if_neg tm, if_pos (by unfold right; simp)])
    have e1 : lineL ⟨t, ⟨1, 0⟩, true⟩ = badL (decL t.toNat) 1 := by
      unfold lineL sgnL; dsimp only; rw [d0, d1]; simp [badL]
    rwa [e1] at this
  · have hne := h2 rfl
    have hbd := chk_ok_bd hz
    have := key ⟨t, ⟨0, 4294967295⟩, true⟩ ht ⟨by simp, by simp⟩ 24 (by decide) (by
      unfold evErr
      rw [if_neg tm, if_pos (by unfold right; dsimp only; omega)])
    have e1 : lineL ⟨t, ⟨0, 4294967295⟩, true⟩ = badL (decL t.toNat) 2 := by
      unfold lineL sgnL; dsimp only; rw [d0, dm]; simp [badL]
    rwa [e1] at this
  · have hth := h3 rfl
    have := key ⟨4611686018427387903, ⟨0, 1⟩, false⟩ (by decide) ⟨by simp, by simp⟩ 25 (by decide) (by
      unfold evErr
      rw [if_neg (by unfold maxT; decide), if_neg (by unfold right; dsimp only; omega), if_neg (by rw [prevOf_lt (x := ⟨4611686018427387903, ⟨0, 1⟩, false⟩) hl]; decide), if_pos (by exact hth)])
    have e1 : lineL ⟨4611686018427387903, ⟨0, 1⟩, false⟩ = badL (decL t.toNat) 3 := by
      unfold lineL sgnL; dsimp only; rw [d0, d1, dt]; simp [badL]
    rwa [e1] at this
  · exact parse_ill (n := n) (r := [120, 10]) (c := 1) (e := 21) (by omega) hz hb (by simp) (by decide) (bad4 _)
  · exact parse_ill (n := n) (r := badL [] 5) (c := 1) (e := 22) (by omega) hz hb (by simp [badL]) (by decide) (bad5 _)
  · exact parse_ill (n := n) (r := badL [] 6) (c := 1) (e := 21) (by omega) hz hb (by simp [badL]) (by decide) (bad6 _)
  · exact parse_ill (n := n) (r := badL [] 7) (c := 8) (e := 21) (by omega) hz hb (by simp [badL]) (by decide) (bad7 _)
/-- A log has a line of each event, and one more. -/
def tens (l : List UInt8) : Nat := (l.filter (fun c => decide (c.toNat = 10))).length
theorem tens_app (a b : List UInt8) : tens (a ++ b) = tens a + tens b := by simp [tens]
theorem tens_no10 {l : List UInt8} (h : ∀ c ∈ l, c.toNat ≠ 10) : tens l = 0 := by
  unfold tens
  rw [List.length_eq_zero_iff, List.filter_eq_nil_iff]
  intro c hc
  simpa using h c hc
theorem tens_log (n : Int) (F : List Ev) : tens (logL n F) = F.length + 1 := by
  have hlog : logL n F = (headA n.toNat ++ [10]) ++ F.flatMap lineL := by simp [logL, headA]
  have ten : tens [10] = 1 := rfl
  have key : ∀ G : List Ev, tens (G.flatMap lineL) = G.length := by
    intro G
    induction G with
    | nil => rfl
    | cons e G ih =>
      have : lineL e = lineA e ++ [10] := rfl
      rw [List.flatMap_cons, this, tens_app, tens_app, ih, tens_no10 (lineA_no10 e), ten, List.length_cons]
      omega
  rw [hlog, tens_app, tens_app, tens_no10 (headA_no10 _), ten, key]
  omega
end Go.Proofs.YtggnkefhegnokaaDoor
end

section
/- The contract of the statements' Late. -/
namespace Go.Proofs.YtggnkefhegnokaaDoor
open Go.RowKit Go.Maps
set_option linter.unusedVariables false

theorem lastT_mem {F : List Ev} (h : F ≠ []) : ∃ x ∈ F, x.t = lastT F := by
  unfold lastT
  rw [dif_neg h]
  exact ⟨_, List.getLast_mem h, rfl⟩
theorem lastT_cons (x y : Ev) (l : List Ev) : lastT (x :: y :: l) = lastT (y :: l) := by
  unfold lastT
  rw [dif_neg (by simp), dif_neg (by simp), List.getLast_cons (by simp)]
theorem before_le {a b : Ev} (h : before a b) : a.t ≤ b.t := by unfold before at h; omega
theorem allOk_last {n : Int} : ∀ {l : List Ev} {prev : Option Ev} {there : Ed → Bool}, AllOk n prev there l → ∀ x ∈ l, x.t ≤ lastT l
  | [], _, _, _, x, hx => by simp at hx
  | [y], _, _, _, x, hx => by
    rw [List.mem_singleton.1 hx]
    exact Int.le_refl _
  | y :: z :: l, prev, there, h, x, hx => by
    rw [lastT_cons]
    rcases List.mem_cons.1 hx with rfl | hx
    · have h1 := (evErr_ok h.2.1).2.2.1 _ rfl
      exact Int.le_trans (before_le h1) (allOk_last h.2 z (by simp))
    · exact allOk_last h.2 x hx
/-- An event, moved by so much. -/
def shE (d : Int) (x : Ev) : Ev := ⟨x.t + d, x.e, x.add⟩
def lateL (l : List Ev) : List Ev := l.map (shE (maxT - lastT l))
theorem lateL_len (l : List Ev) : (lateL l).length = l.length := by simp [lateL]
theorem lateL_evb {l : List Ev} (h : ∀ x ∈ l, EvB x) : ∀ x ∈ lateL l, EvB x := by
  intro x hx
  obtain ⟨y, hy, rfl⟩ := List.mem_map.1 hx
  exact h y hy
theorem before_sh (d : Int) {a b : Ev} (h : before a b) : before (shE d a) (shE d b) := by
  unfold before at *
  rcases h with h | ⟨h1, h2⟩
  · left; show a.t + d < b.t + d; omega
  · right; exact ⟨by show a.t + d = b.t + d; omega, h2⟩
theorem allOk_sh {n d : Int} : ∀ {l : List Ev} {prev : Option Ev} {there : Ed → Bool}, (∀ x ∈ l, 0 ≤ x.t + d ∧ x.t + d ≤ maxT) → AllOk n prev there l → AllOk n (prev.map (shE d)) there (l.map (shE d))
  | [], _, _, _, _ => trivial
  | x :: l, prev, there, hb, h => by
    obtain ⟨h1, h2⟩ := h
    obtain ⟨e1, e2, e3, e4⟩ := evErr_ok h1
    refine ⟨evErr_zero (hb x (by simp)) e2 (fun p hp => ?_) e4, ?_⟩
    · cases prev with
      | none => cases hp
      | some q =>
        cases hp
        exact before_sh d (e3 q rfl)
    · exact allOk_sh (prev := some x) (fun y hy => hb y (by simp [hy])) h2
theorem late_chk {n : Int} {F : List Ev} (hz : (chk n F).2 = 0) : chk n (lateL F) = (0, 0) := by
  obtain ⟨hn, hok⟩ := chk_ok_bd hz
  have hl : F.length ≤ 2147483648 := by
    unfold chk at hz
    split at hz
    · cases hz
    · rename_i c; omega
  unfold chk
  rw [if_neg (by unfold maxN; rw [lateL_len]; omega)]
  refine chkFrom_allOk ?_
  unfold lateL
  by_cases hF : F = []
  · subst hF; trivial
  · obtain ⟨y, hy, hyt⟩ := lastT_mem hF
    have h1 := allOk_tt hok y hy
    refine allOk_sh (prev := none) (fun x hx => ?_) hok
    have h2 := allOk_last hok x hx
    have h3 := allOk_tt hok x hx
    unfold maxT
    omega

/-- What Late keeps. -/
structure LtS (w wr : World) (h1 h2 h5 : Nat) (n : Int) (a : Option Addr) (len cap : Nat) (es : List Ev) (ea : Option Addr) (j ec : Nat) : Prop where
  bst : BSt w wr h2 h5 n (.slice ea j ec) j es
  c0 : wr.cell? ⟨h1, 0, none⟩ = some (.int .u64 n)
  c1 : wr.cell? ⟨h1, 1, none⟩ = some (.slice a len cap)
  lt : h1 < h2
theorem LtS.quiet {w wr w' : World} {h1 h2 h5 len cap j ec : Nat} {n : Int} {a ea : Option Addr} {es : List Ev} (h : LtS w wr h1 h2 h5 n a len cap es ea j ec) (hm : Mod wr w' NoB) : LtS w w' h1 h2 h5 n a len cap es ea j ec :=
  ⟨h.bst.quiet hm, keepc h.c0 hm, keepc h.c1 hm, h.lt⟩
theorem LtS.next {w V Z : World} {h1 h2 h5 len cap j ec ec2 g1 : Nat} {n : Int} {a ea : Option Addr} {es es2 : List Ev} (h : LtS w V h1 h2 h5 n a len cap es ea j ec)
    (hb : BSt w Z h2 h5 n (.slice (some ⟨g1, 0, none⟩) (j + 1) ec2) (j + 1) es2) (hm : Mod V Z (fun q => (Value.slice ea j ec).ownBlock = some q ∨ q = h5)) : LtS w Z h1 h2 h5 n a len cap es2 (some ⟨g1, 0, none⟩) (j + 1) ec2 := by
  have hne : ¬ ((Value.slice ea j ec).ownBlock = some h1 ∨ h1 = h5) := by
    have k1 := h.lt
    have k2 := h.bst.hh.2
    rintro (c | c)
    · have := (h.bst.own _ c).1; omega
    · omega
  exact ⟨hb, keepS h.c0 hm hne, keepS h.c1 hm hne, h.lt⟩

set_option maxRecDepth 100000 in
set_option maxHeartbeats 8000000 in
theorem late_any (w : World) (n : Int) (a : Option Addr) (cap : Nat) (l : List Ev) (hE : Evs w a l) (hl : l.length ≤ 40) (ht : ∀ x ∈ l, 0 ≤ x.t ∧ x.t ≤ lastT l) (hmax : lastT l ≤ maxT) :
    Calls Tryd.prog 10 #[.agg #[.int .u64 n, .slice a l.length cap]] w fun e w' => ∃ a' cap', e = .returned (.agg #[.int .u64 n, .slice a' l.length cap']) ∧ Evs w' a' (lateL l) ∧ Mod w w' NoB := by
  have hmx := mixed
  obtain ⟨i0, hi, hz0, hz1, hz2⟩ := info_parts info_event2
  have HE := Lib.hid (And.intro hE ht)
  have HB0 := Lib.hid (BnB.start (w := w) (n := n) (a := a) (len := l.length) (cap := cap))
  obtain ⟨h1, hh1⟩ : ∃ g, g = w.heap.size := ⟨_, rfl⟩
  obtain ⟨h2, hh2⟩ : ∃ g, g = w.heap.size + 1 := ⟨_, rfl⟩
  obtain ⟨W, hW⟩ : ∃ W, W = (w.alloc (.cells #[.int .u64 n, .slice a l.length cap] 25)).alloc (.cells #[.int .u64 0, .slice none 0 0] 25) := ⟨_, rfl⟩
  have HH : Hid (w.heap.size ≤ h2 ∧ h1 < h2) := by show _ ∧ _; omega
  rw [← hW, ← hh2, ← hh1] at HB0
  go_enter Tryd.func10, Tryd.ntmps10
  go_upto_region 1 with (fail)
  rw [← hW, ← hh2, ← hh1]
  clear hW hh2 hh1 hE ht
  obtain ⟨c0, c1, a0, a1, fa0, fa1, -, -, -⟩ := HB0.out
  by_cases hl0 : l.length = 0
  · have hli : (l.length : Int) = 0 := by omega
    have HL0 : Hid (lateL l = []) := by
      have : l = [] := List.length_eq_zero_iff.1 hl0
      subst this; rfl
    have HF : Hid (((W.setCell ⟨h2, 0, none⟩ (.int .u64 n)).setCell ⟨h2, 1, none⟩ (.slice a l.length cap)).cell? ⟨h2, 0, none⟩ = some (.int .u64 n) ∧ ((W.setCell ⟨h2, 0, none⟩ (.int .u64 n)).setCell ⟨h2, 1, none⟩ (.slice a l.length cap)).cell? ⟨h2, 1, none⟩ = some (.slice a l.length cap) ∧ Mod w ((W.setCell ⟨h2, 0, none⟩ (.int .u64 n)).setCell ⟨h2, 1, none⟩ (.slice a l.length cap)) NoB) := by
      have hm : Mod W ((W.setCell ⟨h2, 0, none⟩ (.int .u64 n)).setCell ⟨h2, 1, none⟩ (.slice a l.length cap)) (OneB h2) := (Mod.set1 W h2 0 _).setG _
      refine ⟨?_, World.cell?_setCell_same _ _ _ ((World.cell?_setCell_other _ _ _ _ (by simp)).trans a1), HB0.out.mod.trans hm (fun i hi c => by have : i = h2 := c; have := HH.out.1; omega)⟩
      rw [World.cell?_setCell_other _ _ _ _ (by simp)]
      exact World.cell?_setCell_same _ _ _ a0
    clear hl0
    go_wp2_with fail
    have z0 := HF.out.1
    have z1 := HF.out.2.1
    exact bodyPost_ret (v := .agg #[.int .u64 n, .slice a l.length cap]) (by simp [results, Tryd.results10, go_sem, z0, z1]) rfl ⟨a, cap, rfl, by rw [HL0.out]; exact Or.inl rfl, HF.out.2.2⟩
  · have hli : ¬ (l.length : Int) = 0 := by omega
    have hEW := HE.out.1.mod HB0.out.mod
    obtain ⟨b, off, y, rfl, hbw, hy, hC⟩ := hEW.at (show l.length - 1 < l.length by omega)
    have hlast := lastT_at hy
    have hy0 := (HE.out.2 y (List.mem_of_getElem? hy)).1
    obtain ⟨e0, -, -, -⟩ := hC
    have hii : ((l.length : Int) - 1) = ((l.length - 1 : Nat) : Int) := by omega
    have hlt : ((l.length - 1 : Nat) : Int) < l.length := by omega
    obtain ⟨jl, hjl⟩ : ∃ j, j = l.length - 1 := ⟨_, rfl⟩
    rw [← hjl] at e0 hii hlt
    have hwd : IntKind.i64.wrap (4611686018427387903 - y.t) = 4611686018427387903 - y.t := IntWalk.i64_in _ (by unfold maxT at hmax; omega)
    obtain ⟨d, hd⟩ : ∃ d, d = 4611686018427387903 - y.t := ⟨_, rfl⟩
    replace hwd : IntKind.i64.wrap (4611686018427387903 - y.t) = d := by rw [hd]; exact hwd
    have HD : Hid (d = maxT - lastT l ∧ 0 ≤ d) := by show _ ∧ _; unfold maxT at hmax ⊢; omega
    have HLT := Lib.hid hmax
    clear hy hjl hy0 hlast hbw hmax hl0 hd
    go_upto_region 5 with (fail)
    have HB5 : Hid (LtS w (W.alloc (.cells #[.int .u64 n, .slice none 0 0] 25)) h1 h2 W.heap.size n (some ⟨b, off, none⟩) l.length cap (([] : List Ev)) none 0 0) := by
      have hm : Mod W (W.alloc (.cells #[.int .u64 n, .slice none 0 0] 25)) NoB := (Mod.refl _ _).alloc _
      have hh := HB0.out.next hm
      have l2 := World.block_lt_of_cell? _ _ a0
      have l2' : h2 < W.heap.size := l2
      exact ⟨⟨hh.mod, ⟨HH.out.1, l2'⟩, hh.z0, hh.z1, hh.f0, hh.f1, World.cell?_alloc_at _ _ _ _ rfl, World.cell?_alloc_at _ _ _ _ rfl, frozen_alloc_at _ _ _ _ _ rfl, frozen_alloc_at _ _ _ _ _ rfl, rfl, World.ownsRow_nil _ _ _ _⟩, hh.c0, hh.c1, HH.out.2⟩
    obtain ⟨h5, hh5⟩ : ∃ g, g = W.heap.size := ⟨_, rfl⟩
    obtain ⟨w2, hw2⟩ : ∃ X, X = W.alloc (.cells #[.int .u64 n, .slice none 0 0] 25) := ⟨_, rfl⟩
    rw [← hw2, ← hh5] at HB5
    go_upto_region 6 with (fail)
    rw [← hw2, ← hh5]
    clear hw2 hh5 HB0 c0 c1 a0 a1 fa0 fa1 e0 hii hlt hwd hli
    go_wp2_with fail
    go_loopw [6] (fun v6 wr => ∃ (k : Nat) (ea : Option Addr) (ec : Nat), k ≤ l.length ∧ v6 = .int .i64 k ∧ Hid (LtS w wr h1 h2 h5 n (some ⟨b, off, none⟩) l.length cap ((lateL l).take k) ea k ec)) (fun v6 _ => l.length - (intOf v6).toNat)
    case atStart => exact ⟨0, none, 0, Nat.zero_le _, rfl, HB5⟩
    case round =>
      obtain ⟨k, ea, ec, hk, rfl, HI⟩ := hrel
      by_cases hlt : k < l.length
      · obtain ⟨b', off', x, hab, hbw, hx, hC⟩ := (HE.out.1.mod HI.out.bst.mod).at hlt
        have hb1 : b = b' := by injection hab with q; injection q
        have ho1 : off = off' := by injection hab with q; injection q
        subst hb1 ho1
        have hki : (k : Int) < l.length := by omega
        obtain ⟨q0, q1, q2, q3⟩ := hC
        have hxt := HE.out.2 x (List.mem_of_getElem? hx)
        have hwx : IntKind.i64.wrap (x.t + d) = x.t + d := IntWalk.i64_in _ (by have := HD.out; have := HLT.out; unfold maxT at *; omega)
        have hlx : (lateL l)[k]? = some ⟨x.t + d, x.e, x.add⟩ := by
          unfold lateL
          rw [List.getElem?_map, hx, ← HD.out.1]
          rfl
        have htk : (lateL l).take (k + 1) = (lateL l).take k ++ [⟨x.t + d, x.e, x.add⟩] := by
          obtain ⟨p1, p2⟩ := List.getElem?_eq_some_iff.1 hlx
          rw [List.take_succ_eq_append_getElem p1, p2]
        have HTK := Lib.hid htk
        have d0 := HI.out.c0
        have d1 := HI.out.c1
        obtain ⟨e0, he0⟩ : ∃ e0, e0 = wr.heap.size := ⟨_, rfl⟩
        obtain ⟨V, hV⟩ : ∃ V, V = wr.alloc (.cells #[.int .i64 x.t, .int .u32 x.e.u, .int .u32 x.e.v, .bool x.add] 61) := ⟨_, rfl⟩
        have HV : Hid (Mod wr V NoB) := by rw [hV]; exact (Mod.refl _ _).alloc _
        have HDD : Hid (EvAt V e0 0 x ∧ V.frozen? ⟨e0, 0, none⟩ = false ∧ wr.heap.size ≤ e0 ∧ e0 < V.heap.size) := by
          show _ ∧ _
          rw [hV, he0]
          exact ⟨⟨World.cell?_alloc_at _ _ _ _ rfl, World.cell?_alloc_at _ _ _ _ rfl, World.cell?_alloc_at _ _ _ _ rfl, World.cell?_alloc_at _ _ _ _ rfl⟩, by simp, Nat.le_refl _, by simp⟩
        clear hx hbw hxt hlx htk hab
        go_upto_region 10 with (fail)
        rw [← hV, ← he0]
        clear hV he0 q0 q1 q2 q3
        obtain ⟨v0, v1, v2, v3⟩ := HDD.out.1
        have fu := HDD.out.2.1
        simp only [Nat.zero_add] at v1 v2 v3
        go_upto_region 11 with (fail)
        obtain ⟨Y, hY⟩ : ∃ Y, Y = V.setCell ⟨e0, 0, none⟩ (.int .i64 (x.t + d)) := ⟨_, rfl⟩
        have HY : Hid (Mod wr Y NoB) := by show Mod wr Y NoB; rw [hY]; exact set_young HV.out HDD.out.2.2.1 _
        have y0 : Y.cell? ⟨e0, 0, none⟩ = some (.int .i64 (x.t + d)) := by rw [hY]; exact World.cell?_setCell_same _ _ _ v0
        have y1 : Y.cell? ⟨e0, 1, none⟩ = some (.int .u32 x.e.u) := by rw [hY, World.cell?_setCell_other _ _ _ _ (by simp)]; exact v1
        have y2 : Y.cell? ⟨e0, 2, none⟩ = some (.int .u32 x.e.v) := by rw [hY, World.cell?_setCell_other _ _ _ _ (by simp)]; exact v2
        have y3 : Y.cell? ⟨e0, 3, none⟩ = some (.bool x.add) := by rw [hY, World.cell?_setCell_other _ _ _ _ (by simp)]; exact v3
        rw [← hY]
        clear hY v0 v1 v2 v3 fu HV HDD d0 d1
        have HS := Lib.hid (HI.out.quiet HY.out)
        have b1 := HS.out.bst.b1
        have f1 := HS.out.bst.fb1
        have lb := World.block_lt_of_cell? _ _ b1
        have le := World.block_lt_of_cell? _ _ y0
        have hone : ∀ u ∈ encV ⟨x.t + d, x.e, x.add⟩, u.oneCell' = true := by simp [encV, Value.oneCell']
        have hms : h5 + 1 ≤ Y.heap.size := lb
        have hB1 : k + 1 ≤ maxLen := by unfold maxLen; omega
        have hB2 : (k + 1) * 24 ≤ 140737488355328 := by omega
        go_wp2_with (at_builtin; refine wpList_append_lies _ rfl _ _ 23 rfl (h5 + 1) 61 i0 _ 4 24 Tryd.underlying23 hi hz0 hz1 hz2 rfl (by decide) (.slice ea k ec) k _ rfl (HS.out.bst.row.alloc _) ⟨_, 0, none⟩ 1 1 (encV ⟨x.t + d, x.e, x.add⟩) rfl rfl (World.news_of_block (MapKept.heap_alloc _ _).1) hone (by decide) hB1 hB2 (le_alloc hms) _ rfl ?_; intro g1 cap1 w8 hown hgrow hat hlt8; have H8 := Lib.hid (HS.out.bst.app hown hgrow); clear hown hgrow hat hlt8 b1 f1; have b2 := H8.out.1.1; have f2 := H8.out.1.2)
        go_roundw
        case rel => exact ⟨k + 1, by omega, by go_num, some ⟨g1, 0, none⟩, cap1, by rw [HTK.out]; exact HS.out.next H8.out.2.1 H8.out.2.2⟩
        case measure => simp [intOf]; omega
      · have hki : ¬ (k : Int) < l.length := by omega
        have hkl : k = l.length := by omega
        have hI := HI.out.bst
        rw [show (lateL l).take k = lateL l from List.take_of_length_le (by rw [lateL_len]; omega)] at hI
        have HB := Lib.hid hI
        have HJ := Lib.hid hkl
        have q0 := hI.a0
        have q1 := hI.a1
        have q2 := hI.fa0
        have q3 := hI.fa1
        have q4 := hI.b0
        have q5 := hI.b1
        clear hI hkl
        go_wp2_with fail
        obtain ⟨z, hz⟩ : ∃ z, z = (wr.setCell ⟨h2, 0, none⟩ (.int .u64 n)).setCell ⟨h2, 1, none⟩ (.slice ea k ec) := ⟨_, rfl⟩
        have h46 : Mod wr z (OneB h2) := by
          rw [hz]; exact (Mod.set1 wr h2 0 (.int .u64 n)).setG _
        have hne : ¬ (Value.slice ea k ec).ownBlock = some h2 := fun c => by
          have := (HB.out.own _ c).1
          have := HB.out.hh.2
          omega
        have HZ : Hid (Evs z ea (lateL l) ∧ Mod w z NoB) := by
          have hrow := h46.row HB.out.row (fun q hq c => hne (by rw [hq, show q = h2 from c]))
          refine ⟨evs_of_row HB.out.len.symm hrow, HB.out.mod.trans h46 (fun i hi c => by
            have h1 : i = h2 := c
            have := HB.out.hh.1
            omega)⟩
        have z0 : z.cell? ⟨h2, 0, none⟩ = some (.int .u64 n) := by
          rw [hz, World.cell?_setCell_other _ _ _ _ (by simp)]; exact World.cell?_setCell_same _ _ _ q0
        have z1 : z.cell? ⟨h2, 1, none⟩ = some (.slice ea k ec) := by
          rw [hz]; exact World.cell?_setCell_same _ _ _ (by rw [World.cell?_setCell_other _ _ _ _ (by simp)]; exact q1)
        rw [← hz]
        clear hz q0 q1 q2 q3 q4 q5 h46 hne
        exact bodyPost_ret (v := .agg #[.int .u64 n, .slice ea k ec]) (by simp [results, Tryd.results10, go_sem, z0, z1]) rfl ⟨ea, ⟨ec, by rw [← HJ.out]⟩, HZ.out.1, HZ.out.2⟩
end Go.Proofs.YtggnkefhegnokaaDoor
end

section
/- The statements' history (the last time) and there (an edge, at last). -/
namespace Go.Proofs.YtggnkefhegnokaaDoor
open Go.RowKit Go.Maps
set_option linter.unusedVariables false

set_option maxRecDepth 100000 in
set_option maxHeartbeats 4000000 in
theorem lhist_any (w : World) (n : Int) (a : Option Addr) (cap : Nat) (F : List Ev) (hE : Evs w a F) (hl : F.length ≤ 100000) :
    Calls Tryd.prog 20 #[.agg #[.int .u64 n, .slice a F.length cap]] w fun e w' => e = .returned (.int .i64 (lastT F)) ∧ Mod w w' NoB := by
  have hmx := mixed
  have HH0 := Lib.hid (HAt.start (n := n) (len := F.length) (cap := cap) hE)
  obtain ⟨h0, hh0⟩ : ∃ h0, h0 = w.heap.size := ⟨_, rfl⟩
  obtain ⟨W, hW⟩ : ∃ W, W = w.alloc (.cells #[.int .u64 n, .slice a F.length cap] 25) := ⟨_, rfl⟩
  rw [← hW, ← hh0] at HH0
  clear hE
  have c0 := HH0.out.c0
  have c1 := HH0.out.c1
  by_cases hF : F.length = 0
  · have hz : lastT F = -1 := by
      have : F = [] := List.length_eq_zero_iff.1 hF
      subst this; rfl
    rw [hz]
    have hF' : (F.length : Int) = 0 := by omega
    rw [hF] at hW c1 ⊢
    go_enter Tryd.func20, Tryd.ntmps20
    go_wp2_with fail
    rw [← hW, ← hh0]
    clear hW hh0
    go_ret
    exact ⟨rfl, HH0.out.mod⟩
  · obtain ⟨b, off, x, rfl, hbw, hx, hC⟩ := HH0.out.evs.at (show F.length - 1 < F.length by omega)
    rw [lastT_at hx]
    have hF' : ¬ (F.length : Int) = 0 := by omega
    have hi : ((F.length : Int) - 1) = ((F.length - 1 : Nat) : Int) := by omega
    have hlt : ((F.length - 1 : Nat) : Int) < F.length := by omega
    obtain ⟨q0, q1, q2, q3⟩ := hC
    clear hx hbw
    obtain ⟨j, hj⟩ : ∃ j, j = F.length - 1 := ⟨_, rfl⟩
    rw [← hj] at q0 q1 q2 q3 hi hlt
    clear hj
    go_enter Tryd.func20, Tryd.ntmps20
    go_upto_region 1 with (fail)
    rw [← hW, ← hh0]
    clear hW hh0
    go_wp2_with fail
    go_ret
    exact ⟨rfl, HH0.out.mod⟩

set_option maxRecDepth 100000 in
set_option maxHeartbeats 4000000 in
theorem lthere_any (w : World) (n : Int) (a : Option Addr) (cap : Nat) (F : List Ev) (y : Ed) (hE : Evs w a F) (hl : F.length ≤ 10000) (hb : ∀ x ∈ F, EvB x) (hc : chk n F = (0, 0)) :
    Calls Tryd.prog 21 #[.agg #[.int .u64 n, .slice a F.length cap], .agg #[.int .u32 y.u, .int .u32 y.v]] w fun e w' => e = .returned (.bool (thereOf F y)) ∧ Mod w w' NoB := by
  have hmx := mixed
  have hok : AllOk n none (fun _ => false) F := (chk_ok_bd (by rw [hc])).2
  have HAf : Hid (∀ z, Evs z a F → Calls Tryd.prog 50 #[.agg #[.int .u64 n, .slice a F.length cap], .int .i64 F.length] z fun e w' => ∃ (na : Option Addr) (nc : Nat) (N : List Ed), e = .returned (.tuple #[.slice na N.length nc, .int .i64 0]) ∧ Eds w' na N ∧ N.length ≤ F.length ∧ NowOk N (thereOf (F.take F.length)) ∧ Mod z w' NoB) := fun z hz => after_any z n F.length a cap F hz (by omega) hb hc (Nat.le_refl _) hok
  have HH0 := Lib.hid (HAt.start (n := n) (len := F.length) (cap := cap) hE)
  obtain ⟨h0, hh0⟩ : ∃ h0, h0 = w.heap.size := ⟨_, rfl⟩
  obtain ⟨W, hW⟩ : ∃ W, W = w.alloc (.cells #[.int .u64 n, .slice a F.length cap] 25) := ⟨_, rfl⟩
  rw [← hW, ← hh0] at HH0
  obtain ⟨g0, hg0⟩ : ∃ h0, h0 = w.heap.size + 1 := ⟨_, rfl⟩
  have hg1 : W.heap.size = g0 := by rw [hW, hg0]; simp
  obtain ⟨V, hV⟩ : ∃ V, V = W.alloc (.cells #[.int .u32 y.u, .int .u32 y.v] 57) := ⟨_, rfl⟩
  have HV : Hid (HAt w V h0 n a F.length cap F ∧ V.cell? ⟨g0, 0, none⟩ = some (.int .u32 y.u) ∧ V.cell? ⟨g0, 1, none⟩ = some (.int .u32 y.v)) := by
    show _ ∧ _
    rw [hV]
    exact ⟨HH0.out.next ((Mod.refl _ _).alloc _), World.cell?_alloc_at _ _ _ _ hg1.symm, World.cell?_alloc_at _ _ _ _ hg1.symm⟩
  have c0 := HV.out.1.c0
  have c1 := HV.out.1.c1
  have e0 := HV.out.2.1
  have e1 := HV.out.2.2
  clear hok hE hb hc hg1
  go_enter Tryd.func21, Tryd.ntmps21
  go_upto_region 1 with (fail)
  rw [← hW, ← hV, ← hg0, ← hh0]
  clear hW hh0 hV hg0 HH0
  go_wp2_with fail
  refine (HAf.out _ HV.out.1.evs).mono ?_
  rintro e w1 ⟨na, nc, N, rfl, hN, hNl, hNow, hm⟩
  have u0 := keepc e0 hm
  have u1 := keepc e1 hm
  have HN := Lib.hid (And.intro hN (And.intro hNl (And.intro hNow (HV.out.1.mod.trans hm (fun _ _ c => c)))))
  have hfi : (fndE y N).isSome = thereOf F y := by
    rw [List.take_length] at hNow
    exact hNow.find y
  have HFi := Lib.hid hfi
  clear hfi hN hNl hNow hm c0 c1 e0 e1
  go_wp2_with fail
  refine (has_any _ na nc N y HN.out.1 (by have := HN.out.2.1; omega)).mono ?_
  rintro e w2 ⟨rfl, hm⟩
  have HM := Lib.hid (HN.out.2.2.2.trans hm (fun _ _ c => c))
  clear hm
  rw [HFi.out]
  go_wp2_with fail
  go_ret
  exact ⟨rfl, HM.out⟩
end Go.Proofs.YtggnkefhegnokaaDoor
end
