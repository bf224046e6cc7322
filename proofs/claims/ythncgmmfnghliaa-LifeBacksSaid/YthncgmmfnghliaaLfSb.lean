/- The reference's insert of events; rows of events. -/
import Derived.Test.YthncgmmfnghliaaLfSa
namespace Go.Proofs.Ythncgmmfnghliaa
open Go.RowKit
set_option linter.unusedVariables false

theorem info_event2 : (Try.prog.info? 65).map (fun i => (i.zero, i.size, i.bytes)) = some (some (.agg #[.int .i64 0, .int .u32 0, .int .u32 0, .bool false]), 4, 24) := by kernel_rfl

/-- The cells of a part of a row of events. -/
theorem evs_news {w : World} {b off o' p m : Nat} {l : List Ev} (h : ∀ (i : Nat) (x : Ev), l[i]? = some x → EvAt w b (off + i * 4) x) (ho : o' = off + p * 4) :
    ∀ (j : Nat) (u : Value), (((l.drop p).take m).flatMap encV)[j]? = some u → ∃ ad, (some ⟨b, o', none⟩ : Option Addr) = some ad ∧ w.cell? (ad.add j) = some u := by
  intro j u hu
  obtain ⟨h1, h2⟩ := List.getElem?_eq_some_iff.1 hu
  have hj2 : j / 4 < ((l.drop p).take m).length := by rw [enc4_len encV_len] at h1; omega
  obtain ⟨x, hx⟩ : ∃ x, ((l.drop p).take m)[j / 4]? = some x := ⟨_, List.getElem?_eq_getElem hj2⟩
  have hx' : l[p + j / 4]? = some x := by
    rw [List.getElem?_take] at hx
    split at hx
    · rw [List.getElem?_drop] at hx; exact hx
    · cases hx
  have hg := enc4_get encV_len _ (j / 4) x (j % 4) hx (Nat.mod_lt _ (by omega))
  rw [show j / 4 * 4 + j % 4 = j by omega, hu] at hg
  obtain ⟨e0, e1, e2, e3⟩ := h _ _ hx'
  refine ⟨_, rfl, ?_⟩
  have hadd : (⟨b, o', none⟩ : Addr).add j = ⟨b, o' + j, none⟩ := by unfold Addr.add; split <;> simp_all
  rw [hadd]
  have hm : j % 4 < 4 := Nat.mod_lt _ (by omega)
  have hc : j % 4 = 0 ∨ j % 4 = 1 ∨ j % 4 = 2 ∨ j % 4 = 3 := by omega
  rcases hc with hr | hr | hr | hr
  · rw [hr] at hg
    have hu' : u = .int .i64 x.t := by simpa [encV] using hg
    rw [hu', show o' + j = off + (p + j / 4) * 4 by omega]; exact e0
  · rw [hr] at hg
    have hu' : u = .int .u32 x.e.u := by simpa [encV] using hg
    rw [hu', show o' + j = off + (p + j / 4) * 4 + 1 by omega]; exact e1
  · rw [hr] at hg
    have hu' : u = .int .u32 x.e.v := by simpa [encV] using hg
    rw [hu', show o' + j = off + (p + j / 4) * 4 + 2 by omega]; exact e2
  · rw [hr] at hg
    have hu' : u = .bool x.add := by simpa [encV] using hg
    rw [hu', show o' + j = off + (p + j / 4) * 4 + 3 by omega]; exact e3
theorem encV_one (l : List Ev) : ∀ u ∈ l.flatMap encV, u.oneCell' = true := by
  intro u hu
  obtain ⟨x, _, hx⟩ := List.mem_flatMap.1 hu
  simp [encV] at hx
  rcases hx with rfl | rfl | rfl | rfl <;> rfl
theorem New.events {w w' : World} {n : Nat} {v : Value} {l : List Ev} (h : New w w' 65 4 v n (l.flatMap encV)) (hn : n = l.length) : ∃ a' cap', v = .slice a' l.length cap' ∧ Evs w' a' l ∧ (Plain a' ∧ Yg w a') ∧ l.length ≤ cap' := by
  subst hn
  obtain ⟨a', cap', rfl⟩ := row_form h.row
  refine ⟨a', cap', rfl, evs_of_row rfl h.row, ⟨row_plain h.row, h.yg⟩, ?_⟩
  rcases h.row.2 with ⟨hv, h0⟩ | ⟨g, c, cur, hv, _, _, h1, _⟩
  · rw [h0]; exact Nat.zero_le _
  · cases hv; exact h1

theorem ev_ext {a b : Ev} (h1 : a.t = b.t) (h2 : a.e = b.e) (h3 : a.add = b.add) : a = b := by
  cases a; cases b; simp_all

theorem putR_split {α : Type} {lt : α → α → Prop} [DecidableRel lt] {x : α} : ∀ {l : List α} {k : Nat}, k ≤ l.length → (∀ (j : Nat) (y : α), k ≤ j → l[j]? = some y → lt x y) → (∀ (j : Nat) (y : α), k = j + 1 → l[j]? = some y → ¬ lt x y) → putR lt x l = l.take k ++ x :: l.drop k
  | [], k, hk, _, _ => by
    have : k = 0 := by simpa using hk
    subst this; rfl
  | y :: l, 0, _, h1, _ => by
    have h0 := h1 0 y (by omega) (by simp)
    have h2 : ∀ z ∈ l, lt x z := fun z hz => by
      obtain ⟨j, hj⟩ := List.mem_iff_getElem?.1 hz
      exact h1 (j + 1) z (by omega) (by simpa using hj)
    simp only [putR]
    rw [if_pos ⟨h0, h2⟩]
    rfl
  | y :: l, k + 1, hk, h1, h2 => by
    have ih := putR_split (lt := lt) (x := x) (l := l) (k := k) (by have := hk; simp at this; omega) (fun j z hj hz => h1 (j + 1) z (by omega) (by simpa using hz)) (fun j z hj hz => h2 (j + 1) z (by omega) (by simpa using hz))
    simp only [putR]
    have hn : ¬ (lt x y ∧ ∀ z ∈ l, lt x z) := by
      rintro ⟨c1, c2⟩
      cases k with
      | zero => exact h2 0 y rfl (by simp) c1
      | succ k =>
        have hk' : k < l.length := by have := hk; simp at this; omega
        have hz : l[k]? = some l[k] := List.getElem?_eq_getElem hk'
        exact h2 (k + 1) _ rfl (by simp [hk']) (c2 _ (List.mem_of_getElem? hz))
    rw [if_neg hn, ih]
    rfl

set_option maxRecDepth 100000 in
set_option maxHeartbeats 8000000 in
theorem rins0 (w : World) (cap : Nat) (x : Ev) :
    Calls Try.prog 45 #[.slice none 0 cap, .agg #[.int .i64 x.t, .int .u32 x.e.u, .int .u32 x.e.v, .bool x.add]] w fun r w' => ∃ a' cap', r = .returned (.slice a' [x].length cap') ∧ Evs w' a' [x] ∧ (Plain a' ∧ Yg w a') ∧ [x].length ≤ cap' ∧ Mod w w' NoB := by
  obtain ⟨i0, hi, hz0, hz1, hz2⟩ := info_parts info_event2
  have hmx := mixed
  obtain ⟨h0, hh0⟩ : ∃ h0, h0 = w.heap.size := ⟨_, rfl⟩
  obtain ⟨W, hW⟩ : ∃ W, W = w.alloc (.cells #[.int .i64 x.t, .int .u32 x.e.u, .int .u32 x.e.v, .bool x.add] 65) := ⟨_, rfl⟩
  have HW : Hid (Mod w W NoB ∧ EvAt W h0 0 x) := by
    show _ ∧ _
    rw [hW, hh0]; exact ⟨(Mod.refl _ _).alloc _, World.cell?_alloc_at _ _ _ _ rfl, World.cell?_alloc_at _ _ _ _ rfl, World.cell?_alloc_at _ _ _ _ rfl, World.cell?_alloc_at _ _ _ _ rfl⟩
  go_enter Try.func45, Try.ntmps45
  go_wp2_with fail
  rw [← hW, ← hh0]
  clear hW hh0
  go_loopw [5] (fun i wr => i = .int .i64 0 ∧ Hid (Mod w wr NoB ∧ EvAt wr h0 0 x)) (fun i _ => 0)
  case atStart => exact ⟨rfl, HW.out⟩
  case round =>
      obtain ⟨rfl, HI⟩ := hrel
      obtain ⟨s0, s1, s2, s3⟩ := HI.out.2
      simp only [Nat.zero_add] at s1 s2 s3
      have HB : Hid (0 + 0 ≤ maxLen ∧ (0 + 0) * 24 ≤ 140737488355328 ∧ 0 + 1 ≤ maxLen ∧ (0 + 1) * 24 ≤ 140737488355328) := by
        unfold maxLen; exact ⟨by omega, by omega, by omega, by omega⟩
      have hone : ∀ u ∈ encV x, u.oneCell' = true := by simp [encV, Value.oneCell']
      go_upto_region 2 with (fail)
      go_quiet (fail)
      generalize hzz : World.drewN wr _ = z3
      have H6a : Hid (Mod wr z3 NoB) := by rw [← hzz]; exact (Mod.refl _ _).drewN _
      clear hzz
      have H2 : Hid (Mod w z3 NoB) := HI.out.1.trans H6a.out (fun _ _ h => h)
      have t0 := keepc s0 H6a.out
      have t1 := keepc s1 H6a.out
      have t2 := keepc s2 H6a.out
      have t3 := keepc s3 H6a.out
      clear s0 s1 s2 s3
      go_upto_region 4 with (fail)
      go_region_held3 (fun z => z.cell? ⟨h0, 0, none⟩ = some (.int .i64 x.t) ∧ z.cell? ⟨h0, 1, none⟩ = some (.int .u32 x.e.u) ∧ z.cell? ⟨h0, 2, none⟩ = some (.int .u32 x.e.v) ∧ z.cell? ⟨h0, 3, none⟩ = some (.bool x.add))
        (first | exact ⟨t0, t1, t2, t3⟩ | exact ⟨keepc t0 ((Mod.drew (Mod.refl z3 NoB)).alloc _), keepc t1 ((Mod.drew (Mod.refl z3 NoB)).alloc _), keepc t2 ((Mod.drew (Mod.refl z3 NoB)).alloc _), keepc t3 ((Mod.drew (Mod.refl z3 NoB)).alloc _)⟩ | exact ⟨keepc t0 (H8.out.mod), keepc t1 (H8.out.mod), keepc t2 (H8.out.mod), keepc t3 (H8.out.mod)⟩ | exact ⟨keepc t0 (H7.out.mod), keepc t1 (H7.out.mod), keepc t2 (H7.out.mod), keepc t3 (H7.out.mod)⟩ | exact ⟨keepc t0 (H6.out.mod), keepc t1 (H6.out.mod), keepc t2 (H6.out.mod), keepc t3 (H6.out.mod)⟩ | exact ⟨keepc t0 (H6.out.mod.alloc _), keepc t1 (H6.out.mod.alloc _), keepc t2 (H6.out.mod.alloc _), keepc t3 (H6.out.mod.alloc _)⟩)
        (first
        | (refine step_append_row _ rfl _ _ 23 rfl 65 i0 (.agg #[.int .i64 0, .int .u32 0, .int .u32 0, .bool false]) 4 24 Try.underlying23 hi hz0 hz1 hz2 rfl (by decide) (.slice none 0 0) 0 [] rfl (World.ownsRow_nil _ _ _ _) _ 0 _ [] rfl rfl (no_news rfl) (fun u hu => by cases hu) HB.out.1 HB.out.2.1 ?_
           intro v6 w6 hown6 hgrow6 hat6
           have H6 := Lib.hid ((New.first hown6 hgrow6 hat6).from (Mod.drew (Mod.refl z3 NoB)))
           clear hown6 hgrow6 hat6)
        | (refine step_append_row _ rfl _ _ 23 rfl 65 i0 (.agg #[.int .i64 0, .int .u32 0, .int .u32 0, .bool false]) 4 24 Try.underlying23 hi hz0 hz1 hz2 rfl (by decide) (.slice none 0 0) 0 [] rfl (World.ownsRow_nil _ _ _ _) _ 0 _ [] rfl rfl (no_news rfl) (fun u hu => by cases hu) HB.out.1 HB.out.2.1 ?_
           intro v6 w6 hown6 hgrow6 hat6
           have HBk := Lib.hid (built_kept (w := z3) hgrow6)
           have H6 := Lib.hid ((New.first hown6 hgrow6 hat6).from (Mod.drew (Mod.alloc (Mod.refl z3 NoB) _)))
           clear hown6 hgrow6 hat6)
        | (refine step_append_row _ rfl _ _ 23 rfl 65 i0 (.agg #[.int .i64 0, .int .u32 0, .int .u32 0, .bool false]) 4 24 Try.underlying23 hi hz0 hz1 hz2 rfl (by decide) v6 0 _ rfl (H6.out.row.alloc _) _ 1 _ (encV x) rfl rfl (fun j u hu => ⟨_, rfl, World.news_of_block (MapKept.heap_alloc _ _).1 j u hu⟩) hone HB.out.2.2.1 HB.out.2.2.2 ?_
           intro v7 w7 hown7 hgrow7 hat7
           have H7 := Lib.hid ((H6.out.alloc _).more hown7 hgrow7 hat7)
           clear hown7 hgrow7 hat7)
        | (refine step_append_row _ rfl _ _ 23 rfl 65 i0 (.agg #[.int .i64 0, .int .u32 0, .int .u32 0, .bool false]) 4 24 Try.underlying23 hi hz0 hz1 hz2 rfl (by decide) v6 0 _ rfl H6.out.row _ 1 _ (encV x) rfl rfl (fun j u hu => ⟨_, rfl, World.news_of_block HBk.out j u hu⟩) hone HB.out.2.2.1 HB.out.2.2.2 ?_
           intro v7 w7 hown7 hgrow7 hat7
           have H7 := Lib.hid (H6.out.more hown7 hgrow7 hat7)
           clear hown7 hgrow7 hat7)
        | (refine step_append_row _ rfl _ _ 23 rfl 65 i0 (.agg #[.int .i64 0, .int .u32 0, .int .u32 0, .bool false]) 4 24 Try.underlying23 hi hz0 hz1 hz2 rfl (by decide) v7 (0 + 1) _ rfl H7.out.row _ 0 _ [] rfl rfl (no_news rfl) (fun u hu => by cases hu) HB.out.2.2.1 HB.out.2.2.2 ?_
           intro v8 w8 hown8 hgrow8 hat8
           have H8 := Lib.hid (H7.out.more hown8 hgrow8 hat8)
           clear hown8 hgrow8 hat8))
      all_goals
        rw [show (([] : List Value) ++ encV x) ++ [] = [x].flatMap encV by simp] at H8
        obtain ⟨a', cap', rfl, k1, k2, k3⟩ := H8.out.events rfl
        have HF8 := Lib.hid (And.intro k1 (And.intro k2 (And.intro k3 H8.out.mod)))
        clear k1 k2 k3
        go_wp2_with fail
        all_goals go_ret
        all_goals exact ⟨a', cap', rfl, HF8.out.1, ⟨HF8.out.2.1.1, HF8.out.2.1.2.mono H2.out.size⟩, HF8.out.2.2.1, H2.out.trans HF8.out.2.2.2 (fun _ _ h => h)⟩

set_option maxRecDepth 100000 in
set_option maxHeartbeats 8000000 in
theorem rins1 (w : World) (b off cap : Nat) (l : List Ev) (x : Ev) (hL : Evs w (some ⟨b, off, none⟩) l) (hl : l.length ≤ 100000) (hcap : l.length ≤ cap) :
    Calls Try.prog 45 #[.slice (some ⟨b, off, none⟩) l.length cap, .agg #[.int .i64 x.t, .int .u32 x.e.u, .int .u32 x.e.v, .bool x.add]] w fun r w' => ∃ a' cap', r = .returned (.slice a' (putR before x l).length cap') ∧ Evs w' a' (putR before x l) ∧ (Plain a' ∧ Yg w a') ∧ (putR before x l).length ≤ cap' ∧ Mod w w' NoB := by
  have HL := Lib.hid hL
  clear hL
  obtain ⟨i0, hi, hz0, hz1, hz2⟩ := info_parts info_event2
  have hmx := mixed
  obtain ⟨h0, hh0⟩ : ∃ h0, h0 = w.heap.size := ⟨_, rfl⟩
  obtain ⟨W, hW⟩ : ∃ W, W = w.alloc (.cells #[.int .i64 x.t, .int .u32 x.e.u, .int .u32 x.e.v, .bool x.add] 65) := ⟨_, rfl⟩
  have HW : Hid (Mod w W NoB ∧ EvAt W h0 0 x) := by
    show _ ∧ _
    rw [hW, hh0]; exact ⟨(Mod.refl _ _).alloc _, World.cell?_alloc_at _ _ _ _ rfl, World.cell?_alloc_at _ _ _ _ rfl, World.cell?_alloc_at _ _ _ _ rfl, World.cell?_alloc_at _ _ _ _ rfl⟩
  go_enter Try.func45, Try.ntmps45
  go_wp2_with fail
  rw [← hW, ← hh0]
  clear hW hh0
  go_loopw [5] (fun i wr => ∃ k : Nat, k ≤ l.length ∧ i = .int .i64 k ∧ Hid (Mod w wr NoB ∧ EvAt wr h0 0 x ∧ ∀ (j : Nat) (y : Ev), k ≤ j → l[j]? = some y → before x y)) (fun i _ => (intOf i).toNat)
  case atStart => exact ⟨l.length, Nat.le_refl _, rfl, HW.out.1, HW.out.2, fun j y hj hy => by rw [List.getElem?_eq_none hj] at hy; cases hy⟩
  case round =>
    obtain ⟨k, hk, rfl, HI⟩ := hrel
    obtain ⟨s0, s1, s2, s3⟩ := HI.out.2.1
    simp only [Nat.zero_add] at s1 s2 s3
    by_cases hcont : ∃ (j : Nat) (y : Ev), k = j + 1 ∧ l[j]? = some y ∧ before x y
    · obtain ⟨j, y, hkj, hy, hlt⟩ := hcont
      subst hkj
      have hjl := (List.getElem?_eq_some_iff.1 hy).1
      obtain ⟨b', off', y', hab, hbw, hy', hC⟩ := (HL.out.mod HI.out.1).at hjl
      cases hab
      have : y' = y := Option.some.inj (hy'.symm.trans hy)
      subst this
      obtain ⟨c0, c1, c2, c3⟩ := hC
      have hji : (j : Int) < l.length := by omega
      have hkp : (0 : Int) < (j : Int) + 1 := by omega
      have hkd : decide ((0 : Int) < (j : Int) + 1) = true := decide_eq_true hkp
      have hw1 : IntKind.i64.wrap ((j : Int) + 1 - 1) = (j : Int) := by rw [IntWalk.i64_in _ (by omega)]; omega
      have hw2 : IntKind.i64.wrap (j : Int) = (j : Int) := IntWalk.i64_in _ (by omega)
      have HB : Hid (∀ z, Calls Try.prog 50 #[.agg #[.int .i64 x.t, .int .u32 x.e.u, .int .u32 x.e.v, .bool x.add], .agg #[.int .i64 y'.t, .int .u32 y'.e.u, .int .u32 y'.e.v, .bool y'.add]] z fun r w' => r = .returned (.bool true) ∧ Grw z w') := fun z => by
        have := rbefore_grw z x.t x.e.u x.e.v y'.t y'.e.u y'.e.v x.add y'.add
        rwa [show decide (before ⟨x.t, ⟨x.e.u, x.e.v⟩, x.add⟩ ⟨y'.t, ⟨y'.e.u, y'.e.v⟩, y'.add⟩) = true by simpa using hlt] at this
      have HN : Hid (∀ (i : Nat) (y : Ev), j ≤ i → l[i]? = some y → before x y) := fun i z hj hz => by
        rcases Nat.lt_or_ge j i with h | h
        · exact HI.out.2.2 i z (by omega) hz
        · have : i = j := by omega
          subst this; rw [hy] at hz; cases hz; exact hlt
      have g0 := cg c0
      have g1 := cg c1
      have g2 := cg c2
      have g3 := cg c3
      have f0 := cg s0
      have f1 := cg s1
      have f2 := cg s2
      have f3 := cg s3
      clear hy hy' hlt hbw
      go_upto_region 2 with (fail)
      go_quiet_grown ((go_at_call 50; exact Calls.byGrw (HB.out _)))
      have H6 := Lib.hid (Grw.grown wr nq osq).mod
      go_wp2_with fail
      go_roundw
      case rel => exact ⟨j, by omega, rfl, HI.out.1.trans H6.out (fun _ _ h => h), HI.out.2.1.mod H6.out, HN.out⟩
      case measure => simp [intOf]
    · have hsp : putR before x l = l.take k ++ x :: l.drop k := putR_split hk HI.out.2.2 (fun j y hj hy hlt => hcont ⟨j, y, hj, hy, hlt⟩)
      have HER : Hid (((l.take k).flatMap encV ++ encV x) ++ (l.drop k).flatMap encV = (putR before x l).flatMap encV ∧ k + 1 + (l.length - k) = (putR before x l).length) := by
        rw [hsp]
        refine ⟨by simp, by simp; omega⟩
      have HB : Hid (0 + k ≤ maxLen ∧ (0 + k) * 24 ≤ 140737488355328 ∧ k + 1 ≤ maxLen ∧ (k + 1) * 24 ≤ 140737488355328 ∧ k + 1 + (l.length - k) ≤ maxLen ∧ (k + 1 + (l.length - k)) * 24 ≤ 140737488355328) := by
        unfold maxLen; exact ⟨by omega, by omega, by omega, by omega, by omega, by omega⟩
      have hone : ∀ u ∈ encV x, u.oneCell' = true := by simp [encV, Value.oneCell']
      have hout : Hid (∀ (j : Nat) (y : Ev), k = j + 1 → l[j]? = some y → ¬ before x y) := fun j y hj hy hlt => hcont ⟨j, y, hj, hy, hlt⟩
      clear hcont hsp
      go_upto_region 2 with (fail)
      by_cases hk0 : 0 < k
      focus
        obtain ⟨j, hkj⟩ : ∃ j, k = j + 1 := ⟨k - 1, by omega⟩
        subst hkj
        obtain ⟨b', off', y, hab, hbw, hy, hC⟩ := (HL.out.mod HI.out.1).at (show j < l.length by omega)
        cases hab
        obtain ⟨c0, c1, c2, c3⟩ := hC
        have hji : (j : Int) < l.length := by omega
        have hkp : (0 : Int) < (j : Int) + 1 := by omega
        have hkd : decide ((0 : Int) < (j : Int) + 1) = true := decide_eq_true hkp
        have hw1 : IntKind.i64.wrap ((j : Int) + 1 - 1) = (j : Int) := by rw [IntWalk.i64_in _ (by omega)]; omega
        have hw2 : IntKind.i64.wrap (j : Int) = (j : Int) := IntWalk.i64_in _ (by omega)
        have HLs : Hid (∀ z, Calls Try.prog 50 #[.agg #[.int .i64 x.t, .int .u32 x.e.u, .int .u32 x.e.v, .bool x.add], .agg #[.int .i64 y.t, .int .u32 y.e.u, .int .u32 y.e.v, .bool y.add]] z fun r w' => r = .returned (.bool false) ∧ Grw z w') := fun z => by
          have := rbefore_grw z x.t x.e.u x.e.v y.t y.e.u y.e.v x.add y.add
          rwa [show decide (before ⟨x.t, ⟨x.e.u, x.e.v⟩, x.add⟩ ⟨y.t, ⟨y.e.u, y.e.v⟩, y.add⟩) = false by simpa using hout.out j y rfl hy] at this
        have g0 := cg c0
        have g1 := cg c1
        have g2 := cg c2
        have g3 := cg c3
        have f0 := cg s0
        have f1 := cg s1
        have f2 := cg s2
        have f3 := cg s3
        have HY := Lib.hid hy
        clear hbw hy
        go_quiet_grown ((go_at_call 50; exact Calls.byGrw (HLs.out _)))
        generalize hzz : Go.Sort.grow (World.drewN wr _) _ = z3
        have H6 : Hid (Mod wr z3 NoB) := by rw [← hzz]; exact (Grw.grown wr _ _).mod
        clear hzz g0 g1 g2 g3 f0 f1 f2 f3
      rotate_left
      focus
        have hkd : decide ((0 : Int) < (k : Int)) = false := decide_eq_false (by omega)
        have hkd2 : decide (0 < k) = false := decide_eq_false hk0
        go_quiet (fail)
        generalize hzz : World.drewN wr _ = z3
        have H6 : Hid (Mod wr z3 NoB) := by rw [← hzz]; exact (Mod.refl _ _).drewN _
        clear hzz
      rotate_left
      focus
        have H2 : Hid (Mod w z3 NoB) := HI.out.1.trans H6.out (fun _ _ h => h)
        have t0 := keepc s0 H6.out
        have t1 := keepc s1 H6.out
        have t2 := keepc s2 H6.out
        have t3 := keepc s3 H6.out
        clear s0 s1 s2 s3 H6
        go_upto_region 4 with (fail)
        have HE : Hid (∀ z, Mod z3 z NoB → ∀ (i : Nat) (y : Ev), l[i]? = some y → EvAt z b (off + i * 4) y) := fun z hz i y hx => by
          rcases (HL.out.mod H2.out).mod hz with h | ⟨b', off', hab, _, h⟩
          · rw [h] at hx; simp at hx
          · cases hab; exact h i y hx
        obtain ⟨q, hq⟩ : ∃ q : Nat, j + 1 = q := ⟨_, rfl⟩
        rw [show ((j : Int) + 1) = (q : Int) by omega]
        rw [hq] at HER HB hk
        have hkc : q ≤ cap := by omega
        have hkci : (q : Int) ≤ cap := by omega
        have hkl2 : (q : Int) ≤ l.length := by omega
        have hk0' : (0 : Int) ≤ (q : Int) := by omega
        have hlc : (l.length : Int) ≤ cap := by omega
        have HN : Hid (((l.take q).flatMap encV).length = q * 4 ∧ (∀ z, Mod z3 z NoB → ∀ (j : Nat) (u : Value), ((l.take q).flatMap encV)[j]? = some u → ∃ ad, (some ⟨b, off, none⟩ : Option Addr) = some ad ∧ z.cell? (ad.add j) = some u) ∧
            ((l.drop q).flatMap encV).length = (l.length - q) * 4 ∧ (∀ z, Mod z3 z NoB → ∀ (j : Nat) (u : Value), ((l.drop q).flatMap encV)[j]? = some u → ∃ ad, (if cap = q then some ⟨b, off, none⟩ else some ⟨b, off + q * 4, none⟩ : Option Addr) = some ad ∧ z.cell? (ad.add j) = some u)) := by
          refine ⟨by rw [enc4_len encV_len]; simp; omega, fun z hz => evs_news (p := 0) (HE.out z hz) (by omega), by rw [enc4_len encV_len]; simp, fun z hz j u hu => ?_⟩
          by_cases hce : cap = q
          · rw [List.drop_eq_nil_of_le (by omega)] at hu; simp at hu
          · have := evs_news (p := q) (m := l.length) (HE.out z hz) rfl j u
            rw [List.take_of_length_le (by simp)] at this
            rw [if_neg hce]
            exact this hu
        go_region_held3 (fun z => z.cell? ⟨h0, 0, none⟩ = some (.int .i64 x.t) ∧ z.cell? ⟨h0, 1, none⟩ = some (.int .u32 x.e.u) ∧ z.cell? ⟨h0, 2, none⟩ = some (.int .u32 x.e.v) ∧ z.cell? ⟨h0, 3, none⟩ = some (.bool x.add))
          (first | exact ⟨t0, t1, t2, t3⟩ | exact ⟨keepc t0 ((Mod.drew (Mod.refl z3 NoB)).alloc _), keepc t1 ((Mod.drew (Mod.refl z3 NoB)).alloc _), keepc t2 ((Mod.drew (Mod.refl z3 NoB)).alloc _), keepc t3 ((Mod.drew (Mod.refl z3 NoB)).alloc _)⟩ | exact ⟨keepc t0 (H8.out.mod), keepc t1 (H8.out.mod), keepc t2 (H8.out.mod), keepc t3 (H8.out.mod)⟩ | exact ⟨keepc t0 (H7.out.mod), keepc t1 (H7.out.mod), keepc t2 (H7.out.mod), keepc t3 (H7.out.mod)⟩ | exact ⟨keepc t0 (H6.out.mod), keepc t1 (H6.out.mod), keepc t2 (H6.out.mod), keepc t3 (H6.out.mod)⟩ | exact ⟨keepc t0 (H6.out.mod.alloc _), keepc t1 (H6.out.mod.alloc _), keepc t2 (H6.out.mod.alloc _), keepc t3 (H6.out.mod.alloc _)⟩)
          (first
          | (refine step_append_row _ rfl _ _ 23 rfl 65 i0 (.agg #[.int .i64 0, .int .u32 0, .int .u32 0, .bool false]) 4 24 Try.underlying23 hi hz0 hz1 hz2 rfl (by decide) (.slice none 0 0) 0 [] rfl (World.ownsRow_nil _ _ _ _) _ q _ ((l.take q).flatMap encV) rfl HN.out.1 (HN.out.2.1 _ (Mod.drew (Mod.refl _ _))) (encV_one _) HB.out.1 HB.out.2.1 ?_
             intro v6 w6 hown6 hgrow6 hat6
             have H6 := Lib.hid ((New.first hown6 hgrow6 hat6).from (Mod.drew (Mod.refl z3 NoB)))
             clear hown6 hgrow6 hat6)
          | (refine step_append_row _ rfl _ _ 23 rfl 65 i0 (.agg #[.int .i64 0, .int .u32 0, .int .u32 0, .bool false]) 4 24 Try.underlying23 hi hz0 hz1 hz2 rfl (by decide) (.slice none 0 0) 0 [] rfl (World.ownsRow_nil _ _ _ _) _ q _ ((l.take q).flatMap encV) rfl HN.out.1 (HN.out.2.1 _ (Mod.drew (Mod.alloc (Mod.refl _ _) _))) (encV_one _) HB.out.1 HB.out.2.1 ?_
             intro v6 w6 hown6 hgrow6 hat6
             have HBk := Lib.hid (built_kept (w := z3) hgrow6)
             have H6 := Lib.hid ((New.first hown6 hgrow6 hat6).from (Mod.drew (Mod.alloc (Mod.refl z3 NoB) _)))
             clear hown6 hgrow6 hat6)
          | (refine step_append_row _ rfl _ _ 23 rfl 65 i0 (.agg #[.int .i64 0, .int .u32 0, .int .u32 0, .bool false]) 4 24 Try.underlying23 hi hz0 hz1 hz2 rfl (by decide) v6 q _ rfl (H6.out.row.alloc _) _ 1 _ (encV x) rfl rfl (fun j u hu => ⟨_, rfl, World.news_of_block (MapKept.heap_alloc _ _).1 j u hu⟩) hone HB.out.2.2.1 HB.out.2.2.2.1 ?_
             intro v7 w7 hown7 hgrow7 hat7
             have H7 := Lib.hid ((H6.out.alloc _).more hown7 hgrow7 hat7)
             clear hown7 hgrow7 hat7)
          | (refine step_append_row _ rfl _ _ 23 rfl 65 i0 (.agg #[.int .i64 0, .int .u32 0, .int .u32 0, .bool false]) 4 24 Try.underlying23 hi hz0 hz1 hz2 rfl (by decide) v6 q _ rfl H6.out.row _ 1 _ (encV x) rfl rfl (fun j u hu => ⟨_, rfl, World.news_of_block HBk.out j u hu⟩) hone HB.out.2.2.1 HB.out.2.2.2.1 ?_
             intro v7 w7 hown7 hgrow7 hat7
             have H7 := Lib.hid (H6.out.more hown7 hgrow7 hat7)
             clear hown7 hgrow7 hat7)
          | (refine step_append_row _ rfl _ _ 23 rfl 65 i0 (.agg #[.int .i64 0, .int .u32 0, .int .u32 0, .bool false]) 4 24 Try.underlying23 hi hz0 hz1 hz2 rfl (by decide) v7 (q + 1) _ rfl H7.out.row _ (l.length - q) _ ((l.drop q).flatMap encV) rfl HN.out.2.2.1 (HN.out.2.2.2 _ H7.out.mod) (encV_one _) HB.out.2.2.2.2.1 HB.out.2.2.2.2.2 ?_
             intro v8 w8 hown8 hgrow8 hat8
             have H8 := Lib.hid (H7.out.more hown8 hgrow8 hat8)
             clear hown8 hgrow8 hat8))
        all_goals
          rw [HER.out.1] at H8
          obtain ⟨a', cap', rfl, k1, k2, k3⟩ := H8.out.events HER.out.2
          have HF8 := Lib.hid (And.intro k1 (And.intro k2 (And.intro k3 H8.out.mod)))
          clear k1 k2 k3
          go_wp2_with fail
          all_goals go_ret
          all_goals exact ⟨a', cap', rfl, HF8.out.1, ⟨HF8.out.2.1.1, HF8.out.2.1.2.mono H2.out.size⟩, HF8.out.2.2.1, H2.out.trans HF8.out.2.2.2 (fun _ _ h => h)⟩
      focus
        have H2 : Hid (Mod w z3 NoB) := HI.out.1.trans H6.out (fun _ _ h => h)
        have t0 := keepc s0 H6.out
        have t1 := keepc s1 H6.out
        have t2 := keepc s2 H6.out
        have t3 := keepc s3 H6.out
        clear s0 s1 s2 s3 H6
        go_upto_region 4 with (fail)
        have HE : Hid (∀ z, Mod z3 z NoB → ∀ (i : Nat) (y : Ev), l[i]? = some y → EvAt z b (off + i * 4) y) := fun z hz i y hx => by
          rcases (HL.out.mod H2.out).mod hz with h | ⟨b', off', hab, _, h⟩
          · rw [h] at hx; simp at hx
          · cases hab; exact h i y hx
        obtain ⟨q, hq⟩ : ∃ q : Nat, k = q := ⟨_, rfl⟩
        rw [show ((k : Int)) = (q : Int) by omega]
        rw [hq] at HER HB hk
        have hkc : q ≤ cap := by omega
        have hkci : (q : Int) ≤ cap := by omega
        have hkl2 : (q : Int) ≤ l.length := by omega
        have hk0' : (0 : Int) ≤ (q : Int) := by omega
        have hlc : (l.length : Int) ≤ cap := by omega
        have HN : Hid (((l.take q).flatMap encV).length = q * 4 ∧ (∀ z, Mod z3 z NoB → ∀ (j : Nat) (u : Value), ((l.take q).flatMap encV)[j]? = some u → ∃ ad, (some ⟨b, off, none⟩ : Option Addr) = some ad ∧ z.cell? (ad.add j) = some u) ∧
            ((l.drop q).flatMap encV).length = (l.length - q) * 4 ∧ (∀ z, Mod z3 z NoB → ∀ (j : Nat) (u : Value), ((l.drop q).flatMap encV)[j]? = some u → ∃ ad, (if cap = q then some ⟨b, off, none⟩ else some ⟨b, off + q * 4, none⟩ : Option Addr) = some ad ∧ z.cell? (ad.add j) = some u)) := by
          refine ⟨by rw [enc4_len encV_len]; simp; omega, fun z hz => evs_news (p := 0) (HE.out z hz) (by omega), by rw [enc4_len encV_len]; simp, fun z hz j u hu => ?_⟩
          by_cases hce : cap = q
          · rw [List.drop_eq_nil_of_le (by omega)] at hu; simp at hu
          · have := evs_news (p := q) (m := l.length) (HE.out z hz) rfl j u
            rw [List.take_of_length_le (by simp)] at this
            rw [if_neg hce]
            exact this hu
        go_region_held3 (fun z => z.cell? ⟨h0, 0, none⟩ = some (.int .i64 x.t) ∧ z.cell? ⟨h0, 1, none⟩ = some (.int .u32 x.e.u) ∧ z.cell? ⟨h0, 2, none⟩ = some (.int .u32 x.e.v) ∧ z.cell? ⟨h0, 3, none⟩ = some (.bool x.add))
          (first | exact ⟨t0, t1, t2, t3⟩ | exact ⟨keepc t0 ((Mod.drew (Mod.refl z3 NoB)).alloc _), keepc t1 ((Mod.drew (Mod.refl z3 NoB)).alloc _), keepc t2 ((Mod.drew (Mod.refl z3 NoB)).alloc _), keepc t3 ((Mod.drew (Mod.refl z3 NoB)).alloc _)⟩ | exact ⟨keepc t0 (H8.out.mod), keepc t1 (H8.out.mod), keepc t2 (H8.out.mod), keepc t3 (H8.out.mod)⟩ | exact ⟨keepc t0 (H7.out.mod), keepc t1 (H7.out.mod), keepc t2 (H7.out.mod), keepc t3 (H7.out.mod)⟩ | exact ⟨keepc t0 (H6.out.mod), keepc t1 (H6.out.mod), keepc t2 (H6.out.mod), keepc t3 (H6.out.mod)⟩ | exact ⟨keepc t0 (H6.out.mod.alloc _), keepc t1 (H6.out.mod.alloc _), keepc t2 (H6.out.mod.alloc _), keepc t3 (H6.out.mod.alloc _)⟩)
          (first
          | (refine step_append_row _ rfl _ _ 23 rfl 65 i0 (.agg #[.int .i64 0, .int .u32 0, .int .u32 0, .bool false]) 4 24 Try.underlying23 hi hz0 hz1 hz2 rfl (by decide) (.slice none 0 0) 0 [] rfl (World.ownsRow_nil _ _ _ _) _ q _ ((l.take q).flatMap encV) rfl HN.out.1 (HN.out.2.1 _ (Mod.drew (Mod.refl _ _))) (encV_one _) HB.out.1 HB.out.2.1 ?_
             intro v6 w6 hown6 hgrow6 hat6
             have H6 := Lib.hid ((New.first hown6 hgrow6 hat6).from (Mod.drew (Mod.refl z3 NoB)))
             clear hown6 hgrow6 hat6)
          | (refine step_append_row _ rfl _ _ 23 rfl 65 i0 (.agg #[.int .i64 0, .int .u32 0, .int .u32 0, .bool false]) 4 24 Try.underlying23 hi hz0 hz1 hz2 rfl (by decide) (.slice none 0 0) 0 [] rfl (World.ownsRow_nil _ _ _ _) _ q _ ((l.take q).flatMap encV) rfl HN.out.1 (HN.out.2.1 _ (Mod.drew (Mod.alloc (Mod.refl _ _) _))) (encV_one _) HB.out.1 HB.out.2.1 ?_
             intro v6 w6 hown6 hgrow6 hat6
             have HBk := Lib.hid (built_kept (w := z3) hgrow6)
             have H6 := Lib.hid ((New.first hown6 hgrow6 hat6).from (Mod.drew (Mod.alloc (Mod.refl z3 NoB) _)))
             clear hown6 hgrow6 hat6)
          | (refine step_append_row _ rfl _ _ 23 rfl 65 i0 (.agg #[.int .i64 0, .int .u32 0, .int .u32 0, .bool false]) 4 24 Try.underlying23 hi hz0 hz1 hz2 rfl (by decide) v6 q _ rfl (H6.out.row.alloc _) _ 1 _ (encV x) rfl rfl (fun j u hu => ⟨_, rfl, World.news_of_block (MapKept.heap_alloc _ _).1 j u hu⟩) hone HB.out.2.2.1 HB.out.2.2.2.1 ?_
             intro v7 w7 hown7 hgrow7 hat7
             have H7 := Lib.hid ((H6.out.alloc _).more hown7 hgrow7 hat7)
             clear hown7 hgrow7 hat7)
          | (refine step_append_row _ rfl _ _ 23 rfl 65 i0 (.agg #[.int .i64 0, .int .u32 0, .int .u32 0, .bool false]) 4 24 Try.underlying23 hi hz0 hz1 hz2 rfl (by decide) v6 q _ rfl H6.out.row _ 1 _ (encV x) rfl rfl (fun j u hu => ⟨_, rfl, World.news_of_block HBk.out j u hu⟩) hone HB.out.2.2.1 HB.out.2.2.2.1 ?_
             intro v7 w7 hown7 hgrow7 hat7
             have H7 := Lib.hid (H6.out.more hown7 hgrow7 hat7)
             clear hown7 hgrow7 hat7)
          | (refine step_append_row _ rfl _ _ 23 rfl 65 i0 (.agg #[.int .i64 0, .int .u32 0, .int .u32 0, .bool false]) 4 24 Try.underlying23 hi hz0 hz1 hz2 rfl (by decide) v7 (q + 1) _ rfl H7.out.row _ (l.length - q) _ ((l.drop q).flatMap encV) rfl HN.out.2.2.1 (HN.out.2.2.2 _ H7.out.mod) (encV_one _) HB.out.2.2.2.2.1 HB.out.2.2.2.2.2 ?_
             intro v8 w8 hown8 hgrow8 hat8
             have H8 := Lib.hid (H7.out.more hown8 hgrow8 hat8)
             clear hown8 hgrow8 hat8))
        all_goals
          rw [HER.out.1] at H8
          obtain ⟨a', cap', rfl, k1, k2, k3⟩ := H8.out.events HER.out.2
          have HF8 := Lib.hid (And.intro k1 (And.intro k2 (And.intro k3 H8.out.mod)))
          clear k1 k2 k3
          go_wp2_with fail
          all_goals go_ret
          all_goals exact ⟨a', cap', rfl, HF8.out.1, ⟨HF8.out.2.1.1, HF8.out.2.1.2.mono H2.out.size⟩, HF8.out.2.2.1, H2.out.trans HF8.out.2.2.2 (fun _ _ h => h)⟩

theorem rins_any (w : World) (a : Option Addr) (cap : Nat) (l : List Ev) (x : Ev) (hL : Evs w a l) (hp : Plain a) (hl : l.length ≤ 100000) (hcap : l.length ≤ cap) :
    Calls Try.prog 45 #[.slice a l.length cap, .agg #[.int .i64 x.t, .int .u32 x.e.u, .int .u32 x.e.v, .bool x.add]] w fun r w' => ∃ a' cap', r = .returned (.slice a' (putR before x l).length cap') ∧ Evs w' a' (putR before x l) ∧ (Plain a' ∧ Yg w a') ∧ (putR before x l).length ≤ cap' ∧ Mod w w' NoB := by
  rcases hp with rfl | ⟨b, off, rfl⟩
  · have hl0 : l = [] := by
      rcases hL with h | ⟨b, off, hab, _⟩
      · exact h
      · cases hab
    subst hl0
    exact rins0 w cap x
  · exact rins1 w b off cap l x hL hl hcap
end Go.Proofs.Ythncgmmfnghliaa
