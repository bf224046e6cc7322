/- The statements' insert of events. -/
import Derived.Test.YthncgmmfnghliaaLfSb
namespace Go.Proofs.Ythncgmmfnghliaa
open Go.RowKit
set_option linter.unusedVariables false

set_option maxRecDepth 100000 in
set_option maxHeartbeats 8000000 in
theorem sins0 (w : World) (cap : Nat) (x : Ev) :
    Calls Try.prog 27 #[.slice none 0 cap, .agg #[.int .i64 x.t, .int .u32 x.e.u, .int .u32 x.e.v, .bool x.add]] w fun r w' => ∃ a' cap', r = .returned (.slice a' [x].length cap') ∧ Evs w' a' [x] ∧ (Plain a' ∧ Yg w a') ∧ [x].length ≤ cap' ∧ Mod w w' NoB := by
  obtain ⟨i0, hi, hz0, hz1, hz2⟩ := info_parts info_event2
  have hmx := mixed
  obtain ⟨h0, hh0⟩ : ∃ h0, h0 = w.heap.size := ⟨_, rfl⟩
  obtain ⟨W, hW⟩ : ∃ W, W = w.alloc (.cells #[.int .i64 x.t, .int .u32 x.e.u, .int .u32 x.e.v, .bool x.add] 65) := ⟨_, rfl⟩
  have HW : Hid (Mod w W NoB ∧ EvAt W h0 0 x) := by
    show _ ∧ _
    rw [hW, hh0]; exact ⟨(Mod.refl _ _).alloc _, World.cell?_alloc_at _ _ _ _ rfl, World.cell?_alloc_at _ _ _ _ rfl, World.cell?_alloc_at _ _ _ _ rfl, World.cell?_alloc_at _ _ _ _ rfl⟩
  go_enter Try.func27, Try.ntmps27
  go_wp2_with fail
  rw [← hW, ← hh0]
  clear hW hh0
  go_loopw [5] (fun i wr => i = .int .i64 0 ∧ Hid (Mod w wr NoB ∧ EvAt wr h0 0 x)) (fun i _ => 0)
  case atStart => exact ⟨rfl, HW.out⟩
  case round =>
      obtain ⟨rfl, HI⟩ := hrel
      obtain ⟨s0, s1, s2, s3⟩ := HI.out.2
      simp only [Nat.zero_add] at s1 s2 s3
      have HB : Hid (0 + 0 ≤ maxLen ∧ (0 + 0) * 24 ≤ 140737488355328 ∧ 0 + 1 ≤ maxLen ∧ (0 + 1) * 24 ≤ 140737488355328) := by
        unfold maxLen; exact ⟨by omega, by omega, by omega, by omega⟩
      have hone : ∀ u ∈ encV x, u.oneCell' = true := by simp [encV, Value.oneCell']
      go_upto_region 2 with (fail)
      go_quiet (fail)
      generalize hzz : World.drewN wr _ = z2
      have H6a : Hid (Mod wr z2 NoB) := by rw [← hzz]; exact (Mod.refl _ _).drewN _
      clear hzz
      go_upto_region 4 with (fail)
      go_quiet (fail)
      generalize hz4 : World.drewN z2 _ = z3
      have H7z : Hid (Mod wr z3 NoB) := by rw [← hz4]; exact H6a.out.drewN _
      clear hz4
      have H2 : Hid (Mod w z3 NoB) := HI.out.1.trans H7z.out (fun _ _ h => h)
      have t0 := keepc s0 H7z.out
      have t1 := keepc s1 H7z.out
      have t2 := keepc s2 H7z.out
      have t3 := keepc s3 H7z.out
      clear s0 s1 s2 s3
      go_upto_region 6 with (fail)
      go_region_held3 (fun z => z.cell? ⟨h0, 0, none⟩ = some (.int .i64 x.t) ∧ z.cell? ⟨h0, 1, none⟩ = some (.int .u32 x.e.u) ∧ z.cell? ⟨h0, 2, none⟩ = some (.int .u32 x.e.v) ∧ z.cell? ⟨h0, 3, none⟩ = some (.bool x.add))
        (first | exact ⟨t0, t1, t2, t3⟩ | exact ⟨keepc t0 ((Mod.drew (Mod.refl z3 NoB)).alloc _), keepc t1 ((Mod.drew (Mod.refl z3 NoB)).alloc _), keepc t2 ((Mod.drew (Mod.refl z3 NoB)).alloc _), keepc t3 ((Mod.drew (Mod.refl z3 NoB)).alloc _)⟩ | exact ⟨keepc t0 (H8.out.mod), keepc t1 (H8.out.mod), keepc t2 (H8.out.mod), keepc t3 (H8.out.mod)⟩ | exact ⟨keepc t0 (H7.out.mod), keepc t1 (H7.out.mod), keepc t2 (H7.out.mod), keepc t3 (H7.out.mod)⟩ | exact ⟨keepc t0 (H6.out.mod), keepc t1 (H6.out.mod), keepc t2 (H6.out.mod), keepc t3 (H6.out.mod)⟩ | exact ⟨keepc t0 (H6.out.mod.alloc _), keepc t1 (H6.out.mod.alloc _), keepc t2 (H6.out.mod.alloc _), keepc t3 (H6.out.mod.alloc _)⟩)
        (first
        | (refine step_append_row _ rfl _ _ 23 rfl 65 i0 (.agg #[.int .i64 0, .int .u32 0, .int .u32 0, .bool false]) 4 24 Try.underlying23 hi hz0 hz1 hz2 rfl (by decide) (.slice none 0 0) 0 [] rfl (World.ownsRow_nil _ _ _ _) _ 0 _ [] rfl rfl (no_news rfl) (fun u hu => by cases hu) HB.out.1 HB.out.2.1 ?_
           intro v6 w6 hown6 hgrow6 hat6
           have H6 := Lib.hid ((New.first hown6 hgrow6 hat6).from (Mod.drew (Mod.refl z3 NoB)))
           clear hown6 hgrow6 hat6)
        | (refine step_append_row _ rfl _ _ 23 rfl 65 i0 (.agg #[.int .i64 0, .int .u32 0, .int .u32 0, .bool false]) 4 24 Try.underlying23 hi hz0 hz1 hz2 rfl (by decide) (.slice none 0 0) 0 [] rfl (World.ownsRow_nil _ _ _ _) _ 0 _ [] rfl rfl (no_news rfl) (fun u hu => by cases hu) HB.out.1 HB.out.2.1 ?_
           intro v6 w6 hown6 hgrow6 hat6
           have HBk := Lib.hid (built_kept (w := z3) hgrow6)
           have H6 := Lib.hid ((New.first hown6 hgrow6 hat6).from (Mod.drew (Mod.alloc (Mod.refl z3 NoB) _)))
           clear hown6 hgrow6 hat6)
        | (refine step_append_row _ rfl _ _ 23 rfl 65 i0 (.agg #[.int .i64 0, .int .u32 0, .int .u32 0, .bool false]) 4 24 Try.underlying23 hi hz0 hz1 hz2 rfl (by decide) v6 0 _ rfl (H6.out.row.alloc _) _ 1 _ (encV x) rfl rfl (fun j u hu => ⟨_, rfl, World.news_of_block (MapKept.heap_alloc _ _).1 j u hu⟩) hone HB.out.2.2.1 HB.out.2.2.2 ?_
           intro v7 w7 hown7 hgrow7 hat7
           have H7 := Lib.hid ((H6.out.alloc _).more hown7 hgrow7 hat7)
           clear hown7 hgrow7 hat7)
        | (refine step_append_row _ rfl _ _ 23 rfl 65 i0 (.agg #[.int .i64 0, .int .u32 0, .int .u32 0, .bool false]) 4 24 Try.underlying23 hi hz0 hz1 hz2 rfl (by decide) v6 0 _ rfl H6.out.row _ 1 _ (encV x) rfl rfl (fun j u hu => ⟨_, rfl, World.news_of_block HBk.out j u hu⟩) hone HB.out.2.2.1 HB.out.2.2.2 ?_
           intro v7 w7 hown7 hgrow7 hat7
           have H7 := Lib.hid (H6.out.more hown7 hgrow7 hat7)
           clear hown7 hgrow7 hat7)
        | (refine step_append_row _ rfl _ _ 23 rfl 65 i0 (.agg #[.int .i64 0, .int .u32 0, .int .u32 0, .bool false]) 4 24 Try.underlying23 hi hz0 hz1 hz2 rfl (by decide) v7 (0 + 1) _ rfl H7.out.row _ 0 _ [] rfl rfl (no_news rfl) (fun u hu => by cases hu) HB.out.2.2.1 HB.out.2.2.2 ?_
           intro v8 w8 hown8 hgrow8 hat8
           have H8 := Lib.hid (H7.out.more hown8 hgrow8 hat8)
           clear hown8 hgrow8 hat8))
      all_goals
        rw [show (([] : List Value) ++ encV x) ++ [] = [x].flatMap encV by simp] at H8
        obtain ⟨a', cap', rfl, k1, k2, k3⟩ := H8.out.events rfl
        have HF8 := Lib.hid (And.intro k1 (And.intro k2 (And.intro k3 H8.out.mod)))
        clear k1 k2 k3
        go_wp2_with fail
        all_goals go_ret
        all_goals exact ⟨a', cap', rfl, HF8.out.1, ⟨HF8.out.2.1.1, HF8.out.2.1.2.mono H2.out.size⟩, HF8.out.2.2.1, H2.out.trans HF8.out.2.2.2 (fun _ _ h => h)⟩

set_option maxRecDepth 100000 in
set_option maxHeartbeats 8000000 in
theorem sins1 (w : World) (b off cap : Nat) (l : List Ev) (x : Ev) (hL : Evs w (some ⟨b, off, none⟩) l) (hl : l.length ≤ 100000) (hcap : l.length ≤ cap) (hso : l.Pairwise before) (hadd : ∀ y ∈ l, y.add = x.add) :
    Calls Try.prog 27 #[.slice (some ⟨b, off, none⟩) l.length cap, .agg #[.int .i64 x.t, .int .u32 x.e.u, .int .u32 x.e.v, .bool x.add]] w fun r w' => ∃ a' cap', r = .returned (.slice a' (putNew x l).length cap') ∧ Evs w' a' (putNew x l) ∧ (Plain a' ∧ (a' = some ⟨b, off, none⟩ ∨ Yg w a')) ∧ (putNew x l).length ≤ cap' ∧ Mod w w' NoB := by
  have HL := Lib.hid hL
  have HSO := Lib.hid (And.intro hso hadd)
  clear hso hadd
  clear hL
  obtain ⟨i0, hi, hz0, hz1, hz2⟩ := info_parts info_event2
  have hmx := mixed
  obtain ⟨h0, hh0⟩ : ∃ h0, h0 = w.heap.size := ⟨_, rfl⟩
  obtain ⟨W, hW⟩ : ∃ W, W = w.alloc (.cells #[.int .i64 x.t, .int .u32 x.e.u, .int .u32 x.e.v, .bool x.add] 65) := ⟨_, rfl⟩
  have HW : Hid (Mod w W NoB ∧ EvAt W h0 0 x) := by
    show _ ∧ _
    rw [hW, hh0]; exact ⟨(Mod.refl _ _).alloc _, World.cell?_alloc_at _ _ _ _ rfl, World.cell?_alloc_at _ _ _ _ rfl, World.cell?_alloc_at _ _ _ _ rfl, World.cell?_alloc_at _ _ _ _ rfl⟩
  go_enter Try.func27, Try.ntmps27
  go_wp2_with fail
  rw [← hW, ← hh0]
  clear hW hh0
  go_loopw [5] (fun i wr => ∃ k : Nat, k ≤ l.length ∧ i = .int .i64 k ∧ Hid (Mod w wr NoB ∧ EvAt wr h0 0 x ∧ ∀ (j : Nat) (y : Ev), k ≤ j → l[j]? = some y → before x y)) (fun i _ => (intOf i).toNat)
  case atStart => exact ⟨l.length, Nat.le_refl _, rfl, HW.out.1, HW.out.2, fun j y hj hy => by rw [List.getElem?_eq_none hj] at hy; cases hy⟩
  case round =>
    obtain ⟨k, hk, rfl, HI⟩ := hrel
    obtain ⟨s0, s1, s2, s3⟩ := HI.out.2.1
    simp only [Nat.zero_add] at s1 s2 s3
    by_cases hcont : ∃ (j : Nat) (y : Ev), k = j + 1 ∧ l[j]? = some y ∧ before x y
    · obtain ⟨j, y, hkj, hy, hlt⟩ := hcont
      subst hkj
      have hjl := (List.getElem?_eq_some_iff.1 hy).1
      obtain ⟨b', off', y', hab, hbw, hy', hC⟩ := (HL.out.mod HI.out.1).at hjl
      cases hab
      have : y' = y := Option.some.inj (hy'.symm.trans hy)
      subst this
      obtain ⟨c0, c1, c2, c3⟩ := hC
      have hji : (j : Int) < l.length := by omega
      have hkp : (0 : Int) < (j : Int) + 1 := by omega
      have hkd : decide ((0 : Int) < (j : Int) + 1) = true := decide_eq_true hkp
      have hw1 : IntKind.i64.wrap ((j : Int) + 1 - 1) = (j : Int) := by rw [IntWalk.i64_in _ (by omega)]; omega
      have hw2 : IntKind.i64.wrap (j : Int) = (j : Int) := IntWalk.i64_in _ (by omega)
      have HB : Hid (∀ z, Calls Try.prog 50 #[.agg #[.int .i64 x.t, .int .u32 x.e.u, .int .u32 x.e.v, .bool x.add], .agg #[.int .i64 y'.t, .int .u32 y'.e.u, .int .u32 y'.e.v, .bool y'.add]] z fun r w' => r = .returned (.bool true) ∧ Grw z w') := fun z => by
        have := rbefore_grw z x.t x.e.u x.e.v y'.t y'.e.u y'.e.v x.add y'.add
        rwa [show decide (before ⟨x.t, ⟨x.e.u, x.e.v⟩, x.add⟩ ⟨y'.t, ⟨y'.e.u, y'.e.v⟩, y'.add⟩) = true by simpa using hlt] at this
      have HN : Hid (∀ (i : Nat) (y : Ev), j ≤ i → l[i]? = some y → before x y) := fun i z hj hz => by
        rcases Nat.lt_or_ge j i with h | h
        · exact HI.out.2.2 i z (by omega) hz
        · have : i = j := by omega
          subst this; rw [hy] at hz; cases hz; exact hlt
      have g0 := cg c0
      have g1 := cg c1
      have g2 := cg c2
      have g3 := cg c3
      have f0 := cg s0
      have f1 := cg s1
      have f2 := cg s2
      have f3 := cg s3
      clear hy hy' hlt hbw
      go_upto_region 2 with (fail)
      go_quiet_grown ((go_at_call 50; exact Calls.byGrw (HB.out _)))
      have H6 := Lib.hid (Grw.grown wr nq osq).mod
      go_wp2_with fail
      go_roundw
      case rel => exact ⟨j, by omega, rfl, HI.out.1.trans H6.out (fun _ _ h => h), HI.out.2.1.mod H6.out, HN.out⟩
      case measure => simp [intOf]
    · have hsp : putR before x l = l.take k ++ x :: l.drop k := putR_split hk HI.out.2.2 (fun j y hj hy hlt => hcont ⟨j, y, hj, hy, hlt⟩)
      have HER : Hid (((l.take k).flatMap encV ++ encV x) ++ (l.drop k).flatMap encV = (putR before x l).flatMap encV ∧ k + 1 + (l.length - k) = (putR before x l).length) := by
        rw [hsp]
        refine ⟨by simp, by simp; omega⟩
      have HB : Hid (0 + k ≤ maxLen ∧ (0 + k) * 24 ≤ 140737488355328 ∧ k + 1 ≤ maxLen ∧ (k + 1) * 24 ≤ 140737488355328 ∧ k + 1 + (l.length - k) ≤ maxLen ∧ (k + 1 + (l.length - k)) * 24 ≤ 140737488355328) := by
        unfold maxLen; exact ⟨by omega, by omega, by omega, by omega, by omega, by omega⟩
      have hone : ∀ u ∈ encV x, u.oneCell' = true := by simp [encV, Value.oneCell']
      have hout : Hid (∀ (j : Nat) (y : Ev), k = j + 1 → l[j]? = some y → ¬ before x y) := fun j y hj hy hlt => hcont ⟨j, y, hj, hy, hlt⟩
      clear hcont hsp
      go_upto_region 2 with (fail)
      by_cases hk0 : 0 < k
      focus
        obtain ⟨j, hkj⟩ : ∃ j, k = j + 1 := ⟨k - 1, by omega⟩
        subst hkj
        obtain ⟨b', off', y, hab, hbw, hy, hC⟩ := (HL.out.mod HI.out.1).at (show j < l.length by omega)
        cases hab
        obtain ⟨c0, c1, c2, c3⟩ := hC
        have hji : (j : Int) < l.length := by omega
        have hkp : (0 : Int) < (j : Int) + 1 := by omega
        have hkd : decide ((0 : Int) < (j : Int) + 1) = true := decide_eq_true hkp
        have hw1 : IntKind.i64.wrap ((j : Int) + 1 - 1) = (j : Int) := by rw [IntWalk.i64_in _ (by omega)]; omega
        have hw2 : IntKind.i64.wrap (j : Int) = (j : Int) := IntWalk.i64_in _ (by omega)
        have HLs : Hid (∀ z, Calls Try.prog 50 #[.agg #[.int .i64 x.t, .int .u32 x.e.u, .int .u32 x.e.v, .bool x.add], .agg #[.int .i64 y.t, .int .u32 y.e.u, .int .u32 y.e.v, .bool y.add]] z fun r w' => r = .returned (.bool false) ∧ Grw z w') := fun z => by
          have := rbefore_grw z x.t x.e.u x.e.v y.t y.e.u y.e.v x.add y.add
          rwa [show decide (before ⟨x.t, ⟨x.e.u, x.e.v⟩, x.add⟩ ⟨y.t, ⟨y.e.u, y.e.v⟩, y.add⟩) = false by simpa using hout.out j y rfl hy] at this
        have g0 := cg c0
        have g1 := cg c1
        have g2 := cg c2
        have g3 := cg c3
        have f0 := cg s0
        have f1 := cg s1
        have f2 := cg s2
        have f3 := cg s3
        have HY := Lib.hid hy
        clear hbw hy
        go_quiet_grown ((go_at_call 50; exact Calls.byGrw (HLs.out _)))
        generalize hzz : Go.Sort.grow (World.drewN wr _) _ = z3
        have H6 : Hid (Mod wr z3 NoB) := by rw [← hzz]; exact (Grw.grown wr _ _).mod
        clear hzz g0 g1 g2 g3 f0 f1 f2 f3
        have cz0 := keepc c0 H6.out
        have cz1 := keepc c1 H6.out
        have cz2 := keepc c2 H6.out
        have cz3 := keepc c3 H6.out
        have sz0 := keepc s0 H6.out
        have sz1 := keepc s1 H6.out
        have sz2 := keepc s2 H6.out
        have sz3 := keepc s3 H6.out
        clear c0 c1 c2 c3
        have HNM : Hid (¬ (y.t = x.t ∧ y.e = x.e) → putNew x l = putR before x l) := fun hne => by
          unfold putNew
          refine if_neg (fun hm => ?_)
          obtain ⟨i, hi⟩ := List.mem_iff_getElem?.1 hm
          obtain ⟨p1, p2⟩ := List.getElem?_eq_some_iff.1 hi
          obtain ⟨q1, q2⟩ := List.getElem?_eq_some_iff.1 HY.out
          rcases Nat.lt_trichotomy i j with c | c | c
          · have := List.pairwise_iff_getElem.1 HSO.out.1 i j p1 q1 c
            rw [p2, q2] at this
            exact hout.out j y rfl HY.out this
          · subst c
            rw [hi] at HY
            have := Option.some.inj HY.out
            exact hne ⟨by rw [← this], by rw [← this]⟩
          · exact before_irrefl x (HI.out.2.2 i x (by omega) hi)
        go_upto_region 4 with (fail)
        by_cases e1 : y.t = x.t
        · by_cases e2 : y.e.u = x.e.u
          · by_cases e3 : y.e.v = x.e.v
            · have hyx : y = x := by
                have h1 := HSO.out.2 y (List.mem_of_getElem? HY.out)
                exact ev_ext e1 (Ed.ext' e2 e3) h1
              have hpl : putNew x l = l := by
                unfold putNew
                exact if_pos (hyx ▸ List.mem_of_getElem? HY.out)
              rw [e1] at cz0
              rw [e2] at cz1
              rw [e3] at cz2
              go_quiet (fail)
              generalize hz4 : World.drewN z3 _ = z4
              have H6b : Hid (Mod wr z4 NoB) := by rw [← hz4]; exact H6.out.drewN _
              clear hz4 e1 e2 e3 hyx
              go_wp2_with fail
              go_ret
              have hMM := HI.out.1.trans H6b.out (fun _ _ h => h)
              exact ⟨some ⟨b, off, none⟩, cap, by rw [hpl]; rfl, by rw [hpl]; exact HL.out.mod hMM, ⟨Or.inr ⟨b, off, rfl⟩, Or.inl rfl⟩, by rw [hpl]; exact hcap, hMM⟩
            · have HP : Hid (putNew x l = putR before x l) := HNM.out (fun c => e3 (by rw [c.2]))
              rw [e1] at cz0
              rw [e2] at cz1
              have hq4 := show (y.e.v == x.e.v) = false by simpa using e3
              go_quiet (fail)
              generalize hz4 : World.drewN z3 _ = z4
              have H6b : Hid (Mod wr z4 NoB) := by rw [← hz4]; exact H6.out.drewN _
              clear hz4 hq4 cz0 cz1 cz2 cz3 sz0 sz1 sz2 sz3
              have H2 : Hid (Mod w z4 NoB) := HI.out.1.trans H6b.out (fun _ _ h => h)
              have t0 := keepc s0 H6b.out
              have t1 := keepc s1 H6b.out
              have t2 := keepc s2 H6b.out
              have t3 := keepc s3 H6b.out
              clear s0 s1 s2 s3 H6b
              go_upto_region 6 with (fail)
              have HE : Hid (∀ z, Mod z4 z NoB → ∀ (i : Nat) (y : Ev), l[i]? = some y → EvAt z b (off + i * 4) y) := fun z hz i y hx => by
                rcases (HL.out.mod H2.out).mod hz with h | ⟨b', off', hab, _, h⟩
                · rw [h] at hx; simp at hx
                · cases hab; exact h i y hx
              obtain ⟨q, hq⟩ : ∃ q : Nat, j + 1 = q := ⟨_, rfl⟩
              rw [show ((j : Int) + 1) = (q : Int) by omega]
              rw [hq] at HER HB hk
              have hkc : q ≤ cap := by omega
              have hkci : (q : Int) ≤ cap := by omega
              have hkl2 : (q : Int) ≤ l.length := by omega
              have hk0' : (0 : Int) ≤ (q : Int) := by omega
              have hlc : (l.length : Int) ≤ cap := by omega
              have HN : Hid (((l.take q).flatMap encV).length = q * 4 ∧ (∀ z, Mod z4 z NoB → ∀ (j : Nat) (u : Value), ((l.take q).flatMap encV)[j]? = some u → ∃ ad, (some ⟨b, off, none⟩ : Option Addr) = some ad ∧ z.cell? (ad.add j) = some u) ∧
                  ((l.drop q).flatMap encV).length = (l.length - q) * 4 ∧ (∀ z, Mod z4 z NoB → ∀ (j : Nat) (u : Value), ((l.drop q).flatMap encV)[j]? = some u → ∃ ad, (if cap = q then some ⟨b, off, none⟩ else some ⟨b, off + q * 4, none⟩ : Option Addr) = some ad ∧ z.cell? (ad.add j) = some u)) := by
                refine ⟨by rw [enc4_len encV_len]; simp; omega, fun z hz => evs_news (p := 0) (HE.out z hz) (by omega), by rw [enc4_len encV_len]; simp, fun z hz j u hu => ?_⟩
                by_cases hce : cap = q
                · rw [List.drop_eq_nil_of_le (by omega)] at hu; simp at hu
                · have := evs_news (p := q) (m := l.length) (HE.out z hz) rfl j u
                  rw [List.take_of_length_le (by simp)] at this
                  rw [if_neg hce]
                  exact this hu
              go_region_held3 (fun z => z.cell? ⟨h0, 0, none⟩ = some (.int .i64 x.t) ∧ z.cell? ⟨h0, 1, none⟩ = some (.int .u32 x.e.u) ∧ z.cell? ⟨h0, 2, none⟩ = some (.int .u32 x.e.v) ∧ z.cell? ⟨h0, 3, none⟩ = some (.bool x.add))
                (first | exact ⟨t0, t1, t2, t3⟩ | exact ⟨keepc t0 ((Mod.drew (Mod.refl z4 NoB)).alloc _), keepc t1 ((Mod.drew (Mod.refl z4 NoB)).alloc _), keepc t2 ((Mod.drew (Mod.refl z4 NoB)).alloc _), keepc t3 ((Mod.drew (Mod.refl z4 NoB)).alloc _)⟩ | exact ⟨keepc t0 (H8.out.mod), keepc t1 (H8.out.mod), keepc t2 (H8.out.mod), keepc t3 (H8.out.mod)⟩ | exact ⟨keepc t0 (H7.out.mod), keepc t1 (H7.out.mod), keepc t2 (H7.out.mod), keepc t3 (H7.out.mod)⟩ | exact ⟨keepc t0 (H6.out.mod), keepc t1 (H6.out.mod), keepc t2 (H6.out.mod), keepc t3 (H6.out.mod)⟩ | exact ⟨keepc t0 (H6.out.mod.alloc _), keepc t1 (H6.out.mod.alloc _), keepc t2 (H6.out.mod.alloc _), keepc t3 (H6.out.mod.alloc _)⟩)
                (first
                | (refine step_append_row _ rfl _ _ 23 rfl 65 i0 (.agg #[.int .i64 0, .int .u32 0, .int .u32 0, .bool false]) 4 24 Try.underlying23 hi hz0 hz1 hz2 rfl (by decide) (.slice none 0 0) 0 [] rfl (World.ownsRow_nil _ _ _ _) _ q _ ((l.take q).flatMap encV) rfl HN.out.1 (HN.out.2.1 _ (Mod.drew (Mod.refl _ _))) (encV_one _) HB.out.1 HB.out.2.1 ?_
                   intro v6 w6 hown6 hgrow6 hat6
                   have H6 := Lib.hid ((New.first hown6 hgrow6 hat6).from (Mod.drew (Mod.refl z4 NoB)))
                   clear hown6 hgrow6 hat6)
                | (refine step_append_row _ rfl _ _ 23 rfl 65 i0 (.agg #[.int .i64 0, .int .u32 0, .int .u32 0, .bool false]) 4 24 Try.underlying23 hi hz0 hz1 hz2 rfl (by decide) (.slice none 0 0) 0 [] rfl (World.ownsRow_nil _ _ _ _) _ q _ ((l.take q).flatMap encV) rfl HN.out.1 (HN.out.2.1 _ (Mod.drew (Mod.alloc (Mod.refl _ _) _))) (encV_one _) HB.out.1 HB.out.2.1 ?_
                   intro v6 w6 hown6 hgrow6 hat6
                   have HBk := Lib.hid (built_kept (w := z4) hgrow6)
                   have H6 := Lib.hid ((New.first hown6 hgrow6 hat6).from (Mod.drew (Mod.alloc (Mod.refl z4 NoB) _)))
                   clear hown6 hgrow6 hat6)
                | (refine step_append_row _ rfl _ _ 23 rfl 65 i0 (.agg #[.int .i64 0, .int .u32 0, .int .u32 0, .bool false]) 4 24 Try.underlying23 hi hz0 hz1 hz2 rfl (by decide) v6 q _ rfl (H6.out.row.alloc _) _ 1 _ (encV x) rfl rfl (fun j u hu => ⟨_, rfl, World.news_of_block (MapKept.heap_alloc _ _).1 j u hu⟩) hone HB.out.2.2.1 HB.out.2.2.2.1 ?_
                   intro v7 w7 hown7 hgrow7 hat7
                   have H7 := Lib.hid ((H6.out.alloc _).more hown7 hgrow7 hat7)
                   clear hown7 hgrow7 hat7)
                | (refine step_append_row _ rfl _ _ 23 rfl 65 i0 (.agg #[.int .i64 0, .int .u32 0, .int .u32 0, .bool false]) 4 24 Try.underlying23 hi hz0 hz1 hz2 rfl (by decide) v6 q _ rfl H6.out.row _ 1 _ (encV x) rfl rfl (fun j u hu => ⟨_, rfl, World.news_of_block HBk.out j u hu⟩) hone HB.out.2.2.1 HB.out.2.2.2.1 ?_
                   intro v7 w7 hown7 hgrow7 hat7
                   have H7 := Lib.hid (H6.out.more hown7 hgrow7 hat7)
                   clear hown7 hgrow7 hat7)
                | (refine step_append_row _ rfl _ _ 23 rfl 65 i0 (.agg #[.int .i64 0, .int .u32 0, .int .u32 0, .bool false]) 4 24 Try.underlying23 hi hz0 hz1 hz2 rfl (by decide) v7 (q + 1) _ rfl H7.out.row _ (l.length - q) _ ((l.drop q).flatMap encV) rfl HN.out.2.2.1 (HN.out.2.2.2 _ H7.out.mod) (encV_one _) HB.out.2.2.2.2.1 HB.out.2.2.2.2.2 ?_
                   intro v8 w8 hown8 hgrow8 hat8
                   have H8 := Lib.hid (H7.out.more hown8 hgrow8 hat8)
                   clear hown8 hgrow8 hat8))
              all_goals
                rw [HER.out.1] at H8
                obtain ⟨a', cap', rfl, k1, k2, k3⟩ := H8.out.events HER.out.2
                have HF8 := Lib.hid (And.intro k1 (And.intro k2 (And.intro k3 H8.out.mod)))
                clear k1 k2 k3
                go_wp2_with fail
                all_goals go_ret
                all_goals (rw [HP.out]; exact ⟨a', cap', rfl, HF8.out.1, ⟨HF8.out.2.1.1, Or.inr (HF8.out.2.1.2.mono H2.out.size)⟩, HF8.out.2.2.1, H2.out.trans HF8.out.2.2.2 (fun _ _ h => h)⟩)
          · have HP : Hid (putNew x l = putR before x l) := HNM.out (fun c => e2 (by rw [c.2]))
            rw [e1] at cz0
            have hq4 := show (y.e.u == x.e.u) = false by simpa using e2
            go_quiet (fail)
            generalize hz4 : World.drewN z3 _ = z4
            have H6b : Hid (Mod wr z4 NoB) := by rw [← hz4]; exact H6.out.drewN _
            clear hz4 hq4 cz0 cz1 cz2 cz3 sz0 sz1 sz2 sz3
            have H2 : Hid (Mod w z4 NoB) := HI.out.1.trans H6b.out (fun _ _ h => h)
            have t0 := keepc s0 H6b.out
            have t1 := keepc s1 H6b.out
            have t2 := keepc s2 H6b.out
            have t3 := keepc s3 H6b.out
            clear s0 s1 s2 s3 H6b
            go_upto_region 6 with (fail)
            have HE : Hid (∀ z, Mod z4 z NoB → ∀ (i : Nat) (y : Ev), l[i]? = some y → EvAt z b (off + i * 4) y) := fun z hz i y hx => by
              rcases (HL.out.mod H2.out).mod hz with h | ⟨b', off', hab, _, h⟩
              · rw [h] at hx; simp at hx
              · cases hab; exact h i y hx
            obtain ⟨q, hq⟩ : ∃ q : Nat, j + 1 = q := ⟨_, rfl⟩
            rw [show ((j : Int) + 1) = (q : Int) by omega]
            rw [hq] at HER HB hk
            have hkc : q ≤ cap := by omega
            have hkci : (q : Int) ≤ cap := by omega
            have hkl2 : (q : Int) ≤ l.length := by omega
            have hk0' : (0 : Int) ≤ (q : Int) := by omega
            have hlc : (l.length : Int) ≤ cap := by omega
            have HN : Hid (((l.take q).flatMap encV).length = q * 4 ∧ (∀ z, Mod z4 z NoB → ∀ (j : Nat) (u : Value), ((l.take q).flatMap encV)[j]? = some u → ∃ ad, (some ⟨b, off, none⟩ : Option Addr) = some ad ∧ z.cell? (ad.add j) = some u) ∧
                ((l.drop q).flatMap encV).length = (l.length - q) * 4 ∧ (∀ z, Mod z4 z NoB → ∀ (j : Nat) (u : Value), ((l.drop q).flatMap encV)[j]? = some u → ∃ ad, (if cap = q then some ⟨b, off, none⟩ else some ⟨b, off + q * 4, none⟩ : Option Addr) = some ad ∧ z.cell? (ad.add j) = some u)) := by
              refine ⟨by rw [enc4_len encV_len]; simp; omega, fun z hz => evs_news (p := 0) (HE.out z hz) (by omega), by rw [enc4_len encV_len]; simp, fun z hz j u hu => ?_⟩
              by_cases hce : cap = q
              · rw [List.drop_eq_nil_of_le (by omega)] at hu; simp at hu
              · have := evs_news (p := q) (m := l.length) (HE.out z hz) rfl j u
                rw [List.take_of_length_le (by simp)] at this
                rw [if_neg hce]
                exact this hu
            go_region_held3 (fun z => z.cell? ⟨h0, 0, none⟩ = some (.int .i64 x.t) ∧ z.cell? ⟨h0, 1, none⟩ = some (.int .u32 x.e.u) ∧ z.cell? ⟨h0, 2, none⟩ = some (.int .u32 x.e.v) ∧ z.cell? ⟨h0, 3, none⟩ = some (.bool x.add))
              (first | exact ⟨t0, t1, t2, t3⟩ | exact ⟨keepc t0 ((Mod.drew (Mod.refl z4 NoB)).alloc _), keepc t1 ((Mod.drew (Mod.refl z4 NoB)).alloc _), keepc t2 ((Mod.drew (Mod.refl z4 NoB)).alloc _), keepc t3 ((Mod.drew (Mod.refl z4 NoB)).alloc _)⟩ | exact ⟨keepc t0 (H8.out.mod), keepc t1 (H8.out.mod), keepc t2 (H8.out.mod), keepc t3 (H8.out.mod)⟩ | exact ⟨keepc t0 (H7.out.mod), keepc t1 (H7.out.mod), keepc t2 (H7.out.mod), keepc t3 (H7.out.mod)⟩ | exact ⟨keepc t0 (H6.out.mod), keepc t1 (H6.out.mod), keepc t2 (H6.out.mod), keepc t3 (H6.out.mod)⟩ | exact ⟨keepc t0 (H6.out.mod.alloc _), keepc t1 (H6.out.mod.alloc _), keepc t2 (H6.out.mod.alloc _), keepc t3 (H6.out.mod.alloc _)⟩)
              (first
              | (refine step_append_row _ rfl _ _ 23 rfl 65 i0 (.agg #[.int .i64 0, .int .u32 0, .int .u32 0, .bool false]) 4 24 Try.underlying23 hi hz0 hz1 hz2 rfl (by decide) (.slice none 0 0) 0 [] rfl (World.ownsRow_nil _ _ _ _) _ q _ ((l.take q).flatMap encV) rfl HN.out.1 (HN.out.2.1 _ (Mod.drew (Mod.refl _ _))) (encV_one _) HB.out.1 HB.out.2.1 ?_
                 intro v6 w6 hown6 hgrow6 hat6
                 have H6 := Lib.hid ((New.first hown6 hgrow6 hat6).from (Mod.drew (Mod.refl z4 NoB)))
                 clear hown6 hgrow6 hat6)
              | (refine step_append_row _ rfl _ _ 23 rfl 65 i0 (.agg #[.int .i64 0, .int .u32 0, .int .u32 0, .bool false]) 4 24 Try.underlying23 hi hz0 hz1 hz2 rfl (by decide) (.slice none 0 0) 0 [] rfl (World.ownsRow_nil _ _ _ _) _ q _ ((l.take q).flatMap encV) rfl HN.out.1 (HN.out.2.1 _ (Mod.drew (Mod.alloc (Mod.refl _ _) _))) (encV_one _) HB.out.1 HB.out.2.1 ?_
                 intro v6 w6 hown6 hgrow6 hat6
                 have HBk := Lib.hid (built_kept (w := z4) hgrow6)
                 have H6 := Lib.hid ((New.first hown6 hgrow6 hat6).from (Mod.drew (Mod.alloc (Mod.refl z4 NoB) _)))
                 clear hown6 hgrow6 hat6)
              | (refine step_append_row _ rfl _ _ 23 rfl 65 i0 (.agg #[.int .i64 0, .int .u32 0, .int .u32 0, .bool false]) 4 24 Try.underlying23 hi hz0 hz1 hz2 rfl (by decide) v6 q _ rfl (H6.out.row.alloc _) _ 1 _ (encV x) rfl rfl (fun j u hu => ⟨_, rfl, World.news_of_block (MapKept.heap_alloc _ _).1 j u hu⟩) hone HB.out.2.2.1 HB.out.2.2.2.1 ?_
                 intro v7 w7 hown7 hgrow7 hat7
                 have H7 := Lib.hid ((H6.out.alloc _).more hown7 hgrow7 hat7)
                 clear hown7 hgrow7 hat7)
              | (refine step_append_row _ rfl _ _ 23 rfl 65 i0 (.agg #[.int .i64 0, .int .u32 0, .int .u32 0, .bool false]) 4 24 Try.underlying23 hi hz0 hz1 hz2 rfl (by decide) v6 q _ rfl H6.out.row _ 1 _ (encV x) rfl rfl (fun j u hu => ⟨_, rfl, World.news_of_block HBk.out j u hu⟩) hone HB.out.2.2.1 HB.out.2.2.2.1 ?_
                 intro v7 w7 hown7 hgrow7 hat7
                 have H7 := Lib.hid (H6.out.more hown7 hgrow7 hat7)
                 clear hown7 hgrow7 hat7)
              | (refine step_append_row _ rfl _ _ 23 rfl 65 i0 (.agg #[.int .i64 0, .int .u32 0, .int .u32 0, .bool false]) 4 24 Try.underlying23 hi hz0 hz1 hz2 rfl (by decide) v7 (q + 1) _ rfl H7.out.row _ (l.length - q) _ ((l.drop q).flatMap encV) rfl HN.out.2.2.1 (HN.out.2.2.2 _ H7.out.mod) (encV_one _) HB.out.2.2.2.2.1 HB.out.2.2.2.2.2 ?_
                 intro v8 w8 hown8 hgrow8 hat8
                 have H8 := Lib.hid (H7.out.more hown8 hgrow8 hat8)
                 clear hown8 hgrow8 hat8))
            all_goals
              rw [HER.out.1] at H8
              obtain ⟨a', cap', rfl, k1, k2, k3⟩ := H8.out.events HER.out.2
              have HF8 := Lib.hid (And.intro k1 (And.intro k2 (And.intro k3 H8.out.mod)))
              clear k1 k2 k3
              go_wp2_with fail
              all_goals go_ret
              all_goals (rw [HP.out]; exact ⟨a', cap', rfl, HF8.out.1, ⟨HF8.out.2.1.1, Or.inr (HF8.out.2.1.2.mono H2.out.size)⟩, HF8.out.2.2.1, H2.out.trans HF8.out.2.2.2 (fun _ _ h => h)⟩)
        · have HP : Hid (putNew x l = putR before x l) := HNM.out (fun c => e1 c.1)
          have hq4 := show (y.t == x.t) = false by simpa using e1
          go_quiet (fail)
          generalize hz4 : World.drewN z3 _ = z4
          have H6b : Hid (Mod wr z4 NoB) := by rw [← hz4]; exact H6.out.drewN _
          clear hz4 hq4 cz0 cz1 cz2 cz3 sz0 sz1 sz2 sz3
          have H2 : Hid (Mod w z4 NoB) := HI.out.1.trans H6b.out (fun _ _ h => h)
          have t0 := keepc s0 H6b.out
          have t1 := keepc s1 H6b.out
          have t2 := keepc s2 H6b.out
          have t3 := keepc s3 H6b.out
          clear s0 s1 s2 s3 H6b
          go_upto_region 6 with (fail)
          have HE : Hid (∀ z, Mod z4 z NoB → ∀ (i : Nat) (y : Ev), l[i]? = some y → EvAt z b (off + i * 4) y) := fun z hz i y hx => by
            rcases (HL.out.mod H2.out).mod hz with h | ⟨b', off', hab, _, h⟩
            · rw [h] at hx; simp at hx
            · cases hab; exact h i y hx
          obtain ⟨q, hq⟩ : ∃ q : Nat, j + 1 = q := ⟨_, rfl⟩
          rw [show ((j : Int) + 1) = (q : Int) by omega]
          rw [hq] at HER HB hk
          have hkc : q ≤ cap := by omega
          have hkci : (q : Int) ≤ cap := by omega
          have hkl2 : (q : Int) ≤ l.length := by omega
          have hk0' : (0 : Int) ≤ (q : Int) := by omega
          have hlc : (l.length : Int) ≤ cap := by omega
          have HN : Hid (((l.take q).flatMap encV).length = q * 4 ∧ (∀ z, Mod z4 z NoB → ∀ (j : Nat) (u : Value), ((l.take q).flatMap encV)[j]? = some u → ∃ ad, (some ⟨b, off, none⟩ : Option Addr) = some ad ∧ z.cell? (ad.add j) = some u) ∧
              ((l.drop q).flatMap encV).length = (l.length - q) * 4 ∧ (∀ z, Mod z4 z NoB → ∀ (j : Nat) (u : Value), ((l.drop q).flatMap encV)[j]? = some u → ∃ ad, (if cap = q then some ⟨b, off, none⟩ else some ⟨b, off + q * 4, none⟩ : Option Addr) = some ad ∧ z.cell? (ad.add j) = some u)) := by
            refine ⟨by rw [enc4_len encV_len]; simp; omega, fun z hz => evs_news (p := 0) (HE.out z hz) (by omega), by rw [enc4_len encV_len]; simp, fun z hz j u hu => ?_⟩
            by_cases hce : cap = q
            · rw [List.drop_eq_nil_of_le (by omega)] at hu; simp at hu
            · have := evs_news (p := q) (m := l.length) (HE.out z hz) rfl j u
              rw [List.take_of_length_le (by simp)] at this
              rw [if_neg hce]
              exact this hu
          go_region_held3 (fun z => z.cell? ⟨h0, 0, none⟩ = some (.int .i64 x.t) ∧ z.cell? ⟨h0, 1, none⟩ = some (.int .u32 x.e.u) ∧ z.cell? ⟨h0, 2, none⟩ = some (.int .u32 x.e.v) ∧ z.cell? ⟨h0, 3, none⟩ = some (.bool x.add))
            (first | exact ⟨t0, t1, t2, t3⟩ | exact ⟨keepc t0 ((Mod.drew (Mod.refl z4 NoB)).alloc _), keepc t1 ((Mod.drew (Mod.refl z4 NoB)).alloc _), keepc t2 ((Mod.drew (Mod.refl z4 NoB)).alloc _), keepc t3 ((Mod.drew (Mod.refl z4 NoB)).alloc _)⟩ | exact ⟨keepc t0 (H8.out.mod), keepc t1 (H8.out.mod), keepc t2 (H8.out.mod), keepc t3 (H8.out.mod)⟩ | exact ⟨keepc t0 (H7.out.mod), keepc t1 (H7.out.mod), keepc t2 (H7.out.mod), keepc t3 (H7.out.mod)⟩ | exact ⟨keepc t0 (H6.out.mod), keepc t1 (H6.out.mod), keepc t2 (H6.out.mod), keepc t3 (H6.out.mod)⟩ | exact ⟨keepc t0 (H6.out.mod.alloc _), keepc t1 (H6.out.mod.alloc _), keepc t2 (H6.out.mod.alloc _), keepc t3 (H6.out.mod.alloc _)⟩)
            (first
            | (refine step_append_row _ rfl _ _ 23 rfl 65 i0 (.agg #[.int .i64 0, .int .u32 0, .int .u32 0, .bool false]) 4 24 Try.underlying23 hi hz0 hz1 hz2 rfl (by decide) (.slice none 0 0) 0 [] rfl (World.ownsRow_nil _ _ _ _) _ q _ ((l.take q).flatMap encV) rfl HN.out.1 (HN.out.2.1 _ (Mod.drew (Mod.refl _ _))) (encV_one _) HB.out.1 HB.out.2.1 ?_
               intro v6 w6 hown6 hgrow6 hat6
               have H6 := Lib.hid ((New.first hown6 hgrow6 hat6).from (Mod.drew (Mod.refl z4 NoB)))
               clear hown6 hgrow6 hat6)
            | (refine step_append_row _ rfl _ _ 23 rfl 65 i0 (.agg #[.int .i64 0, .int .u32 0, .int .u32 0, .bool false]) 4 24 Try.underlying23 hi hz0 hz1 hz2 rfl (by decide) (.slice none 0 0) 0 [] rfl (World.ownsRow_nil _ _ _ _) _ q _ ((l.take q).flatMap encV) rfl HN.out.1 (HN.out.2.1 _ (Mod.drew (Mod.alloc (Mod.refl _ _) _))) (encV_one _) HB.out.1 HB.out.2.1 ?_
               intro v6 w6 hown6 hgrow6 hat6
               have HBk := Lib.hid (built_kept (w := z4) hgrow6)
               have H6 := Lib.hid ((New.first hown6 hgrow6 hat6).from (Mod.drew (Mod.alloc (Mod.refl z4 NoB) _)))
               clear hown6 hgrow6 hat6)
            | (refine step_append_row _ rfl _ _ 23 rfl 65 i0 (.agg #[.int .i64 0, .int .u32 0, .int .u32 0, .bool false]) 4 24 Try.underlying23 hi hz0 hz1 hz2 rfl (by decide) v6 q _ rfl (H6.out.row.alloc _) _ 1 _ (encV x) rfl rfl (fun j u hu => ⟨_, rfl, World.news_of_block (MapKept.heap_alloc _ _).1 j u hu⟩) hone HB.out.2.2.1 HB.out.2.2.2.1 ?_
               intro v7 w7 hown7 hgrow7 hat7
               have H7 := Lib.hid ((H6.out.alloc _).more hown7 hgrow7 hat7)
               clear hown7 hgrow7 hat7)
            | (refine step_append_row _ rfl _ _ 23 rfl 65 i0 (.agg #[.int .i64 0, .int .u32 0, .int .u32 0, .bool false]) 4 24 Try.underlying23 hi hz0 hz1 hz2 rfl (by decide) v6 q _ rfl H6.out.row _ 1 _ (encV x) rfl rfl (fun j u hu => ⟨_, rfl, World.news_of_block HBk.out j u hu⟩) hone HB.out.2.2.1 HB.out.2.2.2.1 ?_
               intro v7 w7 hown7 hgrow7 hat7
               have H7 := Lib.hid (H6.out.more hown7 hgrow7 hat7)
               clear hown7 hgrow7 hat7)
            | (refine step_append_row _ rfl _ _ 23 rfl 65 i0 (.agg #[.int .i64 0, .int .u32 0, .int .u32 0, .bool false]) 4 24 Try.underlying23 hi hz0 hz1 hz2 rfl (by decide) v7 (q + 1) _ rfl H7.out.row _ (l.length - q) _ ((l.drop q).flatMap encV) rfl HN.out.2.2.1 (HN.out.2.2.2 _ H7.out.mod) (encV_one _) HB.out.2.2.2.2.1 HB.out.2.2.2.2.2 ?_
               intro v8 w8 hown8 hgrow8 hat8
               have H8 := Lib.hid (H7.out.more hown8 hgrow8 hat8)
               clear hown8 hgrow8 hat8))
          all_goals
            rw [HER.out.1] at H8
            obtain ⟨a', cap', rfl, k1, k2, k3⟩ := H8.out.events HER.out.2
            have HF8 := Lib.hid (And.intro k1 (And.intro k2 (And.intro k3 H8.out.mod)))
            clear k1 k2 k3
            go_wp2_with fail
            all_goals go_ret
            all_goals (rw [HP.out]; exact ⟨a', cap', rfl, HF8.out.1, ⟨HF8.out.2.1.1, Or.inr (HF8.out.2.1.2.mono H2.out.size)⟩, HF8.out.2.2.1, H2.out.trans HF8.out.2.2.2 (fun _ _ h => h)⟩)
      rotate_left
      focus
        have hkd : decide ((0 : Int) < (k : Int)) = false := decide_eq_false (by omega)
        have hkd2 : decide (0 < k) = false := decide_eq_false hk0
        go_quiet (fail)
        generalize hzz : World.drewN wr _ = z3
        have H6 : Hid (Mod wr z3 NoB) := by rw [← hzz]; exact (Mod.refl _ _).drewN _
        clear hzz
        have HP : Hid (putNew x l = putR before x l) := by
          show _ = _
          unfold putNew
          refine if_neg (fun hm => ?_)
          obtain ⟨i, hi⟩ := List.mem_iff_getElem?.1 hm
          exact before_irrefl x (HI.out.2.2 i x (by omega) hi)
        go_upto_region 4 with (fail)
        go_quiet (fail)
        generalize hz4 : World.drewN z3 _ = z4
        have H6b : Hid (Mod wr z4 NoB) := by rw [← hz4]; exact H6.out.drewN _
        clear hz4
        have H2 : Hid (Mod w z4 NoB) := HI.out.1.trans H6b.out (fun _ _ h => h)
        have t0 := keepc s0 H6b.out
        have t1 := keepc s1 H6b.out
        have t2 := keepc s2 H6b.out
        have t3 := keepc s3 H6b.out
        clear s0 s1 s2 s3 H6b
        go_upto_region 6 with (fail)
        have HE : Hid (∀ z, Mod z4 z NoB → ∀ (i : Nat) (y : Ev), l[i]? = some y → EvAt z b (off + i * 4) y) := fun z hz i y hx => by
          rcases (HL.out.mod H2.out).mod hz with h | ⟨b', off', hab, _, h⟩
          · rw [h] at hx; simp at hx
          · cases hab; exact h i y hx
        obtain ⟨q, hq⟩ : ∃ q : Nat, k = q := ⟨_, rfl⟩
        rw [show ((k : Int)) = (q : Int) by omega]
        rw [hq] at HER HB hk
        have hkc : q ≤ cap := by omega
        have hkci : (q : Int) ≤ cap := by omega
        have hkl2 : (q : Int) ≤ l.length := by omega
        have hk0' : (0 : Int) ≤ (q : Int) := by omega
        have hlc : (l.length : Int) ≤ cap := by omega
        have HN : Hid (((l.take q).flatMap encV).length = q * 4 ∧ (∀ z, Mod z4 z NoB → ∀ (j : Nat) (u : Value), ((l.take q).flatMap encV)[j]? = some u → ∃ ad, (some ⟨b, off, none⟩ : Option Addr) = some ad ∧ z.cell? (ad.add j) = some u) ∧
            ((l.drop q).flatMap encV).length = (l.length - q) * 4 ∧ (∀ z, Mod z4 z NoB → ∀ (j : Nat) (u : Value), ((l.drop q).flatMap encV)[j]? = some u → ∃ ad, (if cap = q then some ⟨b, off, none⟩ else some ⟨b, off + q * 4, none⟩ : Option Addr) = some ad ∧ z.cell? (ad.add j) = some u)) := by
          refine ⟨by rw [enc4_len encV_len]; simp; omega, fun z hz => evs_news (p := 0) (HE.out z hz) (by omega), by rw [enc4_len encV_len]; simp, fun z hz j u hu => ?_⟩
          by_cases hce : cap = q
          · rw [List.drop_eq_nil_of_le (by omega)] at hu; simp at hu
          · have := evs_news (p := q) (m := l.length) (HE.out z hz) rfl j u
            rw [List.take_of_length_le (by simp)] at this
            rw [if_neg hce]
            exact this hu
        go_region_held3 (fun z => z.cell? ⟨h0, 0, none⟩ = some (.int .i64 x.t) ∧ z.cell? ⟨h0, 1, none⟩ = some (.int .u32 x.e.u) ∧ z.cell? ⟨h0, 2, none⟩ = some (.int .u32 x.e.v) ∧ z.cell? ⟨h0, 3, none⟩ = some (.bool x.add))
          (first | exact ⟨t0, t1, t2, t3⟩ | exact ⟨keepc t0 ((Mod.drew (Mod.refl z4 NoB)).alloc _), keepc t1 ((Mod.drew (Mod.refl z4 NoB)).alloc _), keepc t2 ((Mod.drew (Mod.refl z4 NoB)).alloc _), keepc t3 ((Mod.drew (Mod.refl z4 NoB)).alloc _)⟩ | exact ⟨keepc t0 (H8.out.mod), keepc t1 (H8.out.mod), keepc t2 (H8.out.mod), keepc t3 (H8.out.mod)⟩ | exact ⟨keepc t0 (H7.out.mod), keepc t1 (H7.out.mod), keepc t2 (H7.out.mod), keepc t3 (H7.out.mod)⟩ | exact ⟨keepc t0 (H6.out.mod), keepc t1 (H6.out.mod), keepc t2 (H6.out.mod), keepc t3 (H6.out.mod)⟩ | exact ⟨keepc t0 (H6.out.mod.alloc _), keepc t1 (H6.out.mod.alloc _), keepc t2 (H6.out.mod.alloc _), keepc t3 (H6.out.mod.alloc _)⟩)
          (first
          | (refine step_append_row _ rfl _ _ 23 rfl 65 i0 (.agg #[.int .i64 0, .int .u32 0, .int .u32 0, .bool false]) 4 24 Try.underlying23 hi hz0 hz1 hz2 rfl (by decide) (.slice none 0 0) 0 [] rfl (World.ownsRow_nil _ _ _ _) _ q _ ((l.take q).flatMap encV) rfl HN.out.1 (HN.out.2.1 _ (Mod.drew (Mod.refl _ _))) (encV_one _) HB.out.1 HB.out.2.1 ?_
             intro v6 w6 hown6 hgrow6 hat6
             have H6 := Lib.hid ((New.first hown6 hgrow6 hat6).from (Mod.drew (Mod.refl z4 NoB)))
             clear hown6 hgrow6 hat6)
          | (refine step_append_row _ rfl _ _ 23 rfl 65 i0 (.agg #[.int .i64 0, .int .u32 0, .int .u32 0, .bool false]) 4 24 Try.underlying23 hi hz0 hz1 hz2 rfl (by decide) (.slice none 0 0) 0 [] rfl (World.ownsRow_nil _ _ _ _) _ q _ ((l.take q).flatMap encV) rfl HN.out.1 (HN.out.2.1 _ (Mod.drew (Mod.alloc (Mod.refl _ _) _))) (encV_one _) HB.out.1 HB.out.2.1 ?_
             intro v6 w6 hown6 hgrow6 hat6
             have HBk := Lib.hid (built_kept (w := z4) hgrow6)
             have H6 := Lib.hid ((New.first hown6 hgrow6 hat6).from (Mod.drew (Mod.alloc (Mod.refl z4 NoB) _)))
             clear hown6 hgrow6 hat6)
          | (refine step_append_row _ rfl _ _ 23 rfl 65 i0 (.agg #[.int .i64 0, .int .u32 0, .int .u32 0, .bool false]) 4 24 Try.underlying23 hi hz0 hz1 hz2 rfl (by decide) v6 q _ rfl (H6.out.row.alloc _) _ 1 _ (encV x) rfl rfl (fun j u hu => ⟨_, rfl, World.news_of_block (MapKept.heap_alloc _ _).1 j u hu⟩) hone HB.out.2.2.1 HB.out.2.2.2.1 ?_
             intro v7 w7 hown7 hgrow7 hat7
             have H7 := Lib.hid ((H6.out.alloc _).more hown7 hgrow7 hat7)
             clear hown7 hgrow7 hat7)
          | (refine step_append_row _ rfl _ _ 23 rfl 65 i0 (.agg #[.int .i64 0, .int .u32 0, .int .u32 0, .bool false]) 4 24 Try.underlying23 hi hz0 hz1 hz2 rfl (by decide) v6 q _ rfl H6.out.row _ 1 _ (encV x) rfl rfl (fun j u hu => ⟨_, rfl, World.news_of_block HBk.out j u hu⟩) hone HB.out.2.2.1 HB.out.2.2.2.1 ?_
             intro v7 w7 hown7 hgrow7 hat7
             have H7 := Lib.hid (H6.out.more hown7 hgrow7 hat7)
             clear hown7 hgrow7 hat7)
          | (refine step_append_row _ rfl _ _ 23 rfl 65 i0 (.agg #[.int .i64 0, .int .u32 0, .int .u32 0, .bool false]) 4 24 Try.underlying23 hi hz0 hz1 hz2 rfl (by decide) v7 (q + 1) _ rfl H7.out.row _ (l.length - q) _ ((l.drop q).flatMap encV) rfl HN.out.2.2.1 (HN.out.2.2.2 _ H7.out.mod) (encV_one _) HB.out.2.2.2.2.1 HB.out.2.2.2.2.2 ?_
             intro v8 w8 hown8 hgrow8 hat8
             have H8 := Lib.hid (H7.out.more hown8 hgrow8 hat8)
             clear hown8 hgrow8 hat8))
        all_goals
          rw [HER.out.1] at H8
          obtain ⟨a', cap', rfl, k1, k2, k3⟩ := H8.out.events HER.out.2
          have HF8 := Lib.hid (And.intro k1 (And.intro k2 (And.intro k3 H8.out.mod)))
          clear k1 k2 k3
          go_wp2_with fail
          all_goals go_ret
          all_goals (rw [HP.out]; exact ⟨a', cap', rfl, HF8.out.1, ⟨HF8.out.2.1.1, Or.inr (HF8.out.2.1.2.mono H2.out.size)⟩, HF8.out.2.2.1, H2.out.trans HF8.out.2.2.2 (fun _ _ h => h)⟩)

theorem sins_any (w : World) (a : Option Addr) (cap : Nat) (l : List Ev) (x : Ev) (hL : Evs w a l) (hp : Plain a) (hl : l.length ≤ 100000) (hcap : l.length ≤ cap) (hso : l.Pairwise before) (hadd : ∀ y ∈ l, y.add = x.add) :
    Calls Try.prog 27 #[.slice a l.length cap, .agg #[.int .i64 x.t, .int .u32 x.e.u, .int .u32 x.e.v, .bool x.add]] w fun r w' => ∃ a' cap', r = .returned (.slice a' (putNew x l).length cap') ∧ Evs w' a' (putNew x l) ∧ (Plain a' ∧ (a' = a ∨ Yg w a')) ∧ (putNew x l).length ≤ cap' ∧ Mod w w' NoB := by
  rcases hp with rfl | ⟨b, off, rfl⟩
  · have hl0 : l = [] := by
      rcases hL with h | ⟨b, off, hab, _⟩
      · exact h
      · cases hab
    subst hl0
    exact (sins0 w cap x).mono (fun _ _ h => by obtain ⟨a', cap', h1, h2, h3, h4⟩ := h; exact ⟨a', cap', h1, h2, ⟨h3.1, Or.inr h3.2⟩, h4⟩)
  · exact sins1 w b off cap l x hL hl hcap hso hadd
end Go.Proofs.Ythncgmmfnghliaa
