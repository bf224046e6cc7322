/- Merged: LfSc Args LfSd -/
import Derived.Test.YtggnkefhegnokaaDoorMg08
import Derived.Test.YtggnkefhegnokaaDoorMg01
import Derived.OpenShut
import Derived.Laws.BytesArg
import Derived.Test.YtggnkefhegnokaaDoorMg06
import Derived.Deep.DeepCutAuto
section
/- The statements' insert of events. -/
namespace Go.Proofs.YtggnkefhegnokaaDoor
open Go.RowKit
set_option linter.unusedVariables false

set_option maxRecDepth 100000 in
set_option maxHeartbeats 8000000 in
theorem sins0 (w : World) (cap : Nat) (x : Ev) :
    Calls Tryd.prog 25 #[.slice none 0 cap, .agg #[.int .i64 x.t, .int .u32 x.e.u, .int .u32 x.e.v, .bool x.add]] w fun r w' => ∃ a' cap', r = .returned (.slice a' [x].length cap') ∧ Evs w' a' [x] ∧ (Plain a' ∧ Yg w a') ∧ [x].length ≤ cap' ∧ Mod w w' NoB := by
  obtain ⟨i0, hi, hz0, hz1, hz2⟩ := info_parts info_event2
  have hmx := mixed
  obtain ⟨h0, hh0⟩ : ∃ h0, h0 = w.heap.size := ⟨_, rfl⟩
  obtain ⟨W, hW⟩ : ∃ W, W = w.alloc (.cells #[.int .i64 x.t, .int .u32 x.e.u, .int .u32 x.e.v, .bool x.add] 61) := ⟨_, rfl⟩
  have HW : Hid (Mod w W NoB ∧ EvAt W h0 0 x) := by
    show _ ∧ _
    rw [hW, hh0]; exact ⟨(Mod.refl _ _).alloc _, World.cell?_alloc_at _ _ _ _ rfl, World.cell?_alloc_at _ _ _ _ rfl, World.cell?_alloc_at _ _ _ _ rfl, World.cell?_alloc_at _ _ _ _ rfl⟩
  go_enter Tryd.func25, Tryd.ntmps25
  go_wp2_with fail
  rw [← hW, ← hh0]
  clear hW hh0
  go_loopw [5] (fun i wr => i = .int .i64 0 ∧ Hid (Mod w wr NoB ∧ EvAt wr h0 0 x)) (fun i _ => 0)
  case atStart => exact ⟨rfl, HW.out⟩
  case round =>
      obtain ⟨rfl, HI⟩ := hrel
      obtain ⟨s0, s1, s2, s3⟩ := HI.out.2
      simp only [Nat.zero_add] at s1 s2 s3
      have HB : Hid (0 + 0 ≤ maxLen ∧ (0 + 0) * 24 ≤ 140737488355328 ∧ 0 + 1 ≤ maxLen ∧ (0 + 1) * 24 ≤ 140737488355328) := by
        unfold maxLen; exact ⟨by omega, by omega, by omega, by omega⟩
      have hone : ∀ u ∈ encV x, u.oneCell' = true := by simp [encV, Value.oneCell']
      go_upto_region 2 with (fail)
      go_quiet (fail)
      generalize hzz : World.drewN wr _ = z2
      have H6a : Hid (Mod wr z2 NoB) := by rw [← hzz]; exact (Mod.refl _ _).drewN _
      clear hzz
      go_upto_region 4 with (fail)
      go_quiet (fail)
      generalize hz4 : World.drewN z2 _ = z3
      have H7z : Hid (Mod wr z3 NoB) := by rw [← hz4]; exact H6a.out.drewN _
      clear hz4
      have H2 : Hid (Mod w z3 NoB) := HI.out.1.trans H7z.out (fun _ _ h => h)
      have t0 := keepc s0 H7z.out
      have t1 := keepc s1 H7z.out
      have t2 := keepc s2 H7z.out
      have t3 := keepc s3 H7z.out
      clear s0 s1 s2 s3
      go_upto_region 6 with (fail)
      go_region_held3 (fun z => z.cell? ⟨h0, 0, none⟩ = some (.int .i64 x.t) ∧ z.cell? ⟨h0, 1, none⟩ = some (.int .u32 x.e.u) ∧ z.cell? ⟨h0, 2, none⟩ = some (.int .u32 x.e.v) ∧ z.cell? ⟨h0, 3, none⟩ = some (.bool x.add))
        (first | exact ⟨t0, t1, t2, t3⟩ | exact ⟨keepc t0 ((Mod.drew (Mod.refl z3 NoB)).alloc _), keepc t1 ((Mod.drew (Mod.refl z3 NoB)).alloc _), keepc t2 ((Mod.drew (Mod.refl z3 NoB)).alloc _), keepc t3 ((Mod.drew (Mod.refl z3 NoB)).alloc _)⟩ | exact ⟨keepc t0 (H8.out.mod), keepc t1 (H8.out.mod), keepc t2 (H8.out.mod), keepc t3 (H8.out.mod)⟩ | exact ⟨keepc t0 (H7.out.mod), keepc t1 (H7.out.mod), keepc t2 (H7.out.mod), keepc t3 (H7.out.mod)⟩ | exact ⟨keepc t0 (H6.out.mod), keepc t1 (H6.out.mod), keepc t2 (H6.out.mod), keepc t3 (H6.out.mod)⟩ | exact ⟨keepc t0 (H6.out.mod.alloc _), keepc t1 (H6.out.mod.alloc _), keepc t2 (H6.out.mod.alloc _), keepc t3 (H6.out.mod.alloc _)⟩)
        (first
        | (refine step_append_row _ rfl _ _ 23 rfl 61 i0 (.agg #[.int .i64 0, .int .u32 0, .int .u32 0, .bool false]) 4 24 Tryd.underlying23 hi hz0 hz1 hz2 rfl (by decide) (.slice none 0 0) 0 [] rfl (World.ownsRow_nil _ _ _ _) _ 0 _ [] rfl rfl (no_news rfl) (fun u hu => by cases hu) HB.out.1 HB.out.2.1 ?_
           intro v6 w6 hown6 hgrow6 hat6
           have H6 := Lib.hid ((New.first hown6 hgrow6 hat6).from (Mod.drew (Mod.refl z3 NoB)))
           clear hown6 hgrow6 hat6)
        | (refine step_append_row _ rfl _ _ 23 rfl 61 i0 (.agg #[.int .i64 0, .int .u32 0, .int .u32 0, .bool false]) 4 24 Tryd.underlying23 hi hz0 hz1 hz2 rfl (by decide) (.slice none 0 0) 0 [] rfl (World.ownsRow_nil _ _ _ _) _ 0 _ [] rfl rfl (no_news rfl) (fun u hu => by cases hu) HB.out.1 HB.out.2.1 ?_
           intro v6 w6 hown6 hgrow6 hat6
           have HBk := Lib.hid (built_kept (w := z3) hgrow6)
           have H6 := Lib.hid ((New.first hown6 hgrow6 hat6).from (Mod.drew (Mod.alloc (Mod.refl z3 NoB) _)))
           clear hown6 hgrow6 hat6)
        | (refine step_append_row _ rfl _ _ 23 rfl 61 i0 (.agg #[.int .i64 0, .int .u32 0, .int .u32 0, .bool false]) 4 24 Tryd.underlying23 hi hz0 hz1 hz2 rfl (by decide) v6 0 _ rfl (H6.out.row.alloc _) _ 1 _ (encV x) rfl rfl (fun j u hu => ⟨_, rfl, World.news_of_block (MapKept.heap_alloc _ _).1 j u hu⟩) hone HB.out.2.2.1 HB.out.2.2.2 ?_
           intro v7 w7 hown7 hgrow7 hat7
           have H7 := Lib.hid ((H6.out.alloc _).more hown7 hgrow7 hat7)
           clear hown7 hgrow7 hat7)
        | (refine step_append_row _ rfl _ _ 23 rfl 61 i0 (.agg #[.int .i64 0, .int .u32 0, .int .u32 0, .bool false]) 4 24 Tryd.underlying23 hi hz0 hz1 hz2 rfl (by decide) v6 0 _ rfl H6.out.row _ 1 _ (encV x) rfl rfl (fun j u hu => ⟨_, rfl, World.news_of_block HBk.out j u hu⟩) hone HB.out.2.2.1 HB.out.2.2.2 ?_
           intro v7 w7 hown7 hgrow7 hat7
           have H7 := Lib.hid (H6.out.more hown7 hgrow7 hat7)
           clear hown7 hgrow7 hat7)
        | (refine step_append_row _ rfl _ _ 23 rfl 61 i0 (.agg #[.int .i64 0, .int .u32 0, .int .u32 0, .bool false]) 4 24 Tryd.underlying23 hi hz0 hz1 hz2 rfl (by decide) v7 (0 + 1) _ rfl H7.out.row _ 0 _ [] rfl rfl (no_news rfl) (fun u hu => by cases hu) HB.out.2.2.1 HB.out.2.2.2 ?_
           intro v8 w8 hown8 hgrow8 hat8
           have H8 := Lib.hid (H7.out.more hown8 hgrow8 hat8)
           clear hown8 hgrow8 hat8))
      all_goals
        rw [show (([] : List Value) ++ encV x) ++ [] = [x].flatMap encV by simp] at H8
        obtain ⟨a', cap', rfl, k1, k2, k3⟩ := H8.out.events rfl
        have HF8 := Lib.hid (And.intro k1 (And.intro k2 (And.intro k3 H8.out.mod)))
        clear k1 k2 k3
        go_wp2_with fail
        all_goals go_ret
        all_goals exact ⟨a', cap', rfl, HF8.out.1, ⟨HF8.out.2.1.1, HF8.out.2.1.2.mono H2.out.size⟩, HF8.out.2.2.1, H2.out.trans HF8.out.2.2.2 (fun _ _ h => h)⟩

set_option maxRecDepth 100000 in
set_option maxHeartbeats 8000000 in
theorem sins1 (w : World) (b off cap : Nat) (l : List Ev) (x : Ev) (hL : Evs w (some ⟨b, off, none⟩) l) (hl : l.length ≤ 100000) (hcap : l.length ≤ cap) (hso : l.Pairwise before) (hadd : ∀ y ∈ l, y.add = x.add) :
    Calls Tryd.prog 25 #[.slice (some ⟨b, off, none⟩) l.length cap, .agg #[.int .i64 x.t, .int .u32 x.e.u, .int .u32 x.e.v, .bool x.add]] w fun r w' => ∃ a' cap', r = .returned (.slice a' (putNew x l).length cap') ∧ Evs w' a' (putNew x l) ∧ (Plain a' ∧ (a' = some ⟨b, off, none⟩ ∨ Yg w a')) ∧ (putNew x l).length ≤ cap' ∧ Mod w w' NoB := by
  have HL := Lib.hid hL
  have HSO := Lib.hid (And.intro hso hadd)
  clear hso hadd
  clear hL
  obtain ⟨i0, hi, hz0, hz1, hz2⟩ := info_parts info_event2
  have hmx := mixed
  obtain ⟨h0, hh0⟩ : ∃ h0, h0 = w.heap.size := ⟨_, rfl⟩
  obtain ⟨W, hW⟩ : ∃ W, W = w.alloc (.cells #[.int .i64 x.t, .int .u32 x.e.u, .int .u32 x.e.v, .bool x.add] 61) := ⟨_, rfl⟩
  have HW : Hid (Mod w W NoB ∧ EvAt W h0 0 x) := by
    show _ ∧ _
    rw [hW, hh0]; exact ⟨(Mod.refl _ _).alloc _, World.cell?_alloc_at _ _ _ _ rfl, World.cell?_alloc_at _ _ _ _ rfl, World.cell?_alloc_at _ _ _ _ rfl, World.cell?_alloc_at _ _ _ _ rfl⟩
  go_enter Tryd.func25, Tryd.ntmps25
  go_wp2_with fail
  rw [← hW, ← hh0]
  clear hW hh0
  go_loopw [5] (fun i wr => ∃ k : Nat, k ≤ l.length ∧ i = .int .i64 k ∧ Hid (Mod w wr NoB ∧ EvAt wr h0 0 x ∧ ∀ (j : Nat) (y : Ev), k ≤ j → l[j]? = some y → before x y)) (fun i _ => (intOf i).toNat)
  case atStart => exact ⟨l.length, Nat.le_refl _, rfl, HW.out.1, HW.out.2, fun j y hj hy => by rw [List.getElem?_eq_none hj] at hy; cases hy⟩
  case round =>
    obtain ⟨k, hk, rfl, HI⟩ := hrel
    obtain ⟨s0, s1, s2, s3⟩ := HI.out.2.1
    simp only [Nat.zero_add] at s1 s2 s3
    by_cases hcont : ∃ (j : Nat) (y : Ev), k = j + 1 ∧ l[j]? = some y ∧ before x y
    · obtain ⟨j, y, hkj, hy, hlt⟩ := hcont
      subst hkj
      have hjl := (List.getElem?_eq_some_iff.1 hy).1
      obtain ⟨b', off', y', hab, hbw, hy', hC⟩ := (HL.out.mod HI.out.1).at hjl
      cases hab
      have : y' = y := Option.some.inj (hy'.symm.trans hy)
      subst this
      obtain ⟨c0, c1, c2, c3⟩ := hC
      have hji : (j : Int) < l.length := by omega
      have hkp : (0 : Int) < (j : Int) + 1 := by omega
      have hkd : decide ((0 : Int) < (j : Int) + 1) = true := decide_eq_true hkp
      have hw1 : IntKind.i64.wrap ((j : Int) + 1 - 1) = (j : Int) := by rw [IntWalk.i64_in _ (by omega)]; omega
      have hw2 : IntKind.i64.wrap (j : Int) = (j : Int) := IntWalk.i64_in _ (by omega)
      have HB : Hid (∀ z, Calls Tryd.prog 51 #[.agg #[.int .i64 x.t, .int .u32 x.e.u, .int .u32 x.e.v, .bool x.add], .agg #[.int .i64 y'.t, .int .u32 y'.e.u, .int .u32 y'.e.v, .bool y'.add]] z fun r w' => r = .returned (.bool true) ∧ Grw z w') := fun z => by
        have := rbefore_grw z x.t x.e.u x.e.v y'.t y'.e.u y'.e.v x.add y'.add
        rwa [show decide (before ⟨x.t, ⟨x.e.u, x.e.v⟩, x.add⟩ ⟨y'.t, ⟨y'.e.u, y'.e.v⟩, y'.add⟩) = true by simpa using hlt] at this
      have HN : Hid (∀ (i : Nat) (y : Ev), j ≤ i → l[i]? = some y → before x y) := fun i z hj hz => by
        rcases Nat.lt_or_ge j i with h | h
        · exact HI.out.2.2 i z (by omega) hz
        · have : i = j := by omega
          subst this; rw [hy] at hz; cases hz; exact hlt
      have g0 := cg c0
      have g1 := cg c1
      have g2 := cg c2
      have g3 := cg c3
      have f0 := cg s0
      have f1 := cg s1
      have f2 := cg s2
      have f3 := cg s3
      clear hy hy' hlt hbw
      go_upto_region 2 with (fail)
      go_quiet_grown ((go_at_call 51; exact Calls.byGrw (HB.out _)))
      have H6 := Lib.hid (Grw.grown wr nq osq).mod
      go_wp2_with fail
      go_roundw
      case rel => exact ⟨j, by omega, rfl, HI.out.1.trans H6.out (fun _ _ h => h), HI.out.2.1.mod H6.out, HN.out⟩
      case measure => simp [intOf]
    · have hsp : putR before x l = l.take k ++ x :: l.drop k := putR_split hk HI.out.2.2 (fun j y hj hy hlt => hcont ⟨j, y, hj, hy, hlt⟩)
      have HER : Hid (((l.take k).flatMap encV ++ encV x) ++ (l.drop k).flatMap encV = (putR before x l).flatMap encV ∧ k + 1 + (l.length - k) = (putR before x l).length) := by
        rw [hsp]
        refine ⟨by simp, by simp; omega⟩
      have HB : Hid (0 + k ≤ maxLen ∧ (0 + k) * 24 ≤ 140737488355328 ∧ k + 1 ≤ maxLen ∧ (k + 1) * 24 ≤ 140737488355328 ∧ k + 1 + (l.length - k) ≤ maxLen ∧ (k + 1 + (l.length - k)) * 24 ≤ 140737488355328) := by
        unfold maxLen; exact ⟨by omega, by omega, by omega, by omega, by omega, by omega⟩
      have hone : ∀ u ∈ encV x, u.oneCell' = true := by simp [encV, Value.oneCell']
      have hout : Hid (∀ (j : Nat) (y : Ev), k = j + 1 → l[j]? = some y → ¬ before x y) := fun j y hj hy hlt => hcont ⟨j, y, hj, hy, hlt⟩
      clear hcont hsp
      go_upto_region 2 with (fail)
      by_cases hk0 : 0 < k
      focus
        obtain ⟨j, hkj⟩ : ∃ j, k = j + 1 := ⟨k - 1, by omega⟩
        subst hkj
        obtain ⟨b', off', y, hab, hbw, hy, hC⟩ := (HL.out.mod HI.out.1).at (show j < l.length by omega)
        cases hab
        obtain ⟨c0, c1, c2, c3⟩ := hC
        have hji : (j : Int) < l.length := by omega
        have hkp : (0 : Int) < (j : Int) + 1 := by omega
        have hkd : decide ((0 : Int) < (j : Int) + 1) = true := decide_eq_true hkp
        have hw1 : IntKind.i64.wrap ((j : Int) + 1 - 1) = (j : Int) := by rw [IntWalk.i64_in _ (by omega)]; omega
        have hw2 : IntKind.i64.wrap (j : Int) = (j : Int) := IntWalk.i64_in _ (by omega)
        have HLs : Hid (∀ z, Calls Tryd.prog 51 #[.agg #[.int .i64 x.t, .int .u32 x.e.u, .int .u32 x.e.v, .bool x.add], .agg #[.int .i64 y.t, .int .u32 y.e.u, .int .u32 y.e.v, .bool y.add]] z fun r w' => r = .returned (.bool false) ∧ Grw z w') := fun z => by
          have := rbefore_grw z x.t x.e.u x.e.v y.t y.e.u y.e.v x.add y.add
          rwa [show decide (before ⟨x.t, ⟨x.e.u, x.e.v⟩, x.add⟩ ⟨y.t, ⟨y.e.u, y.e.v⟩, y.add⟩) = false by simpa using hout.out j y rfl hy] at this
        have g0 := cg c0
        have g1 := cg c1
        have g2 := cg c2
        have g3 := cg c3
        have f0 := cg s0
        have f1 := cg s1
        have f2 := cg s2
        have f3 := cg s3
        have HY := Lib.hid hy
        clear hbw hy
        go_quiet_grown ((go_at_call 51; exact Calls.byGrw (HLs.out _)))
        generalize hzz : Go.Sort.grow (World.drewN wr _) _ = z3
        have H6 : Hid (Mod wr z3 NoB) := by rw [← hzz]; exact (Grw.grown wr _ _).mod
        clear hzz g0 g1 g2 g3 f0 f1 f2 f3
        have cz0 := keepc c0 H6.out
        have cz1 := keepc c1 H6.out
        have cz2 := keepc c2 H6.out
        have cz3 := keepc c3 H6.out
        have sz0 := keepc s0 H6.out
        have sz1 := keepc s1 H6.out
        have sz2 := keepc s2 H6.out
        have sz3 := keepc s3 H6.out
        clear c0 c1 c2 c3
        have HNM : Hid (¬ (y.t = x.t ∧ y.e = x.e) → putNew x l = putR before x l) := fun hne => by
          unfold putNew
          refine if_neg (fun hm => ?_)
          obtain ⟨i, hi⟩ := List.mem_iff_getElem?.1 hm
          obtain ⟨p1, p2⟩ := List.getElem?_eq_some_iff.1 hi
          obtain ⟨q1, q2⟩ := List.getElem?_eq_some_iff.1 HY.out
          rcases Nat.lt_trichotomy i j with c | c | c
          · have := List.pairwise_iff_getElem.1 HSO.out.1 i j p1 q1 c
            rw [p2, q2] at this
            exact hout.out j y rfl HY.out this
          · subst c
            rw [hi] at HY
            have := Option.some.inj HY.out
            exact hne ⟨by rw [← this], by rw [← this]⟩
          · exact before_irrefl x (HI.out.2.2 i x (by omega) hi)
        go_upto_region 4 with (fail)
        by_cases e1 : y.t = x.t
        · by_cases e2 : y.e.u = x.e.u
          · by_cases e3 : y.e.v = x.e.v
            · have hyx : y = x := by
                have h1 := HSO.out.2 y (List.mem_of_getElem? HY.out)
                exact ev_ext e1 (Ed.ext' e2 e3) h1
              have hpl : putNew x l = l := by
                unfold putNew
                exact if_pos (hyx ▸ List.mem_of_getElem? HY.out)
              rw [e1] at cz0
              rw [e2] at cz1
              rw [e3] at cz2
              go_quiet (fail)
              generalize hz4 : World.drewN z3 _ = z4
              have H6b : Hid (Mod wr z4 NoB) := by rw [← hz4]; exact H6.out.drewN _
              clear hz4 e1 e2 e3 hyx
              go_wp2_with fail
              go_ret
              have hMM := HI.out.1.trans H6b.out (fun _ _ h => h)
              exact ⟨some ⟨b, off, none⟩, cap, by rw [hpl]; rfl, by rw [hpl]; exact HL.out.mod hMM, ⟨Or.inr ⟨b, off, rfl⟩, Or.inl rfl⟩, by rw [hpl]; exact hcap, hMM⟩
            · have HP : Hid (putNew x l = putR before x l) := HNM.out (fun c => e3 (by rw [c.2]))
              rw [e1] at cz0
              rw [e2] at cz1
              have hq4 := show (y.e.v == x.e.v) = false by simpa using e3
              go_quiet (fail)
              generalize hz4 : World.drewN z3 _ = z4
              have H6b : Hid (Mod wr z4 NoB) := by rw [← hz4]; exact H6.out.drewN _
              clear hz4 hq4 cz0 cz1 cz2 cz3 sz0 sz1 sz2 sz3
              have H2 : Hid (Mod w z4 NoB) := HI.out.1.trans H6b.out (fun _ _ h => h)
              have t0 := keepc s0 H6b.out
              have t1 := keepc s1 H6b.out
              have t2 := keepc s2 H6b.out
              have t3 := keepc s3 H6b.out
              clear s0 s1 s2 s3 H6b
              go_upto_region 6 with (fail)
              have HE : Hid (∀ z, Mod z4 z NoB → ∀ (i : Nat) (y : Ev), l[i]? = some y → EvAt z b (off + i * 4) y) := fun z hz i y hx => by
                rcases (HL.out.mod H2.out).mod hz with h | ⟨b', off', hab, _, h⟩
                · rw [h] at hx; simp at hx
                · cases hab; exact h i y hx
              obtain ⟨q, hq⟩ : ∃ q : Nat, j + 1 = q := ⟨_, rfl⟩
              rw [show ((j : Int) + 1) = (q : Int) by omega]
              rw [hq] at HER HB hk
              have hkc : q ≤ cap := by omega
              have hkci : (q : Int) ≤ cap := by omega
              have hkl2 : (q : Int) ≤ l.length := by omega
              have hk0' : (0 : Int) ≤ (q : Int) := by omega
              have hlc : (l.length : Int) ≤ cap := by omega
              have HN : Hid (((l.take q).flatMap encV).length = q * 4 ∧ (∀ z, Mod z4 z NoB → ∀ (j : Nat) (u : Value), ((l.take q).flatMap encV)[j]? = some u → ∃ ad, (some ⟨b, off, none⟩ : Option Addr) = some ad ∧ z.cell? (ad.add j) = some u) ∧
                  ((l.drop q).flatMap encV).length = (l.length - q) * 4 ∧ (∀ z, Mod z4 z NoB → ∀ (j : Nat) (u : Value), ((l.drop q).flatMap encV)[j]? = some u → ∃ ad, (if cap = q then some ⟨b, off, none⟩ else some ⟨b, off + q * 4, none⟩ : Option Addr) = some ad ∧ z.cell? (ad.add j) = some u)) := by
                refine ⟨by rw [enc4_len encV_len]; simp; omega, fun z hz => evs_news (p := 0) (HE.out z hz) (by omega), by rw [enc4_len encV_len]; simp, fun z hz j u hu => ?_⟩
                by_cases hce : cap = q
                · rw [List.drop_eq_nil_of_le (by omega)] at hu; simp at hu
                · have := evs_news (p := q) (m := l.length) (HE.out z hz) rfl j u
                  rw [List.take_of_length_le (by simp)] at this
                  rw [if_neg hce]
                  exact this hu
              go_region_held3 (fun z => z.cell? ⟨h0, 0, none⟩ = some (.int .i64 x.t) ∧ z.cell? ⟨h0, 1, none⟩ = some (.int .u32 x.e.u) ∧ z.cell? ⟨h0, 2, none⟩ = some (.int .u32 x.e.v) ∧ z.cell? ⟨h0, 3, none⟩ = some (.bool x.add))
                (first | exact ⟨t0, t1, t2, t3⟩ | exact ⟨keepc t0 ((Mod.drew (Mod.refl z4 NoB)).alloc _), keepc t1 ((Mod.drew (Mod.refl z4 NoB)).alloc _), keepc t2 ((Mod.drew (Mod.refl z4 NoB)).alloc _), keepc t3 ((Mod.drew (Mod.refl z4 NoB)).alloc _)⟩ | exact ⟨keepc t0 (H8.out.mod), keepc t1 (H8.out.mod), keepc t2 (H8.out.mod), keepc t3 (H8.out.mod)⟩ | exact ⟨keepc t0 (H7.out.mod), keepc t1 (H7.out.mod), keepc t2 (H7.out.mod), keepc t3 (H7.out.mod)⟩ | exact ⟨keepc t0 (H6.out.mod), keepc t1 (H6.out.mod), keepc t2 (H6.out.mod), keepc t3 (H6.out.mod)⟩ | exact ⟨keepc t0 (H6.out.mod.alloc _), keepc t1 (H6.out.mod.alloc _), keepc t2 (H6.out.mod.alloc _), keepc t3 (H6.out.mod.alloc _)⟩)
                (first
                | (refine step_append_row _ rfl _ _ 23 rfl 61 i0 (.agg #[.int .i64 0, .int .u32 0, .int .u32 0, .bool false]) 4 24 Tryd.underlying23 hi hz0 hz1 hz2 rfl (by decide) (.slice none 0 0) 0 [] rfl (World.ownsRow_nil _ _ _ _) _ q _ ((l.take q).flatMap encV) rfl HN.out.1 (HN.out.2.1 _ (Mod.drew (Mod.refl _ _))) (encV_one _) HB.out.1 HB.out.2.1 ?_
                   intro v6 w6 hown6 hgrow6 hat6
                   have H6 := Lib.hid ((New.first hown6 hgrow6 hat6).from (Mod.drew (Mod.refl z4 NoB)))
                   clear hown6 hgrow6 hat6)
                | (refine step_append_row _ rfl _ _ 23 rfl 61 i0 (.agg #[.int .i64 0, .int .u32 0, .int .u32 0, .bool false]) 4 24 Tryd.underlying23 hi hz0 hz1 hz2 rfl (by decide) (.slice none 0 0) 0 [] rfl (World.ownsRow_nil _ _ _ _) _ q _ ((l.take q).flatMap encV) rfl HN.out.1 (HN.out.2.1 _ (Mod.drew (Mod.alloc (Mod.refl _ _) _))) (encV_one _) HB.out.1 HB.out.2.1 ?_
                   intro v6 w6 hown6 hgrow6 hat6
                   have HBk := Lib.hid (built_kept (w := z4) hgrow6)
                   have H6 := Lib.hid ((New.first hown6 hgrow6 hat6).from (Mod.drew (Mod.alloc (Mod.refl z4 NoB) _)))
                   clear hown6 hgrow6 hat6)
                | (refine step_append_row _ rfl _ _ 23 rfl 61 i0 (.agg #[.int .i64 0, .int .u32 0, .int .u32 0, .bool false]) 4 24 Tryd.underlying23 hi hz0 hz1 hz2 rfl (by decide) v6 q _ rfl (H6.out.row.alloc _) _ 1 _ (encV x) rfl rfl (fun j u hu => ⟨_, rfl, World.news_of_block (MapKept.heap_alloc _ _).1 j u hu⟩) hone HB.out.2.2.1 HB.out.2.2.2.1 ?_
                   intro v7 w7 hown7 hgrow7 hat7
                   have H7 := Lib.hid ((H6.out.alloc _).more hown7 hgrow7 hat7)
                   clear hown7 hgrow7 hat7)
                | (refine step_append_row _ rfl _ _ 23 rfl 61 i0 (.agg #[.int .i64 0, .int .u32 0, .int .u32 0, .bool false]) 4 24 Tryd.underlying23 hi hz0 hz1 hz2 rfl (by decide) v6 q _ rfl H6.out.row _ 1 _ (encV x) rfl rfl (fun j u hu => ⟨_, rfl, World.news_of_block HBk.out j u hu⟩) hone HB.out.2.2.1 HB.out.2.2.2.1 ?_
                   intro v7 w7 hown7 hgrow7 hat7
                   have H7 := Lib.hid (H6.out.more hown7 hgrow7 hat7)
                   clear hown7 hgrow7 hat7)
                | (refine step_append_row _ rfl _ _ 23 rfl 61 i0 (.agg #[.int .i64 0, .int .u32 0, .int .u32 0, .bool false]) 4 24 Tryd.underlying23 hi hz0 hz1 hz2 rfl (by decide) v7 (q + 1) _ rfl H7.out.row _ (l.length - q) _ ((l.drop q).flatMap encV) rfl HN.out.2.2.1 (HN.out.2.2.2 _ H7.out.mod) (encV_one _) HB.out.2.2.2.2.1 HB.out.2.2.2.2.2 ?_
                   intro v8 w8 hown8 hgrow8 hat8
                   have H8 := Lib.hid (H7.out.more hown8 hgrow8 hat8)
                   clear hown8 hgrow8 hat8))
              all_goals
                rw [HER.out.1] at H8
                obtain ⟨a', cap', rfl, k1, k2, k3⟩ := H8.out.events HER.out.2
                have HF8 := Lib.hid (And.intro k1 (And.intro k2 (And.intro k3 H8.out.mod)))
                clear k1 k2 k3
                go_wp2_with fail
                all_goals go_ret
                all_goals (rw [HP.out]; exact ⟨a', cap', rfl, HF8.out.1, ⟨HF8.out.2.1.1, Or.inr (HF8.out.2.1.2.mono H2.out.size)⟩, HF8.out.2.2.1, H2.out.trans HF8.out.2.2.2 (fun _ _ h => h)⟩)
          · have HP : Hid (putNew x l = putR before x l) := HNM.out (fun c => e2 (by rw [c.2]))
            rw [e1] at cz0
            have hq4 := show (y.e.u == x.e.u) = false by simpa using e2
            go_quiet (fail)
            generalize hz4 : World.drewN z3 _ = z4
            have H6b : Hid (Mod wr z4 NoB) := by rw [← hz4]; exact H6.out.drewN _
            clear hz4 hq4 cz0 cz1 cz2 cz3 sz0 sz1 sz2 sz3
            have H2 : Hid (Mod w z4 NoB) := HI.out.1.trans H6b.out (fun _ _ h => h)
            have t0 := keepc s0 H6b.out
            have t1 := keepc s1 H6b.out
            have t2 := keepc s2 H6b.out
            have t3 := keepc s3 H6b.out
            clear s0 s1 s2 s3 H6b
            go_upto_region 6 with (fail)
            have HE : Hid (∀ z, Mod z4 z NoB → ∀ (i : Nat) (y : Ev), l[i]? = some y → EvAt z b (off + i * 4) y) := fun z hz i y hx => by
              rcases (HL.out.mod H2.out).mod hz with h | ⟨b', off', hab, _, h⟩
              · rw [h] at hx; simp at hx
              · cases hab; exact h i y hx
            obtain ⟨q, hq⟩ : ∃ q : Nat, j + 1 = q := ⟨_, rfl⟩
            rw [show ((j : Int) + 1) = (q : Int) by omega]
            rw [hq] at HER HB hk
            have hkc : q ≤ cap := by omega
            have hkci : (q : Int) ≤ cap := by omega
            have hkl2 : (q : Int) ≤ l.length := by omega
            have hk0' : (0 : Int) ≤ (q : Int) := by omega
            have hlc : (l.length : Int) ≤ cap := by omega
            have HN : Hid (((l.take q).flatMap encV).length = q * 4 ∧ (∀ z, Mod z4 z NoB → ∀ (j : Nat) (u : Value), ((l.take q).flatMap encV)[j]? = some u → ∃ ad, (some ⟨b, off, none⟩ : Option Addr) = some ad ∧ z.cell? (ad.add j) = some u) ∧
                ((l.drop q).flatMap encV).length = (l.length - q) * 4 ∧ (∀ z, Mod z4 z NoB → ∀ (j : Nat) (u : Value), ((l.drop q).flatMap encV)[j]? = some u → ∃ ad, (if cap = q then some ⟨b, off, none⟩ else some ⟨b, off + q * 4, none⟩ : Option Addr) = some ad ∧ z.cell? (ad.add j) = some u)) := by
              refine ⟨by rw [enc4_len encV_len]; simp; omega, fun z hz => evs_news (p := 0) (HE.out z hz) (by omega), by rw [enc4_len encV_len]; simp, fun z hz j u hu => ?_⟩
              by_cases hce : cap = q
              · rw [List.drop_eq_nil_of_le (by omega)] at hu; simp at hu
              · have := evs_news (p := q) (m := l.length) (HE.out z hz) rfl j u
                rw [List.take_of_length_le (by simp)] at this
                rw [if_neg hce]
                exact this hu
            go_region_held3 (fun z => z.cell? ⟨h0, 0, none⟩ = some (.int .i64 x.t) ∧ z.cell? ⟨h0, 1, none⟩ = some (.int .u32 x.e.u) ∧ z.cell? ⟨h0, 2, none⟩ = some (.int .u32 x.e.v) ∧ z.cell? ⟨h0, 3, none⟩ = some (.bool x.add))
              (first | exact ⟨t0, t1, t2, t3⟩ | exact ⟨keepc t0 ((Mod.drew (Mod.refl z4 NoB)).alloc _), keepc t1 ((Mod.drew (Mod.refl z4 NoB)).alloc _), keepc t2 ((Mod.drew (Mod.refl z4 NoB)).alloc _), keepc t3 ((Mod.drew (Mod.refl z4 NoB)).alloc _)⟩ | exact ⟨keepc t0 (H8.out.mod), keepc t1 (H8.out.mod), keepc t2 (H8.out.mod), keepc t3 (H8.out.mod)⟩ | exact ⟨keepc t0 (H7.out.mod), keepc t1 (H7.out.mod), keepc t2 (H7.out.mod), keepc t3 (H7.out.mod)⟩ | exact ⟨keepc t0 (H6.out.mod), keepc t1 (H6.out.mod), keepc t2 (H6.out.mod), keepc t3 (H6.out.mod)⟩ | exact ⟨keepc t0 (H6.out.mod.alloc _), keepc t1 (H6.out.mod.alloc _), keepc t2 (H6.out.mod.alloc _), keepc t3 (H6.out.mod.alloc _)⟩)
              (first
              | (refine step_append_row _ rfl _ _ 23 rfl 61 i0 (.agg #[.int .i64 0, .int .u32 0, .int .u32 0, .bool false]) 4 24 Tryd.underlying23 hi hz0 hz1 hz2 rfl (by decide) (.slice none 0 0) 0 [] rfl (World.ownsRow_nil _ _ _ _) _ q _ ((l.take q).flatMap encV) rfl HN.out.1 (HN.out.2.1 _ (Mod.drew (Mod.refl _ _))) (encV_one _) HB.out.1 HB.out.2.1 ?_
                 intro v6 w6 hown6 hgrow6 hat6
                 have H6 := Lib.hid ((New.first hown6 hgrow6 hat6).from (Mod.drew (Mod.refl z4 NoB)))
                 clear hown6 hgrow6 hat6)
              | (refine step_append_row _ rfl _ _ 23 rfl 61 i0 (.agg #[.int .i64 0, .int .u32 0, .int .u32 0, .bool false]) 4 24 Tryd.underlying23 hi hz0 hz1 hz2 rfl (by decide) (.slice none 0 0) 0 [] rfl (World.ownsRow_nil _ _ _ _) _ q _ ((l.take q).flatMap encV) rfl HN.out.1 (HN.out.2.1 _ (Mod.drew (Mod.alloc (Mod.refl _ _) _))) (encV_one _) HB.out.1 HB.out.2.1 ?_
                 intro v6 w6 hown6 hgrow6 hat6
                 have HBk := Lib.hid (built_kept (w := z4) hgrow6)
                 have H6 := Lib.hid ((New.first hown6 hgrow6 hat6).from (Mod.drew (Mod.alloc (Mod.refl z4 NoB) _)))
                 clear hown6 hgrow6 hat6)
              | (refine step_append_row _ rfl _ _ 23 rfl 61 i0 (.agg #[.int .i64 0, .int .u32 0, .int .u32 0, .bool false]) 4 24 Tryd.underlying23 hi hz0 hz1 hz2 rfl (by decide) v6 q _ rfl (H6.out.row.alloc _) _ 1 _ (encV x) rfl rfl (fun j u hu => ⟨_, rfl, World.news_of_block (MapKept.heap_alloc _ _).1 j u hu⟩) hone HB.out.2.2.1 HB.out.2.2.2.1 ?_
                 intro v7 w7 hown7 hgrow7 hat7
                 have H7 := Lib.hid ((H6.out.alloc _).more hown7 hgrow7 hat7)
                 clear hown7 hgrow7 hat7)
              | (refine step_append_row _ rfl _ _ 23 rfl 61 i0 (.agg #[.int .i64 0, .int .u32 0, .int .u32 0, .bool false]) 4 24 Tryd.underlying23 hi hz0 hz1 hz2 rfl (by decide) v6 q _ rfl H6.out.row _ 1 _ (encV x) rfl rfl (fun j u hu => ⟨_, rfl, World.news_of_block HBk.out j u hu⟩) hone HB.out.2.2.1 HB.out.2.2.2.1 ?_
                 intro v7 w7 hown7 hgrow7 hat7
                 have H7 := Lib.hid (H6.out.more hown7 hgrow7 hat7)
                 clear hown7 hgrow7 hat7)
              | (refine step_append_row _ rfl _ _ 23 rfl 61 i0 (.agg #[.int .i64 0, .int .u32 0, .int .u32 0, .bool false]) 4 24 Tryd.underlying23 hi hz0 hz1 hz2 rfl (by decide) v7 (q + 1) _ rfl H7.out.row _ (l.length - q) _ ((l.drop q).flatMap encV) rfl HN.out.2.2.1 (HN.out.2.2.2 _ H7.out.mod) (encV_one _) HB.out.2.2.2.2.1 HB.out.2.2.2.2.2 ?_
                 intro v8 w8 hown8 hgrow8 hat8
                 have H8 := Lib.hid (H7.out.more hown8 hgrow8 hat8)
                 clear hown8 hgrow8 hat8))
            all_goals
              rw [HER.out.1] at H8
              obtain ⟨a', cap', rfl, k1, k2, k3⟩ := H8.out.events HER.out.2
              have HF8 := Lib.hid (And.intro k1 (And.intro k2 (And.intro k3 H8.out.mod)))
              clear k1 k2 k3
              go_wp2_with fail
              all_goals go_ret
              all_goals (rw [HP.out]; exact ⟨a', cap', rfl, HF8.out.1, ⟨HF8.out.2.1.1, Or.inr (HF8.out.2.1.2.mono H2.out.size)⟩, HF8.out.2.2.1, H2.out.trans HF8.out.2.2.2 (fun _ _ h => h)⟩)
        · have HP : Hid (putNew x l = putR before x l) := HNM.out (fun c => e1 c.1)
          have hq4 := show (y.t == x.t) = false by simpa using e1
          go_quiet (fail)
          generalize hz4 : World.drewN z3 _ = z4
          have H6b : Hid (Mod wr z4 NoB) := by rw [← hz4]; exact H6.out.drewN _
          clear hz4 hq4 cz0 cz1 cz2 cz3 sz0 sz1 sz2 sz3
          have H2 : Hid (Mod w z4 NoB) := HI.out.1.trans H6b.out (fun _ _ h => h)
          have t0 := keepc s0 H6b.out
          have t1 := keepc s1 H6b.out
          have t2 := keepc s2 H6b.out
          have t3 := keepc s3 H6b.out
          clear s0 s1 s2 s3 H6b
          go_upto_region 6 with (fail)
          have HE : Hid (∀ z, Mod z4 z NoB → ∀ (i : Nat) (y : Ev), l[i]? = some y → EvAt z b (off + i * 4) y) := fun z hz i y hx => by
            rcases (HL.out.mod H2.out).mod hz with h | ⟨b', off', hab, _, h⟩
            · rw [h] at hx; simp at hx
            · cases hab; exact h i y hx
          obtain ⟨q, hq⟩ : ∃ q : Nat, j + 1 = q := ⟨_, rfl⟩
          rw [show ((j : Int) + 1) = (q : Int) by omega]
          rw [hq] at HER HB hk
          have hkc : q ≤ cap := by omega
          have hkci : (q : Int) ≤ cap := by omega
          have hkl2 : (q : Int) ≤ l.length := by omega
          have hk0' : (0 : Int) ≤ (q : Int) := by omega
          have hlc : (l.length : Int) ≤ cap := by omega
          have HN : Hid (((l.take q).flatMap encV).length = q * 4 ∧ (∀ z, Mod z4 z NoB → ∀ (j : Nat) (u : Value), ((l.take q).flatMap encV)[j]? = some u → ∃ ad, (some ⟨b, off, none⟩ : Option Addr) = some ad ∧ z.cell? (ad.add j) = some u) ∧
              ((l.drop q).flatMap encV).length = (l.length - q) * 4 ∧ (∀ z, Mod z4 z NoB → ∀ (j : Nat) (u : Value), ((l.drop q).flatMap encV)[j]? = some u → ∃ ad, (if cap = q then some ⟨b, off, none⟩ else some ⟨b, off + q * 4, none⟩ : Option Addr) = some ad ∧ z.cell? (ad.add j) = some u)) := by
            refine ⟨by rw [enc4_len encV_len]; simp; omega, fun z hz => evs_news (p := 0) (HE.out z hz) (by omega), by rw [enc4_len encV_len]; simp, fun z hz j u hu => ?_⟩
            by_cases hce : cap = q
            · rw [List.drop_eq_nil_of_le (by omega)] at hu; simp at hu
            · have := evs_news (p := q) (m := l.length) (HE.out z hz) rfl j u
              rw [List.take_of_length_le (by simp)] at this
              rw [if_neg hce]
              exact this hu
          go_region_held3 (fun z => z.cell? ⟨h0, 0, none⟩ = some (.int .i64 x.t) ∧ z.cell? ⟨h0, 1, none⟩ = some (.int .u32 x.e.u) ∧ z.cell? ⟨h0, 2, none⟩ = some (.int .u32 x.e.v) ∧ z.cell? ⟨h0, 3, none⟩ = some (.bool x.add))
            (first | exact ⟨t0, t1, t2, t3⟩ | exact ⟨keepc t0 ((Mod.drew (Mod.refl z4 NoB)).alloc _), keepc t1 ((Mod.drew (Mod.refl z4 NoB)).alloc _), keepc t2 ((Mod.drew (Mod.refl z4 NoB)).alloc _), keepc t3 ((Mod.drew (Mod.refl z4 NoB)).alloc _)⟩ | exact ⟨keepc t0 (H8.out.mod), keepc t1 (H8.out.mod), keepc t2 (H8.out.mod), keepc t3 (H8.out.mod)⟩ | exact ⟨keepc t0 (H7.out.mod), keepc t1 (H7.out.mod), keepc t2 (H7.out.mod), keepc t3 (H7.out.mod)⟩ | exact ⟨keepc t0 (H6.out.mod), keepc t1 (H6.out.mod), keepc t2 (H6.out.mod), keepc t3 (H6.out.mod)⟩ | exact ⟨keepc t0 (H6.out.mod.alloc _), keepc t1 (H6.out.mod.alloc _), keepc t2 (H6.out.mod.alloc _), keepc t3 (H6.out.mod.alloc _)⟩)
            (first
            | (refine step_append_row _ rfl _ _ 23 rfl 61 i0 (.agg #[.int .i64 0, .int .u32 0, .int .u32 0, .bool false]) 4 24 Tryd.underlying23 hi hz0 hz1 hz2 rfl (by decide) (.slice none 0 0) 0 [] rfl (World.ownsRow_nil _ _ _ _) _ q _ ((l.take q).flatMap encV) rfl HN.out.1 (HN.out.2.1 _ (Mod.drew (Mod.refl _ _))) (encV_one _) HB.out.1 HB.out.2.1 ?_
               intro v6 w6 hown6 hgrow6 hat6
               have H6 := Lib.hid ((New.first hown6 hgrow6 hat6).from (Mod.drew (Mod.refl z4 NoB)))
               clear hown6 hgrow6 hat6)
            | (refine step_append_row _ rfl _ _ 23 rfl 61 i0 (.agg #[.int .i64 0, .int .u32 0, .int .u32 0, .bool false]) 4 24 Tryd.underlying23 hi hz0 hz1 hz2 rfl (by decide) (.slice none 0 0) 0 [] rfl (World.ownsRow_nil _ _ _ _) _ q _ ((l.take q).flatMap encV) rfl HN.out.1 (HN.out.2.1 _ (Mod.drew (Mod.alloc (Mod.refl _ _) _))) (encV_one _) HB.out.1 HB.out.2.1 ?_
               intro v6 w6 hown6 hgrow6 hat6
               have HBk := Lib.hid (built_kept (w := z4) hgrow6)
               have H6 := Lib.hid ((New.first hown6 hgrow6 hat6).from (Mod.drew (Mod.alloc (Mod.refl z4 NoB) _)))
               clear hown6 hgrow6 hat6)
            | (refine step_append_row _ rfl _ _ 23 rfl 61 i0 (.agg #[.int .i64 0, .int .u32 0, .int .u32 0, .bool false]) 4 24 Tryd.underlying23 hi hz0 hz1 hz2 rfl (by decide) v6 q _ rfl (H6.out.row.alloc _) _ 1 _ (encV x) rfl rfl (fun j u hu => ⟨_, rfl, World.news_of_block (MapKept.heap_alloc _ _).1 j u hu⟩) hone HB.out.2.2.1 HB.out.2.2.2.1 ?_
               intro v7 w7 hown7 hgrow7 hat7
               have H7 := Lib.hid ((H6.out.alloc _).more hown7 hgrow7 hat7)
               clear hown7 hgrow7 hat7)
            | (refine step_append_row _ rfl _ _ 23 rfl 61 i0 (.agg #[.int .i64 0, .int .u32 0, .int .u32 0, .bool false]) 4 24 Tryd.underlying23 hi hz0 hz1 hz2 rfl (by decide) v6 q _ rfl H6.out.row _ 1 _ (encV x) rfl rfl (fun j u hu => ⟨_, rfl, World.news_of_block HBk.out j u hu⟩) hone HB.out.2.2.1 HB.out.2.2.2.1 ?_
               intro v7 w7 hown7 hgrow7 hat7
               have H7 := Lib.hid (H6.out.more hown7 hgrow7 hat7)
               clear hown7 hgrow7 hat7)
            | (refine step_append_row _ rfl _ _ 23 rfl 61 i0 (.agg #[.int .i64 0, .int .u32 0, .int .u32 0, .bool false]) 4 24 Tryd.underlying23 hi hz0 hz1 hz2 rfl (by decide) v7 (q + 1) _ rfl H7.out.row _ (l.length - q) _ ((l.drop q).flatMap encV) rfl HN.out.2.2.1 (HN.out.2.2.2 _ H7.out.mod) (encV_one _) HB.out.2.2.2.2.1 HB.out.2.2.2.2.2 ?_
               intro v8 w8 hown8 hgrow8 hat8
               have H8 := Lib.hid (H7.out.more hown8 hgrow8 hat8)
               clear hown8 hgrow8 hat8))
          all_goals
            rw [HER.out.1] at H8
            obtain ⟨a', cap', rfl, k1, k2, k3⟩ := H8.out.events HER.out.2
            have HF8 := Lib.hid (And.intro k1 (And.intro k2 (And.intro k3 H8.out.mod)))
            clear k1 k2 k3
            go_wp2_with fail
            all_goals go_ret
            all_goals (rw [HP.out]; exact ⟨a', cap', rfl, HF8.out.1, ⟨HF8.out.2.1.1, Or.inr (HF8.out.2.1.2.mono H2.out.size)⟩, HF8.out.2.2.1, H2.out.trans HF8.out.2.2.2 (fun _ _ h => h)⟩)
      rotate_left
      focus
        have hkd : decide ((0 : Int) < (k : Int)) = false := decide_eq_false (by omega)
        have hkd2 : decide (0 < k) = false := decide_eq_false hk0
        go_quiet (fail)
        generalize hzz : World.drewN wr _ = z3
        have H6 : Hid (Mod wr z3 NoB) := by rw [← hzz]; exact (Mod.refl _ _).drewN _
        clear hzz
        have HP : Hid (putNew x l = putR before x l) := by
          show _ = _
          unfold putNew
          refine if_neg (fun hm => ?_)
          obtain ⟨i, hi⟩ := List.mem_iff_getElem?.1 hm
          exact before_irrefl x (HI.out.2.2 i x (by omega) hi)
        go_upto_region 4 with (fail)
        go_quiet (fail)
        generalize hz4 : World.drewN z3 _ = z4
        have H6b : Hid (Mod wr z4 NoB) := by rw [← hz4]; exact H6.out.drewN _
        clear hz4
        have H2 : Hid (Mod w z4 NoB) := HI.out.1.trans H6b.out (fun _ _ h => h)
        have t0 := keepc s0 H6b.out
        have t1 := keepc s1 H6b.out
        have t2 := keepc s2 H6b.out
        have t3 := keepc s3 H6b.out
        clear s0 s1 s2 s3 H6b
        go_upto_region 6 with (fail)
        have HE : Hid (∀ z, Mod z4 z NoB → ∀ (i : Nat) (y : Ev), l[i]? = some y → EvAt z b (off + i * 4) y) := fun z hz i y hx => by
          rcases (HL.out.mod H2.out).mod hz with h | ⟨b', off', hab, _, h⟩
          · rw [h] at hx; simp at hx
          · cases hab; exact h i y hx
        obtain ⟨q, hq⟩ : ∃ q : Nat, k = q := ⟨_, rfl⟩
        rw [show ((k : Int)) = (q : Int) by omega]
        rw [hq] at HER HB hk
        have hkc : q ≤ cap := by omega
        have hkci : (q : Int) ≤ cap := by omega
        have hkl2 : (q : Int) ≤ l.length := by omega
        have hk0' : (0 : Int) ≤ (q : Int) := by omega
        have hlc : (l.length : Int) ≤ cap := by omega
        have HN : Hid (((l.take q).flatMap encV).length = q * 4 ∧ (∀ z, Mod z4 z NoB → ∀ (j : Nat) (u : Value), ((l.take q).flatMap encV)[j]? = some u → ∃ ad, (some ⟨b, off, none⟩ : Option Addr) = some ad ∧ z.cell? (ad.add j) = some u) ∧
            ((l.drop q).flatMap encV).length = (l.length - q) * 4 ∧ (∀ z, Mod z4 z NoB → ∀ (j : Nat) (u : Value), ((l.drop q).flatMap encV)[j]? = some u → ∃ ad, (if cap = q then some ⟨b, off, none⟩ else some ⟨b, off + q * 4, none⟩ : Option Addr) = some ad ∧ z.cell? (ad.add j) = some u)) := by
          refine ⟨by rw [enc4_len encV_len]; simp; omega, fun z hz => evs_news (p := 0) (HE.out z hz) (by omega), by rw [enc4_len encV_len]; simp, fun z hz j u hu => ?_⟩
          by_cases hce : cap = q
          · rw [List.drop_eq_nil_of_le (by omega)] at hu; simp at hu
          · have := evs_news (p := q) (m := l.length) (HE.out z hz) rfl j u
            rw [List.take_of_length_le (by simp)] at this
            rw [if_neg hce]
            exact this hu
        go_region_held3 (fun z => z.cell? ⟨h0, 0, none⟩ = some (.int .i64 x.t) ∧ z.cell? ⟨h0, 1, none⟩ = some (.int .u32 x.e.u) ∧ z.cell? ⟨h0, 2, none⟩ = some (.int .u32 x.e.v) ∧ z.cell? ⟨h0, 3, none⟩ = some (.bool x.add))
          (first | exact ⟨t0, t1, t2, t3⟩ | exact ⟨keepc t0 ((Mod.drew (Mod.refl z4 NoB)).alloc _), keepc t1 ((Mod.drew (Mod.refl z4 NoB)).alloc _), keepc t2 ((Mod.drew (Mod.refl z4 NoB)).alloc _), keepc t3 ((Mod.drew (Mod.refl z4 NoB)).alloc _)⟩ | exact ⟨keepc t0 (H8.out.mod), keepc t1 (H8.out.mod), keepc t2 (H8.out.mod), keepc t3 (H8.out.mod)⟩ | exact ⟨keepc t0 (H7.out.mod), keepc t1 (H7.out.mod), keepc t2 (H7.out.mod), keepc t3 (H7.out.mod)⟩ | exact ⟨keepc t0 (H6.out.mod), keepc t1 (H6.out.mod), keepc t2 (H6.out.mod), keepc t3 (H6.out.mod)⟩ | exact ⟨keepc t0 (H6.out.mod.alloc _), keepc t1 (H6.out.mod.alloc _), keepc t2 (H6.out.mod.alloc _), keepc t3 (H6.out.mod.alloc _)⟩)
          (first
          | (refine step_append_row _ rfl _ _ 23 rfl 61 i0 (.agg #[.int .i64 0, .int .u32 0, .int .u32 0, .bool false]) 4 24 Tryd.underlying23 hi hz0 hz1 hz2 rfl (by decide) (.slice none 0 0) 0 [] rfl (World.ownsRow_nil _ _ _ _) _ q _ ((l.take q).flatMap encV) rfl HN.out.1 (HN.out.2.1 _ (Mod.drew (Mod.refl _ _))) (encV_one _) HB.out.1 HB.out.2.1 ?_
             intro v6 w6 hown6 hgrow6 hat6
             have H6 := Lib.hid ((New.first hown6 hgrow6 hat6).from (Mod.drew (Mod.refl z4 NoB)))
             clear hown6 hgrow6 hat6)
          | (refine step_append_row _ rfl _ _ 23 rfl 61 i0 (.agg #[.int .i64 0, .int .u32 0, .int .u32 0, .bool false]) 4 24 Tryd.underlying23 hi hz0 hz1 hz2 rfl (by decide) (.slice none 0 0) 0 [] rfl (World.ownsRow_nil _ _ _ _) _ q _ ((l.take q).flatMap encV) rfl HN.out.1 (HN.out.2.1 _ (Mod.drew (Mod.alloc (Mod.refl _ _) _))) (encV_one _) HB.out.1 HB.out.2.1 ?_
             intro v6 w6 hown6 hgrow6 hat6
             have HBk := Lib.hid (built_kept (w := z4) hgrow6)
             have H6 := Lib.hid ((New.first hown6 hgrow6 hat6).from (Mod.drew (Mod.alloc (Mod.refl z4 NoB) _)))
             clear hown6 hgrow6 hat6)
          | (refine step_append_row _ rfl _ _ 23 rfl 61 i0 (.agg #[.int .i64 0, .int .u32 0, .int .u32 0, .bool false]) 4 24 Tryd.underlying23 hi hz0 hz1 hz2 rfl (by decide) v6 q _ rfl (H6.out.row.alloc _) _ 1 _ (encV x) rfl rfl (fun j u hu => ⟨_, rfl, World.news_of_block (MapKept.heap_alloc _ _).1 j u hu⟩) hone HB.out.2.2.1 HB.out.2.2.2.1 ?_
             intro v7 w7 hown7 hgrow7 hat7
             have H7 := Lib.hid ((H6.out.alloc _).more hown7 hgrow7 hat7)
             clear hown7 hgrow7 hat7)
          | (refine step_append_row _ rfl _ _ 23 rfl 61 i0 (.agg #[.int .i64 0, .int .u32 0, .int .u32 0, .bool false]) 4 24 Tryd.underlying23 hi hz0 hz1 hz2 rfl (by decide) v6 q _ rfl H6.out.row _ 1 _ (encV x) rfl rfl (fun j u hu => ⟨_, rfl, World.news_of_block HBk.out j u hu⟩) hone HB.out.2.2.1 HB.out.2.2.2.1 ?_
             intro v7 w7 hown7 hgrow7 hat7
             have H7 := Lib.hid (H6.out.more hown7 hgrow7 hat7)
             clear hown7 hgrow7 hat7)
          | (refine step_append_row _ rfl _ _ 23 rfl 61 i0 (.agg #[.int .i64 0, .int .u32 0, .int .u32 0, .bool false]) 4 24 Tryd.underlying23 hi hz0 hz1 hz2 rfl (by decide) v7 (q + 1) _ rfl H7.out.row _ (l.length - q) _ ((l.drop q).flatMap encV) rfl HN.out.2.2.1 (HN.out.2.2.2 _ H7.out.mod) (encV_one _) HB.out.2.2.2.2.1 HB.out.2.2.2.2.2 ?_
             intro v8 w8 hown8 hgrow8 hat8
             have H8 := Lib.hid (H7.out.more hown8 hgrow8 hat8)
             clear hown8 hgrow8 hat8))
        all_goals
          rw [HER.out.1] at H8
          obtain ⟨a', cap', rfl, k1, k2, k3⟩ := H8.out.events HER.out.2
          have HF8 := Lib.hid (And.intro k1 (And.intro k2 (And.intro k3 H8.out.mod)))
          clear k1 k2 k3
          go_wp2_with fail
          all_goals go_ret
          all_goals (rw [HP.out]; exact ⟨a', cap', rfl, HF8.out.1, ⟨HF8.out.2.1.1, Or.inr (HF8.out.2.1.2.mono H2.out.size)⟩, HF8.out.2.2.1, H2.out.trans HF8.out.2.2.2 (fun _ _ h => h)⟩)

theorem sins_any (w : World) (a : Option Addr) (cap : Nat) (l : List Ev) (x : Ev) (hL : Evs w a l) (hp : Plain a) (hl : l.length ≤ 100000) (hcap : l.length ≤ cap) (hso : l.Pairwise before) (hadd : ∀ y ∈ l, y.add = x.add) :
    Calls Tryd.prog 25 #[.slice a l.length cap, .agg #[.int .i64 x.t, .int .u32 x.e.u, .int .u32 x.e.v, .bool x.add]] w fun r w' => ∃ a' cap', r = .returned (.slice a' (putNew x l).length cap') ∧ Evs w' a' (putNew x l) ∧ (Plain a' ∧ (a' = a ∨ Yg w a')) ∧ (putNew x l).length ≤ cap' ∧ Mod w w' NoB := by
  rcases hp with rfl | ⟨b, off, rfl⟩
  · have hl0 : l = [] := by
      rcases hL with h | ⟨b, off, hab, _⟩
      · exact h
      · cases hab
    subst hl0
    exact (sins0 w cap x).mono (fun _ _ h => by obtain ⟨a', cap', h1, h2, h3, h4⟩ := h; exact ⟨a', cap', h1, h2, ⟨h3.1, Or.inr h3.2⟩, h4⟩)
  · exact sins1 w b off cap l x hL hl hcap hso hadd
end Go.Proofs.YtggnkefhegnokaaDoor
end

section
/- Slices of integers that came in: general lemmas. -/
namespace Go.Proofs.YtggnkefhegnokaaDoor
open Go.RowKit
set_option linter.unusedVariables false

theorem IsRow.mod {q : IntKind} {w w' : World} {a : Option Addr} {len cap : Nat} {zs : List Int} (h : IsRow q w a len cap zs) (hm : Mod w w' NoB) : IsRow q w' a len cap zs := by
  rcases h with h | ⟨x, rfl, h1, h2, h3, h4, h5⟩
  · exact Or.inl h
  · refine Or.inr ⟨x, rfl, h1, h2, h3, fun i hi => ?_, h5⟩
    have h6 := h4 i hi
    have hlt : (x.add i).block < w.heap.size := World.block_lt_of_cell? _ _ h6
    rw [hm.cell hlt (by simp [NoB])]
    exact h6

theorem isrow_at {q : IntKind} {w : World} {a : Option Addr} {len cap : Nat} {zs : List Int} (h : IsRow q w a len cap zs) {k : Nat} (hk : k < len) :
    ∃ b off, a = some ⟨b, off, none⟩ ∧ b < w.heap.size ∧ w.cell? ⟨b, off + k, none⟩ = some (.int q (zs.getD k 0)) ∧ (Lit.int q (zs.getD k 0)).wf = true := by
  rcases h with ⟨_, h0, _⟩ | ⟨x, rfl, hlc, hcm, hz, hcell, hwf⟩
  · omega
  · obtain ⟨b, off, rfl, hcs⟩ := ints_at hcell (by omega)
    have hkz : k < zs.length := by omega
    have hc := hcs k hkz
    exact ⟨b, off, rfl, World.block_lt_of_cell? _ _ hc, hc, hwf _ (by simp [hkz])⟩

theorem isrow_len {q : IntKind} {w : World} {a : Option Addr} {len cap : Nat} {zs : List Int} (h : IsRow q w a len cap zs) : len ≤ cap ∧ cap ≤ maxLen ∧ zs.length = cap := by
  rcases h with ⟨_, rfl, rfl, rfl⟩ | ⟨x, rfl, hlc, hcm, hz, _⟩
  · exact ⟨Nat.le_refl _, Nat.zero_le _, rfl⟩
  · exact ⟨hlc, hcm, hz⟩

/-- The bytes of a row, as a text. -/
def rowStr (len : Nat) (zs : List Int) : ByteArray := strOfNums (zs.take len)
theorem rowStr_size {len : Nat} {zs : List Int} (h : len ≤ zs.length) : (rowStr len zs).size = len := by
  unfold rowStr; rw [strOfNums_size, List.length_take, Nat.min_eq_left h]
theorem rowStr_get {len : Nat} {zs : List Int} {k : Nat} (hk : k < (rowStr len zs).size) (hz : len ≤ zs.length) : (rowStr len zs)[k] = UInt8.ofNat (zs.getD k 0).toNat := by
  have hl := rowStr_size hz
  have h1 : (rowStr len zs).data.toList[k]? = some (rowStr len zs)[k] := by rw [List.getElem?_eq_getElem (by simpa using hk)]; rfl
  have h2 : (rowStr len zs).data.toList = (zs.take len).map fun n => UInt8.ofNat n.toNat := strOfNums_data _
  rw [h2, List.getElem?_map, List.getElem?_take_of_lt (by omega)] at h1
  have hkz : k < zs.length := by omega
  rw [List.getElem?_eq_getElem hkz] at h1
  simp only [Option.map_some, Option.some.injEq] at h1
  rw [← h1]
  simp [hkz]
theorem byte_back {z : Int} (h : (Lit.int .u8 z).wf = true) : (((UInt8.ofNat z.toNat).toNat : Nat) : Int) = z := by
  obtain ⟨h0, h1⟩ := bounds_u8 h
  have h2 : z.toNat < 256 := by omega
  rw [UInt8.toNat_ofNat_of_lt' h2]
  omega
theorem row_wf {q : IntKind} {w : World} {a : Option Addr} {len cap : Nat} {zs : List Int} (h : IsRow q w a len cap zs) {k : Nat} (hk : k < len) : (Lit.int q (zs.getD k 0)).wf = true := by
  obtain ⟨_, _, _, _, _, h⟩ := isrow_at h hk; exact h

theorem conv_row {P : Program} {w : World} {a : Option Addr} {len cap : Nat} {zs : List Int} (h : IsRow .u8 w a len cap zs) (src dst e : TypeId) (hs : P.underlying src = some (.slice e)) (hd : P.underlying dst = some .string) (he : P.underlying e = some (.int .u8)) :
    (convert src dst (.slice a len cap)).run P w = .ok (.string (rowStr len zs)) w := by
  obtain ⟨h1, h2, h3⟩ := isrow_len h
  by_cases h0 : len = 0
  · subst h0
    have hr : rowStr 0 zs = ByteArray.empty := by simp [rowStr, strOfNums]; rfl
    rw [hr]
    cases a with
    | none => exact run_convert_bytes_nil w src e hs he 0 cap dst hd
    | some x =>
      rw [run_convert_bytes_string w src dst e _ 0 cap hs he hd]
      have hl : (loadCells x 0).run P w = .ok #[] w := by
        have := run_loadCells_list (P := P) w x [] (fun j v hj => by simp at hj)
        simpa using this
      have := run_bytesToString (P := P) w x 0 cap [] (by simpa using hl)
      rw [this]
      rfl
  · obtain ⟨b, off, rfl, hb, hc, _⟩ := isrow_at h (k := 0) (by omega)
    refine run_convert_bytes_arg w src e hs he b off len cap (zs.take len) (by simp; omega) (fun i hi => ?_) dst hd
    obtain ⟨b', off', hx, _, hc', _⟩ := isrow_at h hi
    simp only [Option.some.injEq, Addr.mk.injEq, and_true] at hx
    obtain ⟨rfl, rfl⟩ := hx
    rw [hc']
    have hiz : i < zs.length := by omega
    simp [hi, hiz, List.getD_eq_getElem?_getD]
end Go.Proofs.YtggnkefhegnokaaDoor
end

section
/- The statements' own histories: the first loop of History. -/
namespace Go.Proofs.YtggnkefhegnokaaDoor
open Go.RowKit
set_option linter.unusedVariables false

/-- What History's first loop keeps. -/
structure HSt (w wr : World) (h4 h5 : Nat) (n : Int) (i : Nat) (t : Int) (oa : Option Addr) (oc : Nat) (T : List Ev) : Prop where
  bst : BSt w wr h4 h5 n (.slice none 0 0) 0 []
  evs : Evs wr oa T
  plain : Plain oa
  cap : T.length ≤ oc
  len : T.length ≤ 40
  times : Times n t T
  tlo : 0 ≤ t
  thi : t ≤ 2 + i * 40000
  sep : ∀ p, oa = some p → p.block ≠ h5
theorem HSt.quiet {w wr w' : World} {h4 h5 i oc : Nat} {n t : Int} {oa : Option Addr} {T : List Ev} (h : HSt w wr h4 h5 n i t oa oc T) (hm : Mod wr w' NoB) : HSt w w' h4 h5 n i t oa oc T :=
  ⟨h.bst.quiet hm, h.evs.mod hm, h.plain, h.cap, h.len, h.times, h.tlo, h.thi, h.sep⟩
theorem HSt.later {w wr : World} {h4 h5 i oc : Nat} {n t : Int} {oa : Option Addr} {T : List Ev} (h : HSt w wr h4 h5 n i t oa oc T) {t' : Int} (h1 : t ≤ t') {i' : Nat} (h2 : t' ≤ 2 + i' * 40000) : HSt w wr h4 h5 n i' t' oa oc T :=
  ⟨h.bst, h.evs, h.plain, h.cap, h.len, h.times.mono h1, by have := h.tlo; omega, h2, h.sep⟩

theorem flag_get : ∀ (T : List Ev) (there : Ed → Bool) (j : Nat) (x : Ev), T[j]? = some x → (flag there T)[j]? = some { x with add := !(((flag there T).take j).foldl turn there) x.e }
  | [], _, j, x, h => by simp at h
  | y :: T, there, 0, x, h => by
    cases h
    simp [flag]
  | y :: T, there, j + 1, x, h => by
    have ih := flag_get T (turn there { y with add := !there y.e }) j x (by simpa using h)
    simp only [flag, List.getElem?_cons_succ, List.take_succ_cons, List.foldl_cons]
    exact ih
theorem turnL_len {l n' : List Ed} {e : Ev} (h : turnL l e = some n') : n'.length ≤ l.length + 1 := by
  have hi : ∀ (x : Ed) (l : List Ed), (insL x l).length = l.length + 1 := by
    intro x l
    induction l with
    | nil => rfl
    | cons y l ih => simp only [insL]; split <;> simp [ih]
  unfold turnL at h
  split at h
  · cases h
  · split at h
    · cases h; rw [hi]; exact Nat.le_refl _
    · cases h; exact Nat.le_trans (List.length_eraseIdx_le _ _) (by omega)

/-- What History's second loop keeps. -/
structure GSt (w wr : World) (h4 h5 : Nat) (n : Int) (oa : Option Addr) (T : List Ev) (j : Nat) (na : Option Addr) (nc : Nat) (N : List Ed) (ea : Option Addr) (ec : Nat) : Prop where
  bst : BSt w wr h4 h5 n (.slice ea j ec) j ((flag (fun _ => false) T).take j)
  evs : Evs wr oa T
  now : NowOk N (thereOf ((flag (fun _ => false) T).take j))
  eds : Eds wr na N
  plain : Plain na
  cap : N.length ≤ nc
  len : N.length ≤ j
  sa : ∀ p, oa = some p → p.block ≠ h5 ∧ (Value.slice ea j ec).ownBlock ≠ some p.block
  sn : N = [] ∨ ∀ p, na = some p → p.block ≠ h5 ∧ (Value.slice ea j ec).ownBlock ≠ some p.block
/-- Beside a change of a young block. -/
theorem Evs.young {w w' : World} {S : Nat → Prop} {a : Option Addr} {l : List Ev} (h : Evs w a l) (hm : Mod w w' S) (hs : ∀ q, S q → w.heap.size ≤ q) : Evs w' a l := h.modS hm (fun b hb _ c => Nat.not_lt.2 (hs b c) hb)
theorem Eds.young {w w' : World} {S : Nat → Prop} {a : Option Addr} {l : List Ed} (h : Eds w a l) (hm : Mod w w' S) (hs : ∀ q, S q → w.heap.size ≤ q) : Eds w' a l := by
  rcases h with h | ⟨b, off, rfl, hb, h⟩
  · exact Or.inl h
  · have hn : ¬ S b := fun c => Nat.not_lt.2 (hs b c) hb
    exact Or.inr ⟨b, off, rfl, Nat.lt_of_lt_of_le hb hm.size, fun i x hx => ⟨keepS (h i x hx).1 hm hn, keepS (h i x hx).2 hm hn⟩⟩
/-- Behind an append to the history. -/
theorem GSt.next {w wr w7 Z : World} {h4 h5 j nc ec nc2 ec2 g1 : Nat} {n : Int} {oa na ea na2 : Option Addr} {T : List Ev} {N N2 : List Ed} {x : Ev} {e : Ev} (h : GSt w wr h4 h5 n oa T j na nc N ea ec) (hx : T[j]? = some x) (h7 : Mod wr w7 NoB)
    (hm : Mod w7 Z (fun q => (Value.slice ea j ec).ownBlock = some q ∨ q = h5)) (hb : BSt w Z h4 h5 n (.slice (some ⟨g1, 0, none⟩) (j + 1) ec2) (j + 1) ((flag (fun _ => false) T).take j ++ [e])) (htk : (flag (fun _ => false) T).take (j + 1) = (flag (fun _ => false) T).take j ++ [e])
    (hn : NowOk N2 (thereOf ((flag (fun _ => false) T).take (j + 1)))) (k1 : Eds w7 na2 N2) (k2 : Plain na2 ∧ Yg wr na2) (k3 : N2.length ≤ nc2) (hl : N2.length ≤ N.length + 1) (hat : (Value.slice ea j ec).ownBlock = some g1 ∨ w7.heap.size ≤ g1) :
    GSt w Z h4 h5 n oa T (j + 1) na2 nc2 N2 (some ⟨g1, 0, none⟩) ec2 := by
  have l5 := World.block_lt_of_cell? _ _ h.bst.b0
  have hown : ∀ q, (Value.slice ea j ec).ownBlock = some q → q < wr.heap.size := fun q hq => (h.bst.own q hq).2
  have so : ∀ p, oa = some p → ¬ ((Value.slice ea j ec).ownBlock = some p.block ∨ p.block = h5) := fun p hp c => by
    obtain ⟨c1, c2⟩ := h.sa p hp
    rcases c with c | c
    · exact c2 c
    · exact c1 c
  have sn2 : ∀ p, na2 = some p → ¬ ((Value.slice ea j ec).ownBlock = some p.block ∨ p.block = h5) := fun p hp c => by
    have h1 := k2.2 p hp
    rcases c with c | c
    · exact Nat.not_lt.2 h1 (hown _ c)
    · rw [c] at h1; exact Nat.not_lt.2 h1 l5
  have hE := h.evs.mod h7
  obtain ⟨bo, offo, _, hoa, hbo, _, _⟩ := hE.at (List.getElem?_eq_some_iff.1 hx).1
  have hne2 : ∀ p, na2 = some p → p.block ≠ h5 := fun p hp c => sn2 p hp (Or.inr c)
  refine ⟨by rw [htk]; exact hb, hE.modS hm (fun b _ hp c => ?_), hn, ?_, k2.1, k3, by have := h.len; omega, fun p hp => ⟨(h.sa p hp).1, ?_⟩, ?_⟩
  · obtain ⟨p, hp1, hp2⟩ := hp
    subst hp2
    exact so p hp1 c
  · rcases k1 with c | ⟨b, off, rfl, hb', hc⟩
    · exact Or.inl c
    · have hnb := sn2 ⟨b, off, none⟩ rfl
      exact Or.inr ⟨b, off, rfl, Nat.lt_of_lt_of_le hb' hm.size, fun i y hy => ⟨keepS (hc i y hy).1 hm hnb, keepS (hc i y hy).2 hm hnb⟩⟩
  · rw [hoa] at hp
    cases hp
    intro c
    have c' : g1 = bo := by simpa [Value.ownBlock] using c
    rcases hat with q | q
    · exact (h.sa ⟨bo, offo, none⟩ hoa).2 (by rw [q, c'])
    · omega
  · rcases k1 with c | ⟨b, off, rfl, hb', _⟩
    · exact Or.inl c
    · refine Or.inr (fun p hp => ⟨hne2 p hp, fun c => ?_⟩)
      cases hp
      have c' : g1 = b := by simpa [Value.ownBlock] using c
      rcases hat with q | q
      · exact sn2 _ rfl (Or.inl (by rw [q, c']))
      · omega

theorem app_at {w : World} {o : Obj} {v : Value} {g : Nat} (h : v.ownBlock = some g ∨ g = (w.alloc o).heap.size) : v.ownBlock = some g ∨ w.heap.size ≤ g := by
  rcases h with h | h
  · exact Or.inl h
  · right; rw [h]; simp

theorem set_young {w w' : World} {S : Nat → Prop} (h : Mod w w' S) {g i : Nat} (hg : w.heap.size ≤ g) (v : Value) : Mod w (w'.setCell ⟨g, i, none⟩ v) S := h.setCell (p := ⟨g, i, none⟩) (fun c => absurd c (Nat.not_lt.2 hg)) v
theorem new_lt (w : World) (o : Obj) : w.heap.size < (w.alloc o).drew.heap.size := by show _ < (w.alloc o).heap.size; simp
theorem new_cell (w : World) (j : Nat) (v : Value) (cs : Array Value) (t : TypeId) (h : cs[j]? = some v) : (w.alloc (.cells cs t)).drew.cell? ⟨w.heap.size, j, none⟩ = some v := (World.cell?_alloc_at _ _ _ _ rfl).trans h
theorem new_froz (w : World) (j : Nat) (cs : Array Value) (t : TypeId) : (w.alloc (.cells cs t)).drew.frozen? ⟨w.heap.size, j, none⟩ = false := by
  show (w.alloc (.cells cs t)).frozen? ⟨w.heap.size, j, none⟩ = false
  simp

set_option maxRecDepth 100000 in
set_option maxHeartbeats 8000000 in
theorem hist_top (w : World) (k : Int) (a : Option Addr) (len cap : Nat) (zs : List Int) (hk : 0 ≤ k ∧ k ≤ 255) (hA : IsRow .u8 w a len cap zs) (hlen : len ≤ 90) :
    Calls Tryd.prog 9 #[.int .u8 k, .slice a len cap] w fun r w' => ∃ T top a' cap', r = .returned (.agg #[.int .u64 (vertsOf k.toNat), .slice a' T.length cap']) ∧ Times (vertsOf k.toNat) top T ∧ top < maxT ∧ T.length ≤ 40 ∧ Evs w' a' (flag (fun _ => false) T) ∧ Plain a' ∧ T.length ≤ cap' ∧ Mod w w' NoB := by
  have HA := Lib.hid hA
  clear hA
  have hmx := mixed
  have hnb := vertsOf_bd k.toNat
  obtain ⟨n, hn⟩ : ∃ n, vertsOf k.toNat = n := ⟨_, rfl⟩
  have HV : Hid (∀ z, Calls Tryd.prog 23 #[.int .u8 k] z fun e w' => e = .returned (.int .u64 n) ∧ Mod z w' NoB) := fun z => by rw [← hn]; exact verts_any z k hk
  rw [hn] at hnb ⊢
  clear hn
  obtain ⟨h4, hh4⟩ : ∃ h4, h4 = w.heap.size := ⟨_, rfl⟩
  obtain ⟨W, hW⟩ : ∃ W, W = w.alloc (.cells #[.int .u64 0, .slice none 0 0] 25) := ⟨_, rfl⟩
  have HW : Hid (Mod w W NoB) := by rw [hW]; exact (Mod.refl _ _).alloc _
  have ca0 : W.cell? ⟨h4, 0, none⟩ = some (.int .u64 0) := by rw [hW, hh4]; exact World.cell?_alloc_at _ _ _ _ rfl
  have ca1 : W.cell? ⟨h4, 1, none⟩ = some (.slice none 0 0) := by rw [hW, hh4]; exact World.cell?_alloc_at _ _ _ _ rfl
  have cf0 : W.frozen? ⟨h4, 0, none⟩ = false := by rw [hW, hh4]; simp
  have cf1 : W.frozen? ⟨h4, 1, none⟩ = false := by rw [hW, hh4]; simp
  go_enter Tryd.func9, Tryd.ntmps9
  go_wp2_with fail
  rw [← hW, ← hh4]
  refine (HV.out _).mono ?_
  rintro e w1 ⟨rfl, hm⟩
  have HM : Hid (Mod w w1 NoB) := HW.out.trans hm (fun _ _ h => h)
  have l4 := World.block_lt_of_cell? _ _ ca0
  have HAA : Hid (w1.cell? ⟨h4, 0, none⟩ = some (.int .u64 0) ∧ w1.cell? ⟨h4, 1, none⟩ = some (.slice none 0 0) ∧ w1.frozen? ⟨h4, 0, none⟩ = false ∧ w1.frozen? ⟨h4, 1, none⟩ = false ∧ h4 < w1.heap.size ∧ w.heap.size ≤ h4) :=
    ⟨keepc ca0 hm, keepc ca1 hm, (hm.frozen (p := ⟨h4, 0, none⟩) l4 (by simp [NoB])).trans cf0, (hm.frozen (p := ⟨h4, 1, none⟩) l4 (by simp [NoB])).trans cf1, Nat.lt_of_lt_of_le l4 hm.size, by omega⟩
  clear hm HW ca0 ca1 cf0 cf1 l4 hW hh4
  go_wp2_with fail
  obtain ⟨h5, hh5⟩ : ∃ h5, h5 = w1.heap.size := ⟨_, rfl⟩
  obtain ⟨w2, hw2⟩ : ∃ w2, w2 = w1.alloc (.cells #[.int .u64 n, .slice none 0 0] 25) := ⟨_, rfl⟩
  have HB0 : Hid (HSt w w2 h4 h5 n 0 (k % 3) none 0 []) := by
    have hm2 : Mod w1 w2 NoB := by rw [hw2]; exact (Mod.refl _ _).alloc _
    obtain ⟨q1, q2, q3, q4, q5, q6⟩ := HAA.out
    refine ⟨⟨HM.out.trans hm2 (fun _ _ h => h), ⟨q6, by omega⟩, keepc q1 hm2, keepc q2 hm2, (hm2.frozen (p := ⟨h4, 0, none⟩) q5 (by simp [NoB])).trans q3, (hm2.frozen (p := ⟨h4, 1, none⟩) q5 (by simp [NoB])).trans q4, ?_, ?_, ?_, ?_, rfl, World.ownsRow_nil _ _ _ _⟩, Or.inl rfl, Or.inl rfl, by simp, by simp, Times.nil _ _, by omega, by omega, fun p hp => by cases hp⟩
    · rw [hw2, hh5]; exact World.cell?_alloc_at _ _ _ _ rfl
    · rw [hw2, hh5]; exact World.cell?_alloc_at _ _ _ _ rfl
    · rw [hw2, hh5]; simp
    · rw [hw2, hh5]; simp
  rw [← hw2, ← hh5]
  clear hw2 hh5
  obtain ⟨t0, ht0⟩ : ∃ t0, k % 3 = t0 := ⟨_, rfl⟩
  rw [ht0] at HB0
  rw [ht0]
  clear ht0
  go_loopw [6, 7, 8] (fun v6 v7 v8 wr => ∃ (i : Nat) (t : Int) (oa : Option Addr) (oc : Nat) (T : List Ev), i ≤ len + 2 ∧ v6 = .int .i64 t ∧ v7 = .slice oa T.length oc ∧ v8 = .int .i64 i ∧ Hid (HSt w wr h4 h5 n i t oa oc T)) (fun _ _ v8 _ => len + 3 - (intOf v8).toNat)
  case atStart => exact ⟨0, t0, none, 0, [], by omega, rfl, rfl, rfl, HB0.out⟩
  case round =>
    obtain ⟨i, t, oa, oc, T, hi, rfl, rfl, rfl, HI⟩ := hrel
    have hT40 := HI.out.len
    have htl := HI.out.tlo
    have hth := HI.out.thi
    have hw2 : IntKind.i64.wrap ((i : Int) + 2) = (i : Int) + 2 := IntWalk.i64_in _ (by omega)
    by_cases hgo : i + 2 < len ∧ T.length < 40
    · obtain ⟨hi2, hT2⟩ := hgo
      obtain ⟨b, off, hab, hbw, hz0, hwf0⟩ := isrow_at HA.out (show i < len by omega)
      obtain ⟨b', off', hab', _, hz1, hwf1⟩ := isrow_at HA.out (show i + 1 < len by omega)
      obtain ⟨b'', off'', hab'', _, hz2, hwf2⟩ := isrow_at HA.out hi2
      subst hab
      cases hab'
      cases hab''
      obtain ⟨z0, hz0e⟩ : ∃ z, zs.getD i 0 = z := ⟨_, rfl⟩
      obtain ⟨z1, hz1e⟩ : ∃ z, zs.getD (i + 1) 0 = z := ⟨_, rfl⟩
      obtain ⟨z2, hz2e⟩ : ∃ z, zs.getD (i + 2) 0 = z := ⟨_, rfl⟩
      rw [hz0e] at hz0 hwf0
      rw [hz1e] at hz1 hwf1
      rw [hz2e] at hz2 hwf2
      have c0 := (HI.out.bst.mod.cell hbw (by simp [NoB])).trans hz0
      have c1 := (HI.out.bst.mod.cell (p := ⟨b, off + (i + 1), none⟩) hbw (by simp [NoB])).trans hz1
      have c2 := (HI.out.bst.mod.cell (p := ⟨b, off + (i + 2), none⟩) hbw (by simp [NoB])).trans hz2
      obtain ⟨bz0, bz1⟩ := bounds_u8 hwf0
      have hb1 := bounds_u8 hwf1
      have hb2 := bounds_u8 hwf2
      have hii : (i : Int) < len := by omega
      have hii2 : (i : Int) + 2 < len := by omega
      have hii1 : (i : Int) + 1 < len := by omega
      have hT2i : (T.length : Int) < 40 := by omega
      have htq : IntKind.i64.wrap (t + z0 % 4) = t + z0 % 4 := IntWalk.i64_in _ (by omega)
      clear hz0 hz1 hz2 hwf0 hwf1 hwf2 hz0e hz1e hz2e
      go_upto_region 8 with (fail)
      obtain ⟨ta, hta⟩ : ∃ ta, t + z0 % 4 = ta := ⟨_, rfl⟩
      rw [hta]
      have hta2 : t ≤ ta ∧ ta ≤ t + 3 := by omega
      clear htq hta
      by_cases h240 : 240 < z0
      focus
        have hz40 : z0 % 40 = z0 - 240 := by omega
        have hpw : (1 : Int) ≤ 2 ^ (z0 - 240).toNat ∧ (2 : Int) ^ (z0 - 240).toNat ≤ 32768 := by
          have h1 : 2 ^ (z0 - 240).toNat ≤ 2 ^ 15 := Nat.pow_le_pow_right (by omega) (by omega)
          have h2 : 1 ≤ 2 ^ (z0 - 240).toNat := Nat.one_le_two_pow
          have h3 : ((2 ^ (z0 - 240).toNat : Nat) : Int) = (2 : Int) ^ (z0 - 240).toNat := by simp
          constructor
          · rw [← h3]; exact_mod_cast h2
          · rw [← h3]; exact_mod_cast h1
        obtain ⟨P, hP⟩ : ∃ P, (2 : Int) ^ (z0 - 240).toNat = P := ⟨_, rfl⟩
        rw [hP] at hpw
        have hw3 : wrap64 P = P := by unfold wrap64; omega
        have hw4 : wrap64 (ta + P) = ta + P := by unfold wrap64; omega
        go_upto_region 10 with (fail)
        obtain ⟨tb, htb⟩ : ∃ tb, ta + P = tb := ⟨_, rfl⟩
        rw [htb]
        have htb2 : t ≤ tb ∧ tb ≤ t + 40000 := by omega
        clear hw3 hw4 hpw hP hz40 htb
      rotate_left
      focus
        go_upto_region 10 with (fail)
        obtain ⟨tb, htb⟩ : ∃ tb, ta = tb := ⟨_, rfl⟩
        have htb2 : t ≤ tb ∧ tb ≤ t + 40000 := by omega
        rw [htb]
        clear htb
      all_goals
        have HLt := Lib.hid (HI.out.later htb2.1 (i' := i + 3) (by omega))
        clear c0 h240 hta2 htl hth hT40 hii bz0 bz1
        have n0 := HI.out.bst.b0
        have ln := World.block_lt_of_cell? _ _ n0
        have hw1 : IntKind.i64.wrap ((i : Int) + 1) = (i : Int) + 1 := IntWalk.i64_in _ (by omega)
        have hti1 : ((i : Int) + 1).toNat = i + 1 := by omega
        have hti2 : ((i : Int) + 2).toNat = i + 2 := by omega
        have hp1 : (0 : Int) ≤ (i : Int) + 1 := by omega
        have hp2 : (0 : Int) ≤ (i : Int) + 2 := by omega
        go_cut [9, 10] (fun v9 v10 wc => ∃ g, v9 = .pointer (some ⟨g, 0, none⟩) ∧ v10 = .bool (edgeOf z1 z2 n).isSome ∧ Hid (Mod wr wc NoB ∧ EdAt wc g 0 (edgeOr z1 z2 n)))
        case first =>
          go_region_held3 (fun z => z.cell? ⟨b, off + (i + 1), none⟩ = some (.int .u8 z1) ∧ z.cell? ⟨b, off + (i + 2), none⟩ = some (.int .u8 z2) ∧ z.cell? ⟨h5, 0, none⟩ = some (.int .u64 n))
            (first | exact ⟨c1, c2, n0⟩ | exact ⟨keepc c1 ((Mod.drew (Mod.refl wr NoB)).alloc _), keepc c2 ((Mod.drew (Mod.refl wr NoB)).alloc _), keepc n0 ((Mod.drew (Mod.refl wr NoB)).alloc _)⟩ | exact ⟨keepc c1 (Mod.drew (Mod.alloc (Mod.refl wr NoB) _)), keepc c2 (Mod.drew (Mod.alloc (Mod.refl wr NoB) _)), keepc n0 (Mod.drew (Mod.alloc (Mod.refl wr NoB) _))⟩ | exact ⟨keepc c1 H5.out, keepc c2 H5.out, keepc n0 H5.out⟩ | exact ⟨keepc c1 (H5.out.alloc _), keepc c2 (H5.out.alloc _), keepc n0 (H5.out.alloc _)⟩ | exact ⟨keepc c1 (set_young (set_young H5.out HG.out _) HG.out _), keepc c2 (set_young (set_young H5.out HG.out _) HG.out _), keepc n0 (set_young (set_young H5.out HG.out _) HG.out _)⟩)
            (first
            | (go_at_call 24; refine (edge_any _ z1 z2 n hb1 hb2 hnb).mono ?_; rintro r w5 ⟨rfl, hm5⟩; have H5 := Lib.hid (Mod.trans (Mod.drew (Mod.refl wr NoB)) hm5 (fun _ _ h => h)); have HG := Lib.hid H5.out.size; clear hm5)
            | (go_at_call 24; refine (edge_any _ z1 z2 n hb1 hb2 hnb).mono ?_; rintro r w5 ⟨rfl, hm5⟩; have e0 := keepc (new_cell wr 0 (.int .u32 0) #[.int .u32 0, .int .u32 0] 57 rfl) hm5; have e1 := keepc (new_cell wr 1 (.int .u32 0) #[.int .u32 0, .int .u32 0] 57 rfl) hm5; have fe0 := (hm5.frozen (p := ⟨wr.heap.size, 0, none⟩) (new_lt wr _) (by simp [NoB])).trans (new_froz wr 0 _ _); have fe1 := (hm5.frozen (p := ⟨wr.heap.size, 1, none⟩) (new_lt wr _) (by simp [NoB])).trans (new_froz wr 1 _ _); have H5 := Lib.hid (Mod.trans (Mod.drew (Mod.alloc (Mod.refl wr NoB) _)) hm5 (fun _ _ h => h)); have HG := Lib.hid (Nat.le_refl wr.heap.size); clear hm5))
          all_goals
            go_wp2_with fail
            go_meet
          all_goals
            first
            | (refine ⟨_, rfl, rfl, H5.out.alloc _, ?_, ?_⟩
               · exact World.cell?_alloc_at _ _ _ _ rfl
               · exact World.cell?_alloc_at _ _ _ _ rfl)
            | (refine ⟨_, rfl, rfl, set_young (set_young H5.out HG.out _) HG.out _, ?_, ?_⟩
               · rw [World.cell?_setCell_other _ _ _ _ (by simp)]; exact World.cell?_setCell_same _ _ _ e0
               · exact World.cell?_setCell_same _ _ _ (by rw [World.cell?_setCell_other _ _ _ _ (by simp)]; exact e1))
        case rest =>
          obtain ⟨g, rfl, rfl, HC⟩ := hcut
          have HS3 := Lib.hid (HLt.out.quiet HC.out.1)
          have d0 := HC.out.2.1
          have d1 := HC.out.2.2
          simp only [Nat.zero_add] at d1
          clear c1 c2 n0 ln hw1 hti1 hti2 hp1 hp2 hii1 hw2
          have hw5 : IntKind.i64.wrap ((i : Int) + 3) = (i : Int) + 3 := IntWalk.i64_in _ (by omega)
          cases hed : edgeOf z1 z2 n with
          | none =>
            clear d0 d1
            go_wp2_with fail
            go_roundw
            case rel => exact ⟨i + 3, tb, oa, oc, T, by omega, rfl, rfl, by go_num, HS3.out⟩
            case measure => simp [intOf]; omega
          | some x =>
            have hx : edgeOr z1 z2 n = x := by unfold edgeOr; rw [hed]; rfl
            rw [hx] at d0 d1
            have hr := edgeOf_right hnb.1 hed
            have HR := Lib.hid hr
            clear hx hr hed
            go_wp2_with fail
            refine (sins_any _ oa oc T ⟨tb, x, false⟩ HS3.out.evs HS3.out.plain (by omega) HS3.out.cap HS3.out.times.sorted (fun y hy => (HS3.out.times.bd y hy).2.2.2.2)).mono ?_
            rintro r w6 ⟨oa', oc', rfl, q1, q2, q3, hm6⟩
            have H6 : Hid (HSt w w6 h4 h5 n (i + 3) tb oa' oc' (putNew ⟨tb, x, false⟩ T)) :=
              ⟨HS3.out.bst.quiet hm6, q1, q2.1, q3, Nat.le_trans (putNew_len _ _) (by omega), HS3.out.times.put HS3.out.tlo (Int.le_refl _) HR.out, HS3.out.tlo, HS3.out.thi, fun p hp => by
                rcases q2.2 with c | c
                · exact HS3.out.sep p (by rw [← c]; exact hp)
                · have h1 := c p hp
                  have h2 := World.block_lt_of_cell? _ _ HS3.out.bst.b0
                  intro hc
                  rw [hc] at h1
                  exact Nat.not_lt.2 h1 h2⟩
            clear q1 q2 q3 hm6 d0 d1
            go_wp2_with fail
            go_roundw
            case rel => exact ⟨i + 3, tb, oa', oc', putNew ⟨tb, x, false⟩ T, by omega, rfl, rfl, by go_num, H6.out⟩
            case measure => simp [intOf]; omega
    · have HX : Hid (Mod w wr NoB) := HI.out.bst.mod
      by_cases hi2 : i + 2 < len
      focus
        have hT2 : decide ((T.length : Int) < 40) = false := decide_eq_false (by omega)
        have hii2 : (i : Int) + 2 < len := by omega
        go_upto_region 13 with (fail)
      rotate_left
      focus
        have hii2 : decide ((i : Int) + 2 < len) = false := decide_eq_false (by omega)
        go_upto_region 13 with (fail)
      all_goals
        clear hgo hi2 hii2 HX hw2 htl hth
        have HG0 : Hid (GSt w wr h4 h5 n oa T 0 none 0 [] none 0) := ⟨HI.out.bst, HI.out.evs, NowOk.nil, Or.inl rfl, Or.inl rfl, by simp, by simp, fun p hp => ⟨HI.out.sep p hp, by simp [Value.ownBlock]⟩, Or.inl rfl⟩
        have HTI := Lib.hid (And.intro HI.out.times (And.intro HI.out.len (show t < maxT by have := HI.out.thi; unfold maxT; omega)))
        go_wp2_with fail
        go_loopw [11, 12] (fun v11 v12 wr => ∃ (j : Nat) (na : Option Addr) (nc : Nat) (N : List Ed) (ea : Option Addr) (ec : Nat), j ≤ T.length ∧ v11 = .slice na N.length nc ∧ v12 = .int .i64 j ∧ Hid (GSt w wr h4 h5 n oa T j na nc N ea ec)) (fun _ v12 _ => T.length + 1 - (intOf v12).toNat)
        case atStart => exact ⟨0, none, 0, [], none, 0, Nat.zero_le _, rfl, rfl, HG0.out⟩
        case round =>
          obtain ⟨j, na, nc, N, ea, ec, hj, rfl, rfl, HI2⟩ := hrel
          by_cases hlt : j < T.length
          · obtain ⟨b, off, x, rfl, hbw, hx, hC⟩ := HI2.out.evs.at hlt
            have hji : (j : Int) < T.length := by omega
            obtain ⟨c0, c1, c2, c3⟩ := hC
            have hfx := flag_get T (fun _ => false) j x hx
            obtain ⟨th, hth⟩ : ∃ th, thereOf ((flag (fun _ => false) T).take j) x.e = th := ⟨_, rfl⟩
            have hfx2 : (flag (fun _ => false) T)[j]? = some ⟨x.t, x.e, !th⟩ := by rw [← hth]; exact hfx
            have htk : (flag (fun _ => false) T).take (j + 1) = (flag (fun _ => false) T).take j ++ [⟨x.t, x.e, !th⟩] := by
              obtain ⟨p1, p2⟩ := List.getElem?_eq_some_iff.1 hfx2
              rw [List.take_succ_eq_append_getElem p1, p2]
            have hfind : (fndE x.e N).isSome = th := by rw [← hth]; exact HI2.out.now.find x.e
            obtain ⟨N2, ht2, hn2⟩ := HI2.out.now.some (e := ⟨x.t, x.e, !th⟩) (by show thereOf _ x.e ≠ !th; rw [hth]; cases th <;> simp)
            rw [← thereOf_snoc, ← htk] at hn2
            have hN2 := turnL_len ht2
            have hNj := HI2.out.len
            have HXX := Lib.hid hx
            have HF := Lib.hid (And.intro htk (And.intro ht2 (And.intro hn2 hN2)))
            have HasC : Hid (∀ z, Eds z na N → Calls Tryd.prog 26 #[.slice na N.length nc, .agg #[.int .u32 x.e.u, .int .u32 x.e.v]] z fun e w' => e = .returned (.bool th) ∧ Mod z w' NoB) := fun z hz => by
              have := has_any z na nc N x.e hz (by omega)
              rwa [hfind] at this
            obtain ⟨e0, he0⟩ : ∃ e0, e0 = wr.heap.size := ⟨_, rfl⟩
            obtain ⟨V, hV⟩ : ∃ V, V = wr.alloc (.cells #[.int .i64 x.t, .int .u32 x.e.u, .int .u32 x.e.v, .bool x.add] 61) := ⟨_, rfl⟩
            have HV : Hid (Mod wr V NoB) := by rw [hV]; exact (Mod.refl _ _).alloc _
            have HD : Hid (EvAt V e0 0 x ∧ V.frozen? ⟨e0, 3, none⟩ = false ∧ wr.heap.size ≤ e0 ∧ e0 < V.heap.size) := by
              show _ ∧ _
              rw [hV, he0]
              exact ⟨⟨World.cell?_alloc_at _ _ _ _ rfl, World.cell?_alloc_at _ _ _ _ rfl, World.cell?_alloc_at _ _ _ _ rfl, World.cell?_alloc_at _ _ _ _ rfl⟩, by simp, Nat.le_refl _, by simp⟩
            clear hfx hth hfx2 htk hfind ht2 hn2 hx hbw
            go_upto_region 18 with (fail)
            rw [← hV, ← he0]
            clear hV he0 c0 c1 c2 c3
            obtain ⟨v0, v1, v2, v3⟩ := HD.out.1
            simp only [Nat.zero_add] at v1 v2 v3
            go_wp2_with fail
            refine (HasC.out _ (HI2.out.eds.mod HV.out)).mono ?_
            rintro r w6 ⟨rfl, hm6⟩
            have u0 := keepc v0 hm6
            have u1 := keepc v1 hm6
            have u2 := keepc v2 hm6
            have u3 := keepc v3 hm6
            have fu : w6.frozen? ⟨e0, 3, none⟩ = false := (hm6.frozen (p := ⟨e0, 3, none⟩) HD.out.2.2.2 (by simp [NoB])).trans HD.out.2.1
            have H6 : Hid (Mod wr w6 NoB) := HV.out.trans hm6 (fun _ _ h => h)
            clear hm6 v0 v1 v2 v3
            go_upto_region 19 with (fail)
            obtain ⟨Y, hY⟩ : ∃ Y, Y = w6.setCell ⟨e0, 3, none⟩ (.bool !th) := ⟨_, rfl⟩
            have HY : Hid (Mod wr Y NoB) := by show Mod wr Y NoB; rw [hY]; exact set_young H6.out HD.out.2.2.1 _
            have y0 : Y.cell? ⟨e0, 0, none⟩ = some (.int .i64 x.t) := by rw [hY, World.cell?_setCell_other _ _ _ _ (by simp)]; exact u0
            have y1 : Y.cell? ⟨e0, 1, none⟩ = some (.int .u32 x.e.u) := by rw [hY, World.cell?_setCell_other _ _ _ _ (by simp)]; exact u1
            have y2 : Y.cell? ⟨e0, 2, none⟩ = some (.int .u32 x.e.v) := by rw [hY, World.cell?_setCell_other _ _ _ _ (by simp)]; exact u2
            have y3 : Y.cell? ⟨e0, 3, none⟩ = some (.bool !th) := by rw [hY]; exact World.cell?_setCell_same _ _ _ u3
            have HY0 : Hid (wr.heap.size ≤ Y.heap.size) := HY.out.size
            rw [← hY]
            clear hY u0 u1 u2 u3 fu H6 HV
            go_wp2_with fail
            refine (turn_any _ na nc N ⟨x.t, x.e, !th⟩ (HI2.out.eds.mod HY.out) HI2.out.plain (by omega) HI2.out.cap HI2.out.now.sorted).mono ?_
            rintro r w7 ⟨_, h7⟩
            obtain ⟨na', nc', rfl, k1, k2, k3, hm7⟩ := h7 N2 HF.out.2.1
            have r0 := keepc y0 hm7
            have r1 := keepc y1 hm7
            have r2 := keepc y2 hm7
            have r3 := keepc y3 hm7
            have H7 : Hid (Mod wr w7 NoB) := HY.out.trans hm7 (fun _ _ h => h)
            have HK := Lib.hid (And.intro k1 (And.intro k2 k3))
            clear hm7 k1 k2 k3 y0 y1 y2 y3 HY h7
            have HB7 := Lib.hid (HI2.out.bst.quiet H7.out)
            have b1 := HB7.out.b1
            have f1 := HB7.out.fb1
            have lb := World.block_lt_of_cell? _ _ b1
            have le := World.block_lt_of_cell? _ _ r0
            have hone : ∀ u ∈ encV ⟨x.t, x.e, !th⟩, u.oneCell' = true := by simp [encV, Value.oneCell']
            have hms : h5 + 1 ≤ w7.heap.size := lb
            have hB1 : j + 1 ≤ maxLen := by unfold maxLen; omega
            have hB2 : (j + 1) * 24 ≤ 140737488355328 := by omega
            obtain ⟨i0, hi, hz0, hz1, hz2⟩ := info_parts info_event2
            go_wp2_with (at_builtin; refine wpList_append_lies _ rfl _ _ 23 rfl (h5 + 1) 61 i0 _ 4 24 Tryd.underlying23 hi hz0 hz1 hz2 rfl (by decide) (.slice ea j ec) j _ rfl (HB7.out.row.alloc _) ⟨_, 0, none⟩ 1 1 (encV ⟨x.t, x.e, !th⟩) rfl rfl (World.news_of_block (MapKept.heap_alloc _ _).1) hone (by decide) hB1 hB2 (le_alloc hms) _ rfl ?_; intro g1 cap1 w8 hown hgrow hat hlt8; have H8 := Lib.hid (And.intro (HB7.out.app hown hgrow) (app_at hat)); clear hown hgrow hat hlt8 b1 f1; have b2 := H8.out.1.1.1; have f2 := H8.out.1.1.2)
            go_roundw
            case rel => exact ⟨j + 1, na', nc', N2, some ⟨g1, 0, none⟩, cap1, by omega, rfl, by go_num, GSt.next HI2.out HXX.out H7.out H8.out.1.2.2 H8.out.1.2.1 HF.out.1 HF.out.2.2.1 HK.out.1 ⟨HK.out.2.1.1, HK.out.2.1.2.mono HY0.out⟩ HK.out.2.2 HF.out.2.2.2 H8.out.2⟩
            case measure => simp [intOf]; omega
          · have hjl : j = T.length := by omega
            have hFt : (flag (fun _ => false) T).take j = flag (fun _ => false) T := List.take_of_length_le (by rw [flag_len]; omega)
            have hB := HI2.out.bst
            rw [hFt] at hB
            have HB := Lib.hid hB
            have q0 := hB.a0
            have q1 := hB.a1
            have q2 := hB.fa0
            have q3 := hB.fa1
            have q4 := hB.b0
            have q5 := hB.b1
            have HJ := Lib.hid hjl
            clear hFt hB hjl
            go_wp2_with fail
            obtain ⟨z, hz⟩ : ∃ z, z = (wr.setCell ⟨h4, 0, none⟩ (.int .u64 n)).setCell ⟨h4, 1, none⟩ (.slice ea j ec) := ⟨_, rfl⟩
            have h46 : Mod wr z (OneB h4) := by
              rw [hz]; exact (Mod.set1 wr h4 0 (.int .u64 n)).setG _
            have hne : ¬ (Value.slice ea j ec).ownBlock = some h4 := fun c => by
              have := (HB.out.own _ c).1
              have := HB.out.hh.2
              omega
            have HZ : Hid (Evs z ea (flag (fun _ => false) T) ∧ Plain ea ∧ j ≤ ec ∧ Mod w z NoB) := by
              have hrow := h46.row HB.out.row (fun q hq c => hne (by rw [hq, show q = h4 from c]))
              refine ⟨evs_of_row HB.out.len.symm hrow, row_plain hrow, ?_, HB.out.mod.trans h46 (fun i hi c => by
                have h1 : i = h4 := c
                have := HB.out.hh.1
                omega)⟩
              rcases hrow.2 with ⟨hv, h0⟩ | ⟨g, c, cur, hv, _, _, h1, _⟩
              · rw [h0]; exact Nat.zero_le _
              · cases hv; exact h1
            have z0 : z.cell? ⟨h4, 0, none⟩ = some (.int .u64 n) := by
              rw [hz, World.cell?_setCell_other _ _ _ _ (by simp)]; exact World.cell?_setCell_same _ _ _ q0
            have z1 : z.cell? ⟨h4, 1, none⟩ = some (.slice ea j ec) := by
              rw [hz]; exact World.cell?_setCell_same _ _ _ (by rw [World.cell?_setCell_other _ _ _ _ (by simp)]; exact q1)
            rw [← hz]
            clear hz q0 q1 q2 q3 q4 q5 h46 hne
            exact bodyPost_ret (v := .agg #[.int .u64 n, .slice ea j ec]) (by simp [results, Tryd.results9, go_sem, z0, z1]) rfl ⟨T, t, ea, ec, by rw [← HJ.out], HTI.out.1, HTI.out.2.2, HTI.out.2.1, HZ.out.1, HZ.out.2.1, by rw [← HJ.out]; exact HZ.out.2.2.1, HZ.out.2.2.2⟩
theorem hist_any (w : World) (k : Int) (a : Option Addr) (len cap : Nat) (zs : List Int) (hk : 0 ≤ k ∧ k ≤ 255) (hA : IsRow .u8 w a len cap zs) (hlen : len ≤ 90) :
    Calls Tryd.prog 9 #[.int .u8 k, .slice a len cap] w fun r w' => ∃ T top a' cap', r = .returned (.agg #[.int .u64 (vertsOf k.toNat), .slice a' T.length cap']) ∧ Times (vertsOf k.toNat) top T ∧ top ≤ maxT ∧ T.length ≤ 40 ∧ Evs w' a' (flag (fun _ => false) T) ∧ Plain a' ∧ T.length ≤ cap' ∧ Mod w w' NoB :=
  (hist_top w k a len cap zs hk hA hlen).mono fun _ _ ⟨T, top, a', cap', h1, h2, h3, h4⟩ => ⟨T, top, a', cap', h1, h2, Int.le_of_lt h3, h4⟩
end Go.Proofs.YtggnkefhegnokaaDoor
end
