/- Merged: LfSc Args LfU -/
import Derived.Test.YtppambkffgmkgaaGreatDoorMg08
import Derived.Test.YtppambkffgmkgaaGreatDoorMg01
import Derived.OpenShut
import Derived.Laws.BytesArg
import Derived.Test.YtppambkffgmkgaaGreatDoorMg02
section
/- The statements' insert of events. -/
namespace Go.Proofs.YtppambkffgmkgaaGreatDoor
open Go.RowKit
set_option linter.unusedVariables false

set_option maxRecDepth 100000 in
set_option maxHeartbeats 8000000 in
theorem sins0 (w : World) (cap : Nat) (x : Ev) :
    Calls Tryz.prog 20 #[.slice none 0 cap, .agg #[.int .i64 x.t, .int .u32 x.e.u, .int .u32 x.e.v, .bool x.add]] w fun r w' => ∃ a' cap', r = .returned (.slice a' [x].length cap') ∧ Evs w' a' [x] ∧ (Plain a' ∧ Yg w a') ∧ [x].length ≤ cap' ∧ Mod w w' NoB := by
  obtain ⟨i0, hi, hz0, hz1, hz2⟩ := info_parts info_event2
  have hmx := mixed
  obtain ⟨h0, hh0⟩ : ∃ h0, h0 = w.heap.size := ⟨_, rfl⟩
  obtain ⟨W, hW⟩ : ∃ W, W = w.alloc (.cells #[.int .i64 x.t, .int .u32 x.e.u, .int .u32 x.e.v, .bool x.add] 62) := ⟨_, rfl⟩
  have HW : Hid (Mod w W NoB ∧ EvAt W h0 0 x) := by
    show _ ∧ _
    rw [hW, hh0]; exact ⟨(Mod.refl _ _).alloc _, World.cell?_alloc_at _ _ _ _ rfl, World.cell?_alloc_at _ _ _ _ rfl, World.cell?_alloc_at _ _ _ _ rfl, World.cell?_alloc_at _ _ _ _ rfl⟩
  go_enter Tryz.func20, Tryz.ntmps20
  go_wp2_with fail
  rw [← hW, ← hh0]
  clear hW hh0
  go_loopw [5] (fun i wr => i = .int .i64 0 ∧ Hid (Mod w wr NoB ∧ EvAt wr h0 0 x)) (fun i _ => 0)
  case atStart => exact ⟨rfl, HW.out⟩
  case round =>
      obtain ⟨rfl, HI⟩ := hrel
      obtain ⟨s0, s1, s2, s3⟩ := HI.out.2
      simp only [Nat.zero_add] at s1 s2 s3
      have HB : Hid (0 + 0 ≤ maxLen ∧ (0 + 0) * 24 ≤ 140737488355328 ∧ 0 + 1 ≤ maxLen ∧ (0 + 1) * 24 ≤ 140737488355328) := by
        unfold maxLen; exact ⟨by omega, by omega, by omega, by omega⟩
      have hone : ∀ u ∈ encV x, u.oneCell' = true := by simp [encV, Value.oneCell']
      go_upto_region 2 with (fail)
      go_quiet (fail)
      generalize hzz : World.drewN wr _ = z2
      have H6a : Hid (Mod wr z2 NoB) := by rw [← hzz]; exact (Mod.refl _ _).drewN _
      clear hzz
      go_upto_region 4 with (fail)
      go_quiet (fail)
      generalize hz4 : World.drewN z2 _ = z3
      have H7z : Hid (Mod wr z3 NoB) := by rw [← hz4]; exact H6a.out.drewN _
      clear hz4
      have H2 : Hid (Mod w z3 NoB) := HI.out.1.trans H7z.out (fun _ _ h => h)
      have t0 := keepc s0 H7z.out
      have t1 := keepc s1 H7z.out
      have t2 := keepc s2 H7z.out
      have t3 := keepc s3 H7z.out
      clear s0 s1 s2 s3
      go_upto_region 6 with (fail)
      go_region_held3 (fun z => z.cell? ⟨h0, 0, none⟩ = some (.int .i64 x.t) ∧ z.cell? ⟨h0, 1, none⟩ = some (.int .u32 x.e.u) ∧ z.cell? ⟨h0, 2, none⟩ = some (.int .u32 x.e.v) ∧ z.cell? ⟨h0, 3, none⟩ = some (.bool x.add))
        (first | exact ⟨t0, t1, t2, t3⟩ | exact ⟨keepc t0 ((Mod.drew (Mod.refl z3 NoB)).alloc _), keepc t1 ((Mod.drew (Mod.refl z3 NoB)).alloc _), keepc t2 ((Mod.drew (Mod.refl z3 NoB)).alloc _), keepc t3 ((Mod.drew (Mod.refl z3 NoB)).alloc _)⟩ | exact ⟨keepc t0 (H8.out.mod), keepc t1 (H8.out.mod), keepc t2 (H8.out.mod), keepc t3 (H8.out.mod)⟩ | exact ⟨keepc t0 (H7.out.mod), keepc t1 (H7.out.mod), keepc t2 (H7.out.mod), keepc t3 (H7.out.mod)⟩ | exact ⟨keepc t0 (H6.out.mod), keepc t1 (H6.out.mod), keepc t2 (H6.out.mod), keepc t3 (H6.out.mod)⟩ | exact ⟨keepc t0 (H6.out.mod.alloc _), keepc t1 (H6.out.mod.alloc _), keepc t2 (H6.out.mod.alloc _), keepc t3 (H6.out.mod.alloc _)⟩)
        (first
        | (refine step_append_row _ rfl _ _ 23 rfl 62 i0 (.agg #[.int .i64 0, .int .u32 0, .int .u32 0, .bool false]) 4 24 Tryz.underlying23 hi hz0 hz1 hz2 rfl (by decide) (.slice none 0 0) 0 [] rfl (World.ownsRow_nil _ _ _ _) _ 0 _ [] rfl rfl (no_news rfl) (fun u hu => by cases hu) HB.out.1 HB.out.2.1 ?_
           intro v6 w6 hown6 hgrow6 hat6
           have H6 := Lib.hid ((New.first hown6 hgrow6 hat6).from (Mod.drew (Mod.refl z3 NoB)))
           clear hown6 hgrow6 hat6)
        | (refine step_append_row _ rfl _ _ 23 rfl 62 i0 (.agg #[.int .i64 0, .int .u32 0, .int .u32 0, .bool false]) 4 24 Tryz.underlying23 hi hz0 hz1 hz2 rfl (by decide) (.slice none 0 0) 0 [] rfl (World.ownsRow_nil _ _ _ _) _ 0 _ [] rfl rfl (no_news rfl) (fun u hu => by cases hu) HB.out.1 HB.out.2.1 ?_
           intro v6 w6 hown6 hgrow6 hat6
           have HBk := Lib.hid (built_kept (w := z3) hgrow6)
           have H6 := Lib.hid ((New.first hown6 hgrow6 hat6).from (Mod.drew (Mod.alloc (Mod.refl z3 NoB) _)))
           clear hown6 hgrow6 hat6)
        | (refine step_append_row _ rfl _ _ 23 rfl 62 i0 (.agg #[.int .i64 0, .int .u32 0, .int .u32 0, .bool false]) 4 24 Tryz.underlying23 hi hz0 hz1 hz2 rfl (by decide) v6 0 _ rfl (H6.out.row.alloc _) _ 1 _ (encV x) rfl rfl (fun j u hu => ⟨_, rfl, World.news_of_block (MapKept.heap_alloc _ _).1 j u hu⟩) hone HB.out.2.2.1 HB.out.2.2.2 ?_
           intro v7 w7 hown7 hgrow7 hat7
           have H7 := Lib.hid ((H6.out.alloc _).more hown7 hgrow7 hat7)
           clear hown7 hgrow7 hat7)
        | (refine step_append_row _ rfl _ _ 23 rfl 62 i0 (.agg #[.int .i64 0, .int .u32 0, .int .u32 0, .bool false]) 4 24 Tryz.underlying23 hi hz0 hz1 hz2 rfl (by decide) v6 0 _ rfl H6.out.row _ 1 _ (encV x) rfl rfl (fun j u hu => ⟨_, rfl, World.news_of_block HBk.out j u hu⟩) hone HB.out.2.2.1 HB.out.2.2.2 ?_
           intro v7 w7 hown7 hgrow7 hat7
           have H7 := Lib.hid (H6.out.more hown7 hgrow7 hat7)
           clear hown7 hgrow7 hat7)
        | (refine step_append_row _ rfl _ _ 23 rfl 62 i0 (.agg #[.int .i64 0, .int .u32 0, .int .u32 0, .bool false]) 4 24 Tryz.underlying23 hi hz0 hz1 hz2 rfl (by decide) v7 (0 + 1) _ rfl H7.out.row _ 0 _ [] rfl rfl (no_news rfl) (fun u hu => by cases hu) HB.out.2.2.1 HB.out.2.2.2 ?_
           intro v8 w8 hown8 hgrow8 hat8
           have H8 := Lib.hid (H7.out.more hown8 hgrow8 hat8)
           clear hown8 hgrow8 hat8))
      all_goals
        rw [show (([] : List Value) ++ encV x) ++ [] = [x].flatMap encV by simp] at H8
        obtain ⟨a', cap', rfl, k1, k2, k3⟩ := H8.out.events rfl
        have HF8 := Lib.hid (And.intro k1 (And.intro k2 (And.intro k3 H8.out.mod)))
        clear k1 k2 k3
        go_wp2_with fail
        all_goals go_ret
        all_goals exact ⟨a', cap', rfl, HF8.out.1, ⟨HF8.out.2.1.1, HF8.out.2.1.2.mono H2.out.size⟩, HF8.out.2.2.1, H2.out.trans HF8.out.2.2.2 (fun _ _ h => h)⟩

set_option maxRecDepth 100000 in
set_option maxHeartbeats 8000000 in
theorem sins1 (w : World) (b off cap : Nat) (l : List Ev) (x : Ev) (hL : Evs w (some ⟨b, off, none⟩) l) (hl : l.length ≤ 100000) (hcap : l.length ≤ cap) (hso : l.Pairwise before) (hadd : ∀ y ∈ l, y.add = x.add) :
    Calls Tryz.prog 20 #[.slice (some ⟨b, off, none⟩) l.length cap, .agg #[.int .i64 x.t, .int .u32 x.e.u, .int .u32 x.e.v, .bool x.add]] w fun r w' => ∃ a' cap', r = .returned (.slice a' (putNew x l).length cap') ∧ Evs w' a' (putNew x l) ∧ (Plain a' ∧ (a' = some ⟨b, off, none⟩ ∨ Yg w a')) ∧ (putNew x l).length ≤ cap' ∧ Mod w w' NoB := by
  have HL := Lib.hid hL
  have HSO := Lib.hid (And.intro hso hadd)
  clear hso hadd
  clear hL
  obtain ⟨i0, hi, hz0, hz1, hz2⟩ := info_parts info_event2
  have hmx := mixed
  obtain ⟨h0, hh0⟩ : ∃ h0, h0 = w.heap.size := ⟨_, rfl⟩
  obtain ⟨W, hW⟩ : ∃ W, W = w.alloc (.cells #[.int .i64 x.t, .int .u32 x.e.u, .int .u32 x.e.v, .bool x.add] 62) := ⟨_, rfl⟩
  have HW : Hid (Mod w W NoB ∧ EvAt W h0 0 x) := by
    show _ ∧ _
    rw [hW, hh0]; exact ⟨(Mod.refl _ _).alloc _, World.cell?_alloc_at _ _ _ _ rfl, World.cell?_alloc_at _ _ _ _ rfl, World.cell?_alloc_at _ _ _ _ rfl, World.cell?_alloc_at _ _ _ _ rfl⟩
  go_enter Tryz.func20, Tryz.ntmps20
  go_wp2_with fail
  rw [← hW, ← hh0]
  clear hW hh0
  go_loopw [5] (fun i wr => ∃ k : Nat, k ≤ l.length ∧ i = .int .i64 k ∧ Hid (Mod w wr NoB ∧ EvAt wr h0 0 x ∧ ∀ (j : Nat) (y : Ev), k ≤ j → l[j]? = some y → before x y)) (fun i _ => (intOf i).toNat)
  case atStart => exact ⟨l.length, Nat.le_refl _, rfl, HW.out.1, HW.out.2, fun j y hj hy => by rw [List.getElem?_eq_none hj] at hy; cases hy⟩
  case round =>
    obtain ⟨k, hk, rfl, HI⟩ := hrel
    obtain ⟨s0, s1, s2, s3⟩ := HI.out.2.1
    simp only [Nat.zero_add] at s1 s2 s3
    by_cases hcont : ∃ (j : Nat) (y : Ev), k = j + 1 ∧ l[j]? = some y ∧ before x y
    · obtain ⟨j, y, hkj, hy, hlt⟩ := hcont
      subst hkj
      have hjl := (List.getElem?_eq_some_iff.1 hy).1
      obtain ⟨b', off', y', hab, hbw, hy', hC⟩ := (HL.out.mod HI.out.1).at hjl
      cases hab
      have : y' = y := Option.some.inj (hy'.symm.trans hy)
      subst this
      obtain ⟨c0, c1, c2, c3⟩ := hC
      have hji : (j : Int) < l.length := by omega
      have hkp : (0 : Int) < (j : Int) + 1 := by omega
      have hkd : decide ((0 : Int) < (j : Int) + 1) = true := decide_eq_true hkp
      have hw1 : IntKind.i64.wrap ((j : Int) + 1 - 1) = (j : Int) := by rw [IntWalk.i64_in _ (by omega)]; omega
      have hw2 : IntKind.i64.wrap (j : Int) = (j : Int) := IntWalk.i64_in _ (by omega)
      have HB : Hid (∀ z, Calls Tryz.prog 51 #[.agg #[.int .i64 x.t, .int .u32 x.e.u, .int .u32 x.e.v, .bool x.add], .agg #[.int .i64 y'.t, .int .u32 y'.e.u, .int .u32 y'.e.v, .bool y'.add]] z fun r w' => r = .returned (.bool true) ∧ Grw z w') := fun z => by
        have := rbefore_grw z x.t x.e.u x.e.v y'.t y'.e.u y'.e.v x.add y'.add
        rwa [show decide (before ⟨x.t, ⟨x.e.u, x.e.v⟩, x.add⟩ ⟨y'.t, ⟨y'.e.u, y'.e.v⟩, y'.add⟩) = true by simpa using hlt] at this
      have HN : Hid (∀ (i : Nat) (y : Ev), j ≤ i → l[i]? = some y → before x y) := fun i z hj hz => by
        rcases Nat.lt_or_ge j i with h | h
        · exact HI.out.2.2 i z (by omega) hz
        · have : i = j := by omega
          subst this; rw [hy] at hz; cases hz; exact hlt
      have g0 := cg c0
      have g1 := cg c1
      have g2 := cg c2
      have g3 := cg c3
      have f0 := cg s0
      have f1 := cg s1
      have f2 := cg s2
      have f3 := cg s3
      clear hy hy' hlt hbw
      go_upto_region 2 with (fail)
      go_quiet_grown ((go_at_call 51; exact Calls.byGrw (HB.out _)))
      have H6 := Lib.hid (Grw.grown wr nq osq).mod
      go_wp2_with fail
      go_roundw
      case rel => exact ⟨j, by omega, rfl, HI.out.1.trans H6.out (fun _ _ h => h), HI.out.2.1.mod H6.out, HN.out⟩
      case measure => simp [intOf]
    · have hsp : putR before x l = l.take k ++ x :: l.drop k := putR_split hk HI.out.2.2 (fun j y hj hy hlt => hcont ⟨j, y, hj, hy, hlt⟩)
      have HER : Hid (((l.take k).flatMap encV ++ encV x) ++ (l.drop k).flatMap encV = (putR before x l).flatMap encV ∧ k + 1 + (l.length - k) = (putR before x l).length) := by
        rw [hsp]
        refine ⟨by simp, by simp; omega⟩
      have HB : Hid (0 + k ≤ maxLen ∧ (0 + k) * 24 ≤ 140737488355328 ∧ k + 1 ≤ maxLen ∧ (k + 1) * 24 ≤ 140737488355328 ∧ k + 1 + (l.length - k) ≤ maxLen ∧ (k + 1 + (l.length - k)) * 24 ≤ 140737488355328) := by
        unfold maxLen; exact ⟨by omega, by omega, by omega, by omega, by omega, by omega⟩
      have hone : ∀ u ∈ encV x, u.oneCell' = true := by simp [encV, Value.oneCell']
      have hout : Hid (∀ (j : Nat) (y : Ev), k = j + 1 → l[j]? = some y → ¬ before x y) := fun j y hj hy hlt => hcont ⟨j, y, hj, hy, hlt⟩
      clear hcont hsp
      go_upto_region 2 with (fail)
      by_cases hk0 : 0 < k
      focus
        obtain ⟨j, hkj⟩ : ∃ j, k = j + 1 := ⟨k - 1, by omega⟩
        subst hkj
        obtain ⟨b', off', y, hab, hbw, hy, hC⟩ := (HL.out.mod HI.out.1).at (show j < l.length by omega)
        cases hab
        obtain ⟨c0, c1, c2, c3⟩ := hC
        have hji : (j : Int) < l.length := by omega
        have hkp : (0 : Int) < (j : Int) + 1 := by omega
        have hkd : decide ((0 : Int) < (j : Int) + 1) = true := decide_eq_true hkp
        have hw1 : IntKind.i64.wrap ((j : Int) + 1 - 1) = (j : Int) := by rw [IntWalk.i64_in _ (by omega)]; omega
        have hw2 : IntKind.i64.wrap (j : Int) = (j : Int) := IntWalk.i64_in _ (by omega)
        have HLs : Hid (∀ z, Calls Tryz.prog 51 #[.agg #[.int .i64 x.t, .int .u32 x.e.u, .int .u32 x.e.v, .bool x.add], .agg #[.int .i64 y.t, .int .u32 y.e.u, .int .u32 y.e.v, .bool y.add]] z fun r w' => r = .returned (.bool false) ∧ Grw z w') := fun z => by
          have := rbefore_grw z x.t x.e.u x.e.v y.t y.e.u y.e.v x.add y.add
          rwa [show decide (before ⟨x.t, ⟨x.e.u, x.e.v⟩, x.add⟩ ⟨y.t, ⟨y.e.u, y.e.v⟩, y.add⟩) = false by simpa using hout.out j y rfl hy] at this
        have g0 := cg c0
        have g1 := cg c1
        have g2 := cg c2
        have g3 := cg c3
        have f0 := cg s0
        have f1 := cg s1
        have f2 := cg s2
        have f3 := cg s3
        have HY := Lib.hid hy
        clear hbw hy
        go_quiet_grown ((go_at_call 51; exact Calls.byGrw (HLs.out _)))
        generalize hzz : Go.Sort.grow (World.drewN wr _) _ = z3
        have H6 : Hid (Mod wr z3 NoB) := by rw [← hzz]; exact (Grw.grown wr _ _).mod
        clear hzz g0 g1 g2 g3 f0 f1 f2 f3
        have cz0 := keepc c0 H6.out
        have cz1 := keepc c1 H6.out
        have cz2 := keepc c2 H6.out
        have cz3 := keepc c3 H6.out
        have sz0 := keepc s0 H6.out
        have sz1 := keepc s1 H6.out
        have sz2 := keepc s2 H6.out
        have sz3 := keepc s3 H6.out
        clear c0 c1 c2 c3
        have HNM : Hid (¬ (y.t = x.t ∧ y.e = x.e) → putNew x l = putR before x l) := fun hne => by
          unfold putNew
          refine if_neg (fun hm => ?_)
          obtain ⟨i, hi⟩ := List.mem_iff_getElem?.1 hm
          obtain ⟨p1, p2⟩ := List.getElem?_eq_some_iff.1 hi
          obtain ⟨q1, q2⟩ := List.getElem?_eq_some_iff.1 HY.out
          rcases Nat.lt_trichotomy i j with c | c | c
          · have := List.pairwise_iff_getElem.1 HSO.out.1 i j p1 q1 c
            rw [p2, q2] at this
            exact hout.out j y rfl HY.out this
          · subst c
            rw [hi] at HY
            have := Option.some.inj HY.out
            exact hne ⟨by rw [← this], by rw [← this]⟩
          · exact before_irrefl x (HI.out.2.2 i x (by omega) hi)
        go_upto_region 4 with (fail)
        by_cases e1 : y.t = x.t
        · by_cases e2 : y.e.u = x.e.u
          · by_cases e3 : y.e.v = x.e.v
            · have hyx : y = x := by
                have h1 := HSO.out.2 y (List.mem_of_getElem? HY.out)
                exact ev_ext e1 (Ed.ext' e2 e3) h1
              have hpl : putNew x l = l := by
                unfold putNew
                exact if_pos (hyx ▸ List.mem_of_getElem? HY.out)
              rw [e1] at cz0
              rw [e2] at cz1
              rw [e3] at cz2
              go_quiet (fail)
              generalize hz4 : World.drewN z3 _ = z4
              have H6b : Hid (Mod wr z4 NoB) := by rw [← hz4]; exact H6.out.drewN _
              clear hz4 e1 e2 e3 hyx
              go_wp2_with fail
              go_ret
              have hMM := HI.out.1.trans H6b.out (fun _ _ h => h)
              exact ⟨some ⟨b, off, none⟩, cap, by rw [hpl]; rfl, by rw [hpl]; exact HL.out.mod hMM, ⟨Or.inr ⟨b, off, rfl⟩, Or.inl rfl⟩, by rw [hpl]; exact hcap, hMM⟩
            · have HP : Hid (putNew x l = putR before x l) := HNM.out (fun c => e3 (by rw [c.2]))
              rw [e1] at cz0
              rw [e2] at cz1
              have hq4 := show (y.e.v == x.e.v) = false by simpa using e3
              go_quiet (fail)
              generalize hz4 : World.drewN z3 _ = z4
              have H6b : Hid (Mod wr z4 NoB) := by rw [← hz4]; exact H6.out.drewN _
              clear hz4 hq4 cz0 cz1 cz2 cz3 sz0 sz1 sz2 sz3
              have H2 : Hid (Mod w z4 NoB) := HI.out.1.trans H6b.out (fun _ _ h => h)
              have t0 := keepc s0 H6b.out
              have t1 := keepc s1 H6b.out
              have t2 := keepc s2 H6b.out
              have t3 := keepc s3 H6b.out
              clear s0 s1 s2 s3 H6b
              go_upto_region 6 with (fail)
              have HE : Hid (∀ z, Mod z4 z NoB → ∀ (i : Nat) (y : Ev), l[i]? = some y → EvAt z b (off + i * 4) y) := fun z hz i y hx => by
                rcases (HL.out.mod H2.out).mod hz with h | ⟨b', off', hab, _, h⟩
                · rw [h] at hx; simp at hx
                · cases hab; exact h i y hx
              obtain ⟨q, hq⟩ : ∃ q : Nat, j + 1 = q := ⟨_, rfl⟩
              rw [show ((j : Int) + 1) = (q : Int) by omega]
              rw [hq] at HER HB hk
              have hkc : q ≤ cap := by omega
              have hkci : (q : Int) ≤ cap := by omega
              have hkl2 : (q : Int) ≤ l.length := by omega
              have hk0' : (0 : Int) ≤ (q : Int) := by omega
              have hlc : (l.length : Int) ≤ cap := by omega
              have HN : Hid (((l.take q).flatMap encV).length = q * 4 ∧ (∀ z, Mod z4 z NoB → ∀ (j : Nat) (u : Value), ((l.take q).flatMap encV)[j]? = some u → ∃ ad, (some ⟨b, off, none⟩ : Option Addr) = some ad ∧ z.cell? (ad.add j) = some u) ∧
                  ((l.drop q).flatMap encV).length = (l.length - q) * 4 ∧ (∀ z, Mod z4 z NoB → ∀ (j : Nat) (u : Value), ((l.drop q).flatMap encV)[j]? = some u → ∃ ad, (if cap = q then some ⟨b, off, none⟩ else some ⟨b, off + q * 4, none⟩ : Option Addr) = some ad ∧ z.cell? (ad.add j) = some u)) := by
                refine ⟨by rw [enc4_len encV_len]; simp; omega, fun z hz => evs_news (p := 0) (HE.out z hz) (by omega), by rw [enc4_len encV_len]; simp, fun z hz j u hu => ?_⟩
                by_cases hce : cap = q
                · rw [List.drop_eq_nil_of_le (by omega)] at hu; simp at hu
                · have := evs_news (p := q) (m := l.length) (HE.out z hz) rfl j u
                  rw [List.take_of_length_le (by simp)] at this
                  rw [if_neg hce]
                  exact this hu
              go_region_held3 (fun z => z.cell? ⟨h0, 0, none⟩ = some (.int .i64 x.t) ∧ z.cell? ⟨h0, 1, none⟩ = some (.int .u32 x.e.u) ∧ z.cell? ⟨h0, 2, none⟩ = some (.int .u32 x.e.v) ∧ z.cell? ⟨h0, 3, none⟩ = some (.bool x.add))
                (first | exact ⟨t0, t1, t2, t3⟩ | exact ⟨keepc t0 ((Mod.drew (Mod.refl z4 NoB)).alloc _), keepc t1 ((Mod.drew (Mod.refl z4 NoB)).alloc _), keepc t2 ((Mod.drew (Mod.refl z4 NoB)).alloc _), keepc t3 ((Mod.drew (Mod.refl z4 NoB)).alloc _)⟩ | exact ⟨keepc t0 (H8.out.mod), keepc t1 (H8.out.mod), keepc t2 (H8.out.mod), keepc t3 (H8.out.mod)⟩ | exact ⟨keepc t0 (H7.out.mod), keepc t1 (H7.out.mod), keepc t2 (H7.out.mod), keepc t3 (H7.out.mod)⟩ | exact ⟨keepc t0 (H6.out.mod), keepc t1 (H6.out.mod), keepc t2 (H6.out.mod), keepc t3 (H6.out.mod)⟩ | exact ⟨keepc t0 (H6.out.mod.alloc _), keepc t1 (H6.out.mod.alloc _), keepc t2 (H6.out.mod.alloc _), keepc t3 (H6.out.mod.alloc _)⟩)
                (first
                | (refine step_append_row _ rfl _ _ 23 rfl 62 i0 (.agg #[.int .i64 0, .int .u32 0, .int .u32 0, .bool false]) 4 24 Tryz.underlying23 hi hz0 hz1 hz2 rfl (by decide) (.slice none 0 0) 0 [] rfl (World.ownsRow_nil _ _ _ _) _ q _ ((l.take q).flatMap encV) rfl HN.out.1 (HN.out.2.1 _ (Mod.drew (Mod.refl _ _))) (encV_one _) HB.out.1 HB.out.2.1 ?_
                   intro v6 w6 hown6 hgrow6 hat6
                   have H6 := Lib.hid ((New.first hown6 hgrow6 hat6).from (Mod.drew (Mod.refl z4 NoB)))
                   clear hown6 hgrow6 hat6)
                | (refine step_append_row _ rfl _ _ 23 rfl 62 i0 (.agg #[.int .i64 0, .int .u32 0, .int .u32 0, .bool false]) 4 24 Tryz.underlying23 hi hz0 hz1 hz2 rfl (by decide) (.slice none 0 0) 0 [] rfl (World.ownsRow_nil _ _ _ _) _ q _ ((l.take q).flatMap encV) rfl HN.out.1 (HN.out.2.1 _ (Mod.drew (Mod.alloc (Mod.refl _ _) _))) (encV_one _) HB.out.1 HB.out.2.1 ?_
                   intro v6 w6 hown6 hgrow6 hat6
                   have HBk := Lib.hid (built_kept (w := z4) hgrow6)
                   have H6 := Lib.hid ((New.first hown6 hgrow6 hat6).from (Mod.drew (Mod.alloc (Mod.refl z4 NoB) _)))
                   clear hown6 hgrow6 hat6)
                | (refine step_append_row _ rfl _ _ 23 rfl 62 i0 (.agg #[.int .i64 0, .int .u32 0, .int .u32 0, .bool false]) 4 24 Tryz.underlying23 hi hz0 hz1 hz2 rfl (by decide) v6 q _ rfl (H6.out.row.alloc _) _ 1 _ (encV x) rfl rfl (fun j u hu => ⟨_, rfl, World.news_of_block (MapKept.heap_alloc _ _).1 j u hu⟩) hone HB.out.2.2.1 HB.out.2.2.2.1 ?_
                   intro v7 w7 hown7 hgrow7 hat7
                   have H7 := Lib.hid ((H6.out.alloc _).more hown7 hgrow7 hat7)
                   clear hown7 hgrow7 hat7)
                | (refine step_append_row _ rfl _ _ 23 rfl 62 i0 (.agg #[.int .i64 0, .int .u32 0, .int .u32 0, .bool false]) 4 24 Tryz.underlying23 hi hz0 hz1 hz2 rfl (by decide) v6 q _ rfl H6.out.row _ 1 _ (encV x) rfl rfl (fun j u hu => ⟨_, rfl, World.news_of_block HBk.out j u hu⟩) hone HB.out.2.2.1 HB.out.2.2.2.1 ?_
                   intro v7 w7 hown7 hgrow7 hat7
                   have H7 := Lib.hid (H6.out.more hown7 hgrow7 hat7)
                   clear hown7 hgrow7 hat7)
                | (refine step_append_row _ rfl _ _ 23 rfl 62 i0 (.agg #[.int .i64 0, .int .u32 0, .int .u32 0, .bool false]) 4 24 Tryz.underlying23 hi hz0 hz1 hz2 rfl (by decide) v7 (q + 1) _ rfl H7.out.row _ (l.length - q) _ ((l.drop q).flatMap encV) rfl HN.out.2.2.1 (HN.out.2.2.2 _ H7.out.mod) (encV_one _) HB.out.2.2.2.2.1 HB.out.2.2.2.2.2 ?_
                   intro v8 w8 hown8 hgrow8 hat8
                   have H8 := Lib.hid (H7.out.more hown8 hgrow8 hat8)
                   clear hown8 hgrow8 hat8))
              all_goals
                rw [HER.out.1] at H8
                obtain ⟨a', cap', rfl, k1, k2, k3⟩ := H8.out.events HER.out.2
                have HF8 := Lib.hid (And.intro k1 (And.intro k2 (And.intro k3 H8.out.mod)))
                clear k1 k2 k3
                go_wp2_with fail
                all_goals go_ret
                all_goals (rw [HP.out]; exact ⟨a', cap', rfl, HF8.out.1, ⟨HF8.out.2.1.1, Or.inr (HF8.out.2.1.2.mono H2.out.size)⟩, HF8.out.2.2.1, H2.out.trans HF8.out.2.2.2 (fun _ _ h => h)⟩)
          · have HP : Hid (putNew x l = putR before x l) := HNM.out (fun c => e2 (by rw [c.2]))
            rw [e1] at cz0
            have hq4 := show (y.e.u == x.e.u) = false by simpa using e2
            go_quiet (fail)
            generalize hz4 : World.drewN z3 _ = z4
            have H6b : Hid (Mod wr z4 NoB) := by rw [← hz4]; exact H6.out.drewN _
            clear hz4 hq4 cz0 cz1 cz2 cz3 sz0 sz1 sz2 sz3
            have H2 : Hid (Mod w z4 NoB) := HI.out.1.trans H6b.out (fun _ _ h => h)
            have t0 := keepc s0 H6b.out
            have t1 := keepc s1 H6b.out
            have t2 := keepc s2 H6b.out
            have t3 := keepc s3 H6b.out
            clear s0 s1 s2 s3 H6b
            go_upto_region 6 with (fail)
            have HE : Hid (∀ z, Mod z4 z NoB → ∀ (i : Nat) (y : Ev), l[i]? = some y → EvAt z b (off + i * 4) y) := fun z hz i y hx => by
              rcases (HL.out.mod H2.out).mod hz with h | ⟨b', off', hab, _, h⟩
              · rw [h] at hx; simp at hx
              · cases hab; exact h i y hx
            obtain ⟨q, hq⟩ : ∃ q : Nat, j + 1 = q := ⟨_, rfl⟩
            rw [show ((j : Int) + 1) = (q : Int) by omega]
            rw [hq] at HER HB hk
            have hkc : q ≤ cap := by omega
            have hkci : (q : Int) ≤ cap := by omega
            have hkl2 : (q : Int) ≤ l.length := by omega
            have hk0' : (0 : Int) ≤ (q : Int) := by omega
            have hlc : (l.length : Int) ≤ cap := by omega
            have HN : Hid (((l.take q).flatMap encV).length = q * 4 ∧ (∀ z, Mod z4 z NoB → ∀ (j : Nat) (u : Value), ((l.take q).flatMap encV)[j]? = some u → ∃ ad, (some ⟨b, off, none⟩ : Option Addr) = some ad ∧ z.cell? (ad.add j) = some u) ∧
                ((l.drop q).flatMap encV).length = (l.length - q) * 4 ∧ (∀ z, Mod z4 z NoB → ∀ (j : Nat) (u : Value), ((l.drop q).flatMap encV)[j]? = some u → ∃ ad, (if cap = q then some ⟨b, off, none⟩ else some ⟨b, off + q * 4, none⟩ : Option Addr) = some ad ∧ z.cell? (ad.add j) = some u)) := by
              refine ⟨by rw [enc4_len encV_len]; simp; omega, fun z hz => evs_news (p := 0) (HE.out z hz) (by omega), by rw [enc4_len encV_len]; simp, fun z hz j u hu => ?_⟩
              by_cases hce : cap = q
              · rw [List.drop_eq_nil_of_le (by omega)] at hu; simp at hu
              · have := evs_news (p := q) (m := l.length) (HE.out z hz) rfl j u
                rw [List.take_of_length_le (by simp)] at this
                rw [if_neg hce]
                exact this hu
            go_region_held3 (fun z => z.cell? ⟨h0, 0, none⟩ = some (.int .i64 x.t) ∧ z.cell? ⟨h0, 1, none⟩ = some (.int .u32 x.e.u) ∧ z.cell? ⟨h0, 2, none⟩ = some (.int .u32 x.e.v) ∧ z.cell? ⟨h0, 3, none⟩ = some (.bool x.add))
              (first | exact ⟨t0, t1, t2, t3⟩ | exact ⟨keepc t0 ((Mod.drew (Mod.refl z4 NoB)).alloc _), keepc t1 ((Mod.drew (Mod.refl z4 NoB)).alloc _), keepc t2 ((Mod.drew (Mod.refl z4 NoB)).alloc _), keepc t3 ((Mod.drew (Mod.refl z4 NoB)).alloc _)⟩ | exact ⟨keepc t0 (H8.out.mod), keepc t1 (H8.out.mod), keepc t2 (H8.out.mod), keepc t3 (H8.out.mod)⟩ | exact ⟨keepc t0 (H7.out.mod), keepc t1 (H7.out.mod), keepc t2 (H7.out.mod), keepc t3 (H7.out.mod)⟩ | exact ⟨keepc t0 (H6.out.mod), keepc t1 (H6.out.mod), keepc t2 (H6.out.mod), keepc t3 (H6.out.mod)⟩ | exact ⟨keepc t0 (H6.out.mod.alloc _), keepc t1 (H6.out.mod.alloc _), keepc t2 (H6.out.mod.alloc _), keepc t3 (H6.out.mod.alloc _)⟩)
              (first
              | (refine step_append_row _ rfl _ _ 23 rfl 62 i0 (.agg #[.int .i64 0, .int .u32 0, .int .u32 0, .bool false]) 4 24 Tryz.underlying23 hi hz0 hz1 hz2 rfl (by decide) (.slice none 0 0) 0 [] rfl (World.ownsRow_nil _ _ _ _) _ q _ ((l.take q).flatMap encV) rfl HN.out.1 (HN.out.2.1 _ (Mod.drew (Mod.refl _ _))) (encV_one _) HB.out.1 HB.out.2.1 ?_
                 intro v6 w6 hown6 hgrow6 hat6
                 have H6 := Lib.hid ((New.first hown6 hgrow6 hat6).from (Mod.drew (Mod.refl z4 NoB)))
                 clear hown6 hgrow6 hat6)
              | (refine step_append_row _ rfl _ _ 23 rfl 62 i0 (.agg #[.int .i64 0, .int .u32 0, .int .u32 0, .bool false]) 4 24 Tryz.underlying23 hi hz0 hz1 hz2 rfl (by decide) (.slice none 0 0) 0 [] rfl (World.ownsRow_nil _ _ _ _) _ q _ ((l.take q).flatMap encV) rfl HN.out.1 (HN.out.2.1 _ (Mod.drew (Mod.alloc (Mod.refl _ _) _))) (encV_one _) HB.out.1 HB.out.2.1 ?_
                 intro v6 w6 hown6 hgrow6 hat6
                 have HBk := Lib.hid (built_kept (w := z4) hgrow6)
                 have H6 := Lib.hid ((New.first hown6 hgrow6 hat6).from (Mod.drew (Mod.alloc (Mod.refl z4 NoB) _)))
                 clear hown6 hgrow6 hat6)
              | (refine step_append_row _ rfl _ _ 23 rfl 62 i0 (.agg #[.int .i64 0, .int .u32 0, .int .u32 0, .bool false]) 4 24 Tryz.underlying23 hi hz0 hz1 hz2 rfl (by decide) v6 q _ rfl (H6.out.row.alloc _) _ 1 _ (encV x) rfl rfl (fun j u hu => ⟨_, rfl, World.news_of_block (MapKept.heap_alloc _ _).1 j u hu⟩) hone HB.out.2.2.1 HB.out.2.2.2.1 ?_
                 intro v7 w7 hown7 hgrow7 hat7
                 have H7 := Lib.hid ((H6.out.alloc _).more hown7 hgrow7 hat7)
                 clear hown7 hgrow7 hat7)
              | (refine step_append_row _ rfl _ _ 23 rfl 62 i0 (.agg #[.int .i64 0, .int .u32 0, .int .u32 0, .bool false]) 4 24 Tryz.underlying23 hi hz0 hz1 hz2 rfl (by decide) v6 q _ rfl H6.out.row _ 1 _ (encV x) rfl rfl (fun j u hu => ⟨_, rfl, World.news_of_block HBk.out j u hu⟩) hone HB.out.2.2.1 HB.out.2.2.2.1 ?_
                 intro v7 w7 hown7 hgrow7 hat7
                 have H7 := Lib.hid (H6.out.more hown7 hgrow7 hat7)
                 clear hown7 hgrow7 hat7)
              | (refine step_append_row _ rfl _ _ 23 rfl 62 i0 (.agg #[.int .i64 0, .int .u32 0, .int .u32 0, .bool false]) 4 24 Tryz.underlying23 hi hz0 hz1 hz2 rfl (by decide) v7 (q + 1) _ rfl H7.out.row _ (l.length - q) _ ((l.drop q).flatMap encV) rfl HN.out.2.2.1 (HN.out.2.2.2 _ H7.out.mod) (encV_one _) HB.out.2.2.2.2.1 HB.out.2.2.2.2.2 ?_
                 intro v8 w8 hown8 hgrow8 hat8
                 have H8 := Lib.hid (H7.out.more hown8 hgrow8 hat8)
                 clear hown8 hgrow8 hat8))
            all_goals
              rw [HER.out.1] at H8
              obtain ⟨a', cap', rfl, k1, k2, k3⟩ := H8.out.events HER.out.2
              have HF8 := Lib.hid (And.intro k1 (And.intro k2 (And.intro k3 H8.out.mod)))
              clear k1 k2 k3
              go_wp2_with fail
              all_goals go_ret
              all_goals (rw [HP.out]; exact ⟨a', cap', rfl, HF8.out.1, ⟨HF8.out.2.1.1, Or.inr (HF8.out.2.1.2.mono H2.out.size)⟩, HF8.out.2.2.1, H2.out.trans HF8.out.2.2.2 (fun _ _ h => h)⟩)
        · have HP : Hid (putNew x l = putR before x l) := HNM.out (fun c => e1 c.1)
          have hq4 := show (y.t == x.t) = false by simpa using e1
          go_quiet (fail)
          generalize hz4 : World.drewN z3 _ = z4
          have H6b : Hid (Mod wr z4 NoB) := by rw [← hz4]; exact H6.out.drewN _
          clear hz4 hq4 cz0 cz1 cz2 cz3 sz0 sz1 sz2 sz3
          have H2 : Hid (Mod w z4 NoB) := HI.out.1.trans H6b.out (fun _ _ h => h)
          have t0 := keepc s0 H6b.out
          have t1 := keepc s1 H6b.out
          have t2 := keepc s2 H6b.out
          have t3 := keepc s3 H6b.out
          clear s0 s1 s2 s3 H6b
          go_upto_region 6 with (fail)
          have HE : Hid (∀ z, Mod z4 z NoB → ∀ (i : Nat) (y : Ev), l[i]? = some y → EvAt z b (off + i * 4) y) := fun z hz i y hx => by
            rcases (HL.out.mod H2.out).mod hz with h | ⟨b', off', hab, _, h⟩
            · rw [h] at hx; simp at hx
            · cases hab; exact h i y hx
          obtain ⟨q, hq⟩ : ∃ q : Nat, j + 1 = q := ⟨_, rfl⟩
          rw [show ((j : Int) + 1) = (q : Int) by omega]
          rw [hq] at HER HB hk
          have hkc : q ≤ cap := by omega
          have hkci : (q : Int) ≤ cap := by omega
          have hkl2 : (q : Int) ≤ l.length := by omega
          have hk0' : (0 : Int) ≤ (q : Int) := by omega
          have hlc : (l.length : Int) ≤ cap := by omega
          have HN : Hid (((l.take q).flatMap encV).length = q * 4 ∧ (∀ z, Mod z4 z NoB → ∀ (j : Nat) (u : Value), ((l.take q).flatMap encV)[j]? = some u → ∃ ad, (some ⟨b, off, none⟩ : Option Addr) = some ad ∧ z.cell? (ad.add j) = some u) ∧
              ((l.drop q).flatMap encV).length = (l.length - q) * 4 ∧ (∀ z, Mod z4 z NoB → ∀ (j : Nat) (u : Value), ((l.drop q).flatMap encV)[j]? = some u → ∃ ad, (if cap = q then some ⟨b, off, none⟩ else some ⟨b, off + q * 4, none⟩ : Option Addr) = some ad ∧ z.cell? (ad.add j) = some u)) := by
            refine ⟨by rw [enc4_len encV_len]; simp; omega, fun z hz => evs_news (p := 0) (HE.out z hz) (by omega), by rw [enc4_len encV_len]; simp, fun z hz j u hu => ?_⟩
            by_cases hce : cap = q
            · rw [List.drop_eq_nil_of_le (by omega)] at hu; simp at hu
            · have := evs_news (p := q) (m := l.length) (HE.out z hz) rfl j u
              rw [List.take_of_length_le (by simp)] at this
              rw [if_neg hce]
              exact this hu
          go_region_held3 (fun z => z.cell? ⟨h0, 0, none⟩ = some (.int .i64 x.t) ∧ z.cell? ⟨h0, 1, none⟩ = some (.int .u32 x.e.u) ∧ z.cell? ⟨h0, 2, none⟩ = some (.int .u32 x.e.v) ∧ z.cell? ⟨h0, 3, none⟩ = some (.bool x.add))
            (first | exact ⟨t0, t1, t2, t3⟩ | exact ⟨keepc t0 ((Mod.drew (Mod.refl z4 NoB)).alloc _), keepc t1 ((Mod.drew (Mod.refl z4 NoB)).alloc _), keepc t2 ((Mod.drew (Mod.refl z4 NoB)).alloc _), keepc t3 ((Mod.drew (Mod.refl z4 NoB)).alloc _)⟩ | exact ⟨keepc t0 (H8.out.mod), keepc t1 (H8.out.mod), keepc t2 (H8.out.mod), keepc t3 (H8.out.mod)⟩ | exact ⟨keepc t0 (H7.out.mod), keepc t1 (H7.out.mod), keepc t2 (H7.out.mod), keepc t3 (H7.out.mod)⟩ | exact ⟨keepc t0 (H6.out.mod), keepc t1 (H6.out.mod), keepc t2 (H6.out.mod), keepc t3 (H6.out.mod)⟩ | exact ⟨keepc t0 (H6.out.mod.alloc _), keepc t1 (H6.out.mod.alloc _), keepc t2 (H6.out.mod.alloc _), keepc t3 (H6.out.mod.alloc _)⟩)
            (first
            | (refine step_append_row _ rfl _ _ 23 rfl 62 i0 (.agg #[.int .i64 0, .int .u32 0, .int .u32 0, .bool false]) 4 24 Tryz.underlying23 hi hz0 hz1 hz2 rfl (by decide) (.slice none 0 0) 0 [] rfl (World.ownsRow_nil _ _ _ _) _ q _ ((l.take q).flatMap encV) rfl HN.out.1 (HN.out.2.1 _ (Mod.drew (Mod.refl _ _))) (encV_one _) HB.out.1 HB.out.2.1 ?_
               intro v6 w6 hown6 hgrow6 hat6
               have H6 := Lib.hid ((New.first hown6 hgrow6 hat6).from (Mod.drew (Mod.refl z4 NoB)))
               clear hown6 hgrow6 hat6)
            | (refine step_append_row _ rfl _ _ 23 rfl 62 i0 (.agg #[.int .i64 0, .int .u32 0, .int .u32 0, .bool false]) 4 24 Tryz.underlying23 hi hz0 hz1 hz2 rfl (by decide) (.slice none 0 0) 0 [] rfl (World.ownsRow_nil _ _ _ _) _ q _ ((l.take q).flatMap encV) rfl HN.out.1 (HN.out.2.1 _ (Mod.drew (Mod.alloc (Mod.refl _ _) _))) (encV_one _) HB.out.1 HB.out.2.1 ?_
               intro v6 w6 hown6 hgrow6 hat6
               have HBk := Lib.hid (built_kept (w := z4) hgrow6)
               have H6 := Lib.hid ((New.first hown6 hgrow6 hat6).from (Mod.drew (Mod.alloc (Mod.refl z4 NoB) _)))
               clear hown6 hgrow6 hat6)
            | (refine step_append_row _ rfl _ _ 23 rfl 62 i0 (.agg #[.int .i64 0, .int .u32 0, .int .u32 0, .bool false]) 4 24 Tryz.underlying23 hi hz0 hz1 hz2 rfl (by decide) v6 q _ rfl (H6.out.row.alloc _) _ 1 _ (encV x) rfl rfl (fun j u hu => ⟨_, rfl, World.news_of_block (MapKept.heap_alloc _ _).1 j u hu⟩) hone HB.out.2.2.1 HB.out.2.2.2.1 ?_
               intro v7 w7 hown7 hgrow7 hat7
               have H7 := Lib.hid ((H6.out.alloc _).more hown7 hgrow7 hat7)
               clear hown7 hgrow7 hat7)
            | (refine step_append_row _ rfl _ _ 23 rfl 62 i0 (.agg #[.int .i64 0, .int .u32 0, .int .u32 0, .bool false]) 4 24 Tryz.underlying23 hi hz0 hz1 hz2 rfl (by decide) v6 q _ rfl H6.out.row _ 1 _ (encV x) rfl rfl (fun j u hu => ⟨_, rfl, World.news_of_block HBk.out j u hu⟩) hone HB.out.2.2.1 HB.out.2.2.2.1 ?_
               intro v7 w7 hown7 hgrow7 hat7
               have H7 := Lib.hid (H6.out.more hown7 hgrow7 hat7)
               clear hown7 hgrow7 hat7)
            | (refine step_append_row _ rfl _ _ 23 rfl 62 i0 (.agg #[.int .i64 0, .int .u32 0, .int .u32 0, .bool false]) 4 24 Tryz.underlying23 hi hz0 hz1 hz2 rfl (by decide) v7 (q + 1) _ rfl H7.out.row _ (l.length - q) _ ((l.drop q).flatMap encV) rfl HN.out.2.2.1 (HN.out.2.2.2 _ H7.out.mod) (encV_one _) HB.out.2.2.2.2.1 HB.out.2.2.2.2.2 ?_
               intro v8 w8 hown8 hgrow8 hat8
               have H8 := Lib.hid (H7.out.more hown8 hgrow8 hat8)
               clear hown8 hgrow8 hat8))
          all_goals
            rw [HER.out.1] at H8
            obtain ⟨a', cap', rfl, k1, k2, k3⟩ := H8.out.events HER.out.2
            have HF8 := Lib.hid (And.intro k1 (And.intro k2 (And.intro k3 H8.out.mod)))
            clear k1 k2 k3
            go_wp2_with fail
            all_goals go_ret
            all_goals (rw [HP.out]; exact ⟨a', cap', rfl, HF8.out.1, ⟨HF8.out.2.1.1, Or.inr (HF8.out.2.1.2.mono H2.out.size)⟩, HF8.out.2.2.1, H2.out.trans HF8.out.2.2.2 (fun _ _ h => h)⟩)
      rotate_left
      focus
        have hkd : decide ((0 : Int) < (k : Int)) = false := decide_eq_false (by omega)
        have hkd2 : decide (0 < k) = false := decide_eq_false hk0
        go_quiet (fail)
        generalize hzz : World.drewN wr _ = z3
        have H6 : Hid (Mod wr z3 NoB) := by rw [← hzz]; exact (Mod.refl _ _).drewN _
        clear hzz
        have HP : Hid (putNew x l = putR before x l) := by
          show _ = _
          unfold putNew
          refine if_neg (fun hm => ?_)
          obtain ⟨i, hi⟩ := List.mem_iff_getElem?.1 hm
          exact before_irrefl x (HI.out.2.2 i x (by omega) hi)
        go_upto_region 4 with (fail)
        go_quiet (fail)
        generalize hz4 : World.drewN z3 _ = z4
        have H6b : Hid (Mod wr z4 NoB) := by rw [← hz4]; exact H6.out.drewN _
        clear hz4
        have H2 : Hid (Mod w z4 NoB) := HI.out.1.trans H6b.out (fun _ _ h => h)
        have t0 := keepc s0 H6b.out
        have t1 := keepc s1 H6b.out
        have t2 := keepc s2 H6b.out
        have t3 := keepc s3 H6b.out
        clear s0 s1 s2 s3 H6b
        go_upto_region 6 with (fail)
        have HE : Hid (∀ z, Mod z4 z NoB → ∀ (i : Nat) (y : Ev), l[i]? = some y → EvAt z b (off + i * 4) y) := fun z hz i y hx => by
          rcases (HL.out.mod H2.out).mod hz with h | ⟨b', off', hab, _, h⟩
          · rw [h] at hx; simp at hx
          · cases hab; exact h i y hx
        obtain ⟨q, hq⟩ : ∃ q : Nat, k = q := ⟨_, rfl⟩
        rw [show ((k : Int)) = (q : Int) by omega]
        rw [hq] at HER HB hk
        have hkc : q ≤ cap := by omega
        have hkci : (q : Int) ≤ cap := by omega
        have hkl2 : (q : Int) ≤ l.length := by omega
        have hk0' : (0 : Int) ≤ (q : Int) := by omega
        have hlc : (l.length : Int) ≤ cap := by omega
        have HN : Hid (((l.take q).flatMap encV).length = q * 4 ∧ (∀ z, Mod z4 z NoB → ∀ (j : Nat) (u : Value), ((l.take q).flatMap encV)[j]? = some u → ∃ ad, (some ⟨b, off, none⟩ : Option Addr) = some ad ∧ z.cell? (ad.add j) = some u) ∧
            ((l.drop q).flatMap encV).length = (l.length - q) * 4 ∧ (∀ z, Mod z4 z NoB → ∀ (j : Nat) (u : Value), ((l.drop q).flatMap encV)[j]? = some u → ∃ ad, (if cap = q then some ⟨b, off, none⟩ else some ⟨b, off + q * 4, none⟩ : Option Addr) = some ad ∧ z.cell? (ad.add j) = some u)) := by
          refine ⟨by rw [enc4_len encV_len]; simp; omega, fun z hz => evs_news (p := 0) (HE.out z hz) (by omega), by rw [enc4_len encV_len]; simp, fun z hz j u hu => ?_⟩
          by_cases hce : cap = q
          · rw [List.drop_eq_nil_of_le (by omega)] at hu; simp at hu
          · have := evs_news (p := q) (m := l.length) (HE.out z hz) rfl j u
            rw [List.take_of_length_le (by simp)] at this
            rw [if_neg hce]
            exact this hu
        go_region_held3 (fun z => z.cell? ⟨h0, 0, none⟩ = some (.int .i64 x.t) ∧ z.cell? ⟨h0, 1, none⟩ = some (.int .u32 x.e.u) ∧ z.cell? ⟨h0, 2, none⟩ = some (.int .u32 x.e.v) ∧ z.cell? ⟨h0, 3, none⟩ = some (.bool x.add))
          (first | exact ⟨t0, t1, t2, t3⟩ | exact ⟨keepc t0 ((Mod.drew (Mod.refl z4 NoB)).alloc _), keepc t1 ((Mod.drew (Mod.refl z4 NoB)).alloc _), keepc t2 ((Mod.drew (Mod.refl z4 NoB)).alloc _), keepc t3 ((Mod.drew (Mod.refl z4 NoB)).alloc _)⟩ | exact ⟨keepc t0 (H8.out.mod), keepc t1 (H8.out.mod), keepc t2 (H8.out.mod), keepc t3 (H8.out.mod)⟩ | exact ⟨keepc t0 (H7.out.mod), keepc t1 (H7.out.mod), keepc t2 (H7.out.mod), keepc t3 (H7.out.mod)⟩ | exact ⟨keepc t0 (H6.out.mod), keepc t1 (H6.out.mod), keepc t2 (H6.out.mod), keepc t3 (H6.out.mod)⟩ | exact ⟨keepc t0 (H6.out.mod.alloc _), keepc t1 (H6.out.mod.alloc _), keepc t2 (H6.out.mod.alloc _), keepc t3 (H6.out.mod.alloc _)⟩)
          (first
          | (refine step_append_row _ rfl _ _ 23 rfl 62 i0 (.agg #[.int .i64 0, .int .u32 0, .int .u32 0, .bool false]) 4 24 Tryz.underlying23 hi hz0 hz1 hz2 rfl (by decide) (.slice none 0 0) 0 [] rfl (World.ownsRow_nil _ _ _ _) _ q _ ((l.take q).flatMap encV) rfl HN.out.1 (HN.out.2.1 _ (Mod.drew (Mod.refl _ _))) (encV_one _) HB.out.1 HB.out.2.1 ?_
             intro v6 w6 hown6 hgrow6 hat6
             have H6 := Lib.hid ((New.first hown6 hgrow6 hat6).from (Mod.drew (Mod.refl z4 NoB)))
             clear hown6 hgrow6 hat6)
          | (refine step_append_row _ rfl _ _ 23 rfl 62 i0 (.agg #[.int .i64 0, .int .u32 0, .int .u32 0, .bool false]) 4 24 Tryz.underlying23 hi hz0 hz1 hz2 rfl (by decide) (.slice none 0 0) 0 [] rfl (World.ownsRow_nil _ _ _ _) _ q _ ((l.take q).flatMap encV) rfl HN.out.1 (HN.out.2.1 _ (Mod.drew (Mod.alloc (Mod.refl _ _) _))) (encV_one _) HB.out.1 HB.out.2.1 ?_
             intro v6 w6 hown6 hgrow6 hat6
             have HBk := Lib.hid (built_kept (w := z4) hgrow6)
             have H6 := Lib.hid ((New.first hown6 hgrow6 hat6).from (Mod.drew (Mod.alloc (Mod.refl z4 NoB) _)))
             clear hown6 hgrow6 hat6)
          | (refine step_append_row _ rfl _ _ 23 rfl 62 i0 (.agg #[.int .i64 0, .int .u32 0, .int .u32 0, .bool false]) 4 24 Tryz.underlying23 hi hz0 hz1 hz2 rfl (by decide) v6 q _ rfl (H6.out.row.alloc _) _ 1 _ (encV x) rfl rfl (fun j u hu => ⟨_, rfl, World.news_of_block (MapKept.heap_alloc _ _).1 j u hu⟩) hone HB.out.2.2.1 HB.out.2.2.2.1 ?_
             intro v7 w7 hown7 hgrow7 hat7
             have H7 := Lib.hid ((H6.out.alloc _).more hown7 hgrow7 hat7)
             clear hown7 hgrow7 hat7)
          | (refine step_append_row _ rfl _ _ 23 rfl 62 i0 (.agg #[.int .i64 0, .int .u32 0, .int .u32 0, .bool false]) 4 24 Tryz.underlying23 hi hz0 hz1 hz2 rfl (by decide) v6 q _ rfl H6.out.row _ 1 _ (encV x) rfl rfl (fun j u hu => ⟨_, rfl, World.news_of_block HBk.out j u hu⟩) hone HB.out.2.2.1 HB.out.2.2.2.1 ?_
             intro v7 w7 hown7 hgrow7 hat7
             have H7 := Lib.hid (H6.out.more hown7 hgrow7 hat7)
             clear hown7 hgrow7 hat7)
          | (refine step_append_row _ rfl _ _ 23 rfl 62 i0 (.agg #[.int .i64 0, .int .u32 0, .int .u32 0, .bool false]) 4 24 Tryz.underlying23 hi hz0 hz1 hz2 rfl (by decide) v7 (q + 1) _ rfl H7.out.row _ (l.length - q) _ ((l.drop q).flatMap encV) rfl HN.out.2.2.1 (HN.out.2.2.2 _ H7.out.mod) (encV_one _) HB.out.2.2.2.2.1 HB.out.2.2.2.2.2 ?_
             intro v8 w8 hown8 hgrow8 hat8
             have H8 := Lib.hid (H7.out.more hown8 hgrow8 hat8)
             clear hown8 hgrow8 hat8))
        all_goals
          rw [HER.out.1] at H8
          obtain ⟨a', cap', rfl, k1, k2, k3⟩ := H8.out.events HER.out.2
          have HF8 := Lib.hid (And.intro k1 (And.intro k2 (And.intro k3 H8.out.mod)))
          clear k1 k2 k3
          go_wp2_with fail
          all_goals go_ret
          all_goals (rw [HP.out]; exact ⟨a', cap', rfl, HF8.out.1, ⟨HF8.out.2.1.1, Or.inr (HF8.out.2.1.2.mono H2.out.size)⟩, HF8.out.2.2.1, H2.out.trans HF8.out.2.2.2 (fun _ _ h => h)⟩)

theorem sins_any (w : World) (a : Option Addr) (cap : Nat) (l : List Ev) (x : Ev) (hL : Evs w a l) (hp : Plain a) (hl : l.length ≤ 100000) (hcap : l.length ≤ cap) (hso : l.Pairwise before) (hadd : ∀ y ∈ l, y.add = x.add) :
    Calls Tryz.prog 20 #[.slice a l.length cap, .agg #[.int .i64 x.t, .int .u32 x.e.u, .int .u32 x.e.v, .bool x.add]] w fun r w' => ∃ a' cap', r = .returned (.slice a' (putNew x l).length cap') ∧ Evs w' a' (putNew x l) ∧ (Plain a' ∧ (a' = a ∨ Yg w a')) ∧ (putNew x l).length ≤ cap' ∧ Mod w w' NoB := by
  rcases hp with rfl | ⟨b, off, rfl⟩
  · have hl0 : l = [] := by
      rcases hL with h | ⟨b, off, hab, _⟩
      · exact h
      · cases hab
    subst hl0
    exact (sins0 w cap x).mono (fun _ _ h => by obtain ⟨a', cap', h1, h2, h3, h4⟩ := h; exact ⟨a', cap', h1, h2, ⟨h3.1, Or.inr h3.2⟩, h4⟩)
  · exact sins1 w b off cap l x hL hl hcap hso hadd
end Go.Proofs.YtppambkffgmkgaaGreatDoor
end

section
/- Slices of integers that came in: general lemmas. -/
namespace Go.Proofs.YtppambkffgmkgaaGreatDoor
open Go.RowKit
set_option linter.unusedVariables false

theorem IsRow.mod {q : IntKind} {w w' : World} {a : Option Addr} {len cap : Nat} {zs : List Int} (h : IsRow q w a len cap zs) (hm : Mod w w' NoB) : IsRow q w' a len cap zs := by
  rcases h with h | ⟨x, rfl, h1, h2, h3, h4, h5⟩
  · exact Or.inl h
  · refine Or.inr ⟨x, rfl, h1, h2, h3, fun i hi => ?_, h5⟩
    have h6 := h4 i hi
    have hlt : (x.add i).block < w.heap.size := World.block_lt_of_cell? _ _ h6
    rw [hm.cell hlt (by simp [NoB])]
    exact h6

theorem isrow_at {q : IntKind} {w : World} {a : Option Addr} {len cap : Nat} {zs : List Int} (h : IsRow q w a len cap zs) {k : Nat} (hk : k < len) :
    ∃ b off, a = some ⟨b, off, none⟩ ∧ b < w.heap.size ∧ w.cell? ⟨b, off + k, none⟩ = some (.int q (zs.getD k 0)) ∧ (Lit.int q (zs.getD k 0)).wf = true := by
  rcases h with ⟨_, h0, _⟩ | ⟨x, rfl, hlc, hcm, hz, hcell, hwf⟩
  · omega
  · obtain ⟨b, off, rfl, hcs⟩ := ints_at hcell (by omega)
    have hkz : k < zs.length := by omega
    have hc := hcs k hkz
    exact ⟨b, off, rfl, World.block_lt_of_cell? _ _ hc, hc, hwf _ (by simp [hkz])⟩

theorem isrow_len {q : IntKind} {w : World} {a : Option Addr} {len cap : Nat} {zs : List Int} (h : IsRow q w a len cap zs) : len ≤ cap ∧ cap ≤ maxLen ∧ zs.length = cap := by
  rcases h with ⟨_, rfl, rfl, rfl⟩ | ⟨x, rfl, hlc, hcm, hz, _⟩
  · exact ⟨Nat.le_refl _, Nat.zero_le _, rfl⟩
  · exact ⟨hlc, hcm, hz⟩

/-- The bytes of a row, as a text. -/
def rowStr (len : Nat) (zs : List Int) : ByteArray := strOfNums (zs.take len)
theorem rowStr_size {len : Nat} {zs : List Int} (h : len ≤ zs.length) : (rowStr len zs).size = len := by
  unfold rowStr; rw [strOfNums_size, List.length_take, Nat.min_eq_left h]
theorem rowStr_get {len : Nat} {zs : List Int} {k : Nat} (hk : k < (rowStr len zs).size) (hz : len ≤ zs.length) : (rowStr len zs)[k] = UInt8.ofNat (zs.getD k 0).toNat := by
  have hl := rowStr_size hz
  have h1 : (rowStr len zs).data.toList[k]? = some (rowStr len zs)[k] := by rw [List.getElem?_eq_getElem (by simpa using hk)]; rfl
  have h2 : (rowStr len zs).data.toList = (zs.take len).map fun n => UInt8.ofNat n.toNat := strOfNums_data _
  rw [h2, List.getElem?_map, List.getElem?_take_of_lt (by omega)] at h1
  have hkz : k < zs.length := by omega
  rw [List.getElem?_eq_getElem hkz] at h1
  simp only [Option.map_some, Option.some.injEq] at h1
  rw [← h1]
  simp [hkz]
theorem byte_back {z : Int} (h : (Lit.int .u8 z).wf = true) : (((UInt8.ofNat z.toNat).toNat : Nat) : Int) = z := by
  obtain ⟨h0, h1⟩ := bounds_u8 h
  have h2 : z.toNat < 256 := by omega
  rw [UInt8.toNat_ofNat_of_lt' h2]
  omega
theorem row_wf {q : IntKind} {w : World} {a : Option Addr} {len cap : Nat} {zs : List Int} (h : IsRow q w a len cap zs) {k : Nat} (hk : k < len) : (Lit.int q (zs.getD k 0)).wf = true := by
  obtain ⟨_, _, _, _, _, h⟩ := isrow_at h hk; exact h

theorem conv_row {P : Program} {w : World} {a : Option Addr} {len cap : Nat} {zs : List Int} (h : IsRow .u8 w a len cap zs) (src dst e : TypeId) (hs : P.underlying src = some (.slice e)) (hd : P.underlying dst = some .string) (he : P.underlying e = some (.int .u8)) :
    (convert src dst (.slice a len cap)).run P w = .ok (.string (rowStr len zs)) w := by
  obtain ⟨h1, h2, h3⟩ := isrow_len h
  by_cases h0 : len = 0
  · subst h0
    have hr : rowStr 0 zs = ByteArray.empty := by simp [rowStr, strOfNums]; rfl
    rw [hr]
    cases a with
    | none => exact run_convert_bytes_nil w src e hs he 0 cap dst hd
    | some x =>
      rw [run_convert_bytes_string w src dst e _ 0 cap hs he hd]
      have hl : (loadCells x 0).run P w = .ok #[] w := by
        have := run_loadCells_list (P := P) w x [] (fun j v hj => by simp at hj)
        simpa using this
      have := run_bytesToString (P := P) w x 0 cap [] (by simpa using hl)
      rw [this]
      rfl
  · obtain ⟨b, off, rfl, hb, hc, _⟩ := isrow_at h (k := 0) (by omega)
    refine run_convert_bytes_arg w src e hs he b off len cap (zs.take len) (by simp; omega) (fun i hi => ?_) dst hd
    obtain ⟨b', off', hx, _, hc', _⟩ := isrow_at h hi
    simp only [Option.some.injEq, Addr.mk.injEq, and_true] at hx
    obtain ⟨rfl, rfl⟩ := hx
    rw [hc']
    have hiz : i < zs.length := by omega
    simp [hi, hiz, List.getD_eq_getElem?_getD]
end Go.Proofs.YtppambkffgmkgaaGreatDoor
end

section
/- The lives of a history that may be are lives that may be; how many there are. Nothing of the program in it. -/
namespace Go.Proofs.YtppambkffgmkgaaGreatDoor
set_option linter.unusedVariables false

theorem before_same {a b : Ev} (h : before a b) (he : a.e = b.e) : a.t < b.t := by
  rcases h with h | ⟨_, h⟩
  · exact h
  · rw [he] at h; exact absurd h (edLt_irrefl _)

/-- While an edge is there it goes ahead of its next coming. -/
theorem next_lt {n : Int} {x : Ed} : ∀ {l : List Ev} {prev : Option Ev} {there : Ed → Bool}, AllOk n prev there l → there x = true → ∀ y ∈ l, y.e = x → y.add = true → 0 ≤ nextT x l ∧ nextT x l < y.t
  | [], _, _, _, _, y, hy, _, _ => by simp at hy
  | e :: l, prev, there, h, hx, y, hy, he, ha => by
    obtain ⟨h1, h2⟩ := h
    obtain ⟨⟨t0, _⟩, _, _, hne⟩ := evErr_ok h1
    by_cases hex : e.e = x
    · have hnx : nextT x (e :: l) = e.t := by simp [nextT, hex]
      have haf : e.add = false := by rw [hex, hx] at hne; cases hq : e.add <;> simp_all
      rcases List.mem_cons.1 hy with rfl | hy
      · rw [haf] at ha; cases ha
      · have := before_same ((allOk_before h2).2 e rfl y hy) (hex.trans he.symm)
        rw [hnx]; exact ⟨t0, this⟩
    · have hnx : nextT x (e :: l) = nextT x l := by simp [nextT, hex]
      rcases List.mem_cons.1 hy with rfl | hy
      · exact absurd he hex
      · rw [hnx]
        refine next_lt h2 ?_ y hy he ha
        show (if x = e.e then e.add else there x) = true
        rw [if_neg (fun c => hex c.symm)]; exact hx

/-- Two lives of an edge, the one that came first ahead. -/
def apart (a b : Lf) : Prop := a.e = b.e → 0 ≤ a.to ∧ a.to < b.fr ∧ a.fr < b.fr
theorem raw_apart {n : Int} : ∀ {l : List Ev} {prev : Option Ev} {there : Ed → Bool}, AllOk n prev there l → (raw l).Pairwise apart
  | [], _, _, _ => by simp [raw]
  | e :: l, prev, there, h => by
    obtain ⟨h1, h2⟩ := h
    have ih := raw_apart h2
    simp only [raw]
    by_cases ha : e.add = true
    · rw [if_pos ha]
      refine List.pairwise_cons.2 ⟨fun b hb he => ?_, ih⟩
      obtain ⟨y, hy, k1, k2, k3⟩ := mem_raw hb
      have hey : y.e = e.e := k1.trans he.symm
      have hn := next_lt h2 (x := e.e) (by show (if e.e = e.e then e.add else there e.e) = true; rw [if_pos rfl]; exact ha) y hy hey k3
      have hb2 := before_same ((allOk_before h2).2 e rfl y hy) hey.symm
      rw [k2] at hn hb2
      exact ⟨hn.1, hn.2, hb2⟩
    · rw [if_neg ha]; exact ih

/-- What each life is. -/
def good (n : Int) (x : Lf) : Prop := 0 ≤ x.fr ∧ x.fr ≤ maxT ∧ x.to ≤ maxT ∧ right x.e n ∧ (0 ≤ x.to → x.fr < x.to)
theorem next_good {n : Int} {x : Ed} : ∀ {l : List Ev} {prev : Option Ev} {there : Ed → Bool}, AllOk n prev there l → nextT x l ≤ maxT ∧ (0 ≤ nextT x l → ∃ y ∈ l, y.e = x ∧ y.t = nextT x l)
  | [], _, _, _ => by simp [nextT, maxT]
  | e :: l, prev, there, h => by
    obtain ⟨h1, h2⟩ := h
    obtain ⟨⟨t0, t1⟩, _, _, _⟩ := evErr_ok h1
    by_cases hex : e.e = x
    · have hnx : nextT x (e :: l) = e.t := by simp [nextT, hex]
      rw [hnx]
      exact ⟨t1, fun _ => ⟨e, by simp, hex, rfl⟩⟩
    · have hnx : nextT x (e :: l) = nextT x l := by simp [nextT, hex]
      rw [hnx]
      obtain ⟨k1, k2⟩ := next_good (x := x) h2
      refine ⟨k1, fun h0 => ?_⟩
      obtain ⟨y, hy, k⟩ := k2 h0
      exact ⟨y, by simp [hy], k⟩
theorem raw_good {n : Int} : ∀ {l : List Ev} {prev : Option Ev} {there : Ed → Bool}, AllOk n prev there l → ∀ x ∈ raw l, good n x
  | [], _, _, _, x, hx => by simp [raw] at hx
  | e :: l, prev, there, h, x, hx => by
    obtain ⟨h1, h2⟩ := h
    obtain ⟨⟨t0, t1⟩, hr, _, _⟩ := evErr_ok h1
    simp only [raw] at hx
    by_cases ha : e.add = true
    · rw [if_pos ha] at hx
      rcases List.mem_cons.1 hx with rfl | hx
      · obtain ⟨k1, k2⟩ := next_good (x := e.e) h2
        refine ⟨t0, t1, k1, hr, fun h0 => ?_⟩
        obtain ⟨y, hy, e1, e2⟩ := k2 h0
        have := before_same ((allOk_before h2).2 e rfl y hy) e1.symm
        show e.t < nextT e.e l
        rw [← e2]; exact this
      · exact raw_good h2 x hx
    · rw [if_neg ha] at hx; exact raw_good h2 x hx

theorem lchk_pair {n : Int} : ∀ {X : List Lf} {prev : Option Lf} {i : Nat}, X.Pairwise follows → (∀ x ∈ X, good n x) → (∀ p, prev = some p → ∀ x ∈ X, follows p x) → lchkFrom n i prev X = (0, 0)
  | [], _, _, _, _, _ => rfl
  | x :: X, prev, i, hp, hg, hf => by
    obtain ⟨h1, h2⟩ := List.pairwise_cons.1 hp
    obtain ⟨g1, g2, g3, g4, g5⟩ := hg x (by simp)
    have h0 : lfErr n prev x = 0 := by
      unfold lfErr
      rw [if_neg (by omega), if_neg (fun c => c g4), if_neg]
      rintro (⟨c1, c2⟩ | c)
      · have := g5 c1; omega
      · cases prev with
        | none => simp at c
        | some p => have := hf p rfl x (by simp); simp [this] at c
    simp only [lchkFrom]
    rw [if_pos h0]
    exact lchk_pair h2 (fun y hy => hg y (by simp [hy])) (fun p hp y hy => by cases hp; exact h1 y hy)

theorem putAll_perm {α : Type} {lt : α → α → Prop} [DecidableRel lt] (l : List α) : (putAll lt l).Perm l := by
  have key : ∀ (l o : List α), (l.foldl (fun o x => putR lt x o) o).Perm (o ++ l) := by
    intro l
    induction l with
    | nil => intro o; simp
    | cons a l ih =>
      intro o
      rw [List.foldl_cons]
      refine (ih (putR lt a o)).trans (((putR_perm lt a o).append_right l).trans ?_)
      simpa using (List.perm_middle (a := a) (l₁ := o) (l₂ := l)).symm
  simpa [putAll] using key l []

theorem evs_count (l : List Lf) : (evs l).length = evCount l := by
  induction l with
  | nil => simp [evs, evCount]
  | cons x l ih =>
    have h1 : evs (x :: l) = evsOf x ++ evs l := by unfold evs; rw [List.flatMap_cons]
    rw [h1, List.length_append, ih]
    unfold evCount evsOf
    by_cases h : 0 ≤ x.to
    · simp [h]; omega
    · simp [h]; omega
theorem raw_adds (l : List Ev) : (raw l).length = (l.filter (fun e => e.add)).length := by
  induction l with
  | nil => simp [raw]
  | cons e l ih =>
    simp only [raw]
    cases ha : e.add with
    | true => simp [ha, ih]
    | false => simp [ha, ih]

/-- The lives of a history that may be: they may be; as many as come; as many end as go. -/
theorem lives_ok {n : Int} {l : List Ev} (h : AllOk n none (fun _ => false) l) (hn : n ≤ maxN) (hl : l.length ≤ 100000) :
    (putAll lfLt (raw l)).Pairwise lfLt ∧ lchk n (putAll lfLt (raw l)) = (0, 0) ∧ (putAll lfLt (raw l)).length = (l.filter (fun e => e.add)).length ∧
      ((putAll lfLt (raw l)).filter (fun x => decide (0 ≤ x.to))).length = (l.filter (fun e => !e.add)).length := by
  have hb := (allOk_before h).1
  obtain ⟨k1, k2⟩ := putAll_sorted (lt := lfLt) lfLt_trans (raw_pair hb)
  have hsym : (putAll lfLt (raw l)).Pairwise (fun a b => apart a b ∨ apart b a) := (k2.pairwise_iff (fun h => h.symm)).2 ((raw_apart h).imp (fun h => Or.inl h))
  have hfol : (putAll lfLt (raw l)).Pairwise follows := by
    refine (k1.and hsym).imp (fun {a b} hh => ?_)
    obtain ⟨h1, h2⟩ := hh
    rcases h1 with h1 | ⟨e1, e2⟩
    · exact Or.inl h1
    · rcases h2 with h2 | h2
      · obtain ⟨q1, q2, _⟩ := h2 e1
        exact Or.inr ⟨e1, q1, q2⟩
      · obtain ⟨_, _, q3⟩ := h2 e1.symm
        omega
  have hlen : (putAll lfLt (raw l)).length = (l.filter (fun e => e.add)).length := by rw [k2.length_eq, raw_adds]
  have hadds : (l.filter (fun e => e.add)).length + (l.filter (fun e => !e.add)).length = l.length := by
    clear h hb k1 k2 hsym hfol hlen hl
    induction l with
    | nil => simp
    | cons e l ih => cases ha : e.add <;> simp [ha] <;> omega
  have hcnt : evCount (putAll lfLt (raw l)) = l.length := by
    rw [← evs_count, (evs_perm k2).length_eq, (evs_raw_all h).length_eq]
  refine ⟨k1, ?_, hlen, ?_⟩
  · unfold lchk
    rw [if_neg (by rw [hcnt]; unfold maxN at *; omega)]
    exact lchk_pair hfol (fun x hx => raw_good h x (k2.subset hx)) (fun p hp => by cases hp)
  · unfold evCount at hcnt
    omega

/-- A history of the statements' own may be. -/
theorem chk_flag {n top : Int} {T : List Ev} (h : Times n top T) (ht : top ≤ maxT) (hn : n ≤ maxN) (hl : T.length ≤ 100000) : chk n (flag (fun _ => false) T) = (0, 0) := by
  unfold chk
  rw [if_neg (by rw [flag_len]; unfold maxN at *; omega)]
  exact chkFrom_allOk (hist_ok h ht)
theorem flag_mem : ∀ {T : List Ev} {there : Ed → Bool} {y : Ev}, y ∈ flag there T → ∃ x ∈ T, y.e = x.e ∧ y.t = x.t
  | [], _, y, h => by simp [flag] at h
  | e :: T, there, y, h => by
    simp only [flag] at h
    rcases List.mem_cons.1 h with rfl | h
    · exact ⟨e, by simp, rfl, rfl⟩
    · obtain ⟨x, hx, k⟩ := flag_mem h
      exact ⟨x, by simp [hx], k⟩
end Go.Proofs.YtppambkffgmkgaaGreatDoor
end
