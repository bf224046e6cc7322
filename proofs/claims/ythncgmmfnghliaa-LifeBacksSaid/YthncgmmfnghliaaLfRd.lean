/- The reference: Turn, where an edge comes; Turn of what may not be. -/
import Derived.Test.YthncgmmfnghliaaLfRc
namespace Go.Proofs.Ythncgmmfnghliaa
open Go.RowKit
set_option linter.unusedVariables false

theorem insL_split {x : Ed} : ∀ {l : List Ed} {k : Nat}, k ≤ l.length → (∀ (j : Nat) (y : Ed), j < k → l[j]? = some y → edLt y x) → (∀ y, l[k]? = some y → ¬ edLt y x) → insL x l = l.take k ++ x :: l.drop k
  | [], k, hk, _, _ => by
    have : k = 0 := by simpa using hk
    subst this; rfl
  | y :: l, 0, _, _, h2 => by
    have := h2 y (by simp)
    simp [insL, this]
  | y :: l, k + 1, hk, h1, h2 => by
    have h0 := h1 0 y (by omega) (by simp)
    have ih := insL_split (l := l) (k := k) (by simpa using hk) (fun j z hj hz => h1 (j + 1) z (by omega) (by simpa using hz)) (fun z hz => h2 z (by simpa using hz))
    simp [insL, h0, ih]

theorem built_kept {w w' : World} {o : Obj} (hg : (w.alloc o).drew.grownBy w' (Value.slice none 0 0).ownBlock) : w'.heap[w.heap.size]? = some o := by
  have h1 : (w.alloc o).drew.heap[w.heap.size]? = some o := (MapKept.heap_alloc w o).1
  rw [hg.block w.heap.size (by show _ < (w.alloc o).heap.size; simp) (by simp [Value.ownBlock])]
  exact h1

set_option maxRecDepth 100000 in
set_option maxHeartbeats 8000000 in
theorem turn_add1 (w : World) (b off : Nat) (cap : Nat) (l : List Ed) (e : Ev) (hL : Eds w (some ⟨b, off, none⟩) l) (hl : l.length ≤ 100000) (hcap : l.length ≤ cap) (hs : l.Pairwise edLt) (hf : fndE e.e l = none) (ha : e.add = true) :
    Calls Try.prog 28 #[.slice (some ⟨b, off, none⟩) l.length cap, .agg #[.int .i64 e.t, .int .u32 e.e.u, .int .u32 e.e.v, .bool e.add]] w fun r w' => ∃ a' cap', r = .returned (.tuple #[.slice a' (insL e.e l).length cap', .bool true]) ∧ Eds w' a' (insL e.e l) ∧ (Plain a' ∧ Yg w a') ∧ (insL e.e l).length ≤ cap' ∧ Mod w w' NoB := by
  have HL := Lib.hid hL
  have HS := Lib.hid hs
  have hI : fndI e.e l = -1 := by unfold fndI; rw [hf]
  have HF : Hid (∀ z, Eds z (some ⟨b, off, none⟩) l → Calls Try.prog 49 #[.slice (some ⟨b, off, none⟩) l.length cap, .agg #[.int .u32 e.e.u, .int .u32 e.e.v]] z fun r w' => r = .returned (.int .i64 (-1)) ∧ Mod z w' NoB) := fun z hz => by rw [← hI]; exact find_any z (some ⟨b, off, none⟩) cap l e.e hz hl
  clear hL hs hI
  rw [ha]
  obtain ⟨i0, hi, hz0, hz1, hz2⟩ := info_parts info_edge
  have hmx := mixed
  obtain ⟨h0, hh0⟩ : ∃ h0, h0 = w.heap.size := ⟨_, rfl⟩
  obtain ⟨W, hW⟩ : ∃ W, W = w.alloc (.cells #[.int .i64 e.t, .int .u32 e.e.u, .int .u32 e.e.v, .bool true] 65) := ⟨_, rfl⟩
  have HW : Hid (Mod w W NoB ∧ EvAt W h0 0 ⟨e.t, e.e, true⟩) := by
    show _ ∧ _
    rw [hW, hh0]; exact ⟨(Mod.refl _ _).alloc _, World.cell?_alloc_at _ _ _ _ rfl, World.cell?_alloc_at _ _ _ _ rfl, World.cell?_alloc_at _ _ _ _ rfl, World.cell?_alloc_at _ _ _ _ rfl⟩
  obtain ⟨q0, q1, q2, q3⟩ := HW.out.2
  simp only [Nat.zero_add] at q1 q2 q3
  go_enter Try.func28, Try.ntmps28
  go_wp2_with fail
  rw [← hW, ← hh0]
  clear hW hh0
  refine (HF.out _ (HL.out.mod HW.out.1)).mono ?_
  rintro r w1 ⟨rfl, hm⟩
  have H1 : Hid (Mod w w1 NoB) := HW.out.1.trans hm (fun _ _ h => h)
  have r1 := keepc q1 hm
  have r2 := keepc q2 hm
  have r3 := keepc q3 hm
  clear hm q0 q1 q2 q3 HW
  go_wp2_with fail
  refine (rising_any _ (some ⟨b, off, none⟩) cap l (HL.out.mod H1.out) hl HS.out).mono ?_
  rintro r w2 ⟨rfl, hm⟩
  have HI0 : Hid (Mod w w2 NoB ∧ w2.cell? ⟨h0, 1, none⟩ = some (.int .u32 e.e.u) ∧ w2.cell? ⟨h0, 2, none⟩ = some (.int .u32 e.e.v)) := ⟨H1.out.trans hm (fun _ _ h => h), keepc r1 hm, keepc r2 hm⟩
  have s3 := keepc r3 hm
  clear hm r1 r2 r3 H1
  go_wp2_with fail
  clear s3
  go_loopw [6] (fun i wr => ∃ k : Nat, k ≤ l.length ∧ i = .int .i64 k ∧ Hid ((Mod w wr NoB ∧ wr.cell? ⟨h0, 1, none⟩ = some (.int .u32 e.e.u) ∧ wr.cell? ⟨h0, 2, none⟩ = some (.int .u32 e.e.v)) ∧ ∀ (j : Nat) (y : Ed), j < k → l[j]? = some y → edLt y e.e)) (fun i _ => l.length - (intOf i).toNat)
  case atStart => exact ⟨0, Nat.zero_le _, rfl, HI0.out, fun j y hj => by omega⟩
  case round =>
    obtain ⟨k, hk, rfl, HI⟩ := hrel
    have s1 := HI.out.1.2.1
    have s2 := HI.out.1.2.2
    by_cases hcont : ∃ y, l[k]? = some y ∧ edLt y e.e
    · obtain ⟨y, hy, hlt⟩ := hcont
      have hkl := (List.getElem?_eq_some_iff.1 hy).1
      obtain ⟨b', off', y', hab, hbw, hy', hC⟩ := (HL.out.mod HI.out.1.1).at hkl
      cases hab
      have : y' = y := Option.some.inj (hy'.symm.trans hy)
      subst this
      obtain ⟨c0, c1⟩ := hC
      have hki : (k : Int) < l.length := by omega
      have HB : Hid (∀ z, Calls Try.prog 41 #[.agg #[.int .u32 y'.u, .int .u32 y'.v], .agg #[.int .u32 e.e.u, .int .u32 e.e.v]] z fun r w' => r = .returned (.bool true) ∧ Grw z w') := fun z => by
        have := rless_grw z y'.u y'.v e.e.u e.e.v
        rwa [show decide (edLt ⟨y'.u, y'.v⟩ ⟨e.e.u, e.e.v⟩) = true by simpa using hlt] at this
      have HN : Hid (∀ (j : Nat) (y : Ed), j < k + 1 → l[j]? = some y → edLt y e.e) := fun j z hj hz => by
        rcases Nat.lt_succ_iff_lt_or_eq.1 hj with h | h
        · exact HI.out.2 j z h hz
        · subst h; rw [hy] at hz; cases hz; exact hlt
      have g0 := cg c0
      have g1 := cg c1
      have f0 := cg s1
      have f1 := cg s2
      clear hy hy' hlt hbw
      go_upto_region 7 with (fail)
      go_quiet_grown ((go_at_call 41; exact Calls.byGrw (HB.out _)))
      have H6 := Lib.hid (Grw.grown wr nq osq).mod
      go_wp2_with fail
      go_roundw
      case rel => exact ⟨k + 1, by omega, by go_num, ⟨HI.out.1.1.trans H6.out (fun _ _ h => h), keepc HI.out.1.2.1 H6.out, keepc HI.out.1.2.2 H6.out⟩, HN.out⟩
      case measure => simp [intOf]; omega
    · have hsp : insL e.e l = l.take k ++ e.e :: l.drop k := insL_split hk HI.out.2 (fun y hy hlt => hcont ⟨y, hy, hlt⟩)
      have HER : Hid (((l.take k).flatMap encD ++ encD e.e) ++ (l.drop k).flatMap encD = (insL e.e l).flatMap encD ∧ k + 1 + (l.length - k) = (insL e.e l).length) := by
        rw [hsp]
        refine ⟨by simp, by simp; omega⟩
      have HB : Hid (0 + k ≤ maxLen ∧ (0 + k) * 8 ≤ 140737488355328 ∧ k + 1 ≤ maxLen ∧ (k + 1) * 8 ≤ 140737488355328 ∧ k + 1 + (l.length - k) ≤ maxLen ∧ (k + 1 + (l.length - k)) * 8 ≤ 140737488355328) := by
        unfold maxLen; exact ⟨by omega, by omega, by omega, by omega, by omega, by omega⟩
      have hone : ∀ u ∈ encD e.e, u.oneCell' = true := by simp [encD, Value.oneCell']
      have hout : Hid (∀ y, l[k]? = some y → decide (edLt ⟨y.u, y.v⟩ ⟨e.e.u, e.e.v⟩) = false) := fun y hy => decide_eq_false (fun hlt => hcont ⟨y, hy, hlt⟩)
      clear hcont hsp
      go_upto_region 7 with (fail)
      by_cases hkl : k < l.length
      focus
        obtain ⟨b', off', y, hab, hbw, hy, hC⟩ := (HL.out.mod HI.out.1.1).at hkl
        cases hab
        obtain ⟨c0, c1⟩ := hC
        have hki : (k : Int) < l.length := by omega
        have HLs : Hid (∀ z, Calls Try.prog 41 #[.agg #[.int .u32 y.u, .int .u32 y.v], .agg #[.int .u32 e.e.u, .int .u32 e.e.v]] z fun r w' => r = .returned (.bool false) ∧ Grw z w') := fun z => by
          have := rless_grw z y.u y.v e.e.u e.e.v
          rwa [hout.out y hy] at this
        have g0 := cg c0
        have g1 := cg c1
        have f0 := cg s1
        have f1 := cg s2
        clear hy hbw
        go_quiet_grown ((go_at_call 41; exact Calls.byGrw (HLs.out _)))
        generalize hzz : Go.Sort.grow (World.drewN wr _) _ = z3
        have H6 : Hid (Mod wr z3 NoB) := by rw [← hzz]; exact (Grw.grown wr _ _).mod
        clear hzz g0 g1 f0 f1 c0 c1
      rotate_left
      focus
        have hkd : decide ((k : Int) < (l.length : Nat)) = false := decide_eq_false (by omega)
        have hkd2 : decide (k < l.length) = false := decide_eq_false hkl
        go_quiet (fail)
        generalize hzz : World.drewN wr _ = z3
        have H6 : Hid (Mod wr z3 NoB) := by rw [← hzz]; exact (Mod.refl _ _).drewN _
        clear hzz hkd hkd2
      all_goals
        have H2 : Hid (Mod w z3 NoB) := HI.out.1.1.trans H6.out (fun _ _ h => h)
        have t1 := keepc s1 H6.out
        have t2 := keepc s2 H6.out
        clear s1 s2 H6 hkl
        go_upto_region 9 with (fail)
        have HE : Hid (∀ z, Mod z3 z NoB → ∀ (i : Nat) (x : Ed), l[i]? = some x → EdAt z b (off + i * 2) x) := fun z hz i x hx => by
          rcases (HL.out.mod H2.out).mod hz with h | ⟨b', off', hab, _, h⟩
          · rw [h] at hx; simp at hx
          · cases hab; exact h i x hx
        have hkc : k ≤ cap := by omega
        have hkci : (k : Int) ≤ cap := by omega
        have hkl2 : (k : Int) ≤ l.length := by omega
        have hk0 : (0 : Int) ≤ (k : Int) := by omega
        have hlc : (l.length : Int) ≤ cap := by omega
        have HN : Hid (((l.take k).flatMap encD).length = k * 2 ∧ (∀ z, Mod z3 z NoB → ∀ (j : Nat) (u : Value), ((l.take k).flatMap encD)[j]? = some u → ∃ ad, (some ⟨b, off, none⟩ : Option Addr) = some ad ∧ z.cell? (ad.add j) = some u) ∧
            ((l.drop k).flatMap encD).length = (l.length - k) * 2 ∧ (∀ z, Mod z3 z NoB → ∀ (j : Nat) (u : Value), ((l.drop k).flatMap encD)[j]? = some u → ∃ ad, (if cap = k then some ⟨b, off, none⟩ else some ⟨b, off + k * 2, none⟩ : Option Addr) = some ad ∧ z.cell? (ad.add j) = some u)) := by
          refine ⟨by rw [enc2_len]; simp; omega, fun z hz => eds_news (p := 0) (HE.out z hz) (by omega), by rw [enc2_len]; simp, fun z hz j u hu => ?_⟩
          by_cases hce : cap = k
          · rw [List.drop_eq_nil_of_le (by omega)] at hu; simp at hu
          · have := eds_news (p := k) (m := l.length) (HE.out z hz) rfl j u
            rw [List.take_of_length_le (by simp)] at this
            rw [if_neg hce]
            exact this hu
        go_region_held3 (fun z => z.cell? ⟨h0, 1, none⟩ = some (.int .u32 e.e.u) ∧ z.cell? ⟨h0, 2, none⟩ = some (.int .u32 e.e.v))
          (first | exact ⟨t1, t2⟩ | exact ⟨keepc t1 ((Mod.drew (Mod.refl z3 NoB)).alloc _), keepc t2 ((Mod.drew (Mod.refl z3 NoB)).alloc _)⟩ | exact ⟨keepc t1 H8.out.mod, keepc t2 H8.out.mod⟩ | exact ⟨keepc t1 H7.out.mod, keepc t2 H7.out.mod⟩ | exact ⟨keepc t1 H6.out.mod, keepc t2 H6.out.mod⟩ | exact ⟨keepc t1 (H6.out.mod.alloc _), keepc t2 (H6.out.mod.alloc _)⟩)
          (first
          | (refine step_append_row _ rfl _ _ 59 rfl 54 i0 (.agg #[.int .u32 0, .int .u32 0]) 2 8 Try.underlying59 hi hz0 hz1 hz2 rfl (by decide) (.slice none 0 0) 0 [] rfl (World.ownsRow_nil _ _ _ _) _ k _ ((l.take k).flatMap encD) rfl HN.out.1 (HN.out.2.1 _ (Mod.drew (Mod.refl _ _))) (encD_one _) HB.out.1 HB.out.2.1 ?_
             intro v6 w6 hown6 hgrow6 hat6
             have H6 := Lib.hid ((New.first hown6 hgrow6 hat6).from (Mod.drew (Mod.refl z3 NoB)))
             clear hown6 hgrow6 hat6)
          | (refine step_append_row _ rfl _ _ 59 rfl 54 i0 (.agg #[.int .u32 0, .int .u32 0]) 2 8 Try.underlying59 hi hz0 hz1 hz2 rfl (by decide) (.slice none 0 0) 0 [] rfl (World.ownsRow_nil _ _ _ _) _ k _ ((l.take k).flatMap encD) rfl HN.out.1 (HN.out.2.1 _ (Mod.drew (Mod.alloc (Mod.refl _ _) _))) (encD_one _) HB.out.1 HB.out.2.1 ?_
             intro v6 w6 hown6 hgrow6 hat6
             have HBk := Lib.hid (built_kept (w := z3) hgrow6)
             have H6 := Lib.hid ((New.first hown6 hgrow6 hat6).from (Mod.drew (Mod.alloc (Mod.refl z3 NoB) _)))
             clear hown6 hgrow6 hat6)
          | (refine step_append_row _ rfl _ _ 59 rfl 54 i0 (.agg #[.int .u32 0, .int .u32 0]) 2 8 Try.underlying59 hi hz0 hz1 hz2 rfl (by decide) v6 k _ rfl (H6.out.row.alloc _) _ 1 _ (encD e.e) rfl rfl (fun j u hu => ⟨_, rfl, World.news_of_block (MapKept.heap_alloc _ _).1 j u hu⟩) hone HB.out.2.2.1 HB.out.2.2.2.1 ?_
             intro v7 w7 hown7 hgrow7 hat7
             have H7 := Lib.hid ((H6.out.alloc _).more hown7 hgrow7 hat7)
             clear hown7 hgrow7 hat7)
          | (refine step_append_row _ rfl _ _ 59 rfl 54 i0 (.agg #[.int .u32 0, .int .u32 0]) 2 8 Try.underlying59 hi hz0 hz1 hz2 rfl (by decide) v6 k _ rfl H6.out.row _ 1 _ (encD e.e) rfl rfl (fun j u hu => ⟨_, rfl, World.news_of_block HBk.out j u hu⟩) hone HB.out.2.2.1 HB.out.2.2.2.1 ?_
             intro v7 w7 hown7 hgrow7 hat7
             have H7 := Lib.hid (H6.out.more hown7 hgrow7 hat7)
             clear hown7 hgrow7 hat7)
          | (refine step_append_row _ rfl _ _ 59 rfl 54 i0 (.agg #[.int .u32 0, .int .u32 0]) 2 8 Try.underlying59 hi hz0 hz1 hz2 rfl (by decide) v7 (k + 1) _ rfl H7.out.row _ (l.length - k) _ ((l.drop k).flatMap encD) rfl HN.out.2.2.1 (HN.out.2.2.2 _ H7.out.mod) (encD_one _) HB.out.2.2.2.2.1 HB.out.2.2.2.2.2 ?_
             intro v8 w8 hown8 hgrow8 hat8
             have H8 := Lib.hid (H7.out.more hown8 hgrow8 hat8)
             clear hown8 hgrow8 hat8))
        all_goals
          rw [HER.out.1] at H8
          obtain ⟨a', cap', rfl, k1, k2, k3⟩ := H8.out.edges HER.out.2
          have HF8 := Lib.hid (And.intro k1 (And.intro k2 (And.intro k3 H8.out.mod)))
          clear k1 k2 k3
          go_wp2_with fail
          all_goals go_ret2
          all_goals exact ⟨a', cap', rfl, HF8.out.1, ⟨HF8.out.2.1.1, HF8.out.2.1.2.mono H2.out.size⟩, HF8.out.2.2.1, H2.out.trans HF8.out.2.2.2 (fun _ _ h => h)⟩
set_option maxRecDepth 100000 in
set_option maxHeartbeats 8000000 in
theorem turn_add0 (w : World) (cap : Nat) (e : Ev) (ha : e.add = true) :
    Calls Try.prog 28 #[.slice none 0 cap, .agg #[.int .i64 e.t, .int .u32 e.e.u, .int .u32 e.e.v, .bool e.add]] w fun r w' => ∃ a' cap', r = .returned (.tuple #[.slice a' ([e.e]).length cap', .bool true]) ∧ Eds w' a' ([e.e]) ∧ (Plain a' ∧ Yg w a') ∧ ([e.e]).length ≤ cap' ∧ Mod w w' NoB := by
  have hI : fndI e.e [] = -1 := rfl
  have HF : Hid (∀ z, Calls Try.prog 49 #[.slice none 0 cap, .agg #[.int .u32 e.e.u, .int .u32 e.e.v]] z fun r w' => r = .returned (.int .i64 (-1)) ∧ Mod z w' NoB) := fun z => by rw [← hI]; exact find_any z none cap [] e.e (Or.inl rfl) (by simp)
  clear hI
  rw [ha]
  obtain ⟨i0, hi, hz0, hz1, hz2⟩ := info_parts info_edge
  have hmx := mixed
  obtain ⟨h0, hh0⟩ : ∃ h0, h0 = w.heap.size := ⟨_, rfl⟩
  obtain ⟨W, hW⟩ : ∃ W, W = w.alloc (.cells #[.int .i64 e.t, .int .u32 e.e.u, .int .u32 e.e.v, .bool true] 65) := ⟨_, rfl⟩
  have HW : Hid (Mod w W NoB ∧ EvAt W h0 0 ⟨e.t, e.e, true⟩) := by
    show _ ∧ _
    rw [hW, hh0]; exact ⟨(Mod.refl _ _).alloc _, World.cell?_alloc_at _ _ _ _ rfl, World.cell?_alloc_at _ _ _ _ rfl, World.cell?_alloc_at _ _ _ _ rfl, World.cell?_alloc_at _ _ _ _ rfl⟩
  obtain ⟨q0, q1, q2, q3⟩ := HW.out.2
  simp only [Nat.zero_add] at q1 q2 q3
  go_enter Try.func28, Try.ntmps28
  go_wp2_with fail
  rw [← hW, ← hh0]
  clear hW hh0
  refine (HF.out _).mono ?_
  rintro r w1 ⟨rfl, hm⟩
  have H1 : Hid (Mod w w1 NoB) := HW.out.1.trans hm (fun _ _ h => h)
  have r1 := keepc q1 hm
  have r2 := keepc q2 hm
  have r3 := keepc q3 hm
  clear hm q0 q1 q2 q3 HW
  go_wp2_with fail
  refine (rising_any _ none cap [] (Or.inl rfl) (by simp) List.Pairwise.nil).mono ?_
  rintro r w2 ⟨rfl, hm⟩
  have HI0 : Hid (Mod w w2 NoB ∧ w2.cell? ⟨h0, 1, none⟩ = some (.int .u32 e.e.u) ∧ w2.cell? ⟨h0, 2, none⟩ = some (.int .u32 e.e.v)) := ⟨H1.out.trans hm (fun _ _ h => h), keepc r1 hm, keepc r2 hm⟩
  have s3 := keepc r3 hm
  clear hm r1 r2 r3 H1
  go_wp2_with fail
  clear s3
  go_loopw [6] (fun i wr => i = .int .i64 0 ∧ Hid (Mod w wr NoB ∧ wr.cell? ⟨h0, 1, none⟩ = some (.int .u32 e.e.u) ∧ wr.cell? ⟨h0, 2, none⟩ = some (.int .u32 e.e.v))) (fun i _ => 0)
  case atStart => exact ⟨rfl, HI0.out⟩
  case round =>
      obtain ⟨rfl, HI⟩ := hrel
      have s1 := HI.out.2.1
      have s2 := HI.out.2.2
      have HB : Hid (0 + 0 ≤ maxLen ∧ (0 + 0) * 8 ≤ 140737488355328 ∧ 0 + 1 ≤ maxLen ∧ (0 + 1) * 8 ≤ 140737488355328) := by
        unfold maxLen; exact ⟨by omega, by omega, by omega, by omega⟩
      have hone : ∀ u ∈ encD e.e, u.oneCell' = true := by simp [encD, Value.oneCell']
      go_upto_region 7 with (fail)
      go_quiet (fail)
      generalize hzz : World.drewN wr _ = z3
      have H6 : Hid (Mod wr z3 NoB) := by rw [← hzz]; exact (Mod.refl _ _).drewN _
      have H2 : Hid (Mod w z3 NoB) := HI.out.1.trans H6.out (fun _ _ h => h)
      have t1 := keepc s1 H6.out
      have t2 := keepc s2 H6.out
      clear s1 s2 H6 hzz
      go_upto_region 9 with (fail)
      go_region_held3 (fun z => z.cell? ⟨h0, 1, none⟩ = some (.int .u32 e.e.u) ∧ z.cell? ⟨h0, 2, none⟩ = some (.int .u32 e.e.v))
        (first | exact ⟨t1, t2⟩ | exact ⟨keepc t1 ((Mod.drew (Mod.refl z3 NoB)).alloc _), keepc t2 ((Mod.drew (Mod.refl z3 NoB)).alloc _)⟩ | exact ⟨keepc t1 H8.out.mod, keepc t2 H8.out.mod⟩ | exact ⟨keepc t1 H7.out.mod, keepc t2 H7.out.mod⟩ | exact ⟨keepc t1 H6.out.mod, keepc t2 H6.out.mod⟩ | exact ⟨keepc t1 (H6.out.mod.alloc _), keepc t2 (H6.out.mod.alloc _)⟩)
        (first
        | (refine step_append_row _ rfl _ _ 59 rfl 54 i0 (.agg #[.int .u32 0, .int .u32 0]) 2 8 Try.underlying59 hi hz0 hz1 hz2 rfl (by decide) (.slice none 0 0) 0 [] rfl (World.ownsRow_nil _ _ _ _) _ 0 _ [] rfl rfl (no_news rfl) (fun u hu => by cases hu) HB.out.1 HB.out.2.1 ?_
           intro v6 w6 hown6 hgrow6 hat6
           have H6 := Lib.hid ((New.first hown6 hgrow6 hat6).from (Mod.drew (Mod.refl z3 NoB)))
           clear hown6 hgrow6 hat6)
        | (refine step_append_row _ rfl _ _ 59 rfl 54 i0 (.agg #[.int .u32 0, .int .u32 0]) 2 8 Try.underlying59 hi hz0 hz1 hz2 rfl (by decide) (.slice none 0 0) 0 [] rfl (World.ownsRow_nil _ _ _ _) _ 0 _ [] rfl rfl (no_news rfl) (fun u hu => by cases hu) HB.out.1 HB.out.2.1 ?_
           intro v6 w6 hown6 hgrow6 hat6
           have HBk := Lib.hid (built_kept (w := z3) hgrow6)
           have H6 := Lib.hid ((New.first hown6 hgrow6 hat6).from (Mod.drew (Mod.alloc (Mod.refl z3 NoB) _)))
           clear hown6 hgrow6 hat6)
        | (refine step_append_row _ rfl _ _ 59 rfl 54 i0 (.agg #[.int .u32 0, .int .u32 0]) 2 8 Try.underlying59 hi hz0 hz1 hz2 rfl (by decide) v6 0 _ rfl (H6.out.row.alloc _) _ 1 _ (encD e.e) rfl rfl (fun j u hu => ⟨_, rfl, World.news_of_block (MapKept.heap_alloc _ _).1 j u hu⟩) hone HB.out.2.2.1 HB.out.2.2.2 ?_
           intro v7 w7 hown7 hgrow7 hat7
           have H7 := Lib.hid ((H6.out.alloc _).more hown7 hgrow7 hat7)
           clear hown7 hgrow7 hat7)
        | (refine step_append_row _ rfl _ _ 59 rfl 54 i0 (.agg #[.int .u32 0, .int .u32 0]) 2 8 Try.underlying59 hi hz0 hz1 hz2 rfl (by decide) v6 0 _ rfl H6.out.row _ 1 _ (encD e.e) rfl rfl (fun j u hu => ⟨_, rfl, World.news_of_block HBk.out j u hu⟩) hone HB.out.2.2.1 HB.out.2.2.2 ?_
           intro v7 w7 hown7 hgrow7 hat7
           have H7 := Lib.hid (H6.out.more hown7 hgrow7 hat7)
           clear hown7 hgrow7 hat7)
        | (refine step_append_row _ rfl _ _ 59 rfl 54 i0 (.agg #[.int .u32 0, .int .u32 0]) 2 8 Try.underlying59 hi hz0 hz1 hz2 rfl (by decide) v7 (0 + 1) _ rfl H7.out.row _ 0 _ [] rfl rfl (no_news rfl) (fun u hu => by cases hu) HB.out.2.2.1 HB.out.2.2.2 ?_
           intro v8 w8 hown8 hgrow8 hat8
           have H8 := Lib.hid (H7.out.more hown8 hgrow8 hat8)
           clear hown8 hgrow8 hat8))
      all_goals
        rw [show (([] : List Value) ++ encD e.e) ++ [] = [e.e].flatMap encD by simp] at H8
        obtain ⟨a', cap', rfl, k1, k2, k3⟩ := H8.out.edges rfl
        have HF8 := Lib.hid (And.intro k1 (And.intro k2 (And.intro k3 H8.out.mod)))
        clear k1 k2 k3
        go_wp2_with fail
        all_goals go_ret2
        all_goals exact ⟨a', cap', rfl, HF8.out.1, ⟨HF8.out.2.1.1, HF8.out.2.1.2.mono H2.out.size⟩, HF8.out.2.2.1, H2.out.trans HF8.out.2.2.2 (fun _ _ h => h)⟩
set_option maxHeartbeats 2000000 in
theorem turn_none (w : World) (a : Option Addr) (cap : Nat) (l : List Ed) (e : Ev) (hL : Eds w a l) (hl : l.length ≤ 100000) (hs : l.Pairwise edLt) (hf : e.add = (fndE e.e l).isSome) :
    Calls Try.prog 28 #[.slice a l.length cap, .agg #[.int .i64 e.t, .int .u32 e.e.u, .int .u32 e.e.v, .bool e.add]] w fun r w' => r = .returned (.tuple #[.slice none 0 0, .bool false]) ∧ Mod w w' NoB := by
  have HL := Lib.hid hL
  have HS := Lib.hid hs
  obtain ⟨h0, hh0⟩ : ∃ h0, h0 = w.heap.size := ⟨_, rfl⟩
  obtain ⟨W, hW⟩ : ∃ W, W = w.alloc (.cells #[.int .i64 e.t, .int .u32 e.e.u, .int .u32 e.e.v, .bool e.add] 65) := ⟨_, rfl⟩
  have HW : Hid (Mod w W NoB ∧ EvAt W h0 0 e) := by
    show _ ∧ _
    rw [hW, hh0]; exact ⟨(Mod.refl _ _).alloc _, World.cell?_alloc_at _ _ _ _ rfl, World.cell?_alloc_at _ _ _ _ rfl, World.cell?_alloc_at _ _ _ _ rfl, World.cell?_alloc_at _ _ _ _ rfl⟩
  obtain ⟨I, hI⟩ : ∃ I, fndI e.e l = I := ⟨_, rfl⟩
  have HF : Hid (∀ z, Eds z a l → Calls Try.prog 49 #[.slice a l.length cap, .agg #[.int .u32 e.e.u, .int .u32 e.e.v]] z fun r w' => r = .returned (.int .i64 I) ∧ Mod z w' NoB) := fun z hz => by rw [← hI]; exact find_any z a cap l e.e hz hl
  have hIs : 0 ≤ I ↔ e.add = true := by rw [← hI, fndI_sign, hf]
  obtain ⟨q0, q1, q2, q3⟩ := HW.out.2
  simp only [Nat.zero_add] at q1 q2 q3
  clear hL hs hI hf
  have q3' := q3
  go_enter Try.func28, Try.ntmps28
  go_wp2_with fail
  rw [← hW, ← hh0]
  clear hW hh0 q3
  refine (HF.out _ (HL.out.mod HW.out.1)).mono ?_
  rintro r w1 ⟨rfl, hm⟩
  have H1 : Hid (Mod w w1 NoB) := HW.out.1.trans hm (fun _ _ h => h)
  have r3 := keepc q3' hm
  clear hm q0 q1 q2 q3' HW
  go_wp2_with fail
  refine (rising_any _ a cap l (HL.out.mod H1.out) hl HS.out).mono ?_
  rintro r w2 ⟨rfl, hm⟩
  have H2 : Hid (Mod w w2 NoB) := H1.out.trans hm (fun _ _ h => h)
  have s3 := keepc r3 hm
  clear hm r3 H1
  cases hadd : e.add with
  | true =>
    have hI0 : 0 ≤ I := hIs.2 hadd
    rw [hadd] at s3
    clear hIs hadd
    go_wp2_with fail
    go_ret2
    exact ⟨rfl, H2.out⟩
  | false =>
    have hI0 : decide (0 ≤ I) = false := decide_eq_false (fun c => by have := hIs.1 c; rw [hadd] at this; cases this)
    rw [hadd] at s3
    clear hIs hadd
    go_wp2_with fail
    go_ret2
    exact ⟨rfl, H2.out⟩

/-- Turn, as it is told. -/
theorem turn_any (w : World) (a : Option Addr) (cap : Nat) (l : List Ed) (e : Ev) (hL : Eds w a l) (hp : Plain a) (hl : l.length ≤ 100000) (hcap : l.length ≤ cap) (hs : l.Pairwise edLt) :
    Calls Try.prog 28 #[.slice a l.length cap, .agg #[.int .i64 e.t, .int .u32 e.e.u, .int .u32 e.e.v, .bool e.add]] w fun r w' =>
      (turnL l e = none → r = .returned (.tuple #[.slice none 0 0, .bool false]) ∧ Mod w w' NoB) ∧
      (∀ n', turnL l e = some n' → ∃ a' cap', r = .returned (.tuple #[.slice a' n'.length cap', .bool true]) ∧ Eds w' a' n' ∧ (Plain a' ∧ Yg w a') ∧ n'.length ≤ cap' ∧ Mod w w' NoB) := by
  by_cases h1 : e.add = (fndE e.e l).isSome
  · have ht : turnL l e = none := by unfold turnL; rw [if_pos h1]
    refine (turn_none w a cap l e hL hl hs h1).mono (fun r w' h => ⟨fun _ => h, fun n' hn => ?_⟩)
    rw [ht] at hn; cases hn
  · cases ha : e.add with
    | true =>
      have hf : fndE e.e l = none := by
        rw [ha] at h1
        cases hq : fndE e.e l with
        | none => rfl
        | some k => rw [hq] at h1; exact absurd rfl h1
      have ht : turnL l e = some (insL e.e l) := by unfold turnL; rw [if_neg h1, if_pos ha]
      have key : Calls Try.prog 28 #[.slice a l.length cap, .agg #[.int .i64 e.t, .int .u32 e.e.u, .int .u32 e.e.v, .bool e.add]] w fun r w' => ∃ a' cap', r = .returned (.tuple #[.slice a' (insL e.e l).length cap', .bool true]) ∧ Eds w' a' (insL e.e l) ∧ (Plain a' ∧ Yg w a') ∧ (insL e.e l).length ≤ cap' ∧ Mod w w' NoB := by
        rcases hp with rfl | ⟨b, off, rfl⟩
        · have hl0 : l = [] := by
            rcases hL with h | ⟨b, off, hab, _⟩
            · exact h
            · cases hab
          subst hl0
          exact turn_add0 w cap e ha
        · exact turn_add1 w b off cap l e hL hl hcap hs hf ha
      rw [ha] at key
      refine key.mono (fun r w' h => ⟨fun hn => ?_, fun n' hn => ?_⟩)
      · rw [ht] at hn; cases hn
      · rw [ht] at hn; cases hn; exact h
    | false =>
      obtain ⟨k, hf⟩ : ∃ k, fndE e.e l = some k := by
        rw [ha] at h1
        cases hq : fndE e.e l with
        | none => rw [hq] at h1; exact absurd rfl h1
        | some k => exact ⟨k, rfl⟩
      have ht : turnL l e = some (l.eraseIdx k) := by unfold turnL; rw [if_neg h1, if_neg (by rw [ha]; simp), hf]; rfl
      have key := turn_del w a cap l e k hL hl hcap hs hf ha
      rw [ha] at key
      refine key.mono (fun r w' h => ⟨fun hn => ?_, fun n' hn => ?_⟩)
      · rw [ht] at hn; cases hn
      · rw [ht] at hn; cases hn; exact h
end Go.Proofs.Ythncgmmfnghliaa
