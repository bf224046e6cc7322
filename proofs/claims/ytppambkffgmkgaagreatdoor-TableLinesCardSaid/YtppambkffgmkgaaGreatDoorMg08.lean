/- Merged: LfRd LfSa LfSb -/
import Derived.Test.YtppambkffgmkgaaGreatDoorMg07
import Derived.Test.YtppambkffgmkgaaGreatDoorMg02
section
/- The reference: Turn, where an edge comes; Turn of what may not be. -/
namespace Go.Proofs.YtppambkffgmkgaaGreatDoor
open Go.RowKit
set_option linter.unusedVariables false

theorem insL_split {x : Ed} : ∀ {l : List Ed} {k : Nat}, k ≤ l.length → (∀ (j : Nat) (y : Ed), j < k → l[j]? = some y → edLt y x) → (∀ y, l[k]? = some y → ¬ edLt y x) → insL x l = l.take k ++ x :: l.drop k
  | [], k, hk, _, _ => by
    have : k = 0 := by simpa using hk
    subst this; rfl
  | y :: l, 0, _, _, h2 => by
    have := h2 y (by simp)
    simp [insL, this]
  | y :: l, k + 1, hk, h1, h2 => by
    have h0 := h1 0 y (by omega) (by simp)
    have ih := insL_split (l := l) (k := k) (by simpa using hk) (fun j z hj hz => h1 (j + 1) z (by omega) (by simpa using hz)) (fun z hz => h2 z (by simpa using hz))
    simp [insL, h0, ih]

theorem built_kept {w w' : World} {o : Obj} (hg : (w.alloc o).drew.grownBy w' (Value.slice none 0 0).ownBlock) : w'.heap[w.heap.size]? = some o := by
  have h1 : (w.alloc o).drew.heap[w.heap.size]? = some o := (MapKept.heap_alloc w o).1
  rw [hg.block w.heap.size (by show _ < (w.alloc o).heap.size; simp) (by simp [Value.ownBlock])]
  exact h1

set_option maxRecDepth 100000 in
set_option maxHeartbeats 8000000 in
theorem turn_add1 (w : World) (b off : Nat) (cap : Nat) (l : List Ed) (e : Ev) (hL : Eds w (some ⟨b, off, none⟩) l) (hl : l.length ≤ 100000) (hcap : l.length ≤ cap) (hs : l.Pairwise edLt) (hf : fndE e.e l = none) (ha : e.add = true) :
    Calls Tryz.prog 22 #[.slice (some ⟨b, off, none⟩) l.length cap, .agg #[.int .i64 e.t, .int .u32 e.e.u, .int .u32 e.e.v, .bool e.add]] w fun r w' => ∃ a' cap', r = .returned (.tuple #[.slice a' (insL e.e l).length cap', .bool true]) ∧ Eds w' a' (insL e.e l) ∧ (Plain a' ∧ Yg w a') ∧ (insL e.e l).length ≤ cap' ∧ Mod w w' NoB := by
  have HL := Lib.hid hL
  have HS := Lib.hid hs
  have hI : fndI e.e l = -1 := by unfold fndI; rw [hf]
  have HF : Hid (∀ z, Eds z (some ⟨b, off, none⟩) l → Calls Tryz.prog 52 #[.slice (some ⟨b, off, none⟩) l.length cap, .agg #[.int .u32 e.e.u, .int .u32 e.e.v]] z fun r w' => r = .returned (.int .i64 (-1)) ∧ Mod z w' NoB) := fun z hz => by rw [← hI]; exact find_any z (some ⟨b, off, none⟩) cap l e.e hz hl
  clear hL hs hI
  rw [ha]
  obtain ⟨i0, hi, hz0, hz1, hz2⟩ := info_parts info_edge
  have hmx := mixed
  obtain ⟨h0, hh0⟩ : ∃ h0, h0 = w.heap.size := ⟨_, rfl⟩
  obtain ⟨W, hW⟩ : ∃ W, W = w.alloc (.cells #[.int .i64 e.t, .int .u32 e.e.u, .int .u32 e.e.v, .bool true] 62) := ⟨_, rfl⟩
  have HW : Hid (Mod w W NoB ∧ EvAt W h0 0 ⟨e.t, e.e, true⟩) := by
    show _ ∧ _
    rw [hW, hh0]; exact ⟨(Mod.refl _ _).alloc _, World.cell?_alloc_at _ _ _ _ rfl, World.cell?_alloc_at _ _ _ _ rfl, World.cell?_alloc_at _ _ _ _ rfl, World.cell?_alloc_at _ _ _ _ rfl⟩
  obtain ⟨q0, q1, q2, q3⟩ := HW.out.2
  simp only [Nat.zero_add] at q1 q2 q3
  go_enter Tryz.func22, Tryz.ntmps22
  go_wp2_with fail
  rw [← hW, ← hh0]
  clear hW hh0
  refine (HF.out _ (HL.out.mod HW.out.1)).mono ?_
  rintro r w1 ⟨rfl, hm⟩
  have H1 : Hid (Mod w w1 NoB) := HW.out.1.trans hm (fun _ _ h => h)
  have r1 := keepc q1 hm
  have r2 := keepc q2 hm
  have r3 := keepc q3 hm
  clear hm q0 q1 q2 q3 HW
  go_wp2_with fail
  refine (rising_any _ (some ⟨b, off, none⟩) cap l (HL.out.mod H1.out) hl HS.out).mono ?_
  rintro r w2 ⟨rfl, hm⟩
  have HI0 : Hid (Mod w w2 NoB ∧ w2.cell? ⟨h0, 1, none⟩ = some (.int .u32 e.e.u) ∧ w2.cell? ⟨h0, 2, none⟩ = some (.int .u32 e.e.v)) := ⟨H1.out.trans hm (fun _ _ h => h), keepc r1 hm, keepc r2 hm⟩
  have s3 := keepc r3 hm
  clear hm r1 r2 r3 H1
  go_wp2_with fail
  clear s3
  go_loopw [6] (fun i wr => ∃ k : Nat, k ≤ l.length ∧ i = .int .i64 k ∧ Hid ((Mod w wr NoB ∧ wr.cell? ⟨h0, 1, none⟩ = some (.int .u32 e.e.u) ∧ wr.cell? ⟨h0, 2, none⟩ = some (.int .u32 e.e.v)) ∧ ∀ (j : Nat) (y : Ed), j < k → l[j]? = some y → edLt y e.e)) (fun i _ => l.length - (intOf i).toNat)
  case atStart => exact ⟨0, Nat.zero_le _, rfl, HI0.out, fun j y hj => by omega⟩
  case round =>
    obtain ⟨k, hk, rfl, HI⟩ := hrel
    have s1 := HI.out.1.2.1
    have s2 := HI.out.1.2.2
    by_cases hcont : ∃ y, l[k]? = some y ∧ edLt y e.e
    · obtain ⟨y, hy, hlt⟩ := hcont
      have hkl := (List.getElem?_eq_some_iff.1 hy).1
      obtain ⟨b', off', y', hab, hbw, hy', hC⟩ := (HL.out.mod HI.out.1.1).at hkl
      cases hab
      have : y' = y := Option.some.inj (hy'.symm.trans hy)
      subst this
      obtain ⟨c0, c1⟩ := hC
      have hki : (k : Int) < l.length := by omega
      have HB : Hid (∀ z, Calls Tryz.prog 54 #[.agg #[.int .u32 y'.u, .int .u32 y'.v], .agg #[.int .u32 e.e.u, .int .u32 e.e.v]] z fun r w' => r = .returned (.bool true) ∧ Grw z w') := fun z => by
        have := rless_grw z y'.u y'.v e.e.u e.e.v
        rwa [show decide (edLt ⟨y'.u, y'.v⟩ ⟨e.e.u, e.e.v⟩) = true by simpa using hlt] at this
      have HN : Hid (∀ (j : Nat) (y : Ed), j < k + 1 → l[j]? = some y → edLt y e.e) := fun j z hj hz => by
        rcases Nat.lt_succ_iff_lt_or_eq.1 hj with h | h
        · exact HI.out.2 j z h hz
        · subst h; rw [hy] at hz; cases hz; exact hlt
      have g0 := cg c0
      have g1 := cg c1
      have f0 := cg s1
      have f1 := cg s2
      clear hy hy' hlt hbw
      go_upto_region 7 with (fail)
      go_quiet_grown ((go_at_call 54; exact Calls.byGrw (HB.out _)))
      have H6 := Lib.hid (Grw.grown wr nq osq).mod
      go_wp2_with fail
      go_roundw
      case rel => exact ⟨k + 1, by omega, by go_num, ⟨HI.out.1.1.trans H6.out (fun _ _ h => h), keepc HI.out.1.2.1 H6.out, keepc HI.out.1.2.2 H6.out⟩, HN.out⟩
      case measure => simp [intOf]; omega
    · have hsp : insL e.e l = l.take k ++ e.e :: l.drop k := insL_split hk HI.out.2 (fun y hy hlt => hcont ⟨y, hy, hlt⟩)
      have HER : Hid (((l.take k).flatMap encD ++ encD e.e) ++ (l.drop k).flatMap encD = (insL e.e l).flatMap encD ∧ k + 1 + (l.length - k) = (insL e.e l).length) := by
        rw [hsp]
        refine ⟨by simp, by simp; omega⟩
      have HB : Hid (0 + k ≤ maxLen ∧ (0 + k) * 8 ≤ 140737488355328 ∧ k + 1 ≤ maxLen ∧ (k + 1) * 8 ≤ 140737488355328 ∧ k + 1 + (l.length - k) ≤ maxLen ∧ (k + 1 + (l.length - k)) * 8 ≤ 140737488355328) := by
        unfold maxLen; exact ⟨by omega, by omega, by omega, by omega, by omega, by omega⟩
      have hone : ∀ u ∈ encD e.e, u.oneCell' = true := by simp [encD, Value.oneCell']
      have hout : Hid (∀ y, l[k]? = some y → decide (edLt ⟨y.u, y.v⟩ ⟨e.e.u, e.e.v⟩) = false) := fun y hy => decide_eq_false (fun hlt => hcont ⟨y, hy, hlt⟩)
      clear hcont hsp
      go_upto_region 7 with (fail)
      by_cases hkl : k < l.length
      focus
        obtain ⟨b', off', y, hab, hbw, hy, hC⟩ := (HL.out.mod HI.out.1.1).at hkl
        cases hab
        obtain ⟨c0, c1⟩ := hC
        have hki : (k : Int) < l.length := by omega
        have HLs : Hid (∀ z, Calls Tryz.prog 54 #[.agg #[.int .u32 y.u, .int .u32 y.v], .agg #[.int .u32 e.e.u, .int .u32 e.e.v]] z fun r w' => r = .returned (.bool false) ∧ Grw z w') := fun z => by
          have := rless_grw z y.u y.v e.e.u e.e.v
          rwa [hout.out y hy] at this
        have g0 := cg c0
        have g1 := cg c1
        have f0 := cg s1
        have f1 := cg s2
        clear hy hbw
        go_quiet_grown ((go_at_call 54; exact Calls.byGrw (HLs.out _)))
        generalize hzz : Go.Sort.grow (World.drewN wr _) _ = z3
        have H6 : Hid (Mod wr z3 NoB) := by rw [← hzz]; exact (Grw.grown wr _ _).mod
        clear hzz g0 g1 f0 f1 c0 c1
      rotate_left
      focus
        have hkd : decide ((k : Int) < (l.length : Nat)) = false := decide_eq_false (by omega)
        have hkd2 : decide (k < l.length) = false := decide_eq_false hkl
        go_quiet (fail)
        generalize hzz : World.drewN wr _ = z3
        have H6 : Hid (Mod wr z3 NoB) := by rw [← hzz]; exact (Mod.refl _ _).drewN _
        clear hzz hkd hkd2
      all_goals
        have H2 : Hid (Mod w z3 NoB) := HI.out.1.1.trans H6.out (fun _ _ h => h)
        have t1 := keepc s1 H6.out
        have t2 := keepc s2 H6.out
        clear s1 s2 H6 hkl
        go_upto_region 9 with (fail)
        have HE : Hid (∀ z, Mod z3 z NoB → ∀ (i : Nat) (x : Ed), l[i]? = some x → EdAt z b (off + i * 2) x) := fun z hz i x hx => by
          rcases (HL.out.mod H2.out).mod hz with h | ⟨b', off', hab, _, h⟩
          · rw [h] at hx; simp at hx
          · cases hab; exact h i x hx
        have hkc : k ≤ cap := by omega
        have hkci : (k : Int) ≤ cap := by omega
        have hkl2 : (k : Int) ≤ l.length := by omega
        have hk0 : (0 : Int) ≤ (k : Int) := by omega
        have hlc : (l.length : Int) ≤ cap := by omega
        have HN : Hid (((l.take k).flatMap encD).length = k * 2 ∧ (∀ z, Mod z3 z NoB → ∀ (j : Nat) (u : Value), ((l.take k).flatMap encD)[j]? = some u → ∃ ad, (some ⟨b, off, none⟩ : Option Addr) = some ad ∧ z.cell? (ad.add j) = some u) ∧
            ((l.drop k).flatMap encD).length = (l.length - k) * 2 ∧ (∀ z, Mod z3 z NoB → ∀ (j : Nat) (u : Value), ((l.drop k).flatMap encD)[j]? = some u → ∃ ad, (if cap = k then some ⟨b, off, none⟩ else some ⟨b, off + k * 2, none⟩ : Option Addr) = some ad ∧ z.cell? (ad.add j) = some u)) := by
          refine ⟨by rw [enc2_len]; simp; omega, fun z hz => eds_news (p := 0) (HE.out z hz) (by omega), by rw [enc2_len]; simp, fun z hz j u hu => ?_⟩
          by_cases hce : cap = k
          · rw [List.drop_eq_nil_of_le (by omega)] at hu; simp at hu
          · have := eds_news (p := k) (m := l.length) (HE.out z hz) rfl j u
            rw [List.take_of_length_le (by simp)] at this
            rw [if_neg hce]
            exact this hu
        go_region_held3 (fun z => z.cell? ⟨h0, 1, none⟩ = some (.int .u32 e.e.u) ∧ z.cell? ⟨h0, 2, none⟩ = some (.int .u32 e.e.v))
          (first | exact ⟨t1, t2⟩ | exact ⟨keepc t1 ((Mod.drew (Mod.refl z3 NoB)).alloc _), keepc t2 ((Mod.drew (Mod.refl z3 NoB)).alloc _)⟩ | exact ⟨keepc t1 H8.out.mod, keepc t2 H8.out.mod⟩ | exact ⟨keepc t1 H7.out.mod, keepc t2 H7.out.mod⟩ | exact ⟨keepc t1 H6.out.mod, keepc t2 H6.out.mod⟩ | exact ⟨keepc t1 (H6.out.mod.alloc _), keepc t2 (H6.out.mod.alloc _)⟩)
          (first
          | (refine step_append_row _ rfl _ _ 63 rfl 57 i0 (.agg #[.int .u32 0, .int .u32 0]) 2 8 Tryz.underlying63 hi hz0 hz1 hz2 rfl (by decide) (.slice none 0 0) 0 [] rfl (World.ownsRow_nil _ _ _ _) _ k _ ((l.take k).flatMap encD) rfl HN.out.1 (HN.out.2.1 _ (Mod.drew (Mod.refl _ _))) (encD_one _) HB.out.1 HB.out.2.1 ?_
             intro v6 w6 hown6 hgrow6 hat6
             have H6 := Lib.hid ((New.first hown6 hgrow6 hat6).from (Mod.drew (Mod.refl z3 NoB)))
             clear hown6 hgrow6 hat6)
          | (refine step_append_row _ rfl _ _ 63 rfl 57 i0 (.agg #[.int .u32 0, .int .u32 0]) 2 8 Tryz.underlying63 hi hz0 hz1 hz2 rfl (by decide) (.slice none 0 0) 0 [] rfl (World.ownsRow_nil _ _ _ _) _ k _ ((l.take k).flatMap encD) rfl HN.out.1 (HN.out.2.1 _ (Mod.drew (Mod.alloc (Mod.refl _ _) _))) (encD_one _) HB.out.1 HB.out.2.1 ?_
             intro v6 w6 hown6 hgrow6 hat6
             have HBk := Lib.hid (built_kept (w := z3) hgrow6)
             have H6 := Lib.hid ((New.first hown6 hgrow6 hat6).from (Mod.drew (Mod.alloc (Mod.refl z3 NoB) _)))
             clear hown6 hgrow6 hat6)
          | (refine step_append_row _ rfl _ _ 63 rfl 57 i0 (.agg #[.int .u32 0, .int .u32 0]) 2 8 Tryz.underlying63 hi hz0 hz1 hz2 rfl (by decide) v6 k _ rfl (H6.out.row.alloc _) _ 1 _ (encD e.e) rfl rfl (fun j u hu => ⟨_, rfl, World.news_of_block (MapKept.heap_alloc _ _).1 j u hu⟩) hone HB.out.2.2.1 HB.out.2.2.2.1 ?_
             intro v7 w7 hown7 hgrow7 hat7
             have H7 := Lib.hid ((H6.out.alloc _).more hown7 hgrow7 hat7)
             clear hown7 hgrow7 hat7)
          | (refine step_append_row _ rfl _ _ 63 rfl 57 i0 (.agg #[.int .u32 0, .int .u32 0]) 2 8 Tryz.underlying63 hi hz0 hz1 hz2 rfl (by decide) v6 k _ rfl H6.out.row _ 1 _ (encD e.e) rfl rfl (fun j u hu => ⟨_, rfl, World.news_of_block HBk.out j u hu⟩) hone HB.out.2.2.1 HB.out.2.2.2.1 ?_
             intro v7 w7 hown7 hgrow7 hat7
             have H7 := Lib.hid (H6.out.more hown7 hgrow7 hat7)
             clear hown7 hgrow7 hat7)
          | (refine step_append_row _ rfl _ _ 63 rfl 57 i0 (.agg #[.int .u32 0, .int .u32 0]) 2 8 Tryz.underlying63 hi hz0 hz1 hz2 rfl (by decide) v7 (k + 1) _ rfl H7.out.row _ (l.length - k) _ ((l.drop k).flatMap encD) rfl HN.out.2.2.1 (HN.out.2.2.2 _ H7.out.mod) (encD_one _) HB.out.2.2.2.2.1 HB.out.2.2.2.2.2 ?_
             intro v8 w8 hown8 hgrow8 hat8
             have H8 := Lib.hid (H7.out.more hown8 hgrow8 hat8)
             clear hown8 hgrow8 hat8))
        all_goals
          rw [HER.out.1] at H8
          obtain ⟨a', cap', rfl, k1, k2, k3⟩ := H8.out.edges HER.out.2
          have HF8 := Lib.hid (And.intro k1 (And.intro k2 (And.intro k3 H8.out.mod)))
          clear k1 k2 k3
          go_wp2_with fail
          all_goals go_ret2
          all_goals exact ⟨a', cap', rfl, HF8.out.1, ⟨HF8.out.2.1.1, HF8.out.2.1.2.mono H2.out.size⟩, HF8.out.2.2.1, H2.out.trans HF8.out.2.2.2 (fun _ _ h => h)⟩
set_option maxRecDepth 100000 in
set_option maxHeartbeats 8000000 in
theorem turn_add0 (w : World) (cap : Nat) (e : Ev) (ha : e.add = true) :
    Calls Tryz.prog 22 #[.slice none 0 cap, .agg #[.int .i64 e.t, .int .u32 e.e.u, .int .u32 e.e.v, .bool e.add]] w fun r w' => ∃ a' cap', r = .returned (.tuple #[.slice a' ([e.e]).length cap', .bool true]) ∧ Eds w' a' ([e.e]) ∧ (Plain a' ∧ Yg w a') ∧ ([e.e]).length ≤ cap' ∧ Mod w w' NoB := by
  have hI : fndI e.e [] = -1 := rfl
  have HF : Hid (∀ z, Calls Tryz.prog 52 #[.slice none 0 cap, .agg #[.int .u32 e.e.u, .int .u32 e.e.v]] z fun r w' => r = .returned (.int .i64 (-1)) ∧ Mod z w' NoB) := fun z => by rw [← hI]; exact find_any z none cap [] e.e (Or.inl rfl) (by simp)
  clear hI
  rw [ha]
  obtain ⟨i0, hi, hz0, hz1, hz2⟩ := info_parts info_edge
  have hmx := mixed
  obtain ⟨h0, hh0⟩ : ∃ h0, h0 = w.heap.size := ⟨_, rfl⟩
  obtain ⟨W, hW⟩ : ∃ W, W = w.alloc (.cells #[.int .i64 e.t, .int .u32 e.e.u, .int .u32 e.e.v, .bool true] 62) := ⟨_, rfl⟩
  have HW : Hid (Mod w W NoB ∧ EvAt W h0 0 ⟨e.t, e.e, true⟩) := by
    show _ ∧ _
    rw [hW, hh0]; exact ⟨(Mod.refl _ _).alloc _, World.cell?_alloc_at _ _ _ _ rfl, World.cell?_alloc_at _ _ _ _ rfl, World.cell?_alloc_at _ _ _ _ rfl, World.cell?_alloc_at _ _ _ _ rfl⟩
  obtain ⟨q0, q1, q2, q3⟩ := HW.out.2
  simp only [Nat.zero_add] at q1 q2 q3
  go_enter Tryz.func22, Tryz.ntmps22
  go_wp2_with fail
  rw [← hW, ← hh0]
  clear hW hh0
  refine (HF.out _).mono ?_
  rintro r w1 ⟨rfl, hm⟩
  have H1 : Hid (Mod w w1 NoB) := HW.out.1.trans hm (fun _ _ h => h)
  have r1 := keepc q1 hm
  have r2 := keepc q2 hm
  have r3 := keepc q3 hm
  clear hm q0 q1 q2 q3 HW
  go_wp2_with fail
  refine (rising_any _ none cap [] (Or.inl rfl) (by simp) List.Pairwise.nil).mono ?_
  rintro r w2 ⟨rfl, hm⟩
  have HI0 : Hid (Mod w w2 NoB ∧ w2.cell? ⟨h0, 1, none⟩ = some (.int .u32 e.e.u) ∧ w2.cell? ⟨h0, 2, none⟩ = some (.int .u32 e.e.v)) := ⟨H1.out.trans hm (fun _ _ h => h), keepc r1 hm, keepc r2 hm⟩
  have s3 := keepc r3 hm
  clear hm r1 r2 r3 H1
  go_wp2_with fail
  clear s3
  go_loopw [6] (fun i wr => i = .int .i64 0 ∧ Hid (Mod w wr NoB ∧ wr.cell? ⟨h0, 1, none⟩ = some (.int .u32 e.e.u) ∧ wr.cell? ⟨h0, 2, none⟩ = some (.int .u32 e.e.v))) (fun i _ => 0)
  case atStart => exact ⟨rfl, HI0.out⟩
  case round =>
      obtain ⟨rfl, HI⟩ := hrel
      have s1 := HI.out.2.1
      have s2 := HI.out.2.2
      have HB : Hid (0 + 0 ≤ maxLen ∧ (0 + 0) * 8 ≤ 140737488355328 ∧ 0 + 1 ≤ maxLen ∧ (0 + 1) * 8 ≤ 140737488355328) := by
        unfold maxLen; exact ⟨by omega, by omega, by omega, by omega⟩
      have hone : ∀ u ∈ encD e.e, u.oneCell' = true := by simp [encD, Value.oneCell']
      go_upto_region 7 with (fail)
      go_quiet (fail)
      generalize hzz : World.drewN wr _ = z3
      have H6 : Hid (Mod wr z3 NoB) := by rw [← hzz]; exact (Mod.refl _ _).drewN _
      have H2 : Hid (Mod w z3 NoB) := HI.out.1.trans H6.out (fun _ _ h => h)
      have t1 := keepc s1 H6.out
      have t2 := keepc s2 H6.out
      clear s1 s2 H6 hzz
      go_upto_region 9 with (fail)
      go_region_held3 (fun z => z.cell? ⟨h0, 1, none⟩ = some (.int .u32 e.e.u) ∧ z.cell? ⟨h0, 2, none⟩ = some (.int .u32 e.e.v))
        (first | exact ⟨t1, t2⟩ | exact ⟨keepc t1 ((Mod.drew (Mod.refl z3 NoB)).alloc _), keepc t2 ((Mod.drew (Mod.refl z3 NoB)).alloc _)⟩ | exact ⟨keepc t1 H8.out.mod, keepc t2 H8.out.mod⟩ | exact ⟨keepc t1 H7.out.mod, keepc t2 H7.out.mod⟩ | exact ⟨keepc t1 H6.out.mod, keepc t2 H6.out.mod⟩ | exact ⟨keepc t1 (H6.out.mod.alloc _), keepc t2 (H6.out.mod.alloc _)⟩)
        (first
        | (refine step_append_row _ rfl _ _ 63 rfl 57 i0 (.agg #[.int .u32 0, .int .u32 0]) 2 8 Tryz.underlying63 hi hz0 hz1 hz2 rfl (by decide) (.slice none 0 0) 0 [] rfl (World.ownsRow_nil _ _ _ _) _ 0 _ [] rfl rfl (no_news rfl) (fun u hu => by cases hu) HB.out.1 HB.out.2.1 ?_
           intro v6 w6 hown6 hgrow6 hat6
           have H6 := Lib.hid ((New.first hown6 hgrow6 hat6).from (Mod.drew (Mod.refl z3 NoB)))
           clear hown6 hgrow6 hat6)
        | (refine step_append_row _ rfl _ _ 63 rfl 57 i0 (.agg #[.int .u32 0, .int .u32 0]) 2 8 Tryz.underlying63 hi hz0 hz1 hz2 rfl (by decide) (.slice none 0 0) 0 [] rfl (World.ownsRow_nil _ _ _ _) _ 0 _ [] rfl rfl (no_news rfl) (fun u hu => by cases hu) HB.out.1 HB.out.2.1 ?_
           intro v6 w6 hown6 hgrow6 hat6
           have HBk := Lib.hid (built_kept (w := z3) hgrow6)
           have H6 := Lib.hid ((New.first hown6 hgrow6 hat6).from (Mod.drew (Mod.alloc (Mod.refl z3 NoB) _)))
           clear hown6 hgrow6 hat6)
        | (refine step_append_row _ rfl _ _ 63 rfl 57 i0 (.agg #[.int .u32 0, .int .u32 0]) 2 8 Tryz.underlying63 hi hz0 hz1 hz2 rfl (by decide) v6 0 _ rfl (H6.out.row.alloc _) _ 1 _ (encD e.e) rfl rfl (fun j u hu => ⟨_, rfl, World.news_of_block (MapKept.heap_alloc _ _).1 j u hu⟩) hone HB.out.2.2.1 HB.out.2.2.2 ?_
           intro v7 w7 hown7 hgrow7 hat7
           have H7 := Lib.hid ((H6.out.alloc _).more hown7 hgrow7 hat7)
           clear hown7 hgrow7 hat7)
        | (refine step_append_row _ rfl _ _ 63 rfl 57 i0 (.agg #[.int .u32 0, .int .u32 0]) 2 8 Tryz.underlying63 hi hz0 hz1 hz2 rfl (by decide) v6 0 _ rfl H6.out.row _ 1 _ (encD e.e) rfl rfl (fun j u hu => ⟨_, rfl, World.news_of_block HBk.out j u hu⟩) hone HB.out.2.2.1 HB.out.2.2.2 ?_
           intro v7 w7 hown7 hgrow7 hat7
           have H7 := Lib.hid (H6.out.more hown7 hgrow7 hat7)
           clear hown7 hgrow7 hat7)
        | (refine step_append_row _ rfl _ _ 63 rfl 57 i0 (.agg #[.int .u32 0, .int .u32 0]) 2 8 Tryz.underlying63 hi hz0 hz1 hz2 rfl (by decide) v7 (0 + 1) _ rfl H7.out.row _ 0 _ [] rfl rfl (no_news rfl) (fun u hu => by cases hu) HB.out.2.2.1 HB.out.2.2.2 ?_
           intro v8 w8 hown8 hgrow8 hat8
           have H8 := Lib.hid (H7.out.more hown8 hgrow8 hat8)
           clear hown8 hgrow8 hat8))
      all_goals
        rw [show (([] : List Value) ++ encD e.e) ++ [] = [e.e].flatMap encD by simp] at H8
        obtain ⟨a', cap', rfl, k1, k2, k3⟩ := H8.out.edges rfl
        have HF8 := Lib.hid (And.intro k1 (And.intro k2 (And.intro k3 H8.out.mod)))
        clear k1 k2 k3
        go_wp2_with fail
        all_goals go_ret2
        all_goals exact ⟨a', cap', rfl, HF8.out.1, ⟨HF8.out.2.1.1, HF8.out.2.1.2.mono H2.out.size⟩, HF8.out.2.2.1, H2.out.trans HF8.out.2.2.2 (fun _ _ h => h)⟩
set_option maxRecDepth 100000 in
set_option maxHeartbeats 2000000 in
theorem turn_none (w : World) (a : Option Addr) (cap : Nat) (l : List Ed) (e : Ev) (hL : Eds w a l) (hl : l.length ≤ 100000) (hs : l.Pairwise edLt) (hf : e.add = (fndE e.e l).isSome) :
    Calls Tryz.prog 22 #[.slice a l.length cap, .agg #[.int .i64 e.t, .int .u32 e.e.u, .int .u32 e.e.v, .bool e.add]] w fun r w' => r = .returned (.tuple #[.slice none 0 0, .bool false]) ∧ Mod w w' NoB := by
  have HL := Lib.hid hL
  have HS := Lib.hid hs
  obtain ⟨h0, hh0⟩ : ∃ h0, h0 = w.heap.size := ⟨_, rfl⟩
  obtain ⟨W, hW⟩ : ∃ W, W = w.alloc (.cells #[.int .i64 e.t, .int .u32 e.e.u, .int .u32 e.e.v, .bool e.add] 62) := ⟨_, rfl⟩
  have HW : Hid (Mod w W NoB ∧ EvAt W h0 0 e) := by
    show _ ∧ _
    rw [hW, hh0]; exact ⟨(Mod.refl _ _).alloc _, World.cell?_alloc_at _ _ _ _ rfl, World.cell?_alloc_at _ _ _ _ rfl, World.cell?_alloc_at _ _ _ _ rfl, World.cell?_alloc_at _ _ _ _ rfl⟩
  obtain ⟨I, hI⟩ : ∃ I, fndI e.e l = I := ⟨_, rfl⟩
  have HF : Hid (∀ z, Eds z a l → Calls Tryz.prog 52 #[.slice a l.length cap, .agg #[.int .u32 e.e.u, .int .u32 e.e.v]] z fun r w' => r = .returned (.int .i64 I) ∧ Mod z w' NoB) := fun z hz => by rw [← hI]; exact find_any z a cap l e.e hz hl
  have hIs : 0 ≤ I ↔ e.add = true := by rw [← hI, fndI_sign, hf]
  obtain ⟨q0, q1, q2, q3⟩ := HW.out.2
  simp only [Nat.zero_add] at q1 q2 q3
  clear hL hs hI hf
  have q3' := q3
  go_enter Tryz.func22, Tryz.ntmps22
  go_wp2_with fail
  rw [← hW, ← hh0]
  clear hW hh0 q3
  refine (HF.out _ (HL.out.mod HW.out.1)).mono ?_
  rintro r w1 ⟨rfl, hm⟩
  have H1 : Hid (Mod w w1 NoB) := HW.out.1.trans hm (fun _ _ h => h)
  have r3 := keepc q3' hm
  clear hm q0 q1 q2 q3' HW
  go_wp2_with fail
  refine (rising_any _ a cap l (HL.out.mod H1.out) hl HS.out).mono ?_
  rintro r w2 ⟨rfl, hm⟩
  have H2 : Hid (Mod w w2 NoB) := H1.out.trans hm (fun _ _ h => h)
  have s3 := keepc r3 hm
  clear hm r3 H1
  cases hadd : e.add with
  | true =>
    have hI0 : 0 ≤ I := hIs.2 hadd
    rw [hadd] at s3
    clear hIs hadd
    go_wp2_with fail
    go_ret2
    exact ⟨rfl, H2.out⟩
  | false =>
    have hI0 : decide (0 ≤ I) = false := decide_eq_false (fun c => by have := hIs.1 c; rw [hadd] at this; cases this)
    rw [hadd] at s3
    clear hIs hadd
    go_wp2_with fail
    go_ret2
    exact ⟨rfl, H2.out⟩

/-- Turn, as it is told. -/
theorem turn_any (w : World) (a : Option Addr) (cap : Nat) (l : List Ed) (e : Ev) (hL : Eds w a l) (hp : Plain a) (hl : l.length ≤ 100000) (hcap : l.length ≤ cap) (hs : l.Pairwise edLt) :
    Calls Tryz.prog 22 #[.slice a l.length cap, .agg #[.int .i64 e.t, .int .u32 e.e.u, .int .u32 e.e.v, .bool e.add]] w fun r w' =>
      (turnL l e = none → r = .returned (.tuple #[.slice none 0 0, .bool false]) ∧ Mod w w' NoB) ∧
      (∀ n', turnL l e = some n' → ∃ a' cap', r = .returned (.tuple #[.slice a' n'.length cap', .bool true]) ∧ Eds w' a' n' ∧ (Plain a' ∧ Yg w a') ∧ n'.length ≤ cap' ∧ Mod w w' NoB) := by
  by_cases h1 : e.add = (fndE e.e l).isSome
  · have ht : turnL l e = none := by unfold turnL; rw [if_pos h1]
    refine (turn_none w a cap l e hL hl hs h1).mono (fun r w' h => ⟨fun _ => h, fun n' hn => ?_⟩)
    rw [ht] at hn; cases hn
  · cases ha : e.add with
    | true =>
      have hf : fndE e.e l = none := by
        rw [ha] at h1
        cases hq : fndE e.e l with
        | none => rfl
        | some k => rw [hq] at h1; exact absurd rfl h1
      have ht : turnL l e = some (insL e.e l) := by unfold turnL; rw [if_neg h1, if_pos ha]
      have key : Calls Tryz.prog 22 #[.slice a l.length cap, .agg #[.int .i64 e.t, .int .u32 e.e.u, .int .u32 e.e.v, .bool e.add]] w fun r w' => ∃ a' cap', r = .returned (.tuple #[.slice a' (insL e.e l).length cap', .bool true]) ∧ Eds w' a' (insL e.e l) ∧ (Plain a' ∧ Yg w a') ∧ (insL e.e l).length ≤ cap' ∧ Mod w w' NoB := by
        rcases hp with rfl | ⟨b, off, rfl⟩
        · have hl0 : l = [] := by
            rcases hL with h | ⟨b, off, hab, _⟩
            · exact h
            · cases hab
          subst hl0
          exact turn_add0 w cap e ha
        · exact turn_add1 w b off cap l e hL hl hcap hs hf ha
      rw [ha] at key
      refine key.mono (fun r w' h => ⟨fun hn => ?_, fun n' hn => ?_⟩)
      · rw [ht] at hn; cases hn
      · rw [ht] at hn; cases hn; exact h
    | false =>
      obtain ⟨k, hf⟩ : ∃ k, fndE e.e l = some k := by
        rw [ha] at h1
        cases hq : fndE e.e l with
        | none => rw [hq] at h1; exact absurd rfl h1
        | some k => exact ⟨k, rfl⟩
      have ht : turnL l e = some (l.eraseIdx k) := by unfold turnL; rw [if_neg h1, if_neg (by rw [ha]; simp), hf]; rfl
      have key := turn_del w a cap l e k hL hl hcap hs hf ha
      rw [ha] at key
      refine key.mono (fun r w' h => ⟨fun hn => ?_, fun n' hn => ?_⟩)
      · rw [ht] at hn; cases hn
      · rw [ht] at hn; cases hn; exact h
end Go.Proofs.YtppambkffgmkgaaGreatDoor
end

section
/- The statements' own: Vertices, Edge. -/
namespace Go.Proofs.YtppambkffgmkgaaGreatDoor
open Go.RowKit
set_option linter.unusedVariables false

theorem verts_any (w : World) (k : Int) (hk : 0 ≤ k ∧ k ≤ 255) : Calls Tryz.prog 18 #[.int .u8 k] w fun e w' => e = .returned (.int .u64 (vertsOf k.toNat)) ∧ Mod w w' NoB := by
  obtain ⟨r, hr⟩ : ∃ r, vertsOf k.toNat = r := ⟨_, rfl⟩
  rw [hr]
  have h8 : k % 8 = 0 ∨ k % 8 = 1 ∨ k % 8 = 2 ∨ k % 8 = 3 ∨ k % 8 = 4 ∨ k % 8 = 5 ∨ k % 8 = 6 ∨ k % 8 = 7 := by omega
  have hv : ∀ c : Nat, k % 8 = (c : Int) → [8, 5, 2, 4294967296, 300, 12, 1048576, 3].getD c 0 = r := fun c hc => by
    rw [← hr]; unfold vertsOf
    rw [show k.toNat % 8 = c by omega]
  rcases h8 with h | h | h | h | h | h | h | h
  · have hr' := hv 0 (by omega); subst hr'
    clear hr hv
    go_enter Tryz.func18, Tryz.ntmps18
    go_wp2_with fail
    go_ret
    exact ⟨rfl, (Mod.refl _ _).alloc _⟩
  · have hr' := hv 1 (by omega); subst hr'
    clear hr hv
    go_enter Tryz.func18, Tryz.ntmps18
    go_wp2_with fail
    go_ret
    exact ⟨rfl, (Mod.refl _ _).alloc _⟩
  · have hr' := hv 2 (by omega); subst hr'
    clear hr hv
    go_enter Tryz.func18, Tryz.ntmps18
    go_wp2_with fail
    go_ret
    exact ⟨rfl, (Mod.refl _ _).alloc _⟩
  · have hr' := hv 3 (by omega); subst hr'
    clear hr hv
    go_enter Tryz.func18, Tryz.ntmps18
    go_wp2_with fail
    go_ret
    exact ⟨rfl, (Mod.refl _ _).alloc _⟩
  · have hr' := hv 4 (by omega); subst hr'
    clear hr hv
    go_enter Tryz.func18, Tryz.ntmps18
    go_wp2_with fail
    go_ret
    exact ⟨rfl, (Mod.refl _ _).alloc _⟩
  · have hr' := hv 5 (by omega); subst hr'
    clear hr hv
    go_enter Tryz.func18, Tryz.ntmps18
    go_wp2_with fail
    go_ret
    exact ⟨rfl, (Mod.refl _ _).alloc _⟩
  · have hr' := hv 6 (by omega); subst hr'
    clear hr hv
    go_enter Tryz.func18, Tryz.ntmps18
    go_wp2_with fail
    go_ret
    exact ⟨rfl, (Mod.refl _ _).alloc _⟩
  · have hr' := hv 7 (by omega); subst hr'
    clear hr hv
    go_enter Tryz.func18, Tryz.ntmps18
    go_wp2_with fail
    go_ret
    exact ⟨rfl, (Mod.refl _ _).alloc _⟩

theorem edge_end {w z : World} {h6 : Nat} {x y : Value} (hz : Mod w z NoB ∧ w.heap.size ≤ h6) (d0 : z.cell? ⟨h6, 0, none⟩ = some x) (d1 : z.cell? ⟨h6, 1, none⟩ = some y) (X Y : Value) :
    ((z.setCell ⟨h6, 0, none⟩ X).setCell ⟨h6, 1, none⟩ Y).cell? ⟨h6, 0, none⟩ = some X ∧ ((z.setCell ⟨h6, 0, none⟩ X).setCell ⟨h6, 1, none⟩ Y).cell? ⟨h6, 1, none⟩ = some Y ∧ Mod w ((z.setCell ⟨h6, 0, none⟩ X).setCell ⟨h6, 1, none⟩ Y) NoB := by
  refine ⟨?_, ?_, (hz.1.setCell (p := ⟨h6, 0, none⟩) (fun c => absurd c (Nat.not_lt.2 hz.2)) _).setCell (p := ⟨h6, 1, none⟩) (fun c => absurd c (Nat.not_lt.2 hz.2)) _⟩
  · rw [World.cell?_setCell_other _ _ _ _ (by simp)]; exact World.cell?_setCell_same _ _ _ d0
  · exact World.cell?_setCell_same _ _ _ (by rw [World.cell?_setCell_other _ _ _ _ (by simp)]; exact d1)

def edgeOr (a b n : Int) : Ed := (edgeOf a b n).getD ⟨0, 0⟩

set_option maxRecDepth 100000 in
set_option maxHeartbeats 4000000 in
theorem edge_any (w : World) (a b n : Int) (ha : 0 ≤ a ∧ a ≤ 255) (hb : 0 ≤ b ∧ b ≤ 255) (hn : 2 ≤ n ∧ n ≤ 4294967296) :
    Calls Tryz.prog 19 #[.int .u8 a, .int .u8 b, .int .u64 n] w fun e w' => e = .returned (.tuple #[.agg #[.int .u32 (edgeOr a b n).u, .int .u32 (edgeOr a b n).v], .bool (edgeOf a b n).isSome]) ∧ Mod w w' NoB := by
  have hmx := mixed
  obtain ⟨h6, hh6⟩ : ∃ h6, h6 = w.heap.size := ⟨_, rfl⟩
  obtain ⟨W, hW⟩ : ∃ W, W = w.alloc (.cells #[.int .u32 0, .int .u32 0] 57) := ⟨_, rfl⟩
  have HW : Hid (Mod w W NoB ∧ w.heap.size ≤ h6) := ⟨by rw [hW]; exact (Mod.refl _ _).alloc _, by omega⟩
  have c0 : W.cell? ⟨h6, 0, none⟩ = some (.int .u32 0) := by rw [hW, hh6]; exact World.cell?_alloc_at _ _ _ _ rfl
  have c1 : W.cell? ⟨h6, 1, none⟩ = some (.int .u32 0) := by rw [hW, hh6]; exact World.cell?_alloc_at _ _ _ _ rfl
  have f0 : W.frozen? ⟨h6, 0, none⟩ = false := by rw [hW, hh6]; simp
  have f1 : W.frozen? ⟨h6, 1, none⟩ = false := by rw [hW, hh6]; simp
  obtain ⟨F, hF⟩ : ∃ F, min n 9 = F := ⟨_, rfl⟩
  have hF2 : 2 ≤ F ∧ F ≤ 9 ∧ F ≤ n := by omega
  have hFz : (F == 0) = false := by simp; omega
  obtain ⟨A0, hA0⟩ : ∃ A0, a % F = A0 := ⟨_, rfl⟩
  obtain ⟨B0, hB0⟩ : ∃ B0, b % F = B0 := ⟨_, rfl⟩
  have bA : 0 ≤ A0 ∧ A0 < F := by rw [← hA0]; exact ⟨Int.emod_nonneg _ (by omega), Int.emod_lt_of_pos _ (by omega)⟩
  have bB : 0 ≤ B0 ∧ B0 < F := by rw [← hB0]; exact ⟨Int.emod_nonneg _ (by omega), Int.emod_lt_of_pos _ (by omega)⟩
  have tA : a.tmod F = A0 := by rw [Int.tmod_eq_emod_of_nonneg ha.1]; exact hA0
  have tB : b.tmod F = B0 := by rw [Int.tmod_eq_emod_of_nonneg hb.1]; exact hB0
  have HE : Hid (edgeOf a b n = if endOf a n (decide (230 < a)) = endOf b n (decide (240 < b)) then none else some ⟨min (endOf a n (decide (230 < a))) (endOf b n (decide (240 < b))), max (endOf a n (decide (230 < a))) (endOf b n (decide (240 < b)))⟩) := rfl
  have HU1 : Hid (endOf a n true = n - 1 - A0 ∧ endOf a n false = A0 ∧ endOf b n true = n - 1 - B0 ∧ endOf b n false = B0) := by
    show _ ∧ _
    unfold endOf; rw [hF, hA0, hB0]; exact ⟨rfl, rfl, rfl, rfl⟩
  go_enter Tryz.func19, Tryz.ntmps19
  have hFi : (if 9 < n then 9 else n) = F := by rw [← hF]; split <;> omega
  have hwa : IntKind.u64.wrap a = a := IntWalk.u64_in _ (by omega)
  have hwb : IntKind.u64.wrap b = b := IntWalk.u64_in _ (by omega)
  have hwn : IntKind.u64.wrap (n - 1) = n - 1 := IntWalk.u64_in _ (by omega)
  clear hF hA0 hB0
  go_upto_region 2 with (fail)
  rw [← hW, ← hh6]
  clear hW hh6 hFi
  go_quiet (fail)
  generalize hzz : World.drewN W _ = z
  have HZ : Hid (Mod w z NoB ∧ w.heap.size ≤ h6) := by
    rw [← hzz]; exact ⟨HW.out.1.drewN _, HW.out.2⟩
  have d0 : z.cell? ⟨h6, 0, none⟩ = some (.int .u32 0) := by rw [← hzz]; exact c0
  have d1 : z.cell? ⟨h6, 1, none⟩ = some (.int .u32 0) := by rw [← hzz]; exact c1
  have g0 : z.frozen? ⟨h6, 0, none⟩ = false := by rw [← hzz]; exact f0
  have g1 : z.frozen? ⟨h6, 1, none⟩ = false := by rw [← hzz]; exact f1
  clear hzz c0 c1 f0 f1 HW tA tB hFz hwa hwb
  by_cases pa : 230 < a
  · by_cases pb : 240 < b
    · skip
      obtain ⟨U, hU⟩ : ∃ U, n - 1 - A0 = U := ⟨_, rfl⟩
      obtain ⟨V, hV⟩ : ∃ V, n - 1 - B0 = V := ⟨_, rfl⟩
      have bU : 0 ≤ U ∧ U < n := by omega
      have bV : 0 ≤ V ∧ V < n := by omega
      have hw2 : IntKind.u64.wrap (n - 1 - A0) = U := by rw [IntWalk.u64_in _ (by omega)]; exact hU
      have hw3 : IntKind.u64.wrap (n - 1 - B0) = V := by rw [IntWalk.u64_in _ (by omega)]; exact hV
      have HR : Hid (edgeOf a b n = if U = V then none else some ⟨min U V, max U V⟩) := by
        show _ = _
        rw [HE.out, show decide (230 < a) = true by simp; omega, show decide (240 < b) = true by simp; omega, HU1.out.1, HU1.out.2.2.1, hU, hV]
      clear HE HU1
      go_upto_region 7 with (fail)
      by_cases huv : U = V
      · have hr : edgeOf a b n = none := by rw [HR.out, if_pos huv]
        have HF : Hid (edgeOr a b n = ⟨0, 0⟩ ∧ edgeOf a b n = none) := ⟨by unfold edgeOr; rw [hr]; rfl, hr⟩
        clear hr HR
        go_wp2_with fail
        obtain ⟨k0, k1, k2⟩ := edge_end HZ.out d0 d1 (.int .u32 0) (.int .u32 0)
        generalize hzz : (z.setCell ⟨h6, 0, none⟩ (.int .u32 0)).setCell ⟨h6, 1, none⟩ (.int .u32 0) = z9 at k0 k1 k2
        clear d0 d1 g0 g1
        exact bodyPost_ret (v := .tuple #[.agg #[.int .u32 0, .int .u32 0], .bool false]) (by simp [results, Tryz.results19, go_sem, k0, k1]) rfl ⟨by rw [HF.out.1, HF.out.2]; rfl, k2⟩
      · have hr : edgeOf a b n = some ⟨min U V, max U V⟩ := by rw [HR.out, if_neg huv]
        have hub : (U == V) = false := by simpa using huv
        have HF : Hid (edgeOr a b n = ⟨min U V, max U V⟩ ∧ edgeOf a b n = some ⟨min U V, max U V⟩) := ⟨by unfold edgeOr; rw [hr]; rfl, hr⟩
        clear hr HR
        by_cases hlt : U < V
        · go_wp2_with fail
          obtain ⟨k0, k1, k2⟩ := edge_end HZ.out d0 d1 (.int .u32 U) (.int .u32 V)
          generalize hzz : (z.setCell ⟨h6, 0, none⟩ (.int .u32 U)).setCell ⟨h6, 1, none⟩ (.int .u32 V) = z9 at k0 k1 k2
          clear d0 d1 g0 g1
          exact bodyPost_ret (v := .tuple #[.agg #[.int .u32 U, .int .u32 V], .bool true]) (by simp [results, Tryz.results19, go_sem, k0, k1]) rfl ⟨by rw [HF.out.1, HF.out.2]; simp; omega, k2⟩
        · have hlt2 : V < U := by omega
          go_wp2_with fail
          obtain ⟨k0, k1, k2⟩ := edge_end HZ.out d0 d1 (.int .u32 V) (.int .u32 U)
          generalize hzz : (z.setCell ⟨h6, 0, none⟩ (.int .u32 V)).setCell ⟨h6, 1, none⟩ (.int .u32 U) = z9 at k0 k1 k2
          clear d0 d1 g0 g1
          exact bodyPost_ret (v := .tuple #[.agg #[.int .u32 V, .int .u32 U], .bool true]) (by simp [results, Tryz.results19, go_sem, k0, k1]) rfl ⟨by rw [HF.out.1, HF.out.2]; simp; omega, k2⟩
    · skip
      obtain ⟨U, hU⟩ : ∃ U, n - 1 - A0 = U := ⟨_, rfl⟩
      obtain ⟨V, hV⟩ : ∃ V, B0 = V := ⟨_, rfl⟩
      have bU : 0 ≤ U ∧ U < n := by omega
      have bV : 0 ≤ V ∧ V < n := by omega
      have hw2 : IntKind.u64.wrap (n - 1 - A0) = U := by rw [IntWalk.u64_in _ (by omega)]; exact hU
      have hw3 : B0 = V := hV
      have HR : Hid (edgeOf a b n = if U = V then none else some ⟨min U V, max U V⟩) := by
        show _ = _
        rw [HE.out, show decide (230 < a) = true by simp; omega, show decide (240 < b) = false by simp; omega, HU1.out.1, HU1.out.2.2.2, hU, hV]
      clear HE HU1
      go_upto_region 7 with (fail)
      by_cases huv : U = V
      · have hr : edgeOf a b n = none := by rw [HR.out, if_pos huv]
        have HF : Hid (edgeOr a b n = ⟨0, 0⟩ ∧ edgeOf a b n = none) := ⟨by unfold edgeOr; rw [hr]; rfl, hr⟩
        clear hr HR
        go_wp2_with fail
        obtain ⟨k0, k1, k2⟩ := edge_end HZ.out d0 d1 (.int .u32 0) (.int .u32 0)
        generalize hzz : (z.setCell ⟨h6, 0, none⟩ (.int .u32 0)).setCell ⟨h6, 1, none⟩ (.int .u32 0) = z9 at k0 k1 k2
        clear d0 d1 g0 g1
        exact bodyPost_ret (v := .tuple #[.agg #[.int .u32 0, .int .u32 0], .bool false]) (by simp [results, Tryz.results19, go_sem, k0, k1]) rfl ⟨by rw [HF.out.1, HF.out.2]; rfl, k2⟩
      · have hr : edgeOf a b n = some ⟨min U V, max U V⟩ := by rw [HR.out, if_neg huv]
        have hub : (U == V) = false := by simpa using huv
        have HF : Hid (edgeOr a b n = ⟨min U V, max U V⟩ ∧ edgeOf a b n = some ⟨min U V, max U V⟩) := ⟨by unfold edgeOr; rw [hr]; rfl, hr⟩
        clear hr HR
        by_cases hlt : U < V
        · go_wp2_with fail
          obtain ⟨k0, k1, k2⟩ := edge_end HZ.out d0 d1 (.int .u32 U) (.int .u32 V)
          generalize hzz : (z.setCell ⟨h6, 0, none⟩ (.int .u32 U)).setCell ⟨h6, 1, none⟩ (.int .u32 V) = z9 at k0 k1 k2
          clear d0 d1 g0 g1
          exact bodyPost_ret (v := .tuple #[.agg #[.int .u32 U, .int .u32 V], .bool true]) (by simp [results, Tryz.results19, go_sem, k0, k1]) rfl ⟨by rw [HF.out.1, HF.out.2]; simp; omega, k2⟩
        · have hlt2 : V < U := by omega
          go_wp2_with fail
          obtain ⟨k0, k1, k2⟩ := edge_end HZ.out d0 d1 (.int .u32 V) (.int .u32 U)
          generalize hzz : (z.setCell ⟨h6, 0, none⟩ (.int .u32 V)).setCell ⟨h6, 1, none⟩ (.int .u32 U) = z9 at k0 k1 k2
          clear d0 d1 g0 g1
          exact bodyPost_ret (v := .tuple #[.agg #[.int .u32 V, .int .u32 U], .bool true]) (by simp [results, Tryz.results19, go_sem, k0, k1]) rfl ⟨by rw [HF.out.1, HF.out.2]; simp; omega, k2⟩
  · by_cases pb : 240 < b
    · skip
      obtain ⟨U, hU⟩ : ∃ U, A0 = U := ⟨_, rfl⟩
      obtain ⟨V, hV⟩ : ∃ V, n - 1 - B0 = V := ⟨_, rfl⟩
      have bU : 0 ≤ U ∧ U < n := by omega
      have bV : 0 ≤ V ∧ V < n := by omega
      have hw2 : A0 = U := hU
      have hw3 : IntKind.u64.wrap (n - 1 - B0) = V := by rw [IntWalk.u64_in _ (by omega)]; exact hV
      have HR : Hid (edgeOf a b n = if U = V then none else some ⟨min U V, max U V⟩) := by
        show _ = _
        rw [HE.out, show decide (230 < a) = false by simp; omega, show decide (240 < b) = true by simp; omega, HU1.out.2.1, HU1.out.2.2.1, hU, hV]
      clear HE HU1
      go_upto_region 7 with (fail)
      by_cases huv : U = V
      · have hr : edgeOf a b n = none := by rw [HR.out, if_pos huv]
        have HF : Hid (edgeOr a b n = ⟨0, 0⟩ ∧ edgeOf a b n = none) := ⟨by unfold edgeOr; rw [hr]; rfl, hr⟩
        clear hr HR
        go_wp2_with fail
        obtain ⟨k0, k1, k2⟩ := edge_end HZ.out d0 d1 (.int .u32 0) (.int .u32 0)
        generalize hzz : (z.setCell ⟨h6, 0, none⟩ (.int .u32 0)).setCell ⟨h6, 1, none⟩ (.int .u32 0) = z9 at k0 k1 k2
        clear d0 d1 g0 g1
        exact bodyPost_ret (v := .tuple #[.agg #[.int .u32 0, .int .u32 0], .bool false]) (by simp [results, Tryz.results19, go_sem, k0, k1]) rfl ⟨by rw [HF.out.1, HF.out.2]; rfl, k2⟩
      · have hr : edgeOf a b n = some ⟨min U V, max U V⟩ := by rw [HR.out, if_neg huv]
        have hub : (U == V) = false := by simpa using huv
        have HF : Hid (edgeOr a b n = ⟨min U V, max U V⟩ ∧ edgeOf a b n = some ⟨min U V, max U V⟩) := ⟨by unfold edgeOr; rw [hr]; rfl, hr⟩
        clear hr HR
        by_cases hlt : U < V
        · go_wp2_with fail
          obtain ⟨k0, k1, k2⟩ := edge_end HZ.out d0 d1 (.int .u32 U) (.int .u32 V)
          generalize hzz : (z.setCell ⟨h6, 0, none⟩ (.int .u32 U)).setCell ⟨h6, 1, none⟩ (.int .u32 V) = z9 at k0 k1 k2
          clear d0 d1 g0 g1
          exact bodyPost_ret (v := .tuple #[.agg #[.int .u32 U, .int .u32 V], .bool true]) (by simp [results, Tryz.results19, go_sem, k0, k1]) rfl ⟨by rw [HF.out.1, HF.out.2]; simp; omega, k2⟩
        · have hlt2 : V < U := by omega
          go_wp2_with fail
          obtain ⟨k0, k1, k2⟩ := edge_end HZ.out d0 d1 (.int .u32 V) (.int .u32 U)
          generalize hzz : (z.setCell ⟨h6, 0, none⟩ (.int .u32 V)).setCell ⟨h6, 1, none⟩ (.int .u32 U) = z9 at k0 k1 k2
          clear d0 d1 g0 g1
          exact bodyPost_ret (v := .tuple #[.agg #[.int .u32 V, .int .u32 U], .bool true]) (by simp [results, Tryz.results19, go_sem, k0, k1]) rfl ⟨by rw [HF.out.1, HF.out.2]; simp; omega, k2⟩
    · skip
      obtain ⟨U, hU⟩ : ∃ U, A0 = U := ⟨_, rfl⟩
      obtain ⟨V, hV⟩ : ∃ V, B0 = V := ⟨_, rfl⟩
      have bU : 0 ≤ U ∧ U < n := by omega
      have bV : 0 ≤ V ∧ V < n := by omega
      have hw2 : A0 = U := hU
      have hw3 : B0 = V := hV
      have HR : Hid (edgeOf a b n = if U = V then none else some ⟨min U V, max U V⟩) := by
        show _ = _
        rw [HE.out, show decide (230 < a) = false by simp; omega, show decide (240 < b) = false by simp; omega, HU1.out.2.1, HU1.out.2.2.2, hU, hV]
      clear HE HU1
      go_upto_region 7 with (fail)
      by_cases huv : U = V
      · have hr : edgeOf a b n = none := by rw [HR.out, if_pos huv]
        have HF : Hid (edgeOr a b n = ⟨0, 0⟩ ∧ edgeOf a b n = none) := ⟨by unfold edgeOr; rw [hr]; rfl, hr⟩
        clear hr HR
        go_wp2_with fail
        obtain ⟨k0, k1, k2⟩ := edge_end HZ.out d0 d1 (.int .u32 0) (.int .u32 0)
        generalize hzz : (z.setCell ⟨h6, 0, none⟩ (.int .u32 0)).setCell ⟨h6, 1, none⟩ (.int .u32 0) = z9 at k0 k1 k2
        clear d0 d1 g0 g1
        exact bodyPost_ret (v := .tuple #[.agg #[.int .u32 0, .int .u32 0], .bool false]) (by simp [results, Tryz.results19, go_sem, k0, k1]) rfl ⟨by rw [HF.out.1, HF.out.2]; rfl, k2⟩
      · have hr : edgeOf a b n = some ⟨min U V, max U V⟩ := by rw [HR.out, if_neg huv]
        have hub : (U == V) = false := by simpa using huv
        have HF : Hid (edgeOr a b n = ⟨min U V, max U V⟩ ∧ edgeOf a b n = some ⟨min U V, max U V⟩) := ⟨by unfold edgeOr; rw [hr]; rfl, hr⟩
        clear hr HR
        by_cases hlt : U < V
        · go_wp2_with fail
          obtain ⟨k0, k1, k2⟩ := edge_end HZ.out d0 d1 (.int .u32 U) (.int .u32 V)
          generalize hzz : (z.setCell ⟨h6, 0, none⟩ (.int .u32 U)).setCell ⟨h6, 1, none⟩ (.int .u32 V) = z9 at k0 k1 k2
          clear d0 d1 g0 g1
          exact bodyPost_ret (v := .tuple #[.agg #[.int .u32 U, .int .u32 V], .bool true]) (by simp [results, Tryz.results19, go_sem, k0, k1]) rfl ⟨by rw [HF.out.1, HF.out.2]; simp; omega, k2⟩
        · have hlt2 : V < U := by omega
          go_wp2_with fail
          obtain ⟨k0, k1, k2⟩ := edge_end HZ.out d0 d1 (.int .u32 V) (.int .u32 U)
          generalize hzz : (z.setCell ⟨h6, 0, none⟩ (.int .u32 V)).setCell ⟨h6, 1, none⟩ (.int .u32 U) = z9 at k0 k1 k2
          clear d0 d1 g0 g1
          exact bodyPost_ret (v := .tuple #[.agg #[.int .u32 V, .int .u32 U], .bool true]) (by simp [results, Tryz.results19, go_sem, k0, k1]) rfl ⟨by rw [HF.out.1, HF.out.2]; simp; omega, k2⟩
end Go.Proofs.YtppambkffgmkgaaGreatDoor
end

section
/- The reference's insert of events; rows of events. -/
namespace Go.Proofs.YtppambkffgmkgaaGreatDoor
open Go.RowKit
set_option linter.unusedVariables false

theorem info_event2 : (Tryz.prog.info? 62).map (fun i => (i.zero, i.size, i.bytes)) = some (some (.agg #[.int .i64 0, .int .u32 0, .int .u32 0, .bool false]), 4, 24) := by kernel_rfl

/-- The cells of a part of a row of events. -/
theorem evs_news {w : World} {b off o' p m : Nat} {l : List Ev} (h : ∀ (i : Nat) (x : Ev), l[i]? = some x → EvAt w b (off + i * 4) x) (ho : o' = off + p * 4) :
    ∀ (j : Nat) (u : Value), (((l.drop p).take m).flatMap encV)[j]? = some u → ∃ ad, (some ⟨b, o', none⟩ : Option Addr) = some ad ∧ w.cell? (ad.add j) = some u := by
  intro j u hu
  obtain ⟨h1, h2⟩ := List.getElem?_eq_some_iff.1 hu
  have hj2 : j / 4 < ((l.drop p).take m).length := by rw [enc4_len encV_len] at h1; omega
  obtain ⟨x, hx⟩ : ∃ x, ((l.drop p).take m)[j / 4]? = some x := ⟨_, List.getElem?_eq_getElem hj2⟩
  have hx' : l[p + j / 4]? = some x := by
    rw [List.getElem?_take] at hx
    split at hx
    · rw [List.getElem?_drop] at hx; exact hx
    · cases hx
  have hg := enc4_get encV_len _ (j / 4) x (j % 4) hx (Nat.mod_lt _ (by omega))
  rw [show j / 4 * 4 + j % 4 = j by omega, hu] at hg
  obtain ⟨e0, e1, e2, e3⟩ := h _ _ hx'
  refine ⟨_, rfl, ?_⟩
  have hadd : (⟨b, o', none⟩ : Addr).add j = ⟨b, o' + j, none⟩ := by unfold Addr.add; split <;> simp_all
  rw [hadd]
  have hm : j % 4 < 4 := Nat.mod_lt _ (by omega)
  have hc : j % 4 = 0 ∨ j % 4 = 1 ∨ j % 4 = 2 ∨ j % 4 = 3 := by omega
  rcases hc with hr | hr | hr | hr
  · rw [hr] at hg
    have hu' : u = .int .i64 x.t := by simpa [encV] using hg
    rw [hu', show o' + j = off + (p + j / 4) * 4 by omega]; exact e0
  · rw [hr] at hg
    have hu' : u = .int .u32 x.e.u := by simpa [encV] using hg
    rw [hu', show o' + j = off + (p + j / 4) * 4 + 1 by omega]; exact e1
  · rw [hr] at hg
    have hu' : u = .int .u32 x.e.v := by simpa [encV] using hg
    rw [hu', show o' + j = off + (p + j / 4) * 4 + 2 by omega]; exact e2
  · rw [hr] at hg
    have hu' : u = .bool x.add := by simpa [encV] using hg
    rw [hu', show o' + j = off + (p + j / 4) * 4 + 3 by omega]; exact e3
theorem encV_one (l : List Ev) : ∀ u ∈ l.flatMap encV, u.oneCell' = true := by
  intro u hu
  obtain ⟨x, _, hx⟩ := List.mem_flatMap.1 hu
  simp [encV] at hx
  rcases hx with rfl | rfl | rfl | rfl <;> rfl
theorem New.events {w w' : World} {n : Nat} {v : Value} {l : List Ev} (h : New w w' 62 4 v n (l.flatMap encV)) (hn : n = l.length) : ∃ a' cap', v = .slice a' l.length cap' ∧ Evs w' a' l ∧ (Plain a' ∧ Yg w a') ∧ l.length ≤ cap' := by
  subst hn
  obtain ⟨a', cap', rfl⟩ := row_form h.row
  refine ⟨a', cap', rfl, evs_of_row rfl h.row, ⟨row_plain h.row, h.yg⟩, ?_⟩
  rcases h.row.2 with ⟨hv, h0⟩ | ⟨g, c, cur, hv, _, _, h1, _⟩
  · rw [h0]; exact Nat.zero_le _
  · cases hv; exact h1

theorem ev_ext {a b : Ev} (h1 : a.t = b.t) (h2 : a.e = b.e) (h3 : a.add = b.add) : a = b := by
  cases a; cases b; simp_all

theorem putR_split {α : Type} {lt : α → α → Prop} [DecidableRel lt] {x : α} : ∀ {l : List α} {k : Nat}, k ≤ l.length → (∀ (j : Nat) (y : α), k ≤ j → l[j]? = some y → lt x y) → (∀ (j : Nat) (y : α), k = j + 1 → l[j]? = some y → ¬ lt x y) → putR lt x l = l.take k ++ x :: l.drop k
  | [], k, hk, _, _ => by
    have : k = 0 := by simpa using hk
    subst this; rfl
  | y :: l, 0, _, h1, _ => by
    have h0 := h1 0 y (by omega) (by simp)
    have h2 : ∀ z ∈ l, lt x z := fun z hz => by
      obtain ⟨j, hj⟩ := List.mem_iff_getElem?.1 hz
      exact h1 (j + 1) z (by omega) (by simpa using hj)
    simp only [putR]
    rw [if_pos ⟨h0, h2⟩]
    rfl
  | y :: l, k + 1, hk, h1, h2 => by
    have ih := putR_split (lt := lt) (x := x) (l := l) (k := k) (by have := hk; simp at this; omega) (fun j z hj hz => h1 (j + 1) z (by omega) (by simpa using hz)) (fun j z hj hz => h2 (j + 1) z (by omega) (by simpa using hz))
    simp only [putR]
    have hn : ¬ (lt x y ∧ ∀ z ∈ l, lt x z) := by
      rintro ⟨c1, c2⟩
      cases k with
      | zero => exact h2 0 y rfl (by simp) c1
      | succ k =>
        have hk' : k < l.length := by have := hk; simp at this; omega
        have hz : l[k]? = some l[k] := List.getElem?_eq_getElem hk'
        exact h2 (k + 1) _ rfl (by simp [hk']) (c2 _ (List.mem_of_getElem? hz))
    rw [if_neg hn, ih]
    rfl

set_option maxRecDepth 100000 in
set_option maxHeartbeats 8000000 in
theorem rins0 (w : World) (cap : Nat) (x : Ev) :
    Calls Tryz.prog 76 #[.slice none 0 cap, .agg #[.int .i64 x.t, .int .u32 x.e.u, .int .u32 x.e.v, .bool x.add]] w fun r w' => ∃ a' cap', r = .returned (.slice a' [x].length cap') ∧ Evs w' a' [x] ∧ (Plain a' ∧ Yg w a') ∧ [x].length ≤ cap' ∧ Mod w w' NoB := by
  obtain ⟨i0, hi, hz0, hz1, hz2⟩ := info_parts info_event2
  have hmx := mixed
  obtain ⟨h0, hh0⟩ : ∃ h0, h0 = w.heap.size := ⟨_, rfl⟩
  obtain ⟨W, hW⟩ : ∃ W, W = w.alloc (.cells #[.int .i64 x.t, .int .u32 x.e.u, .int .u32 x.e.v, .bool x.add] 62) := ⟨_, rfl⟩
  have HW : Hid (Mod w W NoB ∧ EvAt W h0 0 x) := by
    show _ ∧ _
    rw [hW, hh0]; exact ⟨(Mod.refl _ _).alloc _, World.cell?_alloc_at _ _ _ _ rfl, World.cell?_alloc_at _ _ _ _ rfl, World.cell?_alloc_at _ _ _ _ rfl, World.cell?_alloc_at _ _ _ _ rfl⟩
  go_enter Tryz.func76, Tryz.ntmps76
  go_wp2_with fail
  rw [← hW, ← hh0]
  clear hW hh0
  go_loopw [5] (fun i wr => i = .int .i64 0 ∧ Hid (Mod w wr NoB ∧ EvAt wr h0 0 x)) (fun i _ => 0)
  case atStart => exact ⟨rfl, HW.out⟩
  case round =>
      obtain ⟨rfl, HI⟩ := hrel
      obtain ⟨s0, s1, s2, s3⟩ := HI.out.2
      simp only [Nat.zero_add] at s1 s2 s3
      have HB : Hid (0 + 0 ≤ maxLen ∧ (0 + 0) * 24 ≤ 140737488355328 ∧ 0 + 1 ≤ maxLen ∧ (0 + 1) * 24 ≤ 140737488355328) := by
        unfold maxLen; exact ⟨by omega, by omega, by omega, by omega⟩
      have hone : ∀ u ∈ encV x, u.oneCell' = true := by simp [encV, Value.oneCell']
      go_upto_region 2 with (fail)
      go_quiet (fail)
      generalize hzz : World.drewN wr _ = z3
      have H6a : Hid (Mod wr z3 NoB) := by rw [← hzz]; exact (Mod.refl _ _).drewN _
      clear hzz
      have H2 : Hid (Mod w z3 NoB) := HI.out.1.trans H6a.out (fun _ _ h => h)
      have t0 := keepc s0 H6a.out
      have t1 := keepc s1 H6a.out
      have t2 := keepc s2 H6a.out
      have t3 := keepc s3 H6a.out
      clear s0 s1 s2 s3
      go_upto_region 4 with (fail)
      go_region_held3 (fun z => z.cell? ⟨h0, 0, none⟩ = some (.int .i64 x.t) ∧ z.cell? ⟨h0, 1, none⟩ = some (.int .u32 x.e.u) ∧ z.cell? ⟨h0, 2, none⟩ = some (.int .u32 x.e.v) ∧ z.cell? ⟨h0, 3, none⟩ = some (.bool x.add))
        (first | exact ⟨t0, t1, t2, t3⟩ | exact ⟨keepc t0 ((Mod.drew (Mod.refl z3 NoB)).alloc _), keepc t1 ((Mod.drew (Mod.refl z3 NoB)).alloc _), keepc t2 ((Mod.drew (Mod.refl z3 NoB)).alloc _), keepc t3 ((Mod.drew (Mod.refl z3 NoB)).alloc _)⟩ | exact ⟨keepc t0 (H8.out.mod), keepc t1 (H8.out.mod), keepc t2 (H8.out.mod), keepc t3 (H8.out.mod)⟩ | exact ⟨keepc t0 (H7.out.mod), keepc t1 (H7.out.mod), keepc t2 (H7.out.mod), keepc t3 (H7.out.mod)⟩ | exact ⟨keepc t0 (H6.out.mod), keepc t1 (H6.out.mod), keepc t2 (H6.out.mod), keepc t3 (H6.out.mod)⟩ | exact ⟨keepc t0 (H6.out.mod.alloc _), keepc t1 (H6.out.mod.alloc _), keepc t2 (H6.out.mod.alloc _), keepc t3 (H6.out.mod.alloc _)⟩)
        (first
        | (refine step_append_row _ rfl _ _ 23 rfl 62 i0 (.agg #[.int .i64 0, .int .u32 0, .int .u32 0, .bool false]) 4 24 Tryz.underlying23 hi hz0 hz1 hz2 rfl (by decide) (.slice none 0 0) 0 [] rfl (World.ownsRow_nil _ _ _ _) _ 0 _ [] rfl rfl (no_news rfl) (fun u hu => by cases hu) HB.out.1 HB.out.2.1 ?_
           intro v6 w6 hown6 hgrow6 hat6
           have H6 := Lib.hid ((New.first hown6 hgrow6 hat6).from (Mod.drew (Mod.refl z3 NoB)))
           clear hown6 hgrow6 hat6)
        | (refine step_append_row _ rfl _ _ 23 rfl 62 i0 (.agg #[.int .i64 0, .int .u32 0, .int .u32 0, .bool false]) 4 24 Tryz.underlying23 hi hz0 hz1 hz2 rfl (by decide) (.slice none 0 0) 0 [] rfl (World.ownsRow_nil _ _ _ _) _ 0 _ [] rfl rfl (no_news rfl) (fun u hu => by cases hu) HB.out.1 HB.out.2.1 ?_
           intro v6 w6 hown6 hgrow6 hat6
           have HBk := Lib.hid (built_kept (w := z3) hgrow6)
           have H6 := Lib.hid ((New.first hown6 hgrow6 hat6).from (Mod.drew (Mod.alloc (Mod.refl z3 NoB) _)))
           clear hown6 hgrow6 hat6)
        | (refine step_append_row _ rfl _ _ 23 rfl 62 i0 (.agg #[.int .i64 0, .int .u32 0, .int .u32 0, .bool false]) 4 24 Tryz.underlying23 hi hz0 hz1 hz2 rfl (by decide) v6 0 _ rfl (H6.out.row.alloc _) _ 1 _ (encV x) rfl rfl (fun j u hu => ⟨_, rfl, World.news_of_block (MapKept.heap_alloc _ _).1 j u hu⟩) hone HB.out.2.2.1 HB.out.2.2.2 ?_
           intro v7 w7 hown7 hgrow7 hat7
           have H7 := Lib.hid ((H6.out.alloc _).more hown7 hgrow7 hat7)
           clear hown7 hgrow7 hat7)
        | (refine step_append_row _ rfl _ _ 23 rfl 62 i0 (.agg #[.int .i64 0, .int .u32 0, .int .u32 0, .bool false]) 4 24 Tryz.underlying23 hi hz0 hz1 hz2 rfl (by decide) v6 0 _ rfl H6.out.row _ 1 _ (encV x) rfl rfl (fun j u hu => ⟨_, rfl, World.news_of_block HBk.out j u hu⟩) hone HB.out.2.2.1 HB.out.2.2.2 ?_
           intro v7 w7 hown7 hgrow7 hat7
           have H7 := Lib.hid (H6.out.more hown7 hgrow7 hat7)
           clear hown7 hgrow7 hat7)
        | (refine step_append_row _ rfl _ _ 23 rfl 62 i0 (.agg #[.int .i64 0, .int .u32 0, .int .u32 0, .bool false]) 4 24 Tryz.underlying23 hi hz0 hz1 hz2 rfl (by decide) v7 (0 + 1) _ rfl H7.out.row _ 0 _ [] rfl rfl (no_news rfl) (fun u hu => by cases hu) HB.out.2.2.1 HB.out.2.2.2 ?_
           intro v8 w8 hown8 hgrow8 hat8
           have H8 := Lib.hid (H7.out.more hown8 hgrow8 hat8)
           clear hown8 hgrow8 hat8))
      all_goals
        rw [show (([] : List Value) ++ encV x) ++ [] = [x].flatMap encV by simp] at H8
        obtain ⟨a', cap', rfl, k1, k2, k3⟩ := H8.out.events rfl
        have HF8 := Lib.hid (And.intro k1 (And.intro k2 (And.intro k3 H8.out.mod)))
        clear k1 k2 k3
        go_wp2_with fail
        all_goals go_ret
        all_goals exact ⟨a', cap', rfl, HF8.out.1, ⟨HF8.out.2.1.1, HF8.out.2.1.2.mono H2.out.size⟩, HF8.out.2.2.1, H2.out.trans HF8.out.2.2.2 (fun _ _ h => h)⟩

set_option maxRecDepth 100000 in
set_option maxHeartbeats 8000000 in
theorem rins1 (w : World) (b off cap : Nat) (l : List Ev) (x : Ev) (hL : Evs w (some ⟨b, off, none⟩) l) (hl : l.length ≤ 100000) (hcap : l.length ≤ cap) :
    Calls Tryz.prog 76 #[.slice (some ⟨b, off, none⟩) l.length cap, .agg #[.int .i64 x.t, .int .u32 x.e.u, .int .u32 x.e.v, .bool x.add]] w fun r w' => ∃ a' cap', r = .returned (.slice a' (putR before x l).length cap') ∧ Evs w' a' (putR before x l) ∧ (Plain a' ∧ Yg w a') ∧ (putR before x l).length ≤ cap' ∧ Mod w w' NoB := by
  have HL := Lib.hid hL
  clear hL
  obtain ⟨i0, hi, hz0, hz1, hz2⟩ := info_parts info_event2
  have hmx := mixed
  obtain ⟨h0, hh0⟩ : ∃ h0, h0 = w.heap.size := ⟨_, rfl⟩
  obtain ⟨W, hW⟩ : ∃ W, W = w.alloc (.cells #[.int .i64 x.t, .int .u32 x.e.u, .int .u32 x.e.v, .bool x.add] 62) := ⟨_, rfl⟩
  have HW : Hid (Mod w W NoB ∧ EvAt W h0 0 x) := by
    show _ ∧ _
    rw [hW, hh0]; exact ⟨(Mod.refl _ _).alloc _, World.cell?_alloc_at _ _ _ _ rfl, World.cell?_alloc_at _ _ _ _ rfl, World.cell?_alloc_at _ _ _ _ rfl, World.cell?_alloc_at _ _ _ _ rfl⟩
  go_enter Tryz.func76, Tryz.ntmps76
  go_wp2_with fail
  rw [← hW, ← hh0]
  clear hW hh0
  go_loopw [5] (fun i wr => ∃ k : Nat, k ≤ l.length ∧ i = .int .i64 k ∧ Hid (Mod w wr NoB ∧ EvAt wr h0 0 x ∧ ∀ (j : Nat) (y : Ev), k ≤ j → l[j]? = some y → before x y)) (fun i _ => (intOf i).toNat)
  case atStart => exact ⟨l.length, Nat.le_refl _, rfl, HW.out.1, HW.out.2, fun j y hj hy => by rw [List.getElem?_eq_none hj] at hy; cases hy⟩
  case round =>
    obtain ⟨k, hk, rfl, HI⟩ := hrel
    obtain ⟨s0, s1, s2, s3⟩ := HI.out.2.1
    simp only [Nat.zero_add] at s1 s2 s3
    by_cases hcont : ∃ (j : Nat) (y : Ev), k = j + 1 ∧ l[j]? = some y ∧ before x y
    · obtain ⟨j, y, hkj, hy, hlt⟩ := hcont
      subst hkj
      have hjl := (List.getElem?_eq_some_iff.1 hy).1
      obtain ⟨b', off', y', hab, hbw, hy', hC⟩ := (HL.out.mod HI.out.1).at hjl
      cases hab
      have : y' = y := Option.some.inj (hy'.symm.trans hy)
      subst this
      obtain ⟨c0, c1, c2, c3⟩ := hC
      have hji : (j : Int) < l.length := by omega
      have hkp : (0 : Int) < (j : Int) + 1 := by omega
      have hkd : decide ((0 : Int) < (j : Int) + 1) = true := decide_eq_true hkp
      have hw1 : IntKind.i64.wrap ((j : Int) + 1 - 1) = (j : Int) := by rw [IntWalk.i64_in _ (by omega)]; omega
      have hw2 : IntKind.i64.wrap (j : Int) = (j : Int) := IntWalk.i64_in _ (by omega)
      have HB : Hid (∀ z, Calls Tryz.prog 51 #[.agg #[.int .i64 x.t, .int .u32 x.e.u, .int .u32 x.e.v, .bool x.add], .agg #[.int .i64 y'.t, .int .u32 y'.e.u, .int .u32 y'.e.v, .bool y'.add]] z fun r w' => r = .returned (.bool true) ∧ Grw z w') := fun z => by
        have := rbefore_grw z x.t x.e.u x.e.v y'.t y'.e.u y'.e.v x.add y'.add
        rwa [show decide (before ⟨x.t, ⟨x.e.u, x.e.v⟩, x.add⟩ ⟨y'.t, ⟨y'.e.u, y'.e.v⟩, y'.add⟩) = true by simpa using hlt] at this
      have HN : Hid (∀ (i : Nat) (y : Ev), j ≤ i → l[i]? = some y → before x y) := fun i z hj hz => by
        rcases Nat.lt_or_ge j i with h | h
        · exact HI.out.2.2 i z (by omega) hz
        · have : i = j := by omega
          subst this; rw [hy] at hz; cases hz; exact hlt
      have g0 := cg c0
      have g1 := cg c1
      have g2 := cg c2
      have g3 := cg c3
      have f0 := cg s0
      have f1 := cg s1
      have f2 := cg s2
      have f3 := cg s3
      clear hy hy' hlt hbw
      go_upto_region 2 with (fail)
      go_quiet_grown ((go_at_call 51; exact Calls.byGrw (HB.out _)))
      have H6 := Lib.hid (Grw.grown wr nq osq).mod
      go_wp2_with fail
      go_roundw
      case rel => exact ⟨j, by omega, rfl, HI.out.1.trans H6.out (fun _ _ h => h), HI.out.2.1.mod H6.out, HN.out⟩
      case measure => simp [intOf]
    · have hsp : putR before x l = l.take k ++ x :: l.drop k := putR_split hk HI.out.2.2 (fun j y hj hy hlt => hcont ⟨j, y, hj, hy, hlt⟩)
      have HER : Hid (((l.take k).flatMap encV ++ encV x) ++ (l.drop k).flatMap encV = (putR before x l).flatMap encV ∧ k + 1 + (l.length - k) = (putR before x l).length) := by
        rw [hsp]
        refine ⟨by simp, by simp; omega⟩
      have HB : Hid (0 + k ≤ maxLen ∧ (0 + k) * 24 ≤ 140737488355328 ∧ k + 1 ≤ maxLen ∧ (k + 1) * 24 ≤ 140737488355328 ∧ k + 1 + (l.length - k) ≤ maxLen ∧ (k + 1 + (l.length - k)) * 24 ≤ 140737488355328) := by
        unfold maxLen; exact ⟨by omega, by omega, by omega, by omega, by omega, by omega⟩
      have hone : ∀ u ∈ encV x, u.oneCell' = true := by simp [encV, Value.oneCell']
      have hout : Hid (∀ (j : Nat) (y : Ev), k = j + 1 → l[j]? = some y → ¬ before x y) := fun j y hj hy hlt => hcont ⟨j, y, hj, hy, hlt⟩
      clear hcont hsp
      go_upto_region 2 with (fail)
      by_cases hk0 : 0 < k
      focus
        obtain ⟨j, hkj⟩ : ∃ j, k = j + 1 := ⟨k - 1, by omega⟩
        subst hkj
        obtain ⟨b', off', y, hab, hbw, hy, hC⟩ := (HL.out.mod HI.out.1).at (show j < l.length by omega)
        cases hab
        obtain ⟨c0, c1, c2, c3⟩ := hC
        have hji : (j : Int) < l.length := by omega
        have hkp : (0 : Int) < (j : Int) + 1 := by omega
        have hkd : decide ((0 : Int) < (j : Int) + 1) = true := decide_eq_true hkp
        have hw1 : IntKind.i64.wrap ((j : Int) + 1 - 1) = (j : Int) := by rw [IntWalk.i64_in _ (by omega)]; omega
        have hw2 : IntKind.i64.wrap (j : Int) = (j : Int) := IntWalk.i64_in _ (by omega)
        have HLs : Hid (∀ z, Calls Tryz.prog 51 #[.agg #[.int .i64 x.t, .int .u32 x.e.u, .int .u32 x.e.v, .bool x.add], .agg #[.int .i64 y.t, .int .u32 y.e.u, .int .u32 y.e.v, .bool y.add]] z fun r w' => r = .returned (.bool false) ∧ Grw z w') := fun z => by
          have := rbefore_grw z x.t x.e.u x.e.v y.t y.e.u y.e.v x.add y.add
          rwa [show decide (before ⟨x.t, ⟨x.e.u, x.e.v⟩, x.add⟩ ⟨y.t, ⟨y.e.u, y.e.v⟩, y.add⟩) = false by simpa using hout.out j y rfl hy] at this
        have g0 := cg c0
        have g1 := cg c1
        have g2 := cg c2
        have g3 := cg c3
        have f0 := cg s0
        have f1 := cg s1
        have f2 := cg s2
        have f3 := cg s3
        have HY := Lib.hid hy
        clear hbw hy
        go_quiet_grown ((go_at_call 51; exact Calls.byGrw (HLs.out _)))
        generalize hzz : Go.Sort.grow (World.drewN wr _) _ = z3
        have H6 : Hid (Mod wr z3 NoB) := by rw [← hzz]; exact (Grw.grown wr _ _).mod
        clear hzz g0 g1 g2 g3 f0 f1 f2 f3
      rotate_left
      focus
        have hkd : decide ((0 : Int) < (k : Int)) = false := decide_eq_false (by omega)
        have hkd2 : decide (0 < k) = false := decide_eq_false hk0
        go_quiet (fail)
        generalize hzz : World.drewN wr _ = z3
        have H6 : Hid (Mod wr z3 NoB) := by rw [← hzz]; exact (Mod.refl _ _).drewN _
        clear hzz
      rotate_left
      focus
        have H2 : Hid (Mod w z3 NoB) := HI.out.1.trans H6.out (fun _ _ h => h)
        have t0 := keepc s0 H6.out
        have t1 := keepc s1 H6.out
        have t2 := keepc s2 H6.out
        have t3 := keepc s3 H6.out
        clear s0 s1 s2 s3 H6
        go_upto_region 4 with (fail)
        have HE : Hid (∀ z, Mod z3 z NoB → ∀ (i : Nat) (y : Ev), l[i]? = some y → EvAt z b (off + i * 4) y) := fun z hz i y hx => by
          rcases (HL.out.mod H2.out).mod hz with h | ⟨b', off', hab, _, h⟩
          · rw [h] at hx; simp at hx
          · cases hab; exact h i y hx
        obtain ⟨q, hq⟩ : ∃ q : Nat, j + 1 = q := ⟨_, rfl⟩
        rw [show ((j : Int) + 1) = (q : Int) by omega]
        rw [hq] at HER HB hk
        have hkc : q ≤ cap := by omega
        have hkci : (q : Int) ≤ cap := by omega
        have hkl2 : (q : Int) ≤ l.length := by omega
        have hk0' : (0 : Int) ≤ (q : Int) := by omega
        have hlc : (l.length : Int) ≤ cap := by omega
        have HN : Hid (((l.take q).flatMap encV).length = q * 4 ∧ (∀ z, Mod z3 z NoB → ∀ (j : Nat) (u : Value), ((l.take q).flatMap encV)[j]? = some u → ∃ ad, (some ⟨b, off, none⟩ : Option Addr) = some ad ∧ z.cell? (ad.add j) = some u) ∧
            ((l.drop q).flatMap encV).length = (l.length - q) * 4 ∧ (∀ z, Mod z3 z NoB → ∀ (j : Nat) (u : Value), ((l.drop q).flatMap encV)[j]? = some u → ∃ ad, (if cap = q then some ⟨b, off, none⟩ else some ⟨b, off + q * 4, none⟩ : Option Addr) = some ad ∧ z.cell? (ad.add j) = some u)) := by
          refine ⟨by rw [enc4_len encV_len]; simp; omega, fun z hz => evs_news (p := 0) (HE.out z hz) (by omega), by rw [enc4_len encV_len]; simp, fun z hz j u hu => ?_⟩
          by_cases hce : cap = q
          · rw [List.drop_eq_nil_of_le (by omega)] at hu; simp at hu
          · have := evs_news (p := q) (m := l.length) (HE.out z hz) rfl j u
            rw [List.take_of_length_le (by simp)] at this
            rw [if_neg hce]
            exact this hu
        go_region_held3 (fun z => z.cell? ⟨h0, 0, none⟩ = some (.int .i64 x.t) ∧ z.cell? ⟨h0, 1, none⟩ = some (.int .u32 x.e.u) ∧ z.cell? ⟨h0, 2, none⟩ = some (.int .u32 x.e.v) ∧ z.cell? ⟨h0, 3, none⟩ = some (.bool x.add))
          (first | exact ⟨t0, t1, t2, t3⟩ | exact ⟨keepc t0 ((Mod.drew (Mod.refl z3 NoB)).alloc _), keepc t1 ((Mod.drew (Mod.refl z3 NoB)).alloc _), keepc t2 ((Mod.drew (Mod.refl z3 NoB)).alloc _), keepc t3 ((Mod.drew (Mod.refl z3 NoB)).alloc _)⟩ | exact ⟨keepc t0 (H8.out.mod), keepc t1 (H8.out.mod), keepc t2 (H8.out.mod), keepc t3 (H8.out.mod)⟩ | exact ⟨keepc t0 (H7.out.mod), keepc t1 (H7.out.mod), keepc t2 (H7.out.mod), keepc t3 (H7.out.mod)⟩ | exact ⟨keepc t0 (H6.out.mod), keepc t1 (H6.out.mod), keepc t2 (H6.out.mod), keepc t3 (H6.out.mod)⟩ | exact ⟨keepc t0 (H6.out.mod.alloc _), keepc t1 (H6.out.mod.alloc _), keepc t2 (H6.out.mod.alloc _), keepc t3 (H6.out.mod.alloc _)⟩)
          (first
          | (refine step_append_row _ rfl _ _ 23 rfl 62 i0 (.agg #[.int .i64 0, .int .u32 0, .int .u32 0, .bool false]) 4 24 Tryz.underlying23 hi hz0 hz1 hz2 rfl (by decide) (.slice none 0 0) 0 [] rfl (World.ownsRow_nil _ _ _ _) _ q _ ((l.take q).flatMap encV) rfl HN.out.1 (HN.out.2.1 _ (Mod.drew (Mod.refl _ _))) (encV_one _) HB.out.1 HB.out.2.1 ?_
             intro v6 w6 hown6 hgrow6 hat6
             have H6 := Lib.hid ((New.first hown6 hgrow6 hat6).from (Mod.drew (Mod.refl z3 NoB)))
             clear hown6 hgrow6 hat6)
          | (refine step_append_row _ rfl _ _ 23 rfl 62 i0 (.agg #[.int .i64 0, .int .u32 0, .int .u32 0, .bool false]) 4 24 Tryz.underlying23 hi hz0 hz1 hz2 rfl (by decide) (.slice none 0 0) 0 [] rfl (World.ownsRow_nil _ _ _ _) _ q _ ((l.take q).flatMap encV) rfl HN.out.1 (HN.out.2.1 _ (Mod.drew (Mod.alloc (Mod.refl _ _) _))) (encV_one _) HB.out.1 HB.out.2.1 ?_
             intro v6 w6 hown6 hgrow6 hat6
             have HBk := Lib.hid (built_kept (w := z3) hgrow6)
             have H6 := Lib.hid ((New.first hown6 hgrow6 hat6).from (Mod.drew (Mod.alloc (Mod.refl z3 NoB) _)))
             clear hown6 hgrow6 hat6)
          | (refine step_append_row _ rfl _ _ 23 rfl 62 i0 (.agg #[.int .i64 0, .int .u32 0, .int .u32 0, .bool false]) 4 24 Tryz.underlying23 hi hz0 hz1 hz2 rfl (by decide) v6 q _ rfl (H6.out.row.alloc _) _ 1 _ (encV x) rfl rfl (fun j u hu => ⟨_, rfl, World.news_of_block (MapKept.heap_alloc _ _).1 j u hu⟩) hone HB.out.2.2.1 HB.out.2.2.2.1 ?_
             intro v7 w7 hown7 hgrow7 hat7
             have H7 := Lib.hid ((H6.out.alloc _).more hown7 hgrow7 hat7)
             clear hown7 hgrow7 hat7)
          | (refine step_append_row _ rfl _ _ 23 rfl 62 i0 (.agg #[.int .i64 0, .int .u32 0, .int .u32 0, .bool false]) 4 24 Tryz.underlying23 hi hz0 hz1 hz2 rfl (by decide) v6 q _ rfl H6.out.row _ 1 _ (encV x) rfl rfl (fun j u hu => ⟨_, rfl, World.news_of_block HBk.out j u hu⟩) hone HB.out.2.2.1 HB.out.2.2.2.1 ?_
             intro v7 w7 hown7 hgrow7 hat7
             have H7 := Lib.hid (H6.out.more hown7 hgrow7 hat7)
             clear hown7 hgrow7 hat7)
          | (refine step_append_row _ rfl _ _ 23 rfl 62 i0 (.agg #[.int .i64 0, .int .u32 0, .int .u32 0, .bool false]) 4 24 Tryz.underlying23 hi hz0 hz1 hz2 rfl (by decide) v7 (q + 1) _ rfl H7.out.row _ (l.length - q) _ ((l.drop q).flatMap encV) rfl HN.out.2.2.1 (HN.out.2.2.2 _ H7.out.mod) (encV_one _) HB.out.2.2.2.2.1 HB.out.2.2.2.2.2 ?_
             intro v8 w8 hown8 hgrow8 hat8
             have H8 := Lib.hid (H7.out.more hown8 hgrow8 hat8)
             clear hown8 hgrow8 hat8))
        all_goals
          rw [HER.out.1] at H8
          obtain ⟨a', cap', rfl, k1, k2, k3⟩ := H8.out.events HER.out.2
          have HF8 := Lib.hid (And.intro k1 (And.intro k2 (And.intro k3 H8.out.mod)))
          clear k1 k2 k3
          go_wp2_with fail
          all_goals go_ret
          all_goals exact ⟨a', cap', rfl, HF8.out.1, ⟨HF8.out.2.1.1, HF8.out.2.1.2.mono H2.out.size⟩, HF8.out.2.2.1, H2.out.trans HF8.out.2.2.2 (fun _ _ h => h)⟩
      focus
        have H2 : Hid (Mod w z3 NoB) := HI.out.1.trans H6.out (fun _ _ h => h)
        have t0 := keepc s0 H6.out
        have t1 := keepc s1 H6.out
        have t2 := keepc s2 H6.out
        have t3 := keepc s3 H6.out
        clear s0 s1 s2 s3 H6
        go_upto_region 4 with (fail)
        have HE : Hid (∀ z, Mod z3 z NoB → ∀ (i : Nat) (y : Ev), l[i]? = some y → EvAt z b (off + i * 4) y) := fun z hz i y hx => by
          rcases (HL.out.mod H2.out).mod hz with h | ⟨b', off', hab, _, h⟩
          · rw [h] at hx; simp at hx
          · cases hab; exact h i y hx
        obtain ⟨q, hq⟩ : ∃ q : Nat, k = q := ⟨_, rfl⟩
        rw [show ((k : Int)) = (q : Int) by omega]
        rw [hq] at HER HB hk
        have hkc : q ≤ cap := by omega
        have hkci : (q : Int) ≤ cap := by omega
        have hkl2 : (q : Int) ≤ l.length := by omega
        have hk0' : (0 : Int) ≤ (q : Int) := by omega
        have hlc : (l.length : Int) ≤ cap := by omega
        have HN : Hid (((l.take q).flatMap encV).length = q * 4 ∧ (∀ z, Mod z3 z NoB → ∀ (j : Nat) (u : Value), ((l.take q).flatMap encV)[j]? = some u → ∃ ad, (some ⟨b, off, none⟩ : Option Addr) = some ad ∧ z.cell? (ad.add j) = some u) ∧
            ((l.drop q).flatMap encV).length = (l.length - q) * 4 ∧ (∀ z, Mod z3 z NoB → ∀ (j : Nat) (u : Value), ((l.drop q).flatMap encV)[j]? = some u → ∃ ad, (if cap = q then some ⟨b, off, none⟩ else some ⟨b, off + q * 4, none⟩ : Option Addr) = some ad ∧ z.cell? (ad.add j) = some u)) := by
          refine ⟨by rw [enc4_len encV_len]; simp; omega, fun z hz => evs_news (p := 0) (HE.out z hz) (by omega), by rw [enc4_len encV_len]; simp, fun z hz j u hu => ?_⟩
          by_cases hce : cap = q
          · rw [List.drop_eq_nil_of_le (by omega)] at hu; simp at hu
          · have := evs_news (p := q) (m := l.length) (HE.out z hz) rfl j u
            rw [List.take_of_length_le (by simp)] at this
            rw [if_neg hce]
            exact this hu
        go_region_held3 (fun z => z.cell? ⟨h0, 0, none⟩ = some (.int .i64 x.t) ∧ z.cell? ⟨h0, 1, none⟩ = some (.int .u32 x.e.u) ∧ z.cell? ⟨h0, 2, none⟩ = some (.int .u32 x.e.v) ∧ z.cell? ⟨h0, 3, none⟩ = some (.bool x.add))
          (first | exact ⟨t0, t1, t2, t3⟩ | exact ⟨keepc t0 ((Mod.drew (Mod.refl z3 NoB)).alloc _), keepc t1 ((Mod.drew (Mod.refl z3 NoB)).alloc _), keepc t2 ((Mod.drew (Mod.refl z3 NoB)).alloc _), keepc t3 ((Mod.drew (Mod.refl z3 NoB)).alloc _)⟩ | exact ⟨keepc t0 (H8.out.mod), keepc t1 (H8.out.mod), keepc t2 (H8.out.mod), keepc t3 (H8.out.mod)⟩ | exact ⟨keepc t0 (H7.out.mod), keepc t1 (H7.out.mod), keepc t2 (H7.out.mod), keepc t3 (H7.out.mod)⟩ | exact ⟨keepc t0 (H6.out.mod), keepc t1 (H6.out.mod), keepc t2 (H6.out.mod), keepc t3 (H6.out.mod)⟩ | exact ⟨keepc t0 (H6.out.mod.alloc _), keepc t1 (H6.out.mod.alloc _), keepc t2 (H6.out.mod.alloc _), keepc t3 (H6.out.mod.alloc _)⟩)
          (first
          | (refine step_append_row _ rfl _ _ 23 rfl 62 i0 (.agg #[.int .i64 0, .int .u32 0, .int .u32 0, .bool false]) 4 24 Tryz.underlying23 hi hz0 hz1 hz2 rfl (by decide) (.slice none 0 0) 0 [] rfl (World.ownsRow_nil _ _ _ _) _ q _ ((l.take q).flatMap encV) rfl HN.out.1 (HN.out.2.1 _ (Mod.drew (Mod.refl _ _))) (encV_one _) HB.out.1 HB.out.2.1 ?_
             intro v6 w6 hown6 hgrow6 hat6
             have H6 := Lib.hid ((New.first hown6 hgrow6 hat6).from (Mod.drew (Mod.refl z3 NoB)))
             clear hown6 hgrow6 hat6)
          | (refine step_append_row _ rfl _ _ 23 rfl 62 i0 (.agg #[.int .i64 0, .int .u32 0, .int .u32 0, .bool false]) 4 24 Tryz.underlying23 hi hz0 hz1 hz2 rfl (by decide) (.slice none 0 0) 0 [] rfl (World.ownsRow_nil _ _ _ _) _ q _ ((l.take q).flatMap encV) rfl HN.out.1 (HN.out.2.1 _ (Mod.drew (Mod.alloc (Mod.refl _ _) _))) (encV_one _) HB.out.1 HB.out.2.1 ?_
             intro v6 w6 hown6 hgrow6 hat6
             have HBk := Lib.hid (built_kept (w := z3) hgrow6)
             have H6 := Lib.hid ((New.first hown6 hgrow6 hat6).from (Mod.drew (Mod.alloc (Mod.refl z3 NoB) _)))
             clear hown6 hgrow6 hat6)
          | (refine step_append_row _ rfl _ _ 23 rfl 62 i0 (.agg #[.int .i64 0, .int .u32 0, .int .u32 0, .bool false]) 4 24 Tryz.underlying23 hi hz0 hz1 hz2 rfl (by decide) v6 q _ rfl (H6.out.row.alloc _) _ 1 _ (encV x) rfl rfl (fun j u hu => ⟨_, rfl, World.news_of_block (MapKept.heap_alloc _ _).1 j u hu⟩) hone HB.out.2.2.1 HB.out.2.2.2.1 ?_
             intro v7 w7 hown7 hgrow7 hat7
             have H7 := Lib.hid ((H6.out.alloc _).more hown7 hgrow7 hat7)
             clear hown7 hgrow7 hat7)
          | (refine step_append_row _ rfl _ _ 23 rfl 62 i0 (.agg #[.int .i64 0, .int .u32 0, .int .u32 0, .bool false]) 4 24 Tryz.underlying23 hi hz0 hz1 hz2 rfl (by decide) v6 q _ rfl H6.out.row _ 1 _ (encV x) rfl rfl (fun j u hu => ⟨_, rfl, World.news_of_block HBk.out j u hu⟩) hone HB.out.2.2.1 HB.out.2.2.2.1 ?_
             intro v7 w7 hown7 hgrow7 hat7
             have H7 := Lib.hid (H6.out.more hown7 hgrow7 hat7)
             clear hown7 hgrow7 hat7)
          | (refine step_append_row _ rfl _ _ 23 rfl 62 i0 (.agg #[.int .i64 0, .int .u32 0, .int .u32 0, .bool false]) 4 24 Tryz.underlying23 hi hz0 hz1 hz2 rfl (by decide) v7 (q + 1) _ rfl H7.out.row _ (l.length - q) _ ((l.drop q).flatMap encV) rfl HN.out.2.2.1 (HN.out.2.2.2 _ H7.out.mod) (encV_one _) HB.out.2.2.2.2.1 HB.out.2.2.2.2.2 ?_
             intro v8 w8 hown8 hgrow8 hat8
             have H8 := Lib.hid (H7.out.more hown8 hgrow8 hat8)
             clear hown8 hgrow8 hat8))
        all_goals
          rw [HER.out.1] at H8
          obtain ⟨a', cap', rfl, k1, k2, k3⟩ := H8.out.events HER.out.2
          have HF8 := Lib.hid (And.intro k1 (And.intro k2 (And.intro k3 H8.out.mod)))
          clear k1 k2 k3
          go_wp2_with fail
          all_goals go_ret
          all_goals exact ⟨a', cap', rfl, HF8.out.1, ⟨HF8.out.2.1.1, HF8.out.2.1.2.mono H2.out.size⟩, HF8.out.2.2.1, H2.out.trans HF8.out.2.2.2 (fun _ _ h => h)⟩

theorem rins_any (w : World) (a : Option Addr) (cap : Nat) (l : List Ev) (x : Ev) (hL : Evs w a l) (hp : Plain a) (hl : l.length ≤ 100000) (hcap : l.length ≤ cap) :
    Calls Tryz.prog 76 #[.slice a l.length cap, .agg #[.int .i64 x.t, .int .u32 x.e.u, .int .u32 x.e.v, .bool x.add]] w fun r w' => ∃ a' cap', r = .returned (.slice a' (putR before x l).length cap') ∧ Evs w' a' (putR before x l) ∧ (Plain a' ∧ Yg w a') ∧ (putR before x l).length ≤ cap' ∧ Mod w w' NoB := by
  rcases hp with rfl | ⟨b, off, rfl⟩
  · have hl0 : l = [] := by
      rcases hL with h | ⟨b, off, hab, _⟩
      · exact h
      · cases hab
    subst hl0
    exact rins0 w cap x
  · exact rins1 w b off cap l x hL hl hcap
end Go.Proofs.YtppambkffgmkgaaGreatDoor
end
