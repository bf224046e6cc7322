/- Merged: LfRe LfRf LfLk -/
import Derived.Test.YtppambkffgmkgaaGreatDoorMg20
section
/- The reference: LifeCheck. -/
namespace Go.Proofs.YtppambkffgmkgaaGreatDoor
open Go.RowKit
set_option linter.unusedVariables false

set_option maxRecDepth 100000 in
set_option maxHeartbeats 4000000 in
theorem rlcheck_any (w : World) (n : Int) (a : Option Addr) (cap : Nat) (l : List Lf) (hL : Lvs w a l) (hl : l.length ≤ 100000) (hb : ∀ x ∈ l, EdB x.e) :
    Calls Tryz.prog 48 #[.int .u64 n, .slice a l.length cap] w fun e w' => e = .returned (.tuple #[.int .i64 (lchk n l).1, .int .i64 (lchk n l).2]) ∧ Mod w w' NoB := by
  have HL := Lib.hid hL
  have HBD := Lib.hid hb
  have hmx := mixed
  clear hL hb
  obtain ⟨R0, hR0⟩ : ∃ R0, lchk n l = R0 := ⟨_, rfl⟩
  rw [hR0]
  have HR0 := Lib.hid hR0
  clear hR0
  go_enter Tryz.func48, Tryz.ntmps48
  go_wp2_with fail
  go_loopw [6, 7] (fun v6 v7 wr => ∃ (k : Nat) (c : Int), k ≤ l.length ∧ v6 = .int .i64 c ∧ v7 = .int .i64 k ∧ Hid (c = ((k + ends l k : Nat) : Int) ∧ Mod w wr NoB)) (fun _ v7 _ => l.length - (intOf v7).toNat)
  case atStart => exact ⟨0, 0, Nat.zero_le _, rfl, rfl, by simp [ends], Mod.refl _ _⟩
  case round =>
    obtain ⟨k, c, hk, rfl, rfl, HI⟩ := hrel
    have hc0 : 0 ≤ c ∧ c ≤ 200000 := by have := HI.out.1; have := ends_le l k; omega
    by_cases hlt : k < l.length
    · obtain ⟨b, off, x, rfl, hbw, hx, hC⟩ := (HL.out.mod HI.out.2).at hlt
      obtain ⟨_, _, _, c3⟩ := hC
      have hE := ends_succ hx
      have hki : (k : Int) < l.length := by omega
      by_cases ht : 0 ≤ x.to
      · rw [if_pos ht] at hE
        have HE := Lib.hid hE
        clear hE hx
        go_wp2_with fail
        go_roundw
        case rel => exact ⟨k + 1, c + 1 + 1, by omega, by go_num, by go_num, by have := HI.out.1; rw [HE.out]; omega, HI.out.2⟩
        case measure => simp [intOf]; omega
      · rw [if_neg ht] at hE
        have HE := Lib.hid hE
        clear hE hx
        go_wp2_with fail
        go_roundw
        case rel => exact ⟨k + 1, c + 1, by omega, by go_num, by go_num, by have := HI.out.1; rw [HE.out]; omega, HI.out.2⟩
        case measure => simp [intOf]; omega
    · have hkl : k = l.length := by omega
      have hec : c ≤ 2147483648 := by omega
      have HM0 := Lib.hid HI.out.2
      clear hkl HI
      by_cases hn : 4294967296 < n
      · have hR : R0 = (0, 26) := by rw [← HR0.out]; unfold lchk; rw [if_pos]; exact Or.inl hn
        subst hR
        go_wp2_with fail
        go_ret2
        exact ⟨rfl, HM0.out⟩
      · have HI0 : Hid (LInv w wr n l R0 0) := ⟨HM0.out, by rw [← HR0.out, lchk_lim hn (by omega)]; rfl⟩
        clear HM0 HR0
        go_wp2_with fail
        go_loopw [8] (fun v8 wr => ∃ k : Nat, k ≤ l.length ∧ v8 = .int .i64 k ∧ Hid (LInv w wr n l R0 k)) (fun v8 _ => l.length - (intOf v8).toNat)
        case atStart => exact ⟨0, Nat.zero_le _, rfl, HI0.out⟩
        case round =>
          obtain ⟨k, hk, rfl, HI⟩ := hrel
          by_cases hlt : k < l.length
          · obtain ⟨b, off, x, rfl, hbw, hx, hC⟩ := (HL.out.mod HI.out.1).at hlt
            have hki : (k : Int) < l.length := by omega
            have hxB : EdB x.e := HBD.out x (List.mem_of_getElem? hx)
            obtain ⟨hM, hchk⟩ := HI.out
            obtain ⟨st1, st2⟩ := lchk_step hx hchk
            have ST1 := Lib.hid st1
            have ST2 := Lib.hid st2
            have HX := Lib.hid (And.intro hx hxB)
            have HM := Lib.hid hM
            obtain ⟨c0, c1, c2, c3⟩ := hC
            clear st1 st2 hx hxB hchk hM hec
            by_cases g1 : x.fr < 0
            · have hR : R0 = (k, 26) := by rw [ST2.out (by rw [lfErr_26 (Or.inl g1)]; omega), lfErr_26 (Or.inl g1)]
              subst hR
              go_wp2_with fail
              go_ret2
              exact ⟨rfl, HM.out.alloc _⟩
            · by_cases g2 : 4611686018427387903 < x.fr
              · have hR : R0 = (k, 26) := by rw [ST2.out (by rw [lfErr_26 (Or.inr (Or.inl g2))]; omega), lfErr_26 (Or.inr (Or.inl g2))]
                subst hR
                go_wp2_with fail
                go_ret2
                exact ⟨rfl, HM.out.alloc _⟩
              · by_cases g2b : 4611686018427387903 < x.to
                · have hR : R0 = (k, 26) := by rw [ST2.out (by rw [lfErr_26 (Or.inr (Or.inr g2b))]; omega), lfErr_26 (Or.inr (Or.inr g2b))]
                  subst hR
                  go_wp2_with fail
                  go_ret2
                  exact ⟨rfl, HM.out.alloc _⟩
                · have G := Lib.hid (show ¬ (x.fr < 0 ∨ 4611686018427387903 < x.fr ∨ 4611686018427387903 < x.to) by omega)
                  go_wp2_with fail
                  obtain ⟨e0, he0⟩ : ∃ e0, e0 = wr.heap.size := ⟨_, rfl⟩
                  obtain ⟨V, hV⟩ : ∃ V, V = wr.alloc (.cells #[.int .u32 x.e.u, .int .u32 x.e.v, .int .i64 x.fr, .int .i64 x.to] 81) := ⟨_, rfl⟩
                  have HV : Hid (Mod wr V NoB) := by rw [hV]; exact (Mod.refl _ _).alloc _
                  have HD : Hid (LfAt V e0 0 x) := by
                    rw [hV, he0]
                    exact ⟨World.cell?_alloc_at _ _ _ _ rfl, World.cell?_alloc_at _ _ _ _ rfl, World.cell?_alloc_at _ _ _ _ rfl, World.cell?_alloc_at _ _ _ _ rfl⟩
                  rw [← hV, ← he0]
                  clear hV he0 g1 g2 g2b
                  refine (rright_any _ _ _ _ HX.out.2.2).mono ?_
                  rintro e w2 ⟨rfl, hm⟩
                  have HW0 : Hid (Mod wr w2 NoB) := HV.out.trans hm (fun _ _ h => h)
                  have HD1 : Hid (LfAt w2 e0 0 x) := HD.out.mod hm
                  have HW : Hid (Mod w w2 NoB) := HM.out.trans HW0.out (fun _ _ h => h)
                  clear hm HV HD c0 c1 c2 c3
                  by_cases g3 : right ⟨x.e.u, x.e.v⟩ n
                  · have G3 := Lib.hid g3
                    rw [show decide (right ⟨x.e.u, x.e.v⟩ n) = true by simp [g3]]
                    clear g3
                    have hE1 := HL.out.mod HW.out
                    obtain ⟨dc0, dc1, dc2, dc3⟩ := HD1.out
                    simp only [Nat.zero_add] at dc1 dc2 dc3
                    by_cases hA : 0 ≤ x.to ∧ x.to ≤ x.fr
                    · have hR : R0 = (k, 23) := by rw [ST2.out (by rw [lfErr_23 G.out G3.out (Or.inl hA)]; omega), lfErr_23 G.out G3.out (Or.inl hA)]
                      subst hR
                      obtain ⟨ga, gb⟩ := hA
                      clear hE1
                      go_wp2_with fail
                      go_ret2
                      exact ⟨rfl, HW.out⟩
                    · have HA := Lib.hid hA
                      go_upto_region 18 with (fail)
                      go_cut [64] (fun v64 wc => v64 = .bool false ∧ wc = w2)
                      case first =>
                        clear hE1
                        by_cases c : 0 ≤ x.to
                        · have c2 : x.fr < x.to := Int.not_le.1 (fun h => hA ⟨c, h⟩)
                          clear hA
                          go_wp2_with fail
                          go_meet
                          exact ⟨by simp only [decide_eq_false (Int.not_le.2 c2)], rfl⟩
                        · have c2 : x.to < 0 := Int.not_le.1 c
                          clear hA c
                          go_wp2_with fail
                          go_meet
                          exact ⟨rfl, rfl⟩
                      case rest =>
                        obtain ⟨rfl, rfl⟩ := hcut
                        clear hA
                        go_upto_region 20 with (fail)
                        obtain ⟨bad, hbad⟩ : ∃ bad, (prevL l k).any (fun y => decide (¬ follows y x)) = bad := ⟨_, rfl⟩
                        go_cut [76] (fun v76 wz => v76 = .bool bad ∧ Hid (Mod w wz NoB))
                        case first =>
                          by_cases hk0 : k = 0
                          · have hkz : decide (0 < k) = false := decide_eq_false (by omega)
                            have hkd : ¬ 0 < k := by omega
                            have hb2 : bad = false := by rw [← hbad]; unfold prevL; rw [if_pos hk0]; rfl
                            subst hb2
                            clear hk0 hE1 hbad
                            refine wp_region_quiet_grown (by assumption) (by kernel_rfl) ?_
                            repeat (
                              generalize hga : (Act.mk _ _) = ga
                              refine wpQuiet_step (fun K hK => ?_)
                              subst hga
                              go_simp
                              first
                              | (refine hK _ ?_; clear hK K)
                              | (apply Exists.intro
                                 refine ⟨fun _ => ?_, hK _ ?_⟩
                                 fail
                                 clear hK K))
                            refine wpQuiet_nil ?_
                            intro _ hw'
                            obtain ⟨⟨nq, osq⟩, hw''⟩ := hw'
                            subst hw''
                            go_wp2_with fail
                            go_meet
                            exact ⟨rfl, HW.out.trans (Grw.grown _ nq osq).mod (fun _ _ c => c)⟩
                          · obtain ⟨j, hj⟩ : ∃ j, k = j + 1 := ⟨k - 1, by omega⟩
                            obtain ⟨b', off', y, hab, hbw', hy, hCy⟩ := hE1.at (show j < l.length by omega)
                            cases hab
                            obtain ⟨y0, y1, y2, y3⟩ := hCy
                            have hjl : (j : Int) < l.length := by omega
                            have hkp : (0 : Int) < (k : Int) := by omega
                            have hkn : 0 < k := by omega
                            have hkd : decide (0 < (k : Int)) = true := by simpa using hkn
                            have hwr : IntKind.i64.wrap ((k : Int) - 1) = (j : Int) := by
                              rw [hj, IntWalk.i64_in _ (by omega)]; omega
                            have hb1 : bad = decide (¬ follows y x) := by rw [← hbad]; unfold prevL; rw [if_neg hk0, show k - 1 = j by omega, hy]; rfl
                            have gy0 := cg y0
                            have gy1 := cg y1
                            have gy2 := cg y2
                            have gy3 := cg y3
                            have gd0 := cg dc0
                            have gx1 := cg dc1
                            have gx2 := cg dc2
                            have gx3 := cg dc3
                            have HLs := fun z => rless_grw z y.e.u y.e.v x.e.u x.e.v
                            clear hk0 hj hy hbw' hE1 hbad
                            by_cases g4 : edLt y.e x.e
                            · have hb2 : bad = false := by rw [hb1]; unfold follows; simp [g4]
                              subst hb2
                              have HB : Hid (∀ z, Calls Tryz.prog 54 #[.agg #[.int .u32 y.e.u, .int .u32 y.e.v], .agg #[.int .u32 x.e.u, .int .u32 x.e.v]] z fun e w' => e = .returned (.bool true) ∧ Grw z w') := fun z => by
                                have := HLs z
                                rwa [show decide (edLt ⟨y.e.u, y.e.v⟩ ⟨x.e.u, x.e.v⟩) = true by simpa using g4] at this
                              clear g4 hb1 HLs
                              refine wp_region_quiet_grown (by assumption) (by kernel_rfl) ?_
                              repeat (
                                generalize hga : (Act.mk _ _) = ga
                                refine wpQuiet_step (fun K hK => ?_)
                                subst hga
                                go_simp
                                first
                                | (refine hK _ ?_; clear hK K)
                                | (apply Exists.intro
                                   refine ⟨fun _ => ?_, hK _ ?_⟩
                                   (go_at_call 54; exact Calls.byGrw (HB.out _))
                                   clear hK K))
                              refine wpQuiet_nil ?_
                              intro _ hw'
                              obtain ⟨⟨nq, osq⟩, hw''⟩ := hw'
                              subst hw''
                              go_wp2_with fail
                              go_meet
                              exact ⟨rfl, HW.out.trans (Grw.grown _ nq osq).mod (fun _ _ c => c)⟩
                            · have HB : Hid (∀ z, Calls Tryz.prog 54 #[.agg #[.int .u32 y.e.u, .int .u32 y.e.v], .agg #[.int .u32 x.e.u, .int .u32 x.e.v]] z fun e w' => e = .returned (.bool false) ∧ Grw z w') := fun z => by
                                have := HLs z
                                rwa [show decide (edLt ⟨y.e.u, y.e.v⟩ ⟨x.e.u, x.e.v⟩) = false by simpa using g4] at this
                              clear HLs
                              by_cases g5 : y.e = x.e
                              · have u1 : y.e.u = x.e.u := by rw [g5]
                                have u2 : y.e.v = x.e.v := by rw [g5]
                                rw [u1] at gy0
                                rw [u2] at gy1
                                rw [u1, u2] at HB
                                by_cases g6 : 0 ≤ y.to
                                · by_cases g7 : y.to < x.fr
                                  · have hb2 : bad = false := by rw [hb1]; unfold follows; simp [g5, g6, g7]
                                    subst hb2
                                    have d6 : decide (0 ≤ y.to) = true := decide_eq_true g6
                                    have d7 : decide (y.to < x.fr) = true := decide_eq_true g7
                                    clear g4 g5 hb1 y0 y1 u1 u2
                                    refine wp_region_quiet_grown (by assumption) (by kernel_rfl) ?_
                                    repeat (
                                      generalize hga : (Act.mk _ _) = ga
                                      refine wpQuiet_step (fun K hK => ?_)
                                      subst hga
                                      go_simp
                                      first
                                      | (refine hK _ ?_; clear hK K)
                                      | (apply Exists.intro
                                         refine ⟨fun _ => ?_, hK _ ?_⟩
                                         (go_at_call 54; exact Calls.byGrw (HB.out _))
                                         clear hK K))
                                    refine wpQuiet_nil ?_
                                    intro _ hw'
                                    obtain ⟨⟨nq, osq⟩, hw''⟩ := hw'
                                    subst hw''
                                    go_wp2_with fail
                                    go_meet
                                    exact ⟨rfl, HW.out.trans (Grw.grown _ nq osq).mod (fun _ _ c => c)⟩
                                  · have hb2 : bad = true := by rw [hb1]; unfold follows; simp [g4, g7]
                                    subst hb2
                                    have d6 : decide (0 ≤ y.to) = true := decide_eq_true g6
                                    have d7 : decide (y.to < x.fr) = false := decide_eq_false g7
                                    have d8 : x.fr ≤ y.to := Int.not_lt.1 g7
                                    clear g4 g5 hb1 y0 y1 u1 u2
                                    refine wp_region_quiet_grown (by assumption) (by kernel_rfl) ?_
                                    repeat (
                                      generalize hga : (Act.mk _ _) = ga
                                      refine wpQuiet_step (fun K hK => ?_)
                                      subst hga
                                      go_simp
                                      first
                                      | (refine hK _ ?_; clear hK K)
                                      | (apply Exists.intro
                                         refine ⟨fun _ => ?_, hK _ ?_⟩
                                         (go_at_call 54; exact Calls.byGrw (HB.out _))
                                         clear hK K))
                                    refine wpQuiet_nil ?_
                                    intro _ hw'
                                    obtain ⟨⟨nq, osq⟩, hw''⟩ := hw'
                                    subst hw''
                                    go_wp2_with fail
                                    go_meet
                                    exact ⟨rfl, HW.out.trans (Grw.grown _ nq osq).mod (fun _ _ c => c)⟩
                                · have hb2 : bad = true := by rw [hb1]; unfold follows; simp [g4, g6]
                                  subst hb2
                                  have d6 : decide (0 ≤ y.to) = false := decide_eq_false g6
                                  have d8 : y.to < 0 := Int.not_le.1 g6
                                  clear g4 g5 hb1 y0 y1 u1 u2
                                  refine wp_region_quiet_grown (by assumption) (by kernel_rfl) ?_
                                  repeat (
                                    generalize hga : (Act.mk _ _) = ga
                                    refine wpQuiet_step (fun K hK => ?_)
                                    subst hga
                                    go_simp
                                    first
                                    | (refine hK _ ?_; clear hK K)
                                    | (apply Exists.intro
                                       refine ⟨fun _ => ?_, hK _ ?_⟩
                                       (go_at_call 54; exact Calls.byGrw (HB.out _))
                                       clear hK K))
                                  refine wpQuiet_nil ?_
                                  intro _ hw'
                                  obtain ⟨⟨nq, osq⟩, hw''⟩ := hw'
                                  subst hw''
                                  go_wp2_with fail
                                  go_meet
                                  exact ⟨rfl, HW.out.trans (Grw.grown _ nq osq).mod (fun _ _ c => c)⟩
                              · have hb2 : bad = true := by rw [hb1]; unfold follows; simp [g4, g5]
                                subst hb2
                                by_cases hu : y.e.u = x.e.u
                                · have hv : ¬ y.e.v = x.e.v := fun c => g5 (Ed.ext' hu c)
                                  have hvb : (y.e.v == x.e.v) = false := by simp [hv]
                                  rw [hu] at gy0 HB
                                  clear g4 g5 hb1 y0 y1 hu
                                  refine wp_region_quiet_grown (by assumption) (by kernel_rfl) ?_
                                  repeat (
                                    generalize hga : (Act.mk _ _) = ga
                                    refine wpQuiet_step (fun K hK => ?_)
                                    subst hga
                                    go_simp
                                    first
                                    | (refine hK _ ?_; clear hK K)
                                    | (apply Exists.intro
                                       refine ⟨fun _ => ?_, hK _ ?_⟩
                                       (go_at_call 54; exact Calls.byGrw (HB.out _))
                                       clear hK K))
                                  refine wpQuiet_nil ?_
                                  intro _ hw'
                                  obtain ⟨⟨nq, osq⟩, hw''⟩ := hw'
                                  subst hw''
                                  go_wp2_with fail
                                  go_meet
                                  exact ⟨rfl, HW.out.trans (Grw.grown _ nq osq).mod (fun _ _ c => c)⟩
                                · have hub : (y.e.u == x.e.u) = false := by simp [hu]
                                  clear g4 g5 hb1 y0 y1
                                  refine wp_region_quiet_grown (by assumption) (by kernel_rfl) ?_
                                  repeat (
                                    generalize hga : (Act.mk _ _) = ga
                                    refine wpQuiet_step (fun K hK => ?_)
                                    subst hga
                                    go_simp
                                    first
                                    | (refine hK _ ?_; clear hK K)
                                    | (apply Exists.intro
                                       refine ⟨fun _ => ?_, hK _ ?_⟩
                                       (go_at_call 54; exact Calls.byGrw (HB.out _))
                                       clear hK K))
                                  refine wpQuiet_nil ?_
                                  intro _ hw'
                                  obtain ⟨⟨nq, osq⟩, hw''⟩ := hw'
                                  subst hw''
                                  go_wp2_with fail
                                  go_meet
                                  exact ⟨rfl, HW.out.trans (Grw.grown _ nq osq).mod (fun _ _ c => c)⟩
                        case rest =>
                          obtain ⟨rfl, HZ⟩ := hcut
                          clear hE1 dc0 dc1 dc2 dc3
                          cases bad with
                          | true =>
                            have hR : R0 = (k, 23) := by rw [ST2.out (by rw [lfErr_23 G.out G3.out (Or.inr hbad)]; omega), lfErr_23 G.out G3.out (Or.inr hbad)]
                            subst hR
                            clear hbad
                            go_wp2_with fail
                            go_ret2
                            exact ⟨rfl, HZ.out⟩
                          | false =>
                            have hnx : Hid (lchkFrom n (k + 1) (prevL l (k + 1)) (l.drop (k + 1)) = R0) := ST1.out (lfErr_0 G.out G3.out (by
                              rintro (c | c)
                              · exact HA.out c
                              · rw [hbad] at c; cases c))
                            clear hbad
                            go_wp2_with fail
                            go_roundw
                            case rel => exact ⟨k + 1, by omega, by go_num, HZ.out, hnx.out⟩
                            case measure => simp [intOf]; omega
                  · have hR : R0 = (k, 24) := by rw [ST2.out (by rw [lfErr_24 G.out g3]; omega), lfErr_24 G.out g3]
                    rw [show decide (right ⟨x.e.u, x.e.v⟩ n) = false by simp [g3]]
                    subst hR
                    clear g3
                    go_wp2_with fail
                    go_ret2
                    exact ⟨rfl, HW.out⟩
          · have hkl : k = l.length := by omega
            obtain ⟨hM, hchk⟩ := HI.out
            have hR : R0 = (0, 0) := by rw [← hchk, hkl, List.drop_length]; rfl
            subst hR
            have HM := Lib.hid hM
            clear hM hchk hkl
            go_wp2_with fail
            go_ret2
            exact ⟨rfl, HM.out⟩
end Go.Proofs.YtppambkffgmkgaaGreatDoor
end

section
/- The reference: Back. -/
namespace Go.Proofs.YtppambkffgmkgaaGreatDoor
open Go.RowKit
set_option linter.unusedVariables false

/-- What the document's Back keeps: the history that grows. -/
structure KSt (w wr : World) (h4 h8 : Nat) (n : Int) (oa : Option Addr) (oc : Nat) (es : List Ev) : Prop where
  mod : Mod w wr NoB
  hh : w.heap.size ≤ h4 ∧ h4 < h8
  a0 : wr.cell? ⟨h4, 0, none⟩ = some (.int .u64 0)
  a1 : wr.cell? ⟨h4, 1, none⟩ = some (.slice none 0 0)
  fa0 : wr.frozen? ⟨h4, 0, none⟩ = false
  fa1 : wr.frozen? ⟨h4, 1, none⟩ = false
  b0 : wr.cell? ⟨h8, 0, none⟩ = some (.int .u64 n)
  b1 : wr.cell? ⟨h8, 1, none⟩ = some (.slice oa es.length oc)
  fb0 : wr.frozen? ⟨h8, 0, none⟩ = false
  fb1 : wr.frozen? ⟨h8, 1, none⟩ = false
  evs : Evs wr oa es
  plain : Plain oa
  cap : es.length ≤ oc
  sep : ∀ p, oa = some p → h8 < p.block
theorem KSt.quiet {w V w8 : World} {h4 h8 oc : Nat} {n : Int} {oa : Option Addr} {es : List Ev} (h : KSt w V h4 h8 n oa oc es) (hm : Mod V w8 NoB) : KSt w w8 h4 h8 n oa oc es := by
  have l4 := World.block_lt_of_cell? _ _ h.a0
  have l8 := World.block_lt_of_cell? _ _ h.b0
  exact ⟨h.mod.trans hm (fun _ _ c => c), h.hh, keepc h.a0 hm, keepc h.a1 hm, (hm.frozen (p := ⟨h4, 0, none⟩) l4 (by simp [NoB])).trans h.fa0, (hm.frozen (p := ⟨h4, 1, none⟩) l4 (by simp [NoB])).trans h.fa1,
    keepc h.b0 hm, keepc h.b1 hm, (hm.frozen (p := ⟨h8, 0, none⟩) l8 (by simp [NoB])).trans h.fb0, (hm.frozen (p := ⟨h8, 1, none⟩) l8 (by simp [NoB])).trans h.fb1, h.evs.mod hm, h.plain, h.cap, h.sep⟩
theorem KSt.put {w V w5 : World} {h4 h8 oc c' : Nat} {n : Int} {oa a' : Option Addr} {es es' : List Ev} (h : KSt w V h4 h8 n oa oc es) (hm : Mod V w5 NoB) (hE : Evs w5 a' es') (hp : Plain a') (hy : Yg V a') (hc : es'.length ≤ c') :
    KSt w (w5.setCell ⟨h8, 1, none⟩ (.slice a' es'.length c')) h4 h8 n a' c' es' := by
  have g := h.quiet hm
  have l8 := World.block_lt_of_cell? _ _ h.b0
  have h48 : h4 ≠ h8 := Nat.ne_of_lt h.hh.2
  have ne0 : (⟨h4, 0, none⟩ : Addr) ≠ ⟨h8, 1, none⟩ := fun c => h48 (congrArg Addr.block c)
  have ne1 : (⟨h4, 1, none⟩ : Addr) ≠ ⟨h8, 1, none⟩ := fun c => h48 (congrArg Addr.block c)
  have sep : ∀ p, a' = some p → h8 < p.block := fun p hp => Nat.lt_of_lt_of_le l8 (hy p hp)
  refine ⟨g.mod.setCell (p := ⟨h8, 1, none⟩) (fun c => absurd c (Nat.not_lt.2 (by have := h.hh; show w.heap.size ≤ h8; omega))) _, h.hh, ?_, ?_, ?_, ?_, ?_, ?_, ?_, ?_, ?_, hp, hc, sep⟩
  · rw [World.cell?_setCell_other _ _ _ _ ne0.symm]; exact g.a0
  · rw [World.cell?_setCell_other _ _ _ _ ne1.symm]; exact g.a1
  · rw [World.frozen?_setCell]; exact g.fa0
  · rw [World.frozen?_setCell]; exact g.fa1
  · rw [World.cell?_setCell_other _ _ _ _ (by simp)]; exact g.b0
  · exact World.cell?_setCell_same _ _ _ g.b1
  · rw [World.frozen?_setCell]; exact g.fb0
  · rw [World.frozen?_setCell]; exact g.fb1
  · exact hE.modS (Mod.set1 w5 h8 1 _) (fun b _ hp c => by
      obtain ⟨p, hp1, hp2⟩ := hp
      have := sep p hp1
      have : b = h8 := c
      omega)
theorem putAll_snoc {α : Type} {lt : α → α → Prop} [DecidableRel lt] (l : List α) (x : α) : putAll lt (l ++ [x]) = putR lt x (putAll lt l) := by
  unfold putAll
  rw [List.foldl_append]
  rfl

set_option maxRecDepth 100000 in
set_option maxHeartbeats 4000000 in
theorem rback_yg (w : World) (n : Int) (a : Option Addr) (cap : Nat) (l : List Lf) (hL : Lvs w a l) (hl : l.length ≤ 40000) (hb : ∀ x ∈ l, EdB x.e) :
    Calls Tryz.prog 46 #[.int .u64 n, .slice a l.length cap] w fun r w' => ∃ a' cap', r = .returned (.tuple #[.agg #[.int .u64 (backN n l), .slice a' (backE n l).length cap'], .int .i64 (lchk n l).2]) ∧ Evs w' a' (backE n l) ∧ Mod w w' NoB ∧ Yg w a' := by
  have HL := Lib.hid hL
  have HBD := Lib.hid hb
  clear hL hb
  have hmx := mixed
  obtain ⟨h4, hh4⟩ : ∃ h4, h4 = w.heap.size := ⟨_, rfl⟩
  obtain ⟨W, hW⟩ : ∃ W, W = w.alloc (.cells #[.int .u64 0, .slice none 0 0] 25) := ⟨_, rfl⟩
  have HW : Hid (Mod w W NoB) := by rw [hW]; exact (Mod.refl _ _).alloc _
  have ca0 : W.cell? ⟨h4, 0, none⟩ = some (.int .u64 0) := by rw [hW, hh4]; exact World.cell?_alloc_at _ _ _ _ rfl
  have ca1 : W.cell? ⟨h4, 1, none⟩ = some (.slice none 0 0) := by rw [hW, hh4]; exact World.cell?_alloc_at _ _ _ _ rfl
  have cf0 : W.frozen? ⟨h4, 0, none⟩ = false := by rw [hW, hh4]; simp
  have cf1 : W.frozen? ⟨h4, 1, none⟩ = false := by rw [hW, hh4]; simp
  by_cases hc : (lchk n l).2 = 0
  · have hbn : backN n l = n := if_pos hc
    have hbe : backE n l = putAll before (evs l) := if_pos hc
    rw [hbn, hbe]
    obtain ⟨c1, hc1⟩ : ∃ c1, (lchk n l).1 = c1 := ⟨_, rfl⟩
    have HC : Hid (∀ z, Lvs z a l → Calls Tryz.prog 48 #[.int .u64 n, .slice a l.length cap] z fun e w' => e = .returned (.tuple #[.int .i64 c1, .int .i64 0]) ∧ Mod z w' NoB) := fun z hz => by
      have := rlcheck_any z n a cap l hz (by omega) HBD.out
      rw [hc1, hc] at this
      exact this
    rw [hc]
    have HOK : Hid (AllLf n none l) := by
      have h2 := hc
      unfold lchk at h2
      split at h2
      · cases h2
      · exact allLf_of h2
    clear hc hbn hbe hc1
    go_enter Tryz.func46, Tryz.ntmps46
    go_wp2_with fail
    rw [← hW, ← hh4]
    refine (HC.out _ (HL.out.mod HW.out)).mono ?_
    rintro e w1 ⟨rfl, hm⟩
    have HM : Hid (Mod w w1 NoB) := HW.out.trans hm (fun _ _ h => h)
    have l4 := World.block_lt_of_cell? _ _ ca0
    have HA : Hid (w1.cell? ⟨h4, 0, none⟩ = some (.int .u64 0) ∧ w1.cell? ⟨h4, 1, none⟩ = some (.slice none 0 0) ∧ w1.frozen? ⟨h4, 0, none⟩ = false ∧ w1.frozen? ⟨h4, 1, none⟩ = false ∧ h4 < w1.heap.size ∧ w.heap.size ≤ h4) :=
      ⟨keepc ca0 hm, keepc ca1 hm, (hm.frozen (p := ⟨h4, 0, none⟩) l4 (by simp [NoB])).trans cf0, (hm.frozen (p := ⟨h4, 1, none⟩) l4 (by simp [NoB])).trans cf1, Nat.lt_of_lt_of_le l4 hm.size, by omega⟩
    clear hm HW ca0 ca1 cf0 cf1 l4 hW hh4
    go_wp2_with fail
    obtain ⟨h8, hh8⟩ : ∃ h8, h8 = w1.heap.size := ⟨_, rfl⟩
    obtain ⟨w2, hw2⟩ : ∃ w2, w2 = w1.alloc (.cells #[.int .u64 n, .slice none 0 0] 25) := ⟨_, rfl⟩
    have HB0 : Hid (KSt w w2 h4 h8 n none 0 (putAll before (evs (l.take 0)))) := by
      have hm2 : Mod w1 w2 NoB := by rw [hw2]; exact (Mod.refl _ _).alloc _
      obtain ⟨q1, q2, q3, q4, q5, q6⟩ := HA.out
      refine ⟨HM.out.trans hm2 (fun _ _ h => h), ⟨q6, by omega⟩, keepc q1 hm2, keepc q2 hm2, (hm2.frozen (p := ⟨h4, 0, none⟩) q5 (by simp [NoB])).trans q3, (hm2.frozen (p := ⟨h4, 1, none⟩) q5 (by simp [NoB])).trans q4, ?_, ?_, ?_, ?_, Or.inl rfl, Or.inl rfl, Nat.le_refl _, fun p hp => by cases hp⟩
      · rw [hw2, hh8]; exact World.cell?_alloc_at _ _ _ _ rfl
      · rw [hw2, hh8]; exact World.cell?_alloc_at _ _ _ _ rfl
      · rw [hw2, hh8]; simp
      · rw [hw2, hh8]; simp
    rw [← hw2, ← hh8]
    clear hw2 hh8
    go_loopw [9] (fun v9 wr => ∃ (k : Nat) (oa : Option Addr) (oc : Nat), k ≤ l.length ∧ v9 = .int .i64 k ∧ Hid (KSt w wr h4 h8 n oa oc (putAll before (evs (l.take k))))) (fun v9 _ => l.length - (intOf v9).toNat)
    case atStart => exact ⟨0, none, 0, Nat.zero_le _, rfl, HB0.out⟩
    case round =>
      obtain ⟨k, oa, oc, hk, rfl, HI⟩ := hrel
      by_cases hlt : k < l.length
      · obtain ⟨b, off, x, rfl, hbw, hx, hC⟩ := (HL.out.mod HI.out.mod).at hlt
        have hki : (k : Int) < l.length := by omega
        obtain ⟨c0, c1, c2, c3⟩ := hC
        have HE := Lib.hid (evs_take hx)
        have HX := Lib.hid hx
        have hlen : (putAll before (evs (l.take k))).length ≤ 80000 := by
          rw [(putAll_perm _).length_eq]
          have := evs_len (l.take k)
          have : (l.take k).length ≤ k := by simp; omega
          omega
        obtain ⟨ES, hES⟩ : ∃ ES, putAll before (evs (l.take k)) = ES := ⟨_, rfl⟩
        rw [hES] at HI hlen
        have b1 := HI.out.b1
        have f1 := HI.out.fb1
        have l8 := World.block_lt_of_cell? _ _ b1
        have HIn : Hid (∀ z, Mod wr z NoB → Calls Tryz.prog 76 #[.slice oa (ES).length oc, .agg #[.int .i64 x.fr, .int .u32 x.e.u, .int .u32 x.e.v, .bool true]] z fun r w' => ∃ a' cap', r = .returned (.slice a' (putR before ⟨x.fr, x.e, true⟩ (ES)).length cap') ∧ Evs w' a' (putR before ⟨x.fr, x.e, true⟩ (ES)) ∧ (Plain a' ∧ Yg wr a') ∧ (putR before ⟨x.fr, x.e, true⟩ (ES)).length ≤ cap' ∧ Mod z w' NoB) := fun z hz =>
          (rins_any z oa oc (ES) ⟨x.fr, x.e, true⟩ (HI.out.evs.mod hz) HI.out.plain (by omega) HI.out.cap).mono fun _ _ h => by
            obtain ⟨a', c', k0, k1, k2, k3, k4⟩ := h
            exact ⟨a', c', k0, k1, ⟨k2.1, k2.2.mono hz.size⟩, k3, k4⟩
        clear hx hbw
        go_upto_region 8 with (fail)
        go_cut [42] (fun vX wc => ∃ (oa2 : Option Addr) (oc2 : Nat), Hid (KSt w wc h4 h8 n oa2 oc2 (putR before ⟨x.fr, x.e, true⟩ ES)))
        case first =>
          go_region_with (first
            | (go_at_call 76; refine (HIn.out _ (Mod.drew (Mod.refl _ NoB))).mono ?_; rintro r w5 ⟨a5, c5, rfl, k1, k2, k3, hm5⟩; have H5 := Lib.hid (And.intro (Mod.trans (Mod.drew (Mod.refl _ NoB)) hm5 (fun _ _ c => c)) (And.intro k1 (And.intro k2 k3))); have b5 := keepc b1 H5.out.1; have f5 := (H5.out.1.frozen (p := ⟨h8, 1, none⟩) l8 (by simp [NoB])).trans f1; clear k1 k2 k3 hm5))
          all_goals
            go_wp2_with fail
            go_meet
            exact ⟨a5, c5, HI.out.put H5.out.1 H5.out.2.1 H5.out.2.2.1.1 H5.out.2.2.1.2 H5.out.2.2.2⟩
        case rest =>
          obtain ⟨oa2, oc2, HI2⟩ := hcut
          obtain ⟨E2, hE2⟩ : ∃ E2, putR before ⟨x.fr, x.e, true⟩ ES = E2 := ⟨_, rfl⟩
          rw [hE2] at HI2
          have hlen2 : E2.length ≤ 80001 := by rw [← hE2, (putR_perm _ _ _).length_eq, List.length_cons]; omega
          clear c0 c1 c2 c3 b1 f1 l8 HIn hlen
          obtain ⟨b', off', y, hab, _, hy, hCy⟩ := (HL.out.mod HI2.out.mod).at hlt
          cases hab
          have hyx : y = x := by have := HX.out; rw [hy] at this; exact Option.some.inj this
          subst hyx
          obtain ⟨c0, c1, c2, c3⟩ := hCy
          clear hy
          by_cases ht : 0 ≤ y.to
          · have HP : Hid (putAll before (evs (l.take (k + 1))) = putR before ⟨y.to, y.e, false⟩ E2) := by
              show _ = _
              rw [HE.out]
              unfold evsOf
              rw [if_pos ht, show (evs (l.take k) ++ [⟨y.fr, y.e, true⟩, ⟨y.to, y.e, false⟩] : List Ev) = (evs (l.take k) ++ [⟨y.fr, y.e, true⟩]) ++ [⟨y.to, y.e, false⟩] by simp, putAll_snoc, putAll_snoc, hES, hE2]
            have b1 := HI2.out.b1
            have f1 := HI2.out.fb1
            have l8 := World.block_lt_of_cell? _ _ b1
            have HIn : Hid (∀ z, Mod wc z NoB → Calls Tryz.prog 76 #[.slice oa2 (E2).length oc2, .agg #[.int .i64 y.to, .int .u32 y.e.u, .int .u32 y.e.v, .bool false]] z fun r w' => ∃ a' cap', r = .returned (.slice a' (putR before ⟨y.to, y.e, false⟩ (E2)).length cap') ∧ Evs w' a' (putR before ⟨y.to, y.e, false⟩ (E2)) ∧ (Plain a' ∧ Yg wc a') ∧ (putR before ⟨y.to, y.e, false⟩ (E2)).length ≤ cap' ∧ Mod z w' NoB) := fun z hz =>
              (rins_any z oa2 oc2 (E2) ⟨y.to, y.e, false⟩ (HI2.out.evs.mod hz) HI2.out.plain (by omega) HI2.out.cap).mono fun _ _ h => by
                obtain ⟨a', c', k0, k1, k2, k3, k4⟩ := h
                exact ⟨a', c', k0, k1, ⟨k2.1, k2.2.mono hz.size⟩, k3, k4⟩
            clear hES hE2
            go_upto_region 10 with (fail)
            go_region_with (first
                | (go_at_call 76; refine (HIn.out _ (Mod.drew (Mod.refl _ NoB))).mono ?_; rintro r w5 ⟨a5, c5, rfl, k1, k2, k3, hm5⟩; have H5 := Lib.hid (And.intro (Mod.trans (Mod.drew (Mod.refl _ NoB)) hm5 (fun _ _ c => c)) (And.intro k1 (And.intro k2 k3))); have b5 := keepc b1 H5.out.1; have f5 := (H5.out.1.frozen (p := ⟨h8, 1, none⟩) l8 (by simp [NoB])).trans f1; clear k1 k2 k3 hm5))
            all_goals
              have HI3 := Lib.hid (HI2.out.put H5.out.1 H5.out.2.1 H5.out.2.2.1.1 H5.out.2.2.1.2 H5.out.2.2.2)
              rw [← HP.out] at HI3
              clear c0 c1 c2 c3 b1 f1 l8 HIn
              go_wp2_with fail
              go_roundw
              case rel => exact ⟨k + 1, a5, c5, by omega, by go_num, by have := HI3.out; rw [HP.out] at this ⊢; exact this⟩
              case measure => simp [intOf]; omega
          · have HP : Hid (putAll before (evs (l.take (k + 1))) = E2) := by
              show _ = _
              rw [HE.out]
              unfold evsOf
              rw [if_neg ht, putAll_snoc, hES, hE2]
            rw [← HP.out] at HI2
            clear hES hE2
            go_wp2_with fail
            go_roundw
            case rel => exact ⟨k + 1, oa2, oc2, by omega, by go_num, HI2.out⟩
            case measure => simp [intOf]; omega
      · have hkl : k = l.length := by omega
        have hI := HI.out
        rw [hkl, List.take_length] at hI
        have HB := Lib.hid hI
        clear hI hkl HI
        have q0 := HB.out.a0
        have q1 := HB.out.a1
        have q2 := HB.out.fa0
        have q3 := HB.out.fa1
        have q4 := HB.out.b0
        have q5 := HB.out.b1
        go_wp2_with fail
        obtain ⟨z, hz⟩ : ∃ z, z = (wr.setCell ⟨h4, 0, none⟩ (.int .u64 n)).setCell ⟨h4, 1, none⟩ (.slice oa (putAll before (evs l)).length oc) := ⟨_, rfl⟩
        have h46 : Mod wr z (OneB h4) := by
          rw [hz]; exact (Mod.set1 wr h4 0 (.int .u64 n)).setG _
        have HZ : Hid (Evs z oa (putAll before (evs l)) ∧ Mod w z NoB ∧ Yg w oa) := by
          refine ⟨HB.out.evs.modS h46 (fun b _ hp c => ?_), HB.out.mod.trans h46 (fun i hi c => by
            have h1 : i = h4 := c
            have := HB.out.hh.1
            omega), fun p hp => by
            have h1 := HB.out.sep p hp
            have h2 := HB.out.hh
            omega⟩
          obtain ⟨p, hp1, hp2⟩ := hp
          have := HB.out.sep p hp1
          have := HB.out.hh.2
          have : b = h4 := c
          omega
        have z0 : z.cell? ⟨h4, 0, none⟩ = some (.int .u64 n) := by
          rw [hz, World.cell?_setCell_other _ _ _ _ (by simp)]; exact World.cell?_setCell_same _ _ _ q0
        have z1 : z.cell? ⟨h4, 1, none⟩ = some (.slice oa (putAll before (evs l)).length oc) := by
          rw [hz]; exact World.cell?_setCell_same _ _ _ (by rw [World.cell?_setCell_other _ _ _ _ (by simp)]; exact q1)
        rw [← hz]
        clear hz q0 q1 q2 q3 q4 q5 h46
        exact bodyPost_ret (v := .tuple #[.agg #[.int .u64 n, .slice oa (putAll before (evs l)).length oc], .int .i64 0]) (by simp [results, Tryz.results46, go_sem, z0, z1]) rfl ⟨oa, oc, rfl, HZ.out.1, HZ.out.2⟩
  · have hbn : backN n l = 0 := if_neg hc
    have hbe : backE n l = [] := if_neg hc
    rw [hbn, hbe]
    obtain ⟨c2, hc2⟩ : ∃ c2, (lchk n l).2 = c2 := ⟨_, rfl⟩
    have HC : Hid (∀ z, Lvs z a l → Calls Tryz.prog 48 #[.int .u64 n, .slice a l.length cap] z fun e w' => e = .returned (.tuple #[.int .i64 (lchk n l).1, .int .i64 c2]) ∧ Mod z w' NoB) := fun z hz => by
      have := rlcheck_any z n a cap l hz (by omega) HBD.out
      rw [hc2] at this
      exact this
    rw [hc2]
    have hcne : ((c2 : Int) != 0) = true := by rw [← hc2]; simpa using hc
    clear hc hbn hbe hc2
    go_enter Tryz.func46, Tryz.ntmps46
    go_wp2_with fail
    rw [← hW, ← hh4]
    refine (HC.out _ (HL.out.mod HW.out)).mono ?_
    rintro e w1 ⟨rfl, hm⟩
    have HM : Hid (Mod w w1 NoB) := HW.out.trans hm (fun _ _ h => h)
    have l4 := World.block_lt_of_cell? _ _ ca0
    have d0 := keepc ca0 hm
    have d1 := keepc ca1 hm
    have e0 := (hm.frozen (p := ⟨h4, 0, none⟩) l4 (by simp [NoB])).trans cf0
    have e1 := (hm.frozen (p := ⟨h4, 1, none⟩) l4 (by simp [NoB])).trans cf1
    have HH : Hid (w.heap.size ≤ h4) := by show w.heap.size ≤ h4; omega
    clear hm HW ca0 ca1 cf0 cf1 l4 hW hh4
    go_wp2_with fail
    obtain ⟨z, hz⟩ : ∃ z, z = (w1.setCell ⟨h4, 0, none⟩ (.int .u64 0)).setCell ⟨h4, 1, none⟩ (.slice none 0 0) := ⟨_, rfl⟩
    have HZ : Hid (Mod w z NoB) := by
      show Mod w z NoB
      rw [hz]
      exact (HM.out.setCell (p := ⟨h4, 0, none⟩) (fun c => absurd c (Nat.not_lt.2 HH.out)) _).setCell (p := ⟨h4, 1, none⟩) (fun c => absurd c (Nat.not_lt.2 HH.out)) _
    have z0 : z.cell? ⟨h4, 0, none⟩ = some (.int .u64 0) := by
      rw [hz, World.cell?_setCell_other _ _ _ _ (by simp)]; exact World.cell?_setCell_same _ _ _ d0
    have z1 : z.cell? ⟨h4, 1, none⟩ = some (.slice none 0 0) := by
      rw [hz]; exact World.cell?_setCell_same _ _ _ (by rw [World.cell?_setCell_other _ _ _ _ (by simp)]; exact d1)
    rw [← hz]
    clear hz d0 d1 e0 e1
    exact bodyPost_ret (v := .tuple #[.agg #[.int .u64 0, .slice none 0 0], .int .i64 c2]) (by simp [results, Tryz.results46, go_sem, z0, z1]) rfl ⟨none, 0, rfl, Or.inl rfl, HZ.out, fun p hp => by cases hp⟩
theorem rback_any (w : World) (n : Int) (a : Option Addr) (cap : Nat) (l : List Lf) (hL : Lvs w a l) (hl : l.length ≤ 40000) (hb : ∀ x ∈ l, EdB x.e) :
    Calls Tryz.prog 46 #[.int .u64 n, .slice a l.length cap] w fun r w' => ∃ a' cap', r = .returned (.tuple #[.agg #[.int .u64 (backN n l), .slice a' (backE n l).length cap'], .int .i64 (lchk n l).2]) ∧ Evs w' a' (backE n l) ∧ Mod w w' NoB :=
  (rback_yg w n a cap l hL hl hb).mono fun _ _ ⟨a', c, h1, h2, h3, _⟩ => ⟨a', c, h1, h2, h3⟩
end Go.Proofs.YtppambkffgmkgaaGreatDoor
end

section
/- Rows of lives: parts of a row, and a row that is appended to. -/
namespace Go.Proofs.YtppambkffgmkgaaGreatDoor
open Go.RowKit
set_option linter.unusedVariables false

theorem info_life2 : (Tryz.prog.info? 81).map (fun i => (i.zero, i.size, i.bytes)) = some (some (.agg #[.int .u32 0, .int .u32 0, .int .i64 0, .int .i64 0]), 4, 24) := by kernel_rfl

/-- The cells of a part of a row of lives. -/
theorem lvs_news {w : World} {b off o' p m : Nat} {l : List Lf} (h : ∀ (i : Nat) (x : Lf), l[i]? = some x → LfAt w b (off + i * 4) x) (ho : o' = off + p * 4) :
    ∀ (j : Nat) (u : Value), (((l.drop p).take m).flatMap encL)[j]? = some u → ∃ ad, (some ⟨b, o', none⟩ : Option Addr) = some ad ∧ w.cell? (ad.add j) = some u := by
  intro j u hu
  obtain ⟨h1, h2⟩ := List.getElem?_eq_some_iff.1 hu
  have hj2 : j / 4 < ((l.drop p).take m).length := by rw [enc4_len encL_len] at h1; omega
  obtain ⟨x, hx⟩ : ∃ x, ((l.drop p).take m)[j / 4]? = some x := ⟨_, List.getElem?_eq_getElem hj2⟩
  have hx' : l[p + j / 4]? = some x := by
    rw [List.getElem?_take] at hx
    split at hx
    · rw [List.getElem?_drop] at hx; exact hx
    · cases hx
  have hg := enc4_get encL_len _ (j / 4) x (j % 4) hx (Nat.mod_lt _ (by omega))
  rw [show j / 4 * 4 + j % 4 = j by omega, hu] at hg
  obtain ⟨e0, e1, e2, e3⟩ := h _ _ hx'
  refine ⟨_, rfl, ?_⟩
  have hadd : (⟨b, o', none⟩ : Addr).add j = ⟨b, o' + j, none⟩ := by unfold Addr.add; split <;> simp_all
  rw [hadd]
  have hm : j % 4 < 4 := Nat.mod_lt _ (by omega)
  have hc : j % 4 = 0 ∨ j % 4 = 1 ∨ j % 4 = 2 ∨ j % 4 = 3 := by omega
  rcases hc with hr | hr | hr | hr
  · rw [hr] at hg
    have hu' : u = .int .u32 x.e.u := by simpa [encL] using hg
    rw [hu', show o' + j = off + (p + j / 4) * 4 by omega]; exact e0
  · rw [hr] at hg
    have hu' : u = .int .u32 x.e.v := by simpa [encL] using hg
    rw [hu', show o' + j = off + (p + j / 4) * 4 + 1 by omega]; exact e1
  · rw [hr] at hg
    have hu' : u = .int .i64 x.fr := by simpa [encL] using hg
    rw [hu', show o' + j = off + (p + j / 4) * 4 + 2 by omega]; exact e2
  · rw [hr] at hg
    have hu' : u = .int .i64 x.to := by simpa [encL] using hg
    rw [hu', show o' + j = off + (p + j / 4) * 4 + 3 by omega]; exact e3
theorem encL_one (l : List Lf) : ∀ u ∈ l.flatMap encL, u.oneCell' = true := by
  intro u hu
  obtain ⟨x, _, hx⟩ := List.mem_flatMap.1 hu
  simp [encL] at hx
  rcases hx with rfl | rfl | rfl | rfl <;> rfl
theorem New.lives {w w' : World} {n : Nat} {v : Value} {l : List Lf} (h : New w w' 81 4 v n (l.flatMap encL)) (hn : n = l.length) : ∃ a' cap', v = .slice a' l.length cap' ∧ Lvs w' a' l ∧ (Plain a' ∧ Yg w a') ∧ l.length ≤ cap' := by
  subst hn
  obtain ⟨a', cap', rfl⟩ := row_form h.row
  refine ⟨a', cap', rfl, lvs_of_row rfl h.row, ⟨row_plain h.row, h.yg⟩, ?_⟩
  rcases h.row.2 with ⟨hv, h0⟩ | ⟨g, c, cur, hv, _, _, h1, _⟩
  · rw [h0]; exact Nat.zero_le _
  · cases hv; exact h1

end Go.Proofs.YtppambkffgmkgaaGreatDoor
end
