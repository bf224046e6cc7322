/- The reference: LifeCheck. -/
import Derived.Test.YthncgmmfnghliaaLfSe
namespace Go.Proofs.Ythncgmmfnghliaa
open Go.RowKit
set_option linter.unusedVariables false

set_option maxRecDepth 100000 in
set_option maxHeartbeats 4000000 in
theorem rlcheck_any (w : World) (n : Int) (a : Option Addr) (cap : Nat) (l : List Lf) (hL : Lvs w a l) (hl : l.length ≤ 100000) (hb : ∀ x ∈ l, EdB x.e) :
    Calls Try.prog 16 #[.int .u64 n, .slice a l.length cap] w fun e w' => e = .returned (.tuple #[.int .i64 (lchk n l).1, .int .i64 (lchk n l).2]) ∧ Mod w w' NoB := by
  have HL := Lib.hid hL
  have HBD := Lib.hid hb
  have hmx := mixed
  clear hL hb
  obtain ⟨R0, hR0⟩ : ∃ R0, lchk n l = R0 := ⟨_, rfl⟩
  rw [hR0]
  have HR0 := Lib.hid hR0
  clear hR0
  go_enter Try.func16, Try.ntmps16
  go_wp2_with fail
  go_loopw [6, 7] (fun v6 v7 wr => ∃ (k : Nat) (c : Int), k ≤ l.length ∧ v6 = .int .i64 c ∧ v7 = .int .i64 k ∧ Hid (c = ((k + ends l k : Nat) : Int) ∧ Mod w wr NoB)) (fun _ v7 _ => l.length - (intOf v7).toNat)
  case atStart => exact ⟨0, 0, Nat.zero_le _, rfl, rfl, by simp [ends], Mod.refl _ _⟩
  case round =>
    obtain ⟨k, c, hk, rfl, rfl, HI⟩ := hrel
    have hc0 : 0 ≤ c ∧ c ≤ 200000 := by have := HI.out.1; have := ends_le l k; omega
    by_cases hlt : k < l.length
    · obtain ⟨b, off, x, rfl, hbw, hx, hC⟩ := (HL.out.mod HI.out.2).at hlt
      obtain ⟨_, _, _, c3⟩ := hC
      have hE := ends_succ hx
      have hki : (k : Int) < l.length := by omega
      by_cases ht : 0 ≤ x.to
      · rw [if_pos ht] at hE
        have HE := Lib.hid hE
        clear hE hx
        go_wp2_with fail
        go_roundw
        case rel => exact ⟨k + 1, c + 1 + 1, by omega, by go_num, by go_num, by have := HI.out.1; rw [HE.out]; omega, HI.out.2⟩
        case measure => simp [intOf]; omega
      · rw [if_neg ht] at hE
        have HE := Lib.hid hE
        clear hE hx
        go_wp2_with fail
        go_roundw
        case rel => exact ⟨k + 1, c + 1, by omega, by go_num, by go_num, by have := HI.out.1; rw [HE.out]; omega, HI.out.2⟩
        case measure => simp [intOf]; omega
    · have hkl : k = l.length := by omega
      have hec : c ≤ 2147483648 := by omega
      have HM0 := Lib.hid HI.out.2
      clear hkl HI
      by_cases hn : 4294967296 < n
      · have hR : R0 = (0, 26) := by rw [← HR0.out]; unfold lchk; rw [if_pos]; exact Or.inl hn
        subst hR
        go_wp2_with fail
        go_ret2
        exact ⟨rfl, HM0.out⟩
      · have HI0 : Hid (LInv w wr n l R0 0) := ⟨HM0.out, by rw [← HR0.out, lchk_lim hn (by omega)]; rfl⟩
        clear HM0 HR0
        go_wp2_with fail
        go_loopw [8] (fun v8 wr => ∃ k : Nat, k ≤ l.length ∧ v8 = .int .i64 k ∧ Hid (LInv w wr n l R0 k)) (fun v8 _ => l.length - (intOf v8).toNat)
        case atStart => exact ⟨0, Nat.zero_le _, rfl, HI0.out⟩
        case round =>
          obtain ⟨k, hk, rfl, HI⟩ := hrel
          by_cases hlt : k < l.length
          · obtain ⟨b, off, x, rfl, hbw, hx, hC⟩ := (HL.out.mod HI.out.1).at hlt
            have hki : (k : Int) < l.length := by omega
            have hxB : EdB x.e := HBD.out x (List.mem_of_getElem? hx)
            obtain ⟨hM, hchk⟩ := HI.out
            obtain ⟨st1, st2⟩ := lchk_step hx hchk
            have ST1 := Lib.hid st1
            have ST2 := Lib.hid st2
            have HX := Lib.hid (And.intro hx hxB)
            have HM := Lib.hid hM
            obtain ⟨c0, c1, c2, c3⟩ := hC
            clear st1 st2 hx hxB hchk hM hec
            by_cases g1 : x.fr < 0
            · have hR : R0 = (k, 26) := by rw [ST2.out (by rw [lfErr_26 (Or.inl g1)]; omega), lfErr_26 (Or.inl g1)]
              subst hR
              go_wp2_with fail
              go_ret2
              exact ⟨rfl, HM.out.alloc _⟩
            · by_cases g2 : 4611686018427387903 < x.fr
              · have hR : R0 = (k, 26) := by rw [ST2.out (by rw [lfErr_26 (Or.inr (Or.inl g2))]; omega), lfErr_26 (Or.inr (Or.inl g2))]
                subst hR
                go_wp2_with fail
                go_ret2
                exact ⟨rfl, HM.out.alloc _⟩
              · by_cases g2b : 4611686018427387903 < x.to
                · have hR : R0 = (k, 26) := by rw [ST2.out (by rw [lfErr_26 (Or.inr (Or.inr g2b))]; omega), lfErr_26 (Or.inr (Or.inr g2b))]
                  subst hR
                  go_wp2_with fail
                  go_ret2
                  exact ⟨rfl, HM.out.alloc _⟩
                · have G := Lib.hid (show ¬ (x.fr < 0 ∨ 4611686018427387903 < x.fr ∨ 4611686018427387903 < x.to) by omega)
                  go_wp2_with fail
                  obtain ⟨e0, he0⟩ : ∃ e0, e0 = wr.heap.size := ⟨_, rfl⟩
                  obtain ⟨V, hV⟩ : ∃ V, V = wr.alloc (.cells #[.int .u32 x.e.u, .int .u32 x.e.v, .int .i64 x.fr, .int .i64 x.to] 56) := ⟨_, rfl⟩
                  have HV : Hid (Mod wr V NoB) := by rw [hV]; exact (Mod.refl _ _).alloc _
                  have HD : Hid (LfAt V e0 0 x) := by
                    rw [hV, he0]
                    exact ⟨World.cell?_alloc_at _ _ _ _ rfl, World.cell?_alloc_at _ _ _ _ rfl, World.cell?_alloc_at _ _ _ _ rfl, World.cell?_alloc_at _ _ _ _ rfl⟩
                  rw [← hV, ← he0]
                  clear hV he0 g1 g2 g2b
                  refine (rright_any _ _ _ _ HX.out.2.2).mono ?_
                  rintro e w2 ⟨rfl, hm⟩
                  have HW0 : Hid (Mod wr w2 NoB) := HV.out.trans hm (fun _ _ h => h)
                  have HD1 : Hid (LfAt w2 e0 0 x) := HD.out.mod hm
                  have HW : Hid (Mod w w2 NoB) := HM.out.trans HW0.out (fun _ _ h => h)
                  clear hm HV HD c0 c1 c2 c3
                  by_cases g3 : right ⟨x.e.u, x.e.v⟩ n
                  · have G3 := Lib.hid g3
                    rw [show decide (right ⟨x.e.u, x.e.v⟩ n) = true by simp [g3]]
                    clear g3
                    have hE1 := HL.out.mod HW.out
                    obtain ⟨dc0, dc1, dc2, dc3⟩ := HD1.out
                    simp only [Nat.zero_add] at dc1 dc2 dc3
                    by_cases hA : 0 ≤ x.to ∧ x.to ≤ x.fr
                    · have hR : R0 = (k, 23) := by rw [ST2.out (by rw [lfErr_23 G.out G3.out (Or.inl hA)]; omega), lfErr_23 G.out G3.out (Or.inl hA)]
                      subst hR
                      obtain ⟨ga, gb⟩ := hA
                      clear hE1
                      go_wp2_with fail
                      go_ret2
                      exact ⟨rfl, HW.out⟩
                    · have HA := Lib.hid hA
                      go_upto_region 18 with (fail)
                      go_cut [64] (fun v64 wc => v64 = .bool false ∧ wc = w2)
                      case first =>
                        clear hE1
                        by_cases c : 0 ≤ x.to
                        · have c2 : x.fr < x.to := Int.not_le.1 (fun h => hA ⟨c, h⟩)
                          clear hA
                          go_wp2_with fail
                          go_meet
                          exact ⟨by simp only [decide_eq_false (Int.not_le.2 c2)], rfl⟩
                        · have c2 : x.to < 0 := Int.not_le.1 c
                          clear hA c
                          go_wp2_with fail
                          go_meet
                          exact ⟨rfl, rfl⟩
                      case rest =>
                        obtain ⟨rfl, rfl⟩ := hcut
                        clear hA
                        go_upto_region 20 with (fail)
                        obtain ⟨bad, hbad⟩ : ∃ bad, (prevL l k).any (fun y => decide (¬ follows y x)) = bad := ⟨_, rfl⟩
                        go_cut [76] (fun v76 wz => v76 = .bool bad ∧ Hid (Mod w wz NoB))
                        case first =>
                          by_cases hk0 : k = 0
                          · have hkz : decide (0 < k) = false := decide_eq_false (by omega)
                            have hkd : ¬ 0 < k := by omega
                            have hb2 : bad = false := by rw [← hbad]; unfold prevL; rw [if_pos hk0]; rfl
                            subst hb2
                            clear hk0 hE1 hbad
                            refine wp_region_quiet_grown (by assumption) (by kernel_rfl) ?_
                            repeat (
                              generalize hga : (Act.mk _ _) = ga
                              refine wpQuiet_step (fun K hK => ?_)
                              subst hga
                              go_simp
                              first
                              | (refine hK _ ?_; clear hK K)
                              | (apply Exists.intro
                                 refine ⟨fun _ => ?_, hK _ ?_⟩
                                 fail
                                 clear hK K))
                            refine wpQuiet_nil ?_
                            intro _ hw'
                            obtain ⟨⟨nq, osq⟩, hw''⟩ := hw'
                            subst hw''
                            go_wp2_with fail
                            go_meet
                            exact ⟨rfl, HW.out.trans (Grw.grown _ nq osq).mod (fun _ _ c => c)⟩
                          · obtain ⟨j, hj⟩ : ∃ j, k = j + 1 := ⟨k - 1, by omega⟩
                            obtain ⟨b', off', y, hab, hbw', hy, hCy⟩ := hE1.at (show j < l.length by omega)
                            cases hab
                            obtain ⟨y0, y1, y2, y3⟩ := hCy
                            have hjl : (j : Int) < l.length := by omega
                            have hkp : (0 : Int) < (k : Int) := by omega
                            have hkn : 0 < k := by omega
                            have hkd : decide (0 < (k : Int)) = true := by simpa using hkn
                            have hwr : IntKind.i64.wrap ((k : Int) - 1) = (j : Int) := by
                              rw [hj, IntWalk.i64_in _ (by omega)]; omega
                            have hb1 : bad = decide (¬ follows y x) := by rw [← hbad]; unfold prevL; rw [if_neg hk0, show k - 1 = j by omega, hy]; rfl
                            have gy0 := cg y0
                            have gy1 := cg y1
                            have gy2 := cg y2
                            have gy3 := cg y3
                            have gd0 := cg dc0
                            have gx1 := cg dc1
                            have gx2 := cg dc2
                            have gx3 := cg dc3
                            have HLs := fun z => rless_grw z y.e.u y.e.v x.e.u x.e.v
                            clear hk0 hj hy hbw' hE1 hbad
                            by_cases g4 : edLt y.e x.e
                            · have hb2 : bad = false := by rw [hb1]; unfold follows; simp [g4]
                              subst hb2
                              have HB : Hid (∀ z, Calls Try.prog 41 #[.agg #[.int .u32 y.e.u, .int .u32 y.e.v], .agg #[.int .u32 x.e.u, .int .u32 x.e.v]] z fun e w' => e = .returned (.bool true) ∧ Grw z w') := fun z => by
                                have := HLs z
                                rwa [show decide (edLt ⟨y.e.u, y.e.v⟩ ⟨x.e.u, x.e.v⟩) = true by simpa using g4] at this
                              clear g4 hb1 HLs
                              refine wp_region_quiet_grown (by assumption) (by kernel_rfl) ?_
                              repeat (
                                generalize hga : (Act.mk _ _) = ga
                                refine wpQuiet_step (fun K hK => ?_)
                                subst hga
                                go_simp
                                first
                                | (refine hK _ ?_; clear hK K)
                                | (apply Exists.intro
                                   refine ⟨fun _ => ?_, hK _ ?_⟩
                                   (go_at_call 41; exact Calls.byGrw (HB.out _))
                                   clear hK K))
                              refine wpQuiet_nil ?_
                              intro _ hw'
                              obtain ⟨⟨nq, osq⟩, hw''⟩ := hw'
                              subst hw''
                              go_wp2_with fail
                              go_meet
                              exact ⟨rfl, HW.out.trans (Grw.grown _ nq osq).mod (fun _ _ c => c)⟩
                            · have HB : Hid (∀ z, Calls Try.prog 41 #[.agg #[.int .u32 y.e.u, .int .u32 y.e.v], .agg #[.int .u32 x.e.u, .int .u32 x.e.v]] z fun e w' => e = .returned (.bool false) ∧ Grw z w') := fun z => by
                                have := HLs z
                                rwa [show decide (edLt ⟨y.e.u, y.e.v⟩ ⟨x.e.u, x.e.v⟩) = false by simpa using g4] at this
                              clear HLs
                              by_cases g5 : y.e = x.e
                              · have u1 : y.e.u = x.e.u := by rw [g5]
                                have u2 : y.e.v = x.e.v := by rw [g5]
                                rw [u1] at gy0
                                rw [u2] at gy1
                                rw [u1, u2] at HB
                                by_cases g6 : 0 ≤ y.to
                                · by_cases g7 : y.to < x.fr
                                  · have hb2 : bad = false := by rw [hb1]; unfold follows; simp [g5, g6, g7]
                                    subst hb2
                                    have d6 : decide (0 ≤ y.to) = true := decide_eq_true g6
                                    have d7 : decide (y.to < x.fr) = true := decide_eq_true g7
                                    clear g4 g5 hb1 y0 y1 u1 u2
                                    refine wp_region_quiet_grown (by assumption) (by kernel_rfl) ?_
                                    repeat (
                                      generalize hga : (Act.mk _ _) = ga
                                      refine wpQuiet_step (fun K hK => ?_)
                                      subst hga
                                      go_simp
                                      first
                                      | (refine hK _ ?_; clear hK K)
                                      | (apply Exists.intro
                                         refine ⟨fun _ => ?_, hK _ ?_⟩
                                         (go_at_call 41; exact Calls.byGrw (HB.out _))
                                         clear hK K))
                                    refine wpQuiet_nil ?_
                                    intro _ hw'
                                    obtain ⟨⟨nq, osq⟩, hw''⟩ := hw'
                                    subst hw''
                                    go_wp2_with fail
                                    go_meet
                                    exact ⟨rfl, HW.out.trans (Grw.grown _ nq osq).mod (fun _ _ c => c)⟩
                                  · have hb2 : bad = true := by rw [hb1]; unfold follows; simp [g4, g7]
                                    subst hb2
                                    have d6 : decide (0 ≤ y.to) = true := decide_eq_true g6
                                    have d7 : decide (y.to < x.fr) = false := decide_eq_false g7
                                    have d8 : x.fr ≤ y.to := Int.not_lt.1 g7
                                    clear g4 g5 hb1 y0 y1 u1 u2
                                    refine wp_region_quiet_grown (by assumption) (by kernel_rfl) ?_
                                    repeat (
                                      generalize hga : (Act.mk _ _) = ga
                                      refine wpQuiet_step (fun K hK => ?_)
                                      subst hga
                                      go_simp
                                      first
                                      | (refine hK _ ?_; clear hK K)
                                      | (apply Exists.intro
                                         refine ⟨fun _ => ?_, hK _ ?_⟩
                                         (go_at_call 41; exact Calls.byGrw (HB.out _))
                                         clear hK K))
                                    refine wpQuiet_nil ?_
                                    intro _ hw'
                                    obtain ⟨⟨nq, osq⟩, hw''⟩ := hw'
                                    subst hw''
                                    go_wp2_with fail
                                    go_meet
                                    exact ⟨rfl, HW.out.trans (Grw.grown _ nq osq).mod (fun _ _ c => c)⟩
                                · have hb2 : bad = true := by rw [hb1]; unfold follows; simp [g4, g6]
                                  subst hb2
                                  have d6 : decide (0 ≤ y.to) = false := decide_eq_false g6
                                  have d8 : y.to < 0 := Int.not_le.1 g6
                                  clear g4 g5 hb1 y0 y1 u1 u2
                                  refine wp_region_quiet_grown (by assumption) (by kernel_rfl) ?_
                                  repeat (
                                    generalize hga : (Act.mk _ _) = ga
                                    refine wpQuiet_step (fun K hK => ?_)
                                    subst hga
                                    go_simp
                                    first
                                    | (refine hK _ ?_; clear hK K)
                                    | (apply Exists.intro
                                       refine ⟨fun _ => ?_, hK _ ?_⟩
                                       (go_at_call 41; exact Calls.byGrw (HB.out _))
                                       clear hK K))
                                  refine wpQuiet_nil ?_
                                  intro _ hw'
                                  obtain ⟨⟨nq, osq⟩, hw''⟩ := hw'
                                  subst hw''
                                  go_wp2_with fail
                                  go_meet
                                  exact ⟨rfl, HW.out.trans (Grw.grown _ nq osq).mod (fun _ _ c => c)⟩
                              · have hb2 : bad = true := by rw [hb1]; unfold follows; simp [g4, g5]
                                subst hb2
                                by_cases hu : y.e.u = x.e.u
                                · have hv : ¬ y.e.v = x.e.v := fun c => g5 (Ed.ext' hu c)
                                  have hvb : (y.e.v == x.e.v) = false := by simp [hv]
                                  rw [hu] at gy0 HB
                                  clear g4 g5 hb1 y0 y1 hu
                                  refine wp_region_quiet_grown (by assumption) (by kernel_rfl) ?_
                                  repeat (
                                    generalize hga : (Act.mk _ _) = ga
                                    refine wpQuiet_step (fun K hK => ?_)
                                    subst hga
                                    go_simp
                                    first
                                    | (refine hK _ ?_; clear hK K)
                                    | (apply Exists.intro
                                       refine ⟨fun _ => ?_, hK _ ?_⟩
                                       (go_at_call 41; exact Calls.byGrw (HB.out _))
                                       clear hK K))
                                  refine wpQuiet_nil ?_
                                  intro _ hw'
                                  obtain ⟨⟨nq, osq⟩, hw''⟩ := hw'
                                  subst hw''
                                  go_wp2_with fail
                                  go_meet
                                  exact ⟨rfl, HW.out.trans (Grw.grown _ nq osq).mod (fun _ _ c => c)⟩
                                · have hub : (y.e.u == x.e.u) = false := by simp [hu]
                                  clear g4 g5 hb1 y0 y1
                                  refine wp_region_quiet_grown (by assumption) (by kernel_rfl) ?_
                                  repeat (
                                    generalize hga : (Act.mk _ _) = ga
                                    refine wpQuiet_step (fun K hK => ?_)
                                    subst hga
                                    go_simp
                                    first
                                    | (refine hK _ ?_; clear hK K)
                                    | (apply Exists.intro
                                       refine ⟨fun _ => ?_, hK _ ?_⟩
                                       (go_at_call 41; exact Calls.byGrw (HB.out _))
                                       clear hK K))
                                  refine wpQuiet_nil ?_
                                  intro _ hw'
                                  obtain ⟨⟨nq, osq⟩, hw''⟩ := hw'
                                  subst hw''
                                  go_wp2_with fail
                                  go_meet
                                  exact ⟨rfl, HW.out.trans (Grw.grown _ nq osq).mod (fun _ _ c => c)⟩
                        case rest =>
                          obtain ⟨rfl, HZ⟩ := hcut
                          clear hE1 dc0 dc1 dc2 dc3
                          cases bad with
                          | true =>
                            have hR : R0 = (k, 23) := by rw [ST2.out (by rw [lfErr_23 G.out G3.out (Or.inr hbad)]; omega), lfErr_23 G.out G3.out (Or.inr hbad)]
                            subst hR
                            clear hbad
                            go_wp2_with fail
                            go_ret2
                            exact ⟨rfl, HZ.out⟩
                          | false =>
                            have hnx : Hid (lchkFrom n (k + 1) (prevL l (k + 1)) (l.drop (k + 1)) = R0) := ST1.out (lfErr_0 G.out G3.out (by
                              rintro (c | c)
                              · exact HA.out c
                              · rw [hbad] at c; cases c))
                            clear hbad
                            go_wp2_with fail
                            go_roundw
                            case rel => exact ⟨k + 1, by omega, by go_num, HZ.out, hnx.out⟩
                            case measure => simp [intOf]; omega
                  · have hR : R0 = (k, 24) := by rw [ST2.out (by rw [lfErr_24 G.out g3]; omega), lfErr_24 G.out g3]
                    rw [show decide (right ⟨x.e.u, x.e.v⟩ n) = false by simp [g3]]
                    subst hR
                    clear g3
                    go_wp2_with fail
                    go_ret2
                    exact ⟨rfl, HW.out⟩
          · have hkl : k = l.length := by omega
            obtain ⟨hM, hchk⟩ := HI.out
            have hR : R0 = (0, 0) := by rw [← hchk, hkl, List.drop_length]; rfl
            subst hR
            have HM := Lib.hid hM
            clear hM hchk hkl
            go_wp2_with fail
            go_ret2
            exact ⟨rfl, HM.out⟩
end Go.Proofs.Ythncgmmfnghliaa
