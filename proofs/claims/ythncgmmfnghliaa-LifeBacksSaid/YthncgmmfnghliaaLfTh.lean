/- The walk of LifeThere. -/
import Derived.Test.YthncgmmfnghliaaLfTb
import Derived.Test.YthncgmmfnghliaaLfCo
import Derived.Test.YthncgmmfnghliaaLfT
namespace Go.Proofs.Ythncgmmfnghliaa
open Go.RowKit
set_option linter.unusedVariables false

/-- The front of a list that may be, may be. -/
theorem allOk_take {n : Int} : ∀ {l : List Ev} {prev : Option Ev} {there : Ed → Bool} (k : Nat), AllOk n prev there l → AllOk n prev there (l.take k)
  | _, _, _, 0, _ => by simp [AllOk]
  | [], _, _, k + 1, _ => by simp [AllOk]
  | e :: l, prev, there, k + 1, h => ⟨h.1, allOk_take k h.2⟩
theorem allOk_t0 {n : Int} : ∀ {l : List Ev} {prev : Option Ev} {there : Ed → Bool}, AllOk n prev there l → ∀ y ∈ l, 0 ≤ y.t
  | [], _, _, _, y, hy => by simp at hy
  | e :: l, _, _, h, y, hy => by
    rcases List.mem_cons.1 hy with rfl | hy
    · exact (evErr_ok h.1).1.1
    · exact allOk_t0 h.2 y hy
theorem there_plain {n t : Int} {F : List Ev} {X : List Lf} {N : List Ed} {k : Nat} (hok : AllOk n none (fun _ => false) F) (h1 : ∀ x ∈ F.take k, x.t ≤ t) (h2 : ∀ x, F[k]? = some x → t < x.t)
    (hN : NowOk N (thereOf (F.take k))) (hX : X.Perm (raw F)) : ((X.filter (isThere t)).map Lf.e).Perm N := by
  have hb := (allOk_before hok).1
  have h0 := allOk_t0 hok
  have hs : ∀ y ∈ F.drop k, t < y.t := by
    intro y hy
    obtain ⟨j, hj, e⟩ := List.getElem_of_mem hy
    rw [List.getElem_drop] at e
    have hjl : k + j < F.length := by simp at hj; omega
    by_cases hj0 : j = 0
    · subst hj0
      exact h2 y (by rw [List.getElem?_eq_some_iff]; exact ⟨hjl, e⟩)
    · have hk : k < F.length := by omega
      have hlt := h2 F[k] (List.getElem?_eq_getElem hk)
      have := List.pairwise_iff_getElem.1 hb k (k + j) hk hjl (by omega)
      rw [e] at this
      unfold before at this
      omega
  obtain ⟨at2, o⟩ := opn_of (n := n) (F.take k) [] (fun _ => 0) (Opn.nil _) (by simp) none (by simpa [thereOf] using allOk_take k hok)
  rw [List.nil_append] at o
  have hf := there_filter (p := F.take k) (s := F.drop k) (t := t) (fun y hy => h0 y (List.mem_of_mem_take hy)) h1 hs (fun y hy => h0 y (List.mem_of_mem_drop hy))
  rw [List.take_append_drop] at hf
  refine ((hX.filter (isThere t)).map Lf.e).trans ?_
  rw [hf, List.map_map]
  have hce : (Lf.e ∘ closeAll (F.drop k)) = Lf.e := by
    funext x
    show (closeAll (F.drop k) x).e = x.e
    unfold closeAll
    split <;> rfl
  rw [hce]
  exact open_now o hN

/-- How many of the first i are there. -/
def cntT (t : Int) (l : List Lf) (i : Nat) : Nat := ((l.take i).filter (isThere t)).length
theorem cntT_succ {t : Int} {l : List Lf} {i : Nat} {x : Lf} (h : l[i]? = some x) : cntT t l (i + 1) = cntT t l i + (if isThere t x = true then 1 else 0) := by
  unfold cntT
  obtain ⟨h1, h2⟩ := List.getElem?_eq_some_iff.1 h
  rw [List.take_succ_eq_append_getElem h1, h2, List.filter_append, List.length_append]
  congr 1
  by_cases hb : isThere t x = true
  · simp [hb]
  · simp [hb]
theorem cntT_le (t : Int) (l : List Lf) (i : Nat) : cntT t l i ≤ l.length := by
  unfold cntT
  exact Nat.le_trans (List.length_filter_le _ _) (by simp; omega)
theorem isThere_eq (t : Int) (x : Lf) : decide (x.fr ≤ t ∧ (x.to < 0 ∨ t < x.to)) = isThere t x := by
  unfold isThere
  by_cases h1 : x.fr ≤ t <;> by_cases h2 : x.to < 0 <;> by_cases h3 : t < x.to <;> simp [h1, h2, h3]

/-- What stands at the loop. -/
structure TSt2 (w wr : World) (x' na : Option Addr) (X : List Lf) (N : List Ed) : Prop where
  mod : Mod w wr NoB
  lvs : Lvs wr x' X
  eds : Eds wr na N
theorem TSt2.next {w wr w' : World} {x' na : Option Addr} {X : List Lf} {N : List Ed} (h : TSt2 w wr x' na X N) (hm : Mod wr w' NoB) : TSt2 w w' x' na X N :=
  ⟨h.mod.trans hm (fun _ _ c => c), h.lvs.mod hm, h.eds.mod hm⟩

set_option maxRecDepth 100000 in
set_option maxHeartbeats 8000000 in
theorem there_walk (a0 : Int) (a1 : Option Addr) (len1 cap1 : Nat) (z1 : List Int) (a2 : Int) (u v fr ti t : Int) (w : World) (w0 : (Lit.int .u8 a0).wf = true) (w1 : IsRow .u8 w a1 len1 cap1 z1) (w2 : (Lit.int .u8 a2).wf = true) (h90 : len1 ≤ 60) :
    Calls Try.prog 5 #[.int .u8 a0, .slice a1 len1 cap1, .int .u8 a2, .agg #[.int .u32 u, .int .u32 v, .int .i64 fr, .int .i64 ti], .int .i64 t] w fun e w' => e = .returned (.bool true) ∧ Below w.heap.size w w' := by
  have hd0 : decide ((60 : Int) < (len1 : Int)) = false := decide_eq_false (by omega)
  have hb0 := bounds_u8 w0
  have hb2 := bounds_u8 w2
  have HA := Lib.hid w1
  have hmx := mixed
  clear w0 w1 w2
  obtain ⟨h8, hh8⟩ : ∃ h8, h8 = w.heap.size := ⟨_, rfl⟩
  obtain ⟨W, hW⟩ : ∃ W, W = w.alloc (.cells #[.int .u32 u, .int .u32 v, .int .i64 fr, .int .i64 ti] 56) := ⟨_, rfl⟩
  have HW : Hid (Mod w W NoB ∧ LfAt W h8 0 ⟨⟨u, v⟩, fr, ti⟩) := by
    rw [hW, hh8]
    exact ⟨(Mod.refl _ _).alloc _, World.cell?_alloc_at _ _ _ _ rfl, World.cell?_alloc_at _ _ _ _ rfl, World.cell?_alloc_at _ _ _ _ rfl, World.cell?_alloc_at _ _ _ _ rfl⟩
  go_enter Try.func5, Try.ntmps5
  go_wp2_with fail
  rw [← hW, ← hh8]
  clear hW hh8
  refine (known_any _).mono ?_
  rintro e w1 ⟨rfl, hm⟩
  have H1 : Hid (Mod w w1 NoB) := HW.out.1.trans hm (fun _ _ h => h)
  obtain ⟨c0, c1, c2, c3⟩ := HW.out.2.mod hm
  simp only [Nat.zero_add] at c1 c2 c3
  clear hm HW
  go_upto_region 5 with (fail)
  go_cut [42] (fun v42 wc => v42 = .bool false ∧ Hid (Mod w wc NoB))
  case first =>
    have f0 := cg c0
    have f1 := cg c1
    have f2 := cg c2
    have f3 := cg c3
    by_cases g1 : fr ≤ t
    · have d1 : decide (fr ≤ t) = true := decide_eq_true g1
      by_cases g2 : ti < 0
      · have HB : Hid (∀ z, Calls Try.prog 20 #[.agg #[.int .u32 u, .int .u32 v, .int .i64 fr, .int .i64 ti], .int .i64 t] z fun e w' => e = .returned (.bool true) ∧ Grw z w') := fun z => by
          have := there_grw z u v fr ti t
          rwa [show decide (fr ≤ t ∧ (ti < 0 ∨ t < ti)) = true by simp [g1, g2]] at this
        have d2 : decide (ti < 0) = true := decide_eq_true g2
        refine wp_region_quiet_grown (by assumption) (by kernel_rfl) ?_
        repeat (
          generalize hga : (Act.mk _ _) = ga
          refine wpQuiet_step (fun K hK => ?_)
          subst hga
          go_simp
          first
          | (refine hK _ ?_; clear hK K)
          | (apply Exists.intro
             refine ⟨fun _ => ?_, hK _ ?_⟩
             (go_at_call 20; exact Calls.byGrw (HB.out _))
             clear hK K))
        refine wpQuiet_nil ?_
        intro _ hw'
        obtain ⟨⟨nq, osq⟩, hw''⟩ := hw'
        subst hw''
        go_wp2_with fail
        go_meet
        exact ⟨rfl, H1.out.trans (Grw.grown _ nq osq).mod (fun _ _ c => c)⟩
      · have d2 : decide (ti < 0) = false := decide_eq_false g2
        by_cases g3 : t < ti
        · have HB : Hid (∀ z, Calls Try.prog 20 #[.agg #[.int .u32 u, .int .u32 v, .int .i64 fr, .int .i64 ti], .int .i64 t] z fun e w' => e = .returned (.bool true) ∧ Grw z w') := fun z => by
            have := there_grw z u v fr ti t
            rwa [show decide (fr ≤ t ∧ (ti < 0 ∨ t < ti)) = true by simp [g1, g3]] at this
          have d3 : decide (t < ti) = true := decide_eq_true g3
          refine wp_region_quiet_grown (by assumption) (by kernel_rfl) ?_
          repeat (
            generalize hga : (Act.mk _ _) = ga
            refine wpQuiet_step (fun K hK => ?_)
            subst hga
            go_simp
            first
            | (refine hK _ ?_; clear hK K)
            | (apply Exists.intro
               refine ⟨fun _ => ?_, hK _ ?_⟩
               (go_at_call 20; exact Calls.byGrw (HB.out _))
               clear hK K))
          refine wpQuiet_nil ?_
          intro _ hw'
          obtain ⟨⟨nq, osq⟩, hw''⟩ := hw'
          subst hw''
          go_wp2_with fail
          go_meet
          exact ⟨rfl, H1.out.trans (Grw.grown _ nq osq).mod (fun _ _ c => c)⟩
        · have HB : Hid (∀ z, Calls Try.prog 20 #[.agg #[.int .u32 u, .int .u32 v, .int .i64 fr, .int .i64 ti], .int .i64 t] z fun e w' => e = .returned (.bool false) ∧ Grw z w') := fun z => by
            have := there_grw z u v fr ti t
            rwa [show decide (fr ≤ t ∧ (ti < 0 ∨ t < ti)) = false by simp [g2, g3]] at this
          have d3 : decide (t < ti) = false := decide_eq_false g3
          refine wp_region_quiet_grown (by assumption) (by kernel_rfl) ?_
          repeat (
            generalize hga : (Act.mk _ _) = ga
            refine wpQuiet_step (fun K hK => ?_)
            subst hga
            go_simp
            first
            | (refine hK _ ?_; clear hK K)
            | (apply Exists.intro
               refine ⟨fun _ => ?_, hK _ ?_⟩
               (go_at_call 20; exact Calls.byGrw (HB.out _))
               clear hK K))
          refine wpQuiet_nil ?_
          intro _ hw'
          obtain ⟨⟨nq, osq⟩, hw''⟩ := hw'
          subst hw''
          go_wp2_with fail
          go_meet
          exact ⟨rfl, H1.out.trans (Grw.grown _ nq osq).mod (fun _ _ c => c)⟩
    · have HB : Hid (∀ z, Calls Try.prog 20 #[.agg #[.int .u32 u, .int .u32 v, .int .i64 fr, .int .i64 ti], .int .i64 t] z fun e w' => e = .returned (.bool false) ∧ Grw z w') := fun z => by
        have := there_grw z u v fr ti t
        rwa [show decide (fr ≤ t ∧ (ti < 0 ∨ t < ti)) = false by simp [g1]] at this
      have g1a : t < fr := Int.not_le.1 g1
      have d1 : decide (fr ≤ t) = false := decide_eq_false g1
      refine wp_region_quiet_grown (by assumption) (by kernel_rfl) ?_
      repeat (
        generalize hga : (Act.mk _ _) = ga
        refine wpQuiet_step (fun K hK => ?_)
        subst hga
        go_simp
        first
        | (refine hK _ ?_; clear hK K)
        | (apply Exists.intro
           refine ⟨fun _ => ?_, hK _ ?_⟩
           (go_at_call 20; exact Calls.byGrw (HB.out _))
           clear hK K))
      refine wpQuiet_nil ?_
      intro _ hw'
      obtain ⟨⟨nq, osq⟩, hw''⟩ := hw'
      subst hw''
      go_wp2_with fail
      go_meet
      exact ⟨rfl, H1.out.trans (Grw.grown _ nq osq).mod (fun _ _ c => c)⟩
  case rest =>
    obtain ⟨rfl, HC⟩ := hcut
    clear c0 c1 c2 c3 H1
    go_wp2_with fail
    refine (hist_any _ a0 a1 len1 cap1 z1 hb0 (HA.out.mod HC.out) (by omega)).mono ?_
    rintro r w2 ⟨T, top, a, cap, hr, hT, htop, hT40, hE, hpl, hcap, hm⟩
    have hnb := vertsOf_bd a0.toNat
    obtain ⟨n, hn⟩ : ∃ n, vertsOf a0.toNat = n := ⟨_, rfl⟩
    rw [hn] at hr hT hnb
    obtain ⟨F, hF⟩ : ∃ F, flag (fun _ => false) T = F := ⟨_, rfl⟩
    have hFT : T.length = F.length := by rw [← hF, flag_len]
    have hok : AllOk n none (fun _ => false) F := by rw [← hF]; exact hist_ok hT htop
    have hchk : chk n F = (0, 0) := by rw [← hF]; exact chk_flag hT htop (by unfold maxN; omega) (by omega)
    have hevb : ∀ x ∈ F, EvB x := by rw [← hF]; exact flag_evb hT hnb.2
    rw [hFT] at hr hT40
    rw [hF] at hE
    subst hr
    have H2 : Hid (Mod w w2 NoB) := HC.out.trans hm (fun _ _ h => h)
    have HE := Lib.hid hE
    obtain ⟨X, hX⟩ : ∃ X, putAll lfLt (raw F) = X := ⟨_, rfl⟩
    obtain ⟨x1, x2, x3, x4⟩ := lives_ok hok (by unfold maxN; omega) (by omega)
    have hXp : X.Perm (raw F) := hX ▸ putAll_perm (raw F)
    rw [hX] at x1 x2 x3 x4
    have hofl : ofL n F = X := by unfold ofL; rw [hchk]; exact hX
    have hX40 : X.length ≤ 40 := by rw [x3]; exact Nat.le_trans (List.length_filter_le _ _) hT40
    have HXP := Lib.hid hXp
    have HOK := Lib.hid hok
    have HOf : Hid (∀ z, Evs z a F → Calls Try.prog 11 #[.agg #[.int .u64 n, .slice a F.length cap]] z fun e w' => ∃ a' cap', e = .returned (.tuple #[.slice a' X.length cap', .int .i64 0]) ∧ Lvs w' a' X ∧ Mod z w' NoB) := fun z hz => by
      have := of_any z n a cap F hz (by omega) hevb
      rw [hofl, hchk] at this
      exact this
    have HNow : Hid (∀ z t, Evs z a F → Calls Try.prog 22 #[.agg #[.int .u64 n, .slice a F.length cap], .int .i64 t] z fun e w' => ∃ (k : Nat) (na : Option Addr) (nc : Nat) (N : List Ed), k ≤ F.length ∧ (∀ x ∈ F.take k, x.t ≤ t) ∧ (∀ x, F[k]? = some x → t < x.t) ∧
      e = .returned (.tuple #[.slice na N.length nc, .int .i64 0]) ∧ Eds w' na N ∧ N.length ≤ F.length ∧ NowOk N (thereOf (F.take k)) ∧ Mod z w' NoB) := fun z t hz => at_any z n t a cap F hz (by omega) hevb hchk hok
    have HTi : Hid (∀ z, Evs z a F → Calls Try.prog 21 #[.agg #[.int .u64 n, .slice a F.length cap], .int .u8 a2] z fun e w' => ∃ t : Int, e = .returned (.int .i64 t) ∧ Mod z w' NoB) := fun z hz => time_any z n a2 hb2 a cap F hz (by omega)
    clear hm hE hT htop hF hFT hok hchk hevb hpl hcap hX hofl x1 x2 x3 x4 hn hXp
    obtain ⟨h5, hh5⟩ : ∃ h5, h5 = w2.heap.size := ⟨_, rfl⟩
    obtain ⟨W, hW⟩ : ∃ W, W = w2.alloc (.cells #[.int .u64 n, .slice a F.length cap] 25) := ⟨_, rfl⟩
    have HW : Hid (HAt w W h5 n a F.length cap F) := by
      show HAt _ _ _ _ _ _ _ _
      rw [hW, hh5]
      have := HAt.start (n := n) (len := F.length) (cap := cap) HE.out
      exact ⟨H2.out.trans this.mod (fun _ _ h => h), this.c0, this.c1, this.evs⟩
    have c0 := HW.out.c0
    have c1 := HW.out.c1
    go_wp2_with fail
    rw [← hW, ← hh5]
    clear hW hh5
    refine (HOf.out _ HW.out.evs).mono ?_
    rintro r w3 ⟨x', xc, rfl, hl, hm⟩
    have HW3 := Lib.hid (HW.out.next hm)
    have HL3 := Lib.hid hl
    have d0 := HW3.out.c0
    have d1 := HW3.out.c1
    clear hm hl c0 c1 HW
    go_wp2_with fail
    refine (HTi.out _ HW3.out.evs).mono ?_
    rintro r w4 ⟨tt, rfl, hm⟩
    have HW4 := Lib.hid (HW3.out.next hm)
    have HL4 := Lib.hid (HL3.out.mod hm)
    have e0 := HW4.out.c0
    have e1 := HW4.out.c1
    clear hm d0 d1 HW3 HL3
    go_wp2_with fail
    refine (HNow.out _ tt HW4.out.evs).mono ?_
    rintro r w5 ⟨k, na, nc, N, hk, k1, k2, rfl, hE5, hNl, hN, hm⟩
    have HP : Hid (((X.filter (isThere tt)).map Lf.e).Perm N) := there_plain HOK.out k1 k2 hN HXP.out
    have HS5 : Hid (TSt2 w w5 x' na X N) := ⟨HW4.out.mod.trans hm (fun _ _ h => h), HL4.out.mod hm, hE5⟩
    clear hm k1 k2 hN hE5 e0 e1 HW4 HL4 HOK HXP HNow HTi HOf
    have hN40 : (N.length : Int) ≤ 40 := by omega
    go_wp2_with fail
    go_loopw [17, 18] (fun v17 v18 wr => ∃ (i c : Nat), i ≤ X.length ∧ v17 = .int .i64 c ∧ v18 = .int .i64 i ∧ Hid (TSt2 w wr x' na X N ∧ c = cntT tt X i)) (fun _ v18 _ => X.length - (intOf v18).toNat)
    case atStart => exact ⟨0, 0, Nat.zero_le _, rfl, rfl, HS5.out, by simp [cntT]⟩
    case round =>
      obtain ⟨i, c, hi, rfl, rfl, HI⟩ := hrel
      have hcl : (c : Int) ≤ 40 := by have := HI.out.2; have := cntT_le tt X i; omega
      by_cases hlt : i < X.length
      · obtain ⟨b, off, x, rfl, hbw, hx, hC⟩ := HI.out.1.lvs.at hlt
        have hki : (i : Int) < X.length := by omega
        obtain ⟨c0, c1, c2, c3⟩ := hC
        have hs := cntT_succ (t := tt) hx
        have HX := Lib.hid hx
        clear hx hbw
        have HB : Hid (∀ z, Calls Try.prog 20 #[.agg #[.int .u32 x.e.u, .int .u32 x.e.v, .int .i64 x.fr, .int .i64 x.to], .int .i64 tt] z fun e w' => e = .returned (.bool (isThere tt x)) ∧ Mod z w' NoB) := fun z => by
          have := there_any z x.e.u x.e.v x.fr x.to tt
          rwa [isThere_eq tt x] at this
        cases hth : isThere tt x with
        | true =>
          rw [hth] at HB hs
          have hin : x.e ∈ N := HP.out.subset (List.mem_map.2 ⟨x, List.mem_filter.2 ⟨List.mem_of_getElem? HX.out, hth⟩, rfl⟩)
          have HF : Hid ((fndE x.e N).isSome = true) := fndE_iff.2 hin
          have HS := Lib.hid hs
          clear hs hin hth
          go_wp2_with fail
          refine (HB.out _).mono ?_
          rintro r w6 ⟨rfl, hm⟩
          have HI6 := Lib.hid (HI.out.1.next hm)
          have f0 := keepc c0 hm
          have f1 := keepc c1 hm
          clear hm c0 c1 c2 c3
          go_wp2_with fail
          refine (has_any _ na nc N x.e HI6.out.eds (by omega)).mono ?_
          rw [HF.out]
          rintro r w7 ⟨rfl, hm⟩
          have HI7 := Lib.hid (HI6.out.next hm)
          clear hm f0 f1
          go_wp2_with fail
          go_roundw
          case rel => exact ⟨i + 1, c + 1, by omega, by go_num, by go_num, HI7.out, by rw [HS.out, HI.out.2]; rfl⟩
          case measure => simp [intOf]; omega
        | false =>
          rw [hth] at HB hs
          have HS := Lib.hid hs
          clear hs hth
          go_wp2_with fail
          refine (HB.out _).mono ?_
          rintro r w6 ⟨rfl, hm⟩
          have HI6 := Lib.hid (HI.out.1.next hm)
          clear hm c0 c1 c2 c3
          go_wp2_with fail
          go_roundw
          case rel => exact ⟨i + 1, c, by omega, rfl, by go_num, HI6.out, by rw [HS.out, HI.out.2]; rfl⟩
          case measure => simp [intOf]; omega
      · have hil : i = X.length := by omega
        have hcN : c = N.length := by
          rw [HI.out.2, hil, ← HP.out.length_eq, List.length_map]
          unfold cntT
          rw [List.take_length]
        subst hcN
        clear hil
        go_wp2_with fail
        go_ret
        exact ⟨rfl, HI.out.1.mod.below (Nat.le_refl _) (fun _ h => h.elim)⟩

theorem there_all (a0 : Int) (a1 : Option Addr) (len1 cap1 : Nat) (z1 : List Int) (a2 : Int) (u v fr ti t : Int) (w : World) (w0 : (Lit.int .u8 a0).wf = true) (w1 : IsRow .u8 w a1 len1 cap1 z1) (w2 : (Lit.int .u8 a2).wf = true) :
    Calls Try.prog 5 #[.int .u8 a0, .slice a1 len1 cap1, .int .u8 a2, .agg #[.int .u32 u, .int .u32 v, .int .i64 fr, .int .i64 ti], .int .i64 t] w fun e w' => e = .returned (.bool true) ∧ Below w.heap.size w w' := by
  by_cases h90 : len1 ≤ 60
  · exact there_walk a0 a1 len1 cap1 z1 a2 u v fr ti t w w0 w1 w2 h90
  · have hd0 : decide ((60 : Int) < (len1 : Int)) = true := decide_eq_true (by omega)
    have hd1 : (60 : Int) < (len1 : Int) := by omega
    clear w0 w1 w2 h90
    go_enter Try.func5, Try.ntmps5
    go_wp2_with fail
    refine (known_any _).mono ?_
    rintro e w1 ⟨rfl, hm⟩
    have H1 := Lib.hid (((Mod.refl w NoB).alloc _).trans hm (fun _ _ h => h))
    clear hm
    go_wp2_with fail
    go_ret
    exact ⟨rfl, H1.out.below (Nat.le_refl _) (fun _ h => h.elim)⟩
end Go.Proofs.Ythncgmmfnghliaa
