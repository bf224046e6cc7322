/- The walk of LifeCounts. -/
import Derived.Test.YthncgmmfnghliaaLfV
import Derived.Test.YthncgmmfnghliaaLfSd
import Derived.Test.YthncgmmfnghliaaLfU
namespace Go.Proofs.Ythncgmmfnghliaa
open Go.RowKit
set_option linter.unusedVariables false

/-- How many of the first i are of a kind. -/
def cnt (b : Bool) (l : List Ev) (i : Nat) : Nat := ((l.take i).filter (fun e => e.add == b)).length
theorem cnt_succ {b : Bool} {l : List Ev} {i : Nat} {x : Ev} (h : l[i]? = some x) : cnt b l (i + 1) = cnt b l i + (if x.add = b then 1 else 0) := by
  unfold cnt
  obtain ⟨h1, h2⟩ := List.getElem?_eq_some_iff.1 h
  rw [List.take_succ_eq_append_getElem h1, h2, List.filter_append, List.length_append]
  congr 1
  by_cases hb : x.add = b
  · simp [hb]
  · simp [hb]
theorem cnt_le (b : Bool) (l : List Ev) (i : Nat) : cnt b l i ≤ l.length := by
  unfold cnt
  exact Nat.le_trans (List.length_filter_le _ _) (by simp; omega)

/-- A history of the statements' own, and its lives, in memory. -/
structure CSt (w wr : World) (h5 : Nat) (n : Int) (a x' : Option Addr) (len cap : Nat) (F : List Ev) (X : List Lf) : Prop where
  mod : Mod w wr NoB
  c0 : wr.cell? ⟨h5, 0, none⟩ = some (.int .u64 n)
  c1 : wr.cell? ⟨h5, 1, none⟩ = some (.slice a len cap)
  evs : Evs wr a F
  lvs : Lvs wr x' X
theorem CSt.quiet {w wr w' : World} {h5 len cap : Nat} {n : Int} {a x' : Option Addr} {F : List Ev} {X : List Lf} (h : CSt w wr h5 n a x' len cap F X) (hm : Mod wr w' NoB) : CSt w w' h5 n a x' len cap F X :=
  ⟨h.mod.trans hm (fun _ _ c => c), keepc h.c0 hm, keepc h.c1 hm, h.evs.mod hm, h.lvs.mod hm⟩

theorem flag_evb {n top : Int} {T : List Ev} (h : Times n top T) (hn : n ≤ 4294967296) : ∀ x ∈ flag (fun _ => false) T, EvB x := by
  intro x hx
  obtain ⟨y, hy, he, _⟩ := flag_mem hx
  obtain ⟨_, _, hr, h0, _⟩ := h.bd y hy
  unfold EvB EdB
  rw [he]
  unfold right at hr
  omega
theorem raw_evb {l : List Ev} (h : ∀ x ∈ l, EvB x) : ∀ x ∈ raw l, EdB x.e := by
  intro x hx
  obtain ⟨y, hy, he, _⟩ := mem_raw hx
  rw [← he]; exact h y hy

set_option maxRecDepth 100000 in
set_option maxHeartbeats 8000000 in
theorem counts_walk (a0 : Int) (a1 : Option Addr) (len1 cap1 : Nat) (z1 : List Int) (w : World) (w0 : (Lit.int .u8 a0).wf = true) (w1 : IsRow .u8 w a1 len1 cap1 z1) (h90 : len1 ≤ 90) :
    Calls Try.prog 6 #[.int .u8 a0, .slice a1 len1 cap1] w fun e w' => e = .returned (.bool true) ∧ Below w.heap.size w w' := by
  have hd0 : decide ((90 : Int) < (len1 : Int)) = false := decide_eq_false (by omega)
  have hb0 := bounds_u8 w0
  have HA := Lib.hid w1
  have hmx := mixed
  clear w0 w1
  go_enter Try.func6, Try.ntmps6
  go_wp2_with fail
  refine (known_any _).mono ?_
  rintro e w1 ⟨rfl, hm⟩
  have H1 := Lib.hid hm
  clear hm
  go_wp2_with fail
  refine (hist_any _ a0 a1 len1 cap1 z1 hb0 (HA.out.mod H1.out) h90).mono ?_
  rintro r w2 ⟨T, top, a, cap, hr, hT, htop, hT40, hE, hpl, hcap, hm⟩
  have hnb := vertsOf_bd a0.toNat
  obtain ⟨n, hn⟩ : ∃ n, vertsOf a0.toNat = n := ⟨_, rfl⟩
  rw [hn] at hr hT hnb
  obtain ⟨F, hF⟩ : ∃ F, flag (fun _ => false) T = F := ⟨_, rfl⟩
  have hFT : T.length = F.length := by rw [← hF, flag_len]
  have hok : AllOk n none (fun _ => false) F := by rw [← hF]; exact hist_ok hT htop
  have hchk : chk n F = (0, 0) := by rw [← hF]; exact chk_flag hT htop (by unfold maxN; omega) (by omega)
  have hevb : ∀ x ∈ F, EvB x := by rw [← hF]; exact flag_evb hT hnb.2
  rw [hFT] at hr hT40
  rw [hF] at hE
  subst hr
  have H2 : Hid (Mod w w2 NoB) := H1.out.trans hm (fun _ _ h => h)
  have HE := Lib.hid hE
  obtain ⟨X, hX⟩ : ∃ X, putAll lfLt (raw F) = X := ⟨_, rfl⟩
  obtain ⟨x1, x2, x3, x4⟩ := lives_ok hok (by unfold maxN; omega) (by omega)
  have hXb : ∀ x ∈ X, EdB x.e := fun x hx => raw_evb hevb x ((putAll_perm (raw F)).subset (hX ▸ hx))
  rw [hX] at x1 x2 x3 x4
  have hofl : ofL n F = X := by unfold ofL; rw [hchk]; exact hX
  have hX40 : X.length ≤ 40 := by rw [x3]; exact Nat.le_trans (List.length_filter_le _ _) hT40
  have HX := Lib.hid (And.intro x1 (And.intro x2 (And.intro x3 (And.intro x4 hXb))))
  have HOf : Hid (∀ z, Evs z a F → Calls Try.prog 11 #[.agg #[.int .u64 n, .slice a F.length cap]] z fun e w' => ∃ a' cap', e = .returned (.tuple #[.slice a' X.length cap', .int .i64 0]) ∧ Lvs w' a' X ∧ Mod z w' NoB) := fun z hz => by
    have := of_any z n a cap F hz (by omega) hevb
    rw [hofl, hchk] at this
    exact this
  clear hm hE hT htop hF hFT hok hchk hevb hpl hcap hX hofl x1 x2 x3 x4 hXb hn
  obtain ⟨h5, hh5⟩ : ∃ h5, h5 = w2.heap.size := ⟨_, rfl⟩
  obtain ⟨W, hW⟩ : ∃ W, W = w2.alloc (.cells #[.int .u64 n, .slice a F.length cap] 25) := ⟨_, rfl⟩
  have hmW : Mod w2 W NoB := by rw [hW]; exact (Mod.refl _ _).alloc _
  have c0 : W.cell? ⟨h5, 0, none⟩ = some (.int .u64 n) := by rw [hW, hh5]; exact World.cell?_alloc_at _ _ _ _ rfl
  have c1 : W.cell? ⟨h5, 1, none⟩ = some (.slice a F.length cap) := by rw [hW, hh5]; exact World.cell?_alloc_at _ _ _ _ rfl
  have HW : Hid (Mod w W NoB) := H2.out.trans hmW (fun _ _ h => h)
  have HEW := Lib.hid (HE.out.mod hmW)
  go_wp2_with fail
  rw [← hW, ← hh5]
  clear hW hh5 hmW
  refine (HOf.out _ HEW.out).mono ?_
  rintro r w3 ⟨x', xc, rfl, hl, hm⟩
  have HC0 : Hid (CSt w w3 h5 n a x' F.length cap F X) := ⟨HW.out.trans hm (fun _ _ h => h), keepc c0 hm, keepc c1 hm, HEW.out.mod hm, hl⟩
  clear hm hl c0 c1
  have hF40 : (F.length : Int) ≤ 40 := by omega
  go_wp2_with fail
  go_loopw [8, 9, 11] (fun v8 v9 v11 wr => ∃ (i c g : Nat), i ≤ F.length ∧ v8 = .int .i64 c ∧ v9 = .int .i64 g ∧ v11 = .int .i64 i ∧ Hid (CSt w wr h5 n a x' F.length cap F X ∧ c = cnt true F i ∧ g = cnt false F i)) (fun _ _ v11 _ => F.length - (intOf v11).toNat)
  case atStart => exact ⟨0, 0, 0, Nat.zero_le _, rfl, rfl, rfl, HC0.out, by simp [cnt], by simp [cnt]⟩
  case round =>
    obtain ⟨i, c, g, hi, rfl, rfl, rfl, HI⟩ := hrel
    have e0 := HI.out.1.c0
    have e1 := HI.out.1.c1
    by_cases hlt : i < F.length
    · obtain ⟨b, off, x, rfl, hbw, hx, hC⟩ := HI.out.1.evs.at hlt
      have hki : (i : Int) < F.length := by omega
      obtain ⟨_, _, _, c3⟩ := hC
      have hs1 := cnt_succ (b := true) hx
      have hs2 := cnt_succ (b := false) hx
      have hcl : (c : Int) ≤ 40 := by have := HI.out.2.1; have := cnt_le true F i; omega
      have hgl : (g : Int) ≤ 40 := by have := HI.out.2.2; have := cnt_le false F i; omega
      clear hx hbw
      cases hadd : x.add with
      | true =>
        rw [hadd] at c3 hs1 hs2
        have HS := Lib.hid (And.intro hs1 hs2)
        clear hs1 hs2 hadd
        go_wp2_with fail
        go_roundw
        case rel => exact ⟨i + 1, c + 1, g, by omega, by go_num, rfl, by go_num, HI.out.1, by rw [HS.out.1, HI.out.2.1]; rfl, by rw [HS.out.2, HI.out.2.2]; rfl⟩
        case measure => simp [intOf]; omega
      | false =>
        rw [hadd] at c3 hs1 hs2
        have HS := Lib.hid (And.intro hs1 hs2)
        clear hs1 hs2 hadd
        go_wp2_with fail
        go_roundw
        case rel => exact ⟨i + 1, c, g + 1, by omega, rfl, by go_num, by go_num, HI.out.1, by rw [HS.out.1, HI.out.2.1]; rfl, by rw [HS.out.2, HI.out.2.2]; rfl⟩
        case measure => simp [intOf]; omega
    · have hil : i = F.length := by omega
      have hcX : c = X.length := by
        rw [HI.out.2.1, hil, HX.out.2.2.1]
        unfold cnt
        rw [List.take_length]
        congr 1
        exact List.filter_congr (fun e _ => by cases e.add <;> rfl)
      have hgX : g = (X.filter (fun x => decide (0 ≤ x.to))).length := by
        rw [HI.out.2.2, hil, HX.out.2.2.2.1]
        unfold cnt
        rw [List.take_length]
        congr 1
        exact List.filter_congr (fun e _ => by cases e.add <;> rfl)
      have HG := Lib.hid hgX
      subst hcX
      clear hgX hil
      have HI1 := Lib.hid HI.out.1
      go_wp2_with fail
      go_loopw [10, 12] (fun v10 v12 wr => ∃ (j d : Nat), j ≤ X.length ∧ v10 = .int .i64 d ∧ v12 = .int .i64 j ∧ Hid (CSt w wr h5 n a x' F.length cap F X ∧ d = ends X j)) (fun _ v12 _ => X.length - (intOf v12).toNat)
      case atStart => exact ⟨0, 0, Nat.zero_le _, rfl, rfl, HI1.out, by simp [ends]⟩
      case round =>
        obtain ⟨j, d, hj, rfl, rfl, HJ⟩ := hrel
        by_cases hltX : j < X.length
        · obtain ⟨b, off, x, rfl, hbw, hx, hC⟩ := HJ.out.1.lvs.at hltX
          have hji : (j : Int) < X.length := by omega
          have hdl : (d : Int) ≤ 40 := by have := HJ.out.2; have := ends_le X j; omega
          obtain ⟨c0, c1, c2, c3⟩ := hC
          have hs := ends_succ hx
          have HXX := Lib.hid hx
          clear hx hbw
          go_upto_region 17 with (fail)
          by_cases ht : 0 ≤ x.to
          focus
            rw [if_pos ht] at hs
            obtain ⟨d2, hd2⟩ : ∃ d2, d2 = d + 1 := ⟨_, rfl⟩
            have HS : Hid (d2 = ends X (j + 1)) := by show _ = _; rw [hs, ← HJ.out.2, hd2]
            have hw8 : IntKind.i64.wrap ((d : Int) + 1) = (d2 : Int) := by rw [IntWalk.i64_in _ (by omega)]; omega
            have hw9 : (d : Int) + 1 = (d2 : Int) := by omega
            clear hs hd2
            go_upto_region 19 with (fail)
            try rw [hw9]
            clear hw8 hw9
          rotate_left
          focus
            rw [if_neg ht] at hs
            obtain ⟨d2, hd2⟩ : ∃ d2, d2 = d := ⟨_, rfl⟩
            have HS : Hid (d2 = ends X (j + 1)) := by show _ = _; rw [hs, ← HJ.out.2, hd2]; rfl
            clear hs
            go_upto_region 19 with (fail)
            rw [← hd2]
            clear hd2
          all_goals
            clear ht hdl
            by_cases hj0 : j = 0
            · have hkz : decide (0 < j) = false := decide_eq_false (by omega)
              have hkd : ¬ 0 < j := by omega
              clear hj0
              go_quiet (fail)
              go_wp2_with fail
              go_roundw
              case rel => exact ⟨j + 1, d2, by omega, rfl, by go_num, HJ.out.1.quiet ((Mod.refl _ _).drewN _), HS.out⟩
              case measure => simp [intOf]; omega
            · obtain ⟨p, hp⟩ : ∃ p, j = p + 1 := ⟨j - 1, by omega⟩
              subst hp
              obtain ⟨b', off', y, hab, _, hy, hCy⟩ := HJ.out.1.lvs.at (show p < X.length by omega)
              cases hab
              obtain ⟨y0, y1, y2, y3⟩ := hCy
              have hpl : (p : Int) < X.length := by omega
              have hpk : (p : Int) + 1 < X.length := by omega
              have hkp : (0 : Int) < (p : Int) + 1 := by omega
              have hkd : decide ((0 : Int) < (p : Int) + 1) = true := decide_eq_true hkp
              have hw1 : IntKind.i64.wrap ((p : Int) + 1 - 1) = (p : Int) := by rw [IntWalk.i64_in _ (by omega)]; omega
              have hw2 : IntKind.i64.wrap (p : Int) = (p : Int) := IntWalk.i64_in _ (by omega)
              have htn : ((p : Int) + 1).toNat = p + 1 := by omega
              have hp01 : (0 : Int) ≤ (p : Int) + 1 := by omega
              have hlt2 : lfLt y x := by
                obtain ⟨p1, p2⟩ := List.getElem?_eq_some_iff.1 hy
                obtain ⟨q1, q2⟩ := List.getElem?_eq_some_iff.1 HXX.out
                have := List.pairwise_iff_getElem.1 HX.out.1 p (p + 1) p1 q1 (by omega)
                rwa [p2, q2] at this
              have HB : Hid (∀ z, Calls Try.prog 24 #[.agg #[.int .u32 y.e.u, .int .u32 y.e.v, .int .i64 y.fr, .int .i64 y.to], .agg #[.int .u32 x.e.u, .int .u32 x.e.v, .int .i64 x.fr, .int .i64 x.to]] z fun e w' => e = .returned (.bool true) ∧ Grw z w') := fun z => by
                have := lfless_grw z y.e.u y.e.v y.fr y.to x.e.u x.e.v x.fr x.to
                rwa [show decide (lfLt ⟨⟨y.e.u, y.e.v⟩, y.fr, y.to⟩ ⟨⟨x.e.u, x.e.v⟩, x.fr, x.to⟩) = true by simpa using hlt2] at this
              have f0 := cg y0
              have f1 := cg y1
              have f2 := cg y2
              have f3 := cg y3
              have g0 := cg c0
              have g1 := cg c1
              have g2 := cg c2
              have g3 := cg c3
              clear hlt2 hy hj0
              go_quiet_grown ((go_at_call 24; exact Calls.byGrw (HB.out _)))
              go_wp2_with fail
              go_roundw
              case rel => exact ⟨p + 1 + 1, d2, by omega, rfl, by go_num, HJ.out.1.quiet (Grw.grown _ nq osq).mod, HS.out⟩
              case measure => simp [intOf]; omega
        · have hjX : j = X.length := by omega
          have hdg : d = g := by
            rw [HJ.out.2, hjX, HG.out]
            unfold ends; rw [List.take_length]
          subst hdg
          have k0 := HJ.out.1.c0
          clear hjX
          go_wp2_with fail
          refine (lcheck_any _ n x' xc X HJ.out.1.lvs (by omega) HX.out.2.2.2.2).mono ?_
          rw [HX.out.2.1]
          rintro r w9 ⟨rfl, hm⟩
          have HZ : Hid (Mod w w9 NoB) := HJ.out.1.mod.trans hm (fun _ _ h => h)
          clear hm k0
          go_wp2_with fail
          go_ret
          exact ⟨rfl, HZ.out.below (Nat.le_refl _) (fun _ h => h.elim)⟩

theorem counts_all (a0 : Int) (a1 : Option Addr) (len1 cap1 : Nat) (z1 : List Int) (w : World) (w0 : (Lit.int .u8 a0).wf = true) (w1 : IsRow .u8 w a1 len1 cap1 z1) :
    Calls Try.prog 6 #[.int .u8 a0, .slice a1 len1 cap1] w fun e w' => e = .returned (.bool true) ∧ Below w.heap.size w w' := by
  by_cases h90 : len1 ≤ 90
  · exact counts_walk a0 a1 len1 cap1 z1 w w0 w1 h90
  · have hd0 : decide ((90 : Int) < (len1 : Int)) = true := decide_eq_true (by omega)
    have hd1 : (90 : Int) < (len1 : Int) := by omega
    clear w0 w1 h90
    go_enter Try.func6, Try.ntmps6
    go_wp2_with fail
    refine (known_any _).mono ?_
    rintro e w1 ⟨rfl, hm⟩
    have H1 := Lib.hid hm
    clear hm
    go_wp2_with fail
    go_ret
    exact ⟨rfl, H1.out.below (Nat.le_refl _) (fun _ h => h.elim)⟩
end Go.Proofs.Ythncgmmfnghliaa
