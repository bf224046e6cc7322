/- Merged: LfCo LfCk LfTa -/
import Derived.Test.YtppambkffgmkgaaGreatDoorMg18
import Derived.Test.YtppambkffgmkgaaGreatDoorMg09
import Derived.Test.YtppambkffgmkgaaGreatDoorMg05
section
/- The walk of LifeCounts. -/
namespace Go.Proofs.YtppambkffgmkgaaGreatDoor
open Go.RowKit
set_option linter.unusedVariables false

/-- How many of the first i are of a kind. -/
def cnt (b : Bool) (l : List Ev) (i : Nat) : Nat := ((l.take i).filter (fun e => e.add == b)).length
theorem cnt_succ {b : Bool} {l : List Ev} {i : Nat} {x : Ev} (h : l[i]? = some x) : cnt b l (i + 1) = cnt b l i + (if x.add = b then 1 else 0) := by
  unfold cnt
  obtain ⟨h1, h2⟩ := List.getElem?_eq_some_iff.1 h
  rw [List.take_succ_eq_append_getElem h1, h2, List.filter_append, List.length_append]
  congr 1
  by_cases hb : x.add = b
  · simp [hb]
  · simp [hb]
theorem cnt_le (b : Bool) (l : List Ev) (i : Nat) : cnt b l i ≤ l.length := by
  unfold cnt
  exact Nat.le_trans (List.length_filter_le _ _) (by simp; omega)

/-- A history of the statements' own, and its lives, in memory. -/
structure CSt (w wr : World) (h5 : Nat) (n : Int) (a x' : Option Addr) (len cap : Nat) (F : List Ev) (X : List Lf) : Prop where
  mod : Mod w wr NoB
  c0 : wr.cell? ⟨h5, 0, none⟩ = some (.int .u64 n)
  c1 : wr.cell? ⟨h5, 1, none⟩ = some (.slice a len cap)
  evs : Evs wr a F
  lvs : Lvs wr x' X
theorem CSt.quiet {w wr w' : World} {h5 len cap : Nat} {n : Int} {a x' : Option Addr} {F : List Ev} {X : List Lf} (h : CSt w wr h5 n a x' len cap F X) (hm : Mod wr w' NoB) : CSt w w' h5 n a x' len cap F X :=
  ⟨h.mod.trans hm (fun _ _ c => c), keepc h.c0 hm, keepc h.c1 hm, h.evs.mod hm, h.lvs.mod hm⟩

theorem flag_evb {n top : Int} {T : List Ev} (h : Times n top T) (hn : n ≤ 4294967296) : ∀ x ∈ flag (fun _ => false) T, EvB x := by
  intro x hx
  obtain ⟨y, hy, he, _⟩ := flag_mem hx
  obtain ⟨_, _, hr, h0, _⟩ := h.bd y hy
  unfold EvB EdB
  rw [he]
  unfold right at hr
  omega
theorem raw_evb {l : List Ev} (h : ∀ x ∈ l, EvB x) : ∀ x ∈ raw l, EdB x.e := by
  intro x hx
  obtain ⟨y, hy, he, _⟩ := mem_raw hx
  rw [← he]; exact h y hy

end Go.Proofs.YtppambkffgmkgaaGreatDoor
end

section
/- The reference: Check of a history. -/
namespace Go.Proofs.YtppambkffgmkgaaGreatDoor
open Go.RowKit
set_option linter.unusedVariables false

/-- What the check keeps. -/
structure RInv (w0 wr : World) (h0 : Nat) (n : Int) (a : Option Addr) (len cap : Nat) (l : List Ev) (R : Nat × Nat) (k : Nat) (na : Option Addr) (nc : Nat) (N : List Ed) (there : Ed → Bool) : Prop where
  mod : Mod w0 wr NoB
  c0 : wr.cell? ⟨h0, 0, none⟩ = some (.int .u64 n)
  c1 : wr.cell? ⟨h0, 1, none⟩ = some (.slice a len cap)
  eds : Eds wr na N
  plain : Plain na
  cap : N.length ≤ nc
  len : N.length ≤ k
  now : NowOk N there
  chk : chkFrom n k (prevOf l k) there (l.drop k) = R

set_option maxRecDepth 100000 in
set_option maxHeartbeats 8000000 in
theorem rcheck_any (w : World) (n : Int) (a : Option Addr) (cap : Nat) (l : List Ev) (hE : Evs w a l) (hl : l.length ≤ 100000) (hb : ∀ x ∈ l, EvB x) :
    Calls Tryz.prog 49 #[.agg #[.int .u64 n, .slice a l.length cap]] w fun e w' => e = .returned (.tuple #[.int .i64 (chk n l).1, .int .i64 (chk n l).2]) ∧ Mod w w' NoB := by
  have HE := Lib.hid hE
  have HBD := Lib.hid hb
  have hmx := mixed
  clear hE hb
  by_cases hn : 4294967296 < n
  · rw [show chk n l = (0, 26) by unfold chk; rw [if_pos]; exact Or.inl hn]
    go_enter Tryz.func49, Tryz.ntmps49
    go_wp2_with fail
    go_ret2
    exact ⟨rfl, (Mod.refl _ _).alloc _⟩
  · rw [chk_lim hn (by omega)]
    obtain ⟨R, hR⟩ : ∃ R, chkFrom n 0 none (fun _ => false) l = R := ⟨_, rfl⟩
    rw [hR]
    have hl2 : ¬ (2147483648 : Int) < l.length := by omega
    obtain ⟨h0, hh0⟩ : ∃ h0, h0 = w.heap.size := ⟨_, rfl⟩
    obtain ⟨W, hW⟩ : ∃ W, W = w.alloc (.cells #[.int .u64 n, .slice a l.length cap] 25) := ⟨_, rfl⟩
    have HI0 : Hid (RInv w W h0 n a l.length cap l R 0 none 0 [] (fun _ => false)) := by
      refine ⟨by rw [hW]; exact (Mod.refl _ _).alloc _, ?_, ?_, Or.inl rfl, Or.inl rfl, by simp, by simp, NowOk.nil, hR⟩
      · rw [hW, hh0]; exact World.cell?_alloc_at _ _ _ _ rfl
      · rw [hW, hh0]; exact World.cell?_alloc_at _ _ _ _ rfl
    go_enter Tryz.func49, Tryz.ntmps49
    go_wp2_with fail
    rw [← hW, ← hh0]
    clear hW hh0 hR
    go_loopw [4, 5] (fun v4 v5 wr => ∃ (k : Nat) (na : Option Addr) (nc : Nat) (N : List Ed) (there : Ed → Bool), k ≤ l.length ∧ v4 = .slice na N.length nc ∧ v5 = .int .i64 k ∧ Hid (RInv w wr h0 n a l.length cap l R k na nc N there)) (fun _ v5 _ => l.length - (intOf v5).toNat)
    case atStart => exact ⟨0, none, 0, [], _, Nat.zero_le _, rfl, rfl, HI0.out⟩
    case round =>
      obtain ⟨k, na, nc, N, there, hk, rfl, rfl, HI⟩ := hrel
      have ch0 := HI.out.c0
      have ch1 := HI.out.c1
      by_cases hlt : k < l.length
      · obtain ⟨b, off, x, rfl, hbw, hx, hC⟩ := (HE.out.mod HI.out.mod).at hlt
        have hki : (k : Int) < l.length := by omega
        have hxB : EvB x := HBD.out x (List.mem_of_getElem? hx)
        obtain ⟨st1, st2⟩ := chk_step hx HI.out.chk
        have ST1 := Lib.hid st1
        have ST2 := Lib.hid st2
        have HX := Lib.hid (And.intro hx hxB)
        obtain ⟨c0, c1, c2, c3⟩ := hC
        have h0l := World.block_lt_of_cell? _ _ ch0
        clear st1 st2 hx hxB
        by_cases g1 : x.t < 0
        · have hR : R = (k, 26) := by rw [ST2.out (by rw [evErr_26 (Or.inl g1)]; omega), evErr_26 (Or.inl g1)]
          subst hR
          go_wp2_with fail
          go_ret2
          exact ⟨rfl, HI.out.mod.alloc _⟩
        · by_cases g2 : 4611686018427387903 < x.t
          · have hR : R = (k, 26) := by rw [ST2.out (by rw [evErr_26 (Or.inr g2)]; omega), evErr_26 (Or.inr g2)]
            subst hR
            go_wp2_with fail
            go_ret2
            exact ⟨rfl, HI.out.mod.alloc _⟩
          · have G := Lib.hid (show ¬ (x.t < 0 ∨ 4611686018427387903 < x.t) by omega)
            go_wp2_with fail
            obtain ⟨e0, he0⟩ : ∃ e0, e0 = wr.heap.size := ⟨_, rfl⟩
            obtain ⟨V, hV⟩ : ∃ V, V = wr.alloc (.cells #[.int .i64 x.t, .int .u32 x.e.u, .int .u32 x.e.v, .bool x.add] 62) := ⟨_, rfl⟩
            have HV : Hid (Mod wr V NoB) := by rw [hV]; exact (Mod.refl _ _).alloc _
            have HD : Hid (EvAt V e0 0 x) := by
              rw [hV, he0]
              exact ⟨World.cell?_alloc_at _ _ _ _ rfl, World.cell?_alloc_at _ _ _ _ rfl, World.cell?_alloc_at _ _ _ _ rfl, World.cell?_alloc_at _ _ _ _ rfl⟩
            rw [← hV, ← he0]
            clear hV he0 g1 g2
            refine (rright_any _ _ _ _ HX.out.2.2).mono ?_
            rintro e w1 ⟨rfl, hm⟩
            have HW : Hid (Mod wr w1 NoB) := HV.out.trans hm (fun _ _ h => h)
            have HD1 : Hid (EvAt w1 e0 0 x) := HD.out.mod hm
            have d0 := keepc ch0 HW.out
            have d1 := keepc ch1 HW.out
            clear hm HV HD c0 c1 c2 c3 ch0 ch1 h0l
            have HM1 : Hid (Mod w w1 NoB) := HI.out.mod.trans HW.out (fun _ _ h => h)
            by_cases g3 : right ⟨x.e.u, x.e.v⟩ n
            · have G3 := Lib.hid g3
              rw [show decide (right ⟨x.e.u, x.e.v⟩ n) = true by simp [g3]]
              clear g3
              have hE1 := HE.out.mod HM1.out
              obtain ⟨dc0, dc1, dc2, dc3⟩ := HD1.out
              simp only [Nat.zero_add] at dc1 dc2 dc3
              go_upto_region 12 with (fail)
              by_cases hk0 : k = 0
              focus
                have hkz : decide (0 < k) = false := decide_eq_false (by omega)
                have hkd : ¬ 0 < k := by omega
                have hany : Hid (¬ (prevOf l k).any (fun y => decide (¬ before y x)) = true) := by
                  show ¬ _
                  unfold prevOf; rw [if_pos hk0]; simp
                clear hk0 hE1
                go_quiet (fail)
                generalize hzz : World.drewN w1 _ = z
                have H6 : Hid (Mod w1 z NoB) := by rw [← hzz]; exact (Mod.refl _ _).drewN _
                clear hzz hkz hkd
                go_upto_region 14 with (fail)
              rotate_left
              focus
                obtain ⟨j, hj⟩ : ∃ j, k = j + 1 := ⟨k - 1, by omega⟩
                obtain ⟨b', off', y, hab, hbw', hy, hCy⟩ := hE1.at (show j < l.length by omega)
                cases hab
                obtain ⟨y0, y1, y2, y3⟩ := hCy
                have hjl : (j : Int) < l.length := by omega
                have hkp : (0 : Int) < (k : Int) := by omega
                have hkn : 0 < k := by omega
                have hkd : decide (0 < (k : Int)) = true := by simpa using hkn
                have hwr : IntKind.i64.wrap ((k : Int) - 1) = (j : Int) := by
                  rw [hj, IntWalk.i64_in _ (by omega)]; omega
                have HPR : Hid (prevOf l k = some y) := by show _ = _; unfold prevOf; rw [if_neg hk0, hj]; exact hy
                have f0 := cg y0
                have f1 := cg y1
                have f2 := cg y2
                have f3 := cg y3
                have q0 := cg dc0
                have q1 := cg dc1
                have q2 := cg dc2
                have q3 := cg dc3
                have qd1 := cg d1
                clear hk0 hj hy hbw' hE1
                by_cases g4 : before y x
                focus
                  have HB : Hid (∀ z, Calls Tryz.prog 51 #[.agg #[.int .i64 y.t, .int .u32 y.e.u, .int .u32 y.e.v, .bool y.add], .agg #[.int .i64 x.t, .int .u32 x.e.u, .int .u32 x.e.v, .bool x.add]] z
                      fun e w' => e = .returned (.bool true) ∧ Grw z w') := fun z => by
                    have := rbefore_grw z y.t y.e.u y.e.v x.t x.e.u x.e.v y.add x.add
                    rwa [show decide (before ⟨y.t, ⟨y.e.u, y.e.v⟩, y.add⟩ ⟨x.t, ⟨x.e.u, x.e.v⟩, x.add⟩) = true by simpa using g4] at this
                  have hany : Hid (¬ (prevOf l k).any (fun y => decide (¬ before y x)) = true) := by
                    show ¬ _
                    rw [HPR.out]; simp [g4]
                  clear g4
                  go_quiet_grown ((go_at_call 51; exact Calls.byGrw (HB.out _)))
                  generalize hzz : Go.Sort.grow (World.drewN w1 _) _ = z
                  have H6 : Hid (Mod w1 z NoB) := by rw [← hzz]; exact (Grw.grown w1 _ _).mod
                  clear hzz f0 f1 f2 f3 q0 q1 q2 q3 qd1 hkp hkn hkd hwr hjl y0 y1 y2 y3 HB
                  go_upto_region 14 with (fail)
                rotate_left
                focus
                  have HB : Hid (∀ z, Calls Tryz.prog 51 #[.agg #[.int .i64 y.t, .int .u32 y.e.u, .int .u32 y.e.v, .bool y.add], .agg #[.int .i64 x.t, .int .u32 x.e.u, .int .u32 x.e.v, .bool x.add]] z
                      fun e w' => e = .returned (.bool false) ∧ Grw z w') := fun z => by
                    have := rbefore_grw z y.t y.e.u y.e.v x.t x.e.u x.e.v y.add x.add
                    rwa [show decide (before ⟨y.t, ⟨y.e.u, y.e.v⟩, y.add⟩ ⟨x.t, ⟨x.e.u, x.e.v⟩, x.add⟩) = false by simpa using g4] at this
                  have hany : (prevOf l k).any (fun y => decide (¬ before y x)) = true := by
                    rw [HPR.out]; simp [g4]
                  have hR : R = (k, 23) := by rw [ST2.out (by rw [evErr_23 G.out G3.out hany]; omega), evErr_23 G.out G3.out hany]
                  subst hR
                  clear g4 hany
                  go_quiet_grown ((go_at_call 51; exact Calls.byGrw (HB.out _)))
                  have H6 := Lib.hid (Grw.grown w1 nq osq).mod
                  go_wp2_with fail
                  go_ret2
                  exact ⟨rfl, HM1.out.trans H6.out (fun _ _ h => h)⟩
              all_goals
                have k0 := keepc dc0 H6.out
                have k1 := keepc dc1 H6.out
                have k2 := keepc dc2 H6.out
                have k3 := keepc dc3 H6.out
                have HMz : Hid (Mod w z NoB) := HM1.out.trans H6.out (fun _ _ h => h)
                have HWz : Hid (Mod wr z NoB) := HW.out.trans H6.out (fun _ _ h => h)
                have HE5 := Lib.hid (evErr_25 (f := there) G.out G3.out hany.out)
                clear dc0 dc1 dc2 dc3 d0 d1 H6
                go_wp2_with fail
                have hNk := HI.out.len
                refine (turn_any _ na nc N x (HI.out.eds.mod HWz.out) HI.out.plain (by omega) HI.out.cap HI.out.now.sorted).mono ?_
                rintro r w7 ⟨h7, h8⟩
                clear k0 k1 k2 k3
                by_cases g5 : there x.e = x.add
                · have hR : R = (k, 25) := by rw [ST2.out (by rw [HE5.out, if_pos g5]; omega), HE5.out, if_pos g5]
                  obtain ⟨rfl, hm7⟩ := h7 (HI.out.now.none g5)
                  have HF : Hid (Mod w w7 NoB) := HMz.out.trans hm7 (fun _ _ h => h)
                  subst hR
                  clear g5 h8 h7 hm7
                  go_wp2_with fail
                  go_ret2
                  exact ⟨rfl, HF.out⟩
                · obtain ⟨N2, ht2, hn2⟩ := HI.out.now.some (e := x) g5
                  obtain ⟨na', nc', rfl, q1, q2, q3, hm7⟩ := h8 N2 ht2
                  have hN2 := turnL_len ht2
                  have hm8 := HWz.out.trans hm7 (fun _ _ h => h)
                  have HF : Hid (RInv w w7 h0 n (some ⟨b, off, none⟩) l.length cap l R (k + 1) na' nc' N2 (turn there x)) :=
                    ⟨HI.out.mod.trans hm8 (fun _ _ h => h), keepc HI.out.c0 hm8, keepc HI.out.c1 hm8, q1, q2.1, q3, by omega, hn2, ST1.out (by rw [HE5.out, if_neg g5])⟩
                  clear g5 h8 h7 hm7 hm8 q1 q2 q3 ht2 hn2 hN2 hNk
                  go_wp2_with fail
                  go_roundw
                  case rel => exact ⟨k + 1, na', nc', N2, turn there x, by omega, rfl, by go_num, HF.out⟩
                  case measure => simp [intOf]; omega
            · have hR : R = (k, 24) := by rw [ST2.out (by rw [evErr_24 G.out g3]; omega), evErr_24 G.out g3]
              rw [show decide (right ⟨x.e.u, x.e.v⟩ n) = false by simp [g3]]
              subst hR
              clear g3
              go_wp2_with fail
              go_ret2
              exact ⟨rfl, HM1.out⟩
      · have hkl : k = l.length := by omega
        have hR : R = (0, 0) := by rw [← HI.out.chk, hkl, List.drop_length]; rfl
        subst hR
        clear hkl
        go_wp2_with fail
        go_ret2
        exact ⟨rfl, HI.out.mod⟩
end Go.Proofs.YtppambkffgmkgaaGreatDoor
end

section
/- The reference: Upto and After. -/
namespace Go.Proofs.YtppambkffgmkgaaGreatDoor
open Go.RowKit
set_option linter.unusedVariables false

/-- A history in a block of its own, and its events. -/
structure HAt (w wr : World) (h0 : Nat) (n : Int) (a : Option Addr) (len cap : Nat) (l : List Ev) : Prop where
  mod : Mod w wr NoB
  c0 : wr.cell? ⟨h0, 0, none⟩ = some (.int .u64 n)
  c1 : wr.cell? ⟨h0, 1, none⟩ = some (.slice a len cap)
  evs : Evs wr a l
theorem HAt.next {w wr w' : World} {h0 len cap : Nat} {n : Int} {a : Option Addr} {l : List Ev} (h : HAt w wr h0 n a len cap l) (hm : Mod wr w' NoB) : HAt w w' h0 n a len cap l :=
  ⟨h.mod.trans hm (fun _ _ c => c), keepc h.c0 hm, keepc h.c1 hm, h.evs.mod hm⟩
theorem HAt.start {w : World} {n : Int} {a : Option Addr} {len cap : Nat} {l : List Ev} (h : Evs w a l) : HAt w (w.alloc (.cells #[.int .u64 n, .slice a len cap] 25)) w.heap.size n a len cap l :=
  ⟨(Mod.refl _ _).alloc _, World.cell?_alloc_at _ _ _ _ rfl, World.cell?_alloc_at _ _ _ _ rfl, h.mod ((Mod.refl _ _).alloc _)⟩

/-- What After keeps. -/
structure NSt (w0 wr : World) (h0 : Nat) (n : Int) (a : Option Addr) (len cap : Nat) (l : List Ev) (i : Nat) (na : Option Addr) (nc : Nat) (N : List Ed) : Prop where
  h : HAt w0 wr h0 n a len cap l
  eds : Eds wr na N
  plain : Plain na
  cap : N.length ≤ nc
  len : N.length ≤ i
  now : NowOk N (thereOf (l.take i))

theorem allOk_at {n : Int} : ∀ {l : List Ev} {prev : Option Ev} {there : Ed → Bool} (i : Nat) (x : Ev), AllOk n prev there l → l[i]? = some x → (l.take i).foldl turn there x.e ≠ x.add
  | [], _, _, i, x, _, h => by simp at h
  | y :: l, prev, there, 0, x, h, hx => by
    cases hx
    obtain ⟨h1, _⟩ := h
    obtain ⟨_, _, _, hne⟩ := evErr_ok h1
    simpa using hne
  | y :: l, prev, there, i + 1, x, h, hx => by
    have := allOk_at i x h.2 (by simpa using hx)
    simpa using this

end Go.Proofs.YtppambkffgmkgaaGreatDoor
end
