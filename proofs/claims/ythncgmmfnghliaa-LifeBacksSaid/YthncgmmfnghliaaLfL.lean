/- The contract of life.Check. -/
import Derived.Test.YthncgmmfnghliaaLfK
import Derived.Deep.Cut
import Derived.Deep.CutBlock
import Derived.Shelf.SlSortCmp.QuietGrown
namespace Go.Proofs.Ythncgmmfnghliaa
open Go.RowKit
set_option linter.unusedVariables false

theorem mixed : Try.prog.follows .mixedOrders = true := by kernel_rfl
theorem cg {w : World} {a : Addr} {v : Value} (h : w.cell? a = some v) : ∀ (n : Nat) (os : Array Obj), (Go.Sort.grow (w.drewN n) os).cell? a = some v := cell_grown (World.block_lt_of_cell? _ _ h) h
theorem Grw.grown (w : World) (n : Nat) (os : Array Obj) : Grw w (Go.Sort.grow (w.drewN n) os) := ⟨n, os, rfl⟩
theorem Calls.byGrw {f : FuncId} {args : Array Value} {w : World} {n : Nat} {os : Array Obj} {v : Value}
    (h : Calls Try.prog f args (Go.Sort.grow (w.drewN n) os) fun e w' => e = .returned v ∧ Grw (Go.Sort.grow (w.drewN n) os) w') :
    Calls Try.prog f args (Go.Sort.grow (w.drewN n) os) fun e w'' => e = .returned v ∧ ∃ p : GrownBy, w'' = Go.Sort.grow (w.drewN p.n) p.os :=
  Go.Calls.grown_of (h.mono fun _ _ k => ⟨k.1, k.2⟩)

def prevL (l : List Lf) (k : Nat) : Option Lf := if k = 0 then none else l[k - 1]?
theorem lchk_step {n : Int} {l : List Lf} {k : Nat} {x : Lf} {R : Nat × Nat} (hx : l[k]? = some x) (h : lchkFrom n k (prevL l k) (l.drop k) = R) :
    (lfErr n (prevL l k) x = 0 → lchkFrom n (k + 1) (prevL l (k + 1)) (l.drop (k + 1)) = R) ∧ (lfErr n (prevL l k) x ≠ 0 → R = (k, lfErr n (prevL l k) x)) := by
  obtain ⟨h1, h2⟩ := List.getElem?_eq_some_iff.1 hx
  rw [List.drop_eq_getElem_cons h1, h2] at h
  simp only [lchkFrom] at h
  have hp : prevL l (k + 1) = some x := by unfold prevL; rw [if_neg (by omega)]; exact hx
  constructor
  · intro h0
    rw [if_pos h0] at h
    rw [hp]; exact h
  · intro h0
    rw [if_neg h0] at h
    exact h.symm
theorem lfErr_26 {n : Int} {p : Option Lf} {x : Lf} (h : x.fr < 0 ∨ 4611686018427387903 < x.fr ∨ 4611686018427387903 < x.to) : lfErr n p x = 26 := by
  unfold lfErr maxT; rw [if_pos h]
theorem lfErr_24 {n : Int} {p : Option Lf} {x : Lf} (h : ¬ (x.fr < 0 ∨ 4611686018427387903 < x.fr ∨ 4611686018427387903 < x.to)) (h2 : ¬ right x.e n) : lfErr n p x = 24 := by
  unfold lfErr maxT; rw [if_neg h, if_pos h2]
theorem lfErr_23 {n : Int} {p : Option Lf} {x : Lf} (h : ¬ (x.fr < 0 ∨ 4611686018427387903 < x.fr ∨ 4611686018427387903 < x.to)) (h2 : right x.e n) (h3 : (0 ≤ x.to ∧ x.to ≤ x.fr) ∨ p.any (fun y => decide (¬ follows y x)) = true) : lfErr n p x = 23 := by
  unfold lfErr maxT; rw [if_neg h, if_neg (fun c => c h2), if_pos h3]
theorem lfErr_0 {n : Int} {p : Option Lf} {x : Lf} (h : ¬ (x.fr < 0 ∨ 4611686018427387903 < x.fr ∨ 4611686018427387903 < x.to)) (h2 : right x.e n) (h3 : ¬ ((0 ≤ x.to ∧ x.to ≤ x.fr) ∨ p.any (fun y => decide (¬ follows y x)) = true)) : lfErr n p x = 0 := by
  unfold lfErr maxT; rw [if_neg h, if_neg (fun c => c h2), if_neg h3]
theorem evCount_le (l : List Lf) : evCount l ≤ 2 * l.length := by
  unfold evCount
  have := List.length_filter_le (fun x : Lf => decide (0 ≤ x.to)) l
  omega
theorem lchk_lim {n : Int} {l : List Lf} (h1 : ¬ 4294967296 < n) (h2 : l.length ≤ 1000000) : lchk n l = lchkFrom n 0 none l := by
  have := evCount_le l
  unfold lchk
  rw [if_neg]
  unfold maxN
  omega

/-- What the check keeps. -/
def LInv (w0 wr : World) (n : Int) (l : List Lf) (R : Nat × Nat) (k : Nat) : Prop := Mod w0 wr NoB ∧ lchkFrom n k (prevL l k) (l.drop k) = R

set_option maxHeartbeats 4000000 in
theorem lcheck_any (w : World) (n : Int) (a : Option Addr) (cap : Nat) (l : List Lf) (hL : Lvs w a l) (hl : l.length ≤ 1000000) (hb : ∀ x ∈ l, EdB x.e) :
    Calls Try.prog 15 #[.int .u64 n, .slice a l.length cap] w fun e w' => e = .returned (.tuple #[.int .i64 (lchk n l).1, .int .i64 (lchk n l).2]) ∧ Mod w w' NoB := by
  have HL := Lib.hid hL
  have HBD := Lib.hid hb
  clear hL hb
  by_cases hn : 4294967296 < n
  · rw [show lchk n l = (0, 26) by unfold lchk; rw [if_pos]; exact Or.inl hn]
    go_enter Try.func15, Try.ntmps15
    go_wp2_with fail
    go_ret2
    exact ⟨rfl, Mod.refl _ _⟩
  · rw [lchk_lim hn hl]
    obtain ⟨R, hR⟩ : ∃ R, lchkFrom n 0 none l = R := ⟨_, rfl⟩
    rw [hR]
    have HR := Lib.hid hR
    clear hR
    have hec : ¬ (2147483648 : Int) < (evCount l : Nat) := by have := evCount_le l; omega
    go_enter Try.func15, Try.ntmps15
    go_wp2_with fail
    refine (events_any _ _ _ l HL.out hl).mono ?_
    rintro e w1 ⟨rfl, hm⟩
    have HI0 : Hid (LInv w w1 n l R 0) := ⟨hm, HR.out⟩
    clear hm
    go_wp2_with fail
    go_loopw [17] (fun i wr => ∃ k : Nat, k ≤ l.length ∧ i = .int .i64 k ∧ Hid (LInv w wr n l R k)) (fun i _ => l.length - (intOf i).toNat)
    case atStart => exact ⟨0, Nat.zero_le _, rfl, HI0.out⟩
    case round =>
      obtain ⟨k, hk, rfl, HI⟩ := hrel
      by_cases hlt : k < l.length
      · obtain ⟨b, off, x, rfl, hbw, hx, hC⟩ := (HL.out.mod HI.out.1).at hlt
        have hki : (k : Int) < l.length := by omega
        have hxB : EdB x.e := HBD.out x (List.mem_of_getElem? hx)
        obtain ⟨hM, hchk⟩ := HI.out
        obtain ⟨st1, st2⟩ := lchk_step hx hchk
        have ST1 := Lib.hid st1
        have ST2 := Lib.hid st2
        have HX := Lib.hid (And.intro hx hxB)
        have HM := Lib.hid hM
        obtain ⟨c0, c1, c2, c3⟩ := hC
        clear st1 st2 hx hxB hchk hM hec
        by_cases g1 : x.fr < 0
        · have hR : R = (k, 26) := by rw [ST2.out (by rw [lfErr_26 (Or.inl g1)]; omega), lfErr_26 (Or.inl g1)]
          subst hR
          go_wp2_with fail
          go_ret2
          exact ⟨rfl, HM.out.alloc _⟩
        · by_cases g2 : 4611686018427387903 < x.fr
          · have hR : R = (k, 26) := by rw [ST2.out (by rw [lfErr_26 (Or.inr (Or.inl g2))]; omega), lfErr_26 (Or.inr (Or.inl g2))]
            subst hR
            go_wp2_with fail
            go_ret2
            exact ⟨rfl, HM.out.alloc _⟩
          · by_cases g2b : 4611686018427387903 < x.to
            · have hR : R = (k, 26) := by rw [ST2.out (by rw [lfErr_26 (Or.inr (Or.inr g2b))]; omega), lfErr_26 (Or.inr (Or.inr g2b))]
              subst hR
              go_wp2_with fail
              go_ret2
              exact ⟨rfl, HM.out.alloc _⟩
            · have G := Lib.hid (show ¬ (x.fr < 0 ∨ 4611686018427387903 < x.fr ∨ 4611686018427387903 < x.to) by omega)
              go_wp2_with fail
              obtain ⟨e0, he0⟩ : ∃ e0, e0 = wr.heap.size := ⟨_, rfl⟩
              obtain ⟨V, hV⟩ : ∃ V, V = wr.alloc (.cells #[.int .u32 x.e.u, .int .u32 x.e.v, .int .i64 x.fr, .int .i64 x.to] 56) := ⟨_, rfl⟩
              have HV : Hid (Mod wr V NoB) := by rw [hV]; exact (Mod.refl _ _).alloc _
              have HD : Hid (LfAt V e0 0 x) := by
                rw [hV, he0]
                exact ⟨World.cell?_alloc_at _ _ _ _ rfl, World.cell?_alloc_at _ _ _ _ rfl, World.cell?_alloc_at _ _ _ _ rfl, World.cell?_alloc_at _ _ _ _ rfl⟩
              rw [← hV, ← he0]
              clear hV he0 g1 g2 g2b
              refine (right_any _ _ _ _ HX.out.2.2).mono ?_
              rintro e w2 ⟨rfl, hm⟩
              have HW : Hid (Mod wr w2 NoB) := HV.out.trans hm (fun _ _ h => h)
              have HD1 : Hid (LfAt w2 e0 0 x) := HD.out.mod hm
              clear hm HV HD c0 c1 c2 c3
              by_cases g3 : right ⟨x.e.u, x.e.v⟩ n
              · have G3 := Lib.hid g3
                rw [show decide (right ⟨x.e.u, x.e.v⟩ n) = true by simp [g3]]
                clear g3
                have hM1 : Mod w w2 NoB := HM.out.trans HW.out (fun _ _ h => h)
                have hE1 := HL.out.mod hM1
                have HM1 := Lib.hid hM1
                clear hM1
                obtain ⟨dc0, dc1, dc2, dc3⟩ := HD1.out
                simp only [Nat.zero_add] at dc1 dc2 dc3
                go_upto_region 10 with (fail)
                by_cases hA : 0 ≤ x.to ∧ x.to ≤ x.fr
                · have hR : R = (k, 23) := by rw [ST2.out (by rw [lfErr_23 G.out G3.out (Or.inl hA)]; omega), lfErr_23 G.out G3.out (Or.inl hA)]
                  subst hR
                  obtain ⟨ga, gb⟩ := hA
                  clear hE1
                  go_quiet (fail)
                  go_wp2_with fail
                  go_ret2
                  exact ⟨rfl, HM1.out.drewN _⟩
                · have hBC : (decide (0 ≤ x.to) = true ∧ 0 ≤ x.to ∧ decide (x.to ≤ x.fr) = false ∧ x.fr < x.to) ∨ (decide (0 ≤ x.to) = false ∧ x.to < 0) := by
                    by_cases c : 0 ≤ x.to
                    · have c2 : ¬ x.to ≤ x.fr := fun h => hA ⟨c, h⟩
                      exact Or.inl ⟨by simpa using c, c, by simpa using Int.not_le.1 c2, Int.not_le.1 c2⟩
                    · exact Or.inr ⟨by simpa using Int.not_le.1 c, Int.not_le.1 c⟩
                  have HA := Lib.hid hA
                  clear hA
                  by_cases hk0 : k = 0
                  · have hkz : decide (0 < k) = false := decide_eq_false (by omega)
                    have hkd : ¬ 0 < k := by omega
                    have hnx : Hid (lchkFrom n (k + 1) (prevL l (k + 1)) (l.drop (k + 1)) = R) := ST1.out (lfErr_0 G.out G3.out (by
                      rintro (c | c)
                      · exact HA.out c
                      · unfold prevL at c; rw [if_pos hk0] at c; simp at c))
                    clear hk0 hE1
                    rcases hBC with ⟨gd1, gd2, gd3, gd4⟩ | ⟨gd1, gd2⟩
                    all_goals
                      go_quiet (fail)
                      go_wp2_with fail
                      go_roundw
                      case rel => exact ⟨k + 1, by omega, by go_num, HM1.out.drewN _, hnx.out⟩
                      case measure => simp [intOf]; omega
                  · obtain ⟨j, hj⟩ : ∃ j, k = j + 1 := ⟨k - 1, by omega⟩
                    obtain ⟨b', off', y, hab, hbw', hy, hCy⟩ := hE1.at (show j < l.length by omega)
                    cases hab
                    obtain ⟨y0, y1, y2, y3⟩ := hCy
                    have hjl : (j : Int) < l.length := by omega
                    have hkp : (0 : Int) < (k : Int) := by omega
                    have hkn : 0 < k := by omega
                    have hkd : decide (0 < (k : Int)) = true := by simpa using hkn
                    have hwr : IntKind.i64.wrap ((k : Int) - 1) = (j : Int) := by
                      rw [hj, IntWalk.i64_in _ (by omega)]; omega
                    have HPR : Hid (prevL l k = some y) := by show _ = _; unfold prevL; rw [if_neg hk0, hj]; exact hy
                    clear hk0 hj hy hbw' hE1
                    by_cases g4 : follows y x
                    · have HB : Hid (∀ z, Calls Try.prog 39 #[.agg #[.int .u32 y.e.u, .int .u32 y.e.v, .int .i64 y.fr, .int .i64 y.to], .agg #[.int .u32 x.e.u, .int .u32 x.e.v, .int .i64 x.fr, .int .i64 x.to]] z
                          fun e w' => e = .returned (.bool true) ∧ Grw z w') := fun z => by
                        have := follows_grw z y.e.u y.e.v y.fr y.to x.e.u x.e.v x.fr x.to
                        rwa [show decide (follows ⟨⟨y.e.u, y.e.v⟩, y.fr, y.to⟩ ⟨⟨x.e.u, x.e.v⟩, x.fr, x.to⟩) = true by simpa using g4] at this
                      have hnx : Hid (lchkFrom n (k + 1) (prevL l (k + 1)) (l.drop (k + 1)) = R) := ST1.out (lfErr_0 G.out G3.out (by
                        rintro (c | c)
                        · exact HA.out c
                        · rw [HPR.out] at c; simp [g4] at c))
                      clear g4
                      rcases hBC with ⟨gd1, gd2, gd3, gd4⟩ | ⟨gd1, gd2⟩
                      all_goals
                        have hmx := mixed
                        have gy0 := cg y0
                        have gy1 := cg y1
                        have gy2 := cg y2
                        have gy3 := cg y3
                        have gd0 := cg dc0
                        have gx1 := cg dc1
                        have gx2 := cg dc2
                        have gx3 := cg dc3
                        go_quiet_grown ((go_at_call 39; exact Calls.byGrw (HB.out _)))
                        have H6 := Lib.hid (Grw.grown w2 nq osq).mod
                        go_wp2_with fail
                        go_roundw
                        case rel => exact ⟨k + 1, by omega, by go_num, HM1.out.trans H6.out (fun _ _ h => h), hnx.out⟩
                        case measure => simp [intOf]; omega
                    · have HB : Hid (∀ z, Calls Try.prog 39 #[.agg #[.int .u32 y.e.u, .int .u32 y.e.v, .int .i64 y.fr, .int .i64 y.to], .agg #[.int .u32 x.e.u, .int .u32 x.e.v, .int .i64 x.fr, .int .i64 x.to]] z
                          fun e w' => e = .returned (.bool false) ∧ Grw z w') := fun z => by
                        have := follows_grw z y.e.u y.e.v y.fr y.to x.e.u x.e.v x.fr x.to
                        rwa [show decide (follows ⟨⟨y.e.u, y.e.v⟩, y.fr, y.to⟩ ⟨⟨x.e.u, x.e.v⟩, x.fr, x.to⟩) = false by simpa using g4] at this
                      have hany : (prevL l k).any (fun y => decide (¬ follows y x)) = true := by
                        rw [HPR.out]; simp [g4]
                      have hR : R = (k, 23) := by rw [ST2.out (by rw [lfErr_23 G.out G3.out (Or.inr hany)]; omega), lfErr_23 G.out G3.out (Or.inr hany)]
                      subst hR
                      clear g4 hany
                      rcases hBC with ⟨gd1, gd2, gd3, gd4⟩ | ⟨gd1, gd2⟩
                      all_goals
                        have hmx := mixed
                        have gy0 := cg y0
                        have gy1 := cg y1
                        have gy2 := cg y2
                        have gy3 := cg y3
                        have gd0 := cg dc0
                        have gx1 := cg dc1
                        have gx2 := cg dc2
                        have gx3 := cg dc3
                        go_quiet_grown ((go_at_call 39; exact Calls.byGrw (HB.out _)))
                        have H6 := Lib.hid (Grw.grown w2 nq osq).mod
                        go_wp2_with fail
                        go_ret2
                        exact ⟨rfl, HM1.out.trans H6.out (fun _ _ h => h)⟩
              · have hR : R = (k, 24) := by rw [ST2.out (by rw [lfErr_24 G.out g3]; omega), lfErr_24 G.out g3]
                rw [show decide (right ⟨x.e.u, x.e.v⟩ n) = false by simp [g3]]
                subst hR
                clear g3
                go_wp2_with fail
                go_ret2
                exact ⟨rfl, HM.out.trans HW.out (fun _ _ h => h)⟩
      · have hkl : k = l.length := by omega
        obtain ⟨hM, hchk⟩ := HI.out
        have hR : R = (0, 0) := by rw [← hchk, hkl, List.drop_length]; rfl
        subst hR
        have HM := Lib.hid hM
        clear hM hchk hkl
        go_wp2_with fail
        go_ret2
        exact ⟨rfl, HM.out⟩
end Go.Proofs.Ythncgmmfnghliaa
