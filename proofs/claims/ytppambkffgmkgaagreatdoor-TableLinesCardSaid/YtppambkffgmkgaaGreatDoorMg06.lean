/- Merged: LfG2 LfL LfAp -/
import Derived.Test.YtppambkffgmkgaaGreatDoorMg05
import Derived.Deep.Cut
import Derived.Deep.CutBlock
import Derived.Shelf.SlSortCmp.QuietGrown
import Derived.Test.YtppambkffgmkgaaGreatDoorMg01
import Derived.Maps.AppendAt
import Derived.Deep.AppendLies
section
/- The closure by which Of sorts lives. -/
namespace Go.Proofs.YtppambkffgmkgaaGreatDoor
open Go.RowKit
set_option linter.unusedVariables false

/-- How two lives stand. -/
def lfI (a b : Lf) : Int := orI (byI (edLt a.e b.e) (edLt b.e a.e)) (cmpI a.fr b.fr)
theorem lfI_lt (a b : Lf) : lfI a b < 0 ↔ lfLt a b := by
  unfold lfI lfLt byI orI cmpI
  by_cases h1 : edLt a.e b.e
  · simp [h1]
  · by_cases h2 : edLt b.e a.e
    · have h3 : a.e ≠ b.e := fun h => by rw [h] at h2; exact edLt_irrefl _ h2
      simp [h1, h2, h3]
    · have h3 : a.e = b.e := by
        rcases edLt_total a.e b.e with c | c | c
        · exact absurd c h1
        · exact c
        · exact absurd c h2
      rw [if_neg h1, if_neg h2, if_pos rfl]
      by_cases h4 : a.fr < b.fr
      · simp [h3, h4]
      · by_cases h5 : b.fr < a.fr
        · simp [h4, h5, h3, edLt_irrefl]
        · simp [h4, h5, h3, edLt_irrefl]

set_option maxRecDepth 100000 in
set_option maxHeartbeats 4000000 in
theorem of1_grw (w : World) (p1 p2 : Nat) (u v f1 t1 x y f2 t2 : Int) (h1 : w.cell? ⟨p1, 0, none⟩ = some (.func (.func 58) #[] #[]))
    (h2 : w.cell? ⟨p2, 0, none⟩ = some (.func (.func 80) #[] #[.pointer (some ⟨p1, 0, none⟩)])) :
    Calls Tryz.prog 60 #[.agg #[.int .u32 u, .int .u32 v, .int .i64 f1, .int .i64 t1], .agg #[.int .u32 x, .int .u32 y, .int .i64 f2, .int .i64 t2], .pointer (some ⟨p2, 0, none⟩)] w
      fun e w' => e = .returned (.int .i64 (lfI ⟨⟨u, v⟩, f1, t1⟩ ⟨⟨x, y⟩, f2, t2⟩)) ∧ Grw w w' := by
  unfold lfI
  simp only
  obtain ⟨rb, hrb⟩ : ∃ rb, byI (edLt ⟨u, v⟩ ⟨x, y⟩) (edLt ⟨x, y⟩ ⟨u, v⟩) = rb := ⟨_, rfl⟩
  obtain ⟨rc, hrc⟩ : ∃ rc, cmpI f1 f2 = rc := ⟨_, rfl⟩
  rw [hrb, hrc]
  have HB : Hid (∀ z p, z.cell? ⟨p, 0, none⟩ = some (.func (.func 58) #[] #[]) → Calls Tryz.prog 80 #[.agg #[.int .u32 u, .int .u32 v], .agg #[.int .u32 x, .int .u32 y], .pointer (some ⟨p, 0, none⟩)] z
      fun e w' => e = .returned (.int .i64 rb) ∧ Grw z w') := fun z p hz => by rw [← hrb]; exact byE_grw z p u v x y hz
  have HC : Hid (∀ z, Calls Tryz.prog 62 #[.int .i64 f1, .int .i64 f2] z fun e w' => e = .returned (.int .i64 rc) ∧ z = w') := fun z => by rw [← hrc]; exact cmp64_any z f1 f2
  clear hrb hrc
  go_enter Tryz.func60, Tryz.ntmps60
  go_wp2_with fail
  obtain ⟨q, hq⟩ : ∃ q, q = w.heap.size := ⟨_, rfl⟩
  obtain ⟨W, hW⟩ : ∃ W, W = (w.alloc (.cells #[.int .u32 u, .int .u32 v, .int .i64 f1, .int .i64 t1] 81)).alloc (.cells #[.int .u32 x, .int .u32 y, .int .i64 f2, .int .i64 t2] 81) := ⟨_, rfl⟩
  have HM : Hid (Grw w W) := by rw [hW]; exact ((Grw.refl _).alloc _).alloc _
  have hs1 : (w.alloc (.cells #[.int .u32 u, .int .u32 v, .int .i64 f1, .int .i64 t1] 81)).heap.size = w.heap.size + 1 := by simp
  have lt1 : w.heap.size < (w.alloc (.cells #[.int .u32 u, .int .u32 v, .int .i64 f1, .int .i64 t1] 81)).heap.size := by rw [hs1]; omega
  have hD : ((W.cell? ⟨q, 0, none⟩ = some (.int .u32 u) ∧ W.cell? ⟨q, 1, none⟩ = some (.int .u32 v) ∧ W.cell? ⟨q, 2, none⟩ = some (.int .i64 f1)) ∧
      W.cell? ⟨q + 1, 0, none⟩ = some (.int .u32 x) ∧ W.cell? ⟨q + 1, 1, none⟩ = some (.int .u32 y) ∧ W.cell? ⟨q + 1, 2, none⟩ = some (.int .i64 f2)) := by
    rw [hW, hq]
    exact ⟨⟨(World.cell?_alloc_lt _ _ _ lt1).trans (World.cell?_alloc_at _ _ _ _ rfl), (World.cell?_alloc_lt _ _ _ lt1).trans (World.cell?_alloc_at _ _ _ _ rfl), (World.cell?_alloc_lt _ _ _ lt1).trans (World.cell?_alloc_at _ _ _ _ rfl)⟩,
      World.cell?_alloc_at _ _ _ _ hs1.symm, World.cell?_alloc_at _ _ _ _ hs1.symm, World.cell?_alloc_at _ _ _ _ hs1.symm⟩
  have e1 := keepc h1 HM.out.mod
  have e2 := keepc h2 HM.out.mod
  rw [← hW, ← hq]
  clear hW hs1 hq lt1 h1 h2
  obtain ⟨⟨c0, c1, c2⟩, d0, d1, d2⟩ := hD
  have H0 : Hid ((W.drew.cell? ⟨p1, 0, none⟩ = some (.func (.func 58) #[] #[]) ∧ W.drew.cell? ⟨p2, 0, none⟩ = some (.func (.func 80) #[] #[.pointer (some ⟨p1, 0, none⟩)])) ∧
      (W.drew.cell? ⟨q, 0, none⟩ = some (.int .u32 u) ∧ W.drew.cell? ⟨q, 1, none⟩ = some (.int .u32 v) ∧ W.drew.cell? ⟨q, 2, none⟩ = some (.int .i64 f1)) ∧
      W.drew.cell? ⟨q + 1, 0, none⟩ = some (.int .u32 x) ∧ W.drew.cell? ⟨q + 1, 1, none⟩ = some (.int .u32 y) ∧ W.drew.cell? ⟨q + 1, 2, none⟩ = some (.int .i64 f2)) := ⟨⟨e1, e2⟩, ⟨c0, c1, c2⟩, d0, d1, d2⟩
  have H5 : Hid (∀ z, Mod W.drew z NoB → (z.cell? ⟨p1, 0, none⟩ = some (.func (.func 58) #[] #[]) ∧ z.cell? ⟨p2, 0, none⟩ = some (.func (.func 80) #[] #[.pointer (some ⟨p1, 0, none⟩)])) ∧
      (z.cell? ⟨q, 0, none⟩ = some (.int .u32 u) ∧ z.cell? ⟨q, 1, none⟩ = some (.int .u32 v) ∧ z.cell? ⟨q, 2, none⟩ = some (.int .i64 f1)) ∧
      z.cell? ⟨q + 1, 0, none⟩ = some (.int .u32 x) ∧ z.cell? ⟨q + 1, 1, none⟩ = some (.int .u32 y) ∧ z.cell? ⟨q + 1, 2, none⟩ = some (.int .i64 f2)) := fun z hz =>
    ⟨⟨keepc H0.out.1.1 hz, keepc H0.out.1.2 hz⟩, ⟨keepc H0.out.2.1.1 hz, keepc H0.out.2.1.2.1 hz, keepc H0.out.2.1.2.2 hz⟩, keepc H0.out.2.2.1 hz, keepc H0.out.2.2.2.1 hz, keepc H0.out.2.2.2.2 hz⟩
  have HR : Hid (Mod W.drew W.drew NoB) := Mod.refl _ _
  go_region_held3 (fun z => (z.cell? ⟨p1, 0, none⟩ = some (.func (.func 58) #[] #[]) ∧ z.cell? ⟨p2, 0, none⟩ = some (.func (.func 80) #[] #[.pointer (some ⟨p1, 0, none⟩)])) ∧
      (z.cell? ⟨q, 0, none⟩ = some (.int .u32 u) ∧ z.cell? ⟨q, 1, none⟩ = some (.int .u32 v) ∧ z.cell? ⟨q, 2, none⟩ = some (.int .i64 f1)) ∧
      z.cell? ⟨q + 1, 0, none⟩ = some (.int .u32 x) ∧ z.cell? ⟨q + 1, 1, none⟩ = some (.int .u32 y) ∧ z.cell? ⟨q + 1, 2, none⟩ = some (.int .i64 f2))
    (first | exact ⟨⟨e1, e2⟩, ⟨c0, c1, c2⟩, d0, d1, d2⟩ | exact H5.out _ H6.out.mod | exact H5.out _ (H6.out.mod.alloc _))
    (first
    | (go_at_call 62; refine (HC.out _).mono ?_; rintro e w2 ⟨rfl, rfl⟩)
    | (go_at_call 61; refine (or2_any _ _ rb rc (World.cell?_alloc_at _ _ _ _ rfl) (World.cell?_alloc_at _ _ _ _ rfl)).mono ?_; rintro e w2 ⟨rfl, rfl⟩)
    | (refine (HB.out _ _ H0.out.1.1).mono ?_; rintro e w5 ⟨rfl, hm5⟩; have H6 := Lib.hid hm5; clear hm5))
  all_goals
    go_wp2_with fail
    go_ret
    exact ⟨rfl, (HM.out.drew.trans H6.out).alloc _⟩
end Go.Proofs.YtppambkffgmkgaaGreatDoor
end

section
/- The contract of life.Check. -/
namespace Go.Proofs.YtppambkffgmkgaaGreatDoor
open Go.RowKit
set_option linter.unusedVariables false

theorem mixed : Tryz.prog.follows .mixedOrders = true := by kernel_rfl
theorem cg {w : World} {a : Addr} {v : Value} (h : w.cell? a = some v) : ∀ (n : Nat) (os : Array Obj), (Go.Sort.grow (w.drewN n) os).cell? a = some v := cell_grown (World.block_lt_of_cell? _ _ h) h
theorem Grw.grown (w : World) (n : Nat) (os : Array Obj) : Grw w (Go.Sort.grow (w.drewN n) os) := ⟨n, os, rfl⟩
theorem Calls.byGrw {f : FuncId} {args : Array Value} {w : World} {n : Nat} {os : Array Obj} {v : Value}
    (h : Calls Tryz.prog f args (Go.Sort.grow (w.drewN n) os) fun e w' => e = .returned v ∧ Grw (Go.Sort.grow (w.drewN n) os) w') :
    Calls Tryz.prog f args (Go.Sort.grow (w.drewN n) os) fun e w'' => e = .returned v ∧ ∃ p : GrownBy, w'' = Go.Sort.grow (w.drewN p.n) p.os :=
  Go.Calls.grown_of (h.mono fun _ _ k => ⟨k.1, k.2⟩)

def prevL (l : List Lf) (k : Nat) : Option Lf := if k = 0 then none else l[k - 1]?
theorem lchk_step {n : Int} {l : List Lf} {k : Nat} {x : Lf} {R : Nat × Nat} (hx : l[k]? = some x) (h : lchkFrom n k (prevL l k) (l.drop k) = R) :
    (lfErr n (prevL l k) x = 0 → lchkFrom n (k + 1) (prevL l (k + 1)) (l.drop (k + 1)) = R) ∧ (lfErr n (prevL l k) x ≠ 0 → R = (k, lfErr n (prevL l k) x)) := by
  obtain ⟨h1, h2⟩ := List.getElem?_eq_some_iff.1 hx
  rw [List.drop_eq_getElem_cons h1, h2] at h
  simp only [lchkFrom] at h
  have hp : prevL l (k + 1) = some x := by unfold prevL; rw [if_neg (by omega)]; exact hx
  constructor
  · intro h0
    rw [if_pos h0] at h
    rw [hp]; exact h
  · intro h0
    rw [if_neg h0] at h
    exact h.symm
theorem lfErr_26 {n : Int} {p : Option Lf} {x : Lf} (h : x.fr < 0 ∨ 4611686018427387903 < x.fr ∨ 4611686018427387903 < x.to) : lfErr n p x = 26 := by
  unfold lfErr maxT; rw [if_pos h]
theorem lfErr_24 {n : Int} {p : Option Lf} {x : Lf} (h : ¬ (x.fr < 0 ∨ 4611686018427387903 < x.fr ∨ 4611686018427387903 < x.to)) (h2 : ¬ right x.e n) : lfErr n p x = 24 := by
  unfold lfErr maxT; rw [if_neg h, if_pos h2]
theorem lfErr_23 {n : Int} {p : Option Lf} {x : Lf} (h : ¬ (x.fr < 0 ∨ 4611686018427387903 < x.fr ∨ 4611686018427387903 < x.to)) (h2 : right x.e n) (h3 : (0 ≤ x.to ∧ x.to ≤ x.fr) ∨ p.any (fun y => decide (¬ follows y x)) = true) : lfErr n p x = 23 := by
  unfold lfErr maxT; rw [if_neg h, if_neg (fun c => c h2), if_pos h3]
theorem lfErr_0 {n : Int} {p : Option Lf} {x : Lf} (h : ¬ (x.fr < 0 ∨ 4611686018427387903 < x.fr ∨ 4611686018427387903 < x.to)) (h2 : right x.e n) (h3 : ¬ ((0 ≤ x.to ∧ x.to ≤ x.fr) ∨ p.any (fun y => decide (¬ follows y x)) = true)) : lfErr n p x = 0 := by
  unfold lfErr maxT; rw [if_neg h, if_neg (fun c => c h2), if_neg h3]
theorem evCount_le (l : List Lf) : evCount l ≤ 2 * l.length := by
  unfold evCount
  have := List.length_filter_le (fun x : Lf => decide (0 ≤ x.to)) l
  omega
theorem lchk_lim {n : Int} {l : List Lf} (h1 : ¬ 4294967296 < n) (h2 : l.length ≤ 1000000) : lchk n l = lchkFrom n 0 none l := by
  have := evCount_le l
  unfold lchk
  rw [if_neg]
  unfold maxN
  omega

/-- What the check keeps. -/
def LInv (w0 wr : World) (n : Int) (l : List Lf) (R : Nat × Nat) (k : Nat) : Prop := Mod w0 wr NoB ∧ lchkFrom n k (prevL l k) (l.drop k) = R

set_option maxRecDepth 100000 in
set_option maxHeartbeats 4000000 in
theorem lcheck_any (w : World) (n : Int) (a : Option Addr) (cap : Nat) (l : List Lf) (hL : Lvs w a l) (hl : l.length ≤ 1000000) (hb : ∀ x ∈ l, EdB x.e) :
    Calls Tryz.prog 38 #[.int .u64 n, .slice a l.length cap] w fun e w' => e = .returned (.tuple #[.int .i64 (lchk n l).1, .int .i64 (lchk n l).2]) ∧ Mod w w' NoB := by
  have HL := Lib.hid hL
  have HBD := Lib.hid hb
  clear hL hb
  by_cases hn : 4294967296 < n
  · rw [show lchk n l = (0, 26) by unfold lchk; rw [if_pos]; exact Or.inl hn]
    go_enter Tryz.func38, Tryz.ntmps38
    go_wp2_with fail
    go_ret2
    exact ⟨rfl, Mod.refl _ _⟩
  · rw [lchk_lim hn hl]
    obtain ⟨R, hR⟩ : ∃ R, lchkFrom n 0 none l = R := ⟨_, rfl⟩
    rw [hR]
    have HR := Lib.hid hR
    clear hR
    have hec : ¬ (2147483648 : Int) < (evCount l : Nat) := by have := evCount_le l; omega
    go_enter Tryz.func38, Tryz.ntmps38
    go_wp2_with fail
    refine (events_any _ _ _ l HL.out hl).mono ?_
    rintro e w1 ⟨rfl, hm⟩
    have HI0 : Hid (LInv w w1 n l R 0) := ⟨hm, HR.out⟩
    clear hm
    go_wp2_with fail
    go_loopw [17] (fun i wr => ∃ k : Nat, k ≤ l.length ∧ i = .int .i64 k ∧ Hid (LInv w wr n l R k)) (fun i _ => l.length - (intOf i).toNat)
    case atStart => exact ⟨0, Nat.zero_le _, rfl, HI0.out⟩
    case round =>
      obtain ⟨k, hk, rfl, HI⟩ := hrel
      by_cases hlt : k < l.length
      · obtain ⟨b, off, x, rfl, hbw, hx, hC⟩ := (HL.out.mod HI.out.1).at hlt
        have hki : (k : Int) < l.length := by omega
        have hxB : EdB x.e := HBD.out x (List.mem_of_getElem? hx)
        obtain ⟨hM, hchk⟩ := HI.out
        obtain ⟨st1, st2⟩ := lchk_step hx hchk
        have ST1 := Lib.hid st1
        have ST2 := Lib.hid st2
        have HX := Lib.hid (And.intro hx hxB)
        have HM := Lib.hid hM
        obtain ⟨c0, c1, c2, c3⟩ := hC
        clear st1 st2 hx hxB hchk hM hec
        by_cases g1 : x.fr < 0
        · have hR : R = (k, 26) := by rw [ST2.out (by rw [lfErr_26 (Or.inl g1)]; omega), lfErr_26 (Or.inl g1)]
          subst hR
          go_wp2_with fail
          go_ret2
          exact ⟨rfl, HM.out.alloc _⟩
        · by_cases g2 : 4611686018427387903 < x.fr
          · have hR : R = (k, 26) := by rw [ST2.out (by rw [lfErr_26 (Or.inr (Or.inl g2))]; omega), lfErr_26 (Or.inr (Or.inl g2))]
            subst hR
            go_wp2_with fail
            go_ret2
            exact ⟨rfl, HM.out.alloc _⟩
          · by_cases g2b : 4611686018427387903 < x.to
            · have hR : R = (k, 26) := by rw [ST2.out (by rw [lfErr_26 (Or.inr (Or.inr g2b))]; omega), lfErr_26 (Or.inr (Or.inr g2b))]
              subst hR
              go_wp2_with fail
              go_ret2
              exact ⟨rfl, HM.out.alloc _⟩
            · have G := Lib.hid (show ¬ (x.fr < 0 ∨ 4611686018427387903 < x.fr ∨ 4611686018427387903 < x.to) by omega)
              go_wp2_with fail
              obtain ⟨e0, he0⟩ : ∃ e0, e0 = wr.heap.size := ⟨_, rfl⟩
              obtain ⟨V, hV⟩ : ∃ V, V = wr.alloc (.cells #[.int .u32 x.e.u, .int .u32 x.e.v, .int .i64 x.fr, .int .i64 x.to] 81) := ⟨_, rfl⟩
              have HV : Hid (Mod wr V NoB) := by rw [hV]; exact (Mod.refl _ _).alloc _
              have HD : Hid (LfAt V e0 0 x) := by
                rw [hV, he0]
                exact ⟨World.cell?_alloc_at _ _ _ _ rfl, World.cell?_alloc_at _ _ _ _ rfl, World.cell?_alloc_at _ _ _ _ rfl, World.cell?_alloc_at _ _ _ _ rfl⟩
              rw [← hV, ← he0]
              clear hV he0 g1 g2 g2b
              refine (right_any _ _ _ _ HX.out.2.2).mono ?_
              rintro e w2 ⟨rfl, hm⟩
              have HW : Hid (Mod wr w2 NoB) := HV.out.trans hm (fun _ _ h => h)
              have HD1 : Hid (LfAt w2 e0 0 x) := HD.out.mod hm
              clear hm HV HD c0 c1 c2 c3
              by_cases g3 : right ⟨x.e.u, x.e.v⟩ n
              · have G3 := Lib.hid g3
                rw [show decide (right ⟨x.e.u, x.e.v⟩ n) = true by simp [g3]]
                clear g3
                have hM1 : Mod w w2 NoB := HM.out.trans HW.out (fun _ _ h => h)
                have hE1 := HL.out.mod hM1
                have HM1 := Lib.hid hM1
                clear hM1
                obtain ⟨dc0, dc1, dc2, dc3⟩ := HD1.out
                simp only [Nat.zero_add] at dc1 dc2 dc3
                go_upto_region 10 with (fail)
                by_cases hA : 0 ≤ x.to ∧ x.to ≤ x.fr
                · have hR : R = (k, 23) := by rw [ST2.out (by rw [lfErr_23 G.out G3.out (Or.inl hA)]; omega), lfErr_23 G.out G3.out (Or.inl hA)]
                  subst hR
                  obtain ⟨ga, gb⟩ := hA
                  clear hE1
                  go_quiet (fail)
                  go_wp2_with fail
                  go_ret2
                  exact ⟨rfl, HM1.out.drewN _⟩
                · have hBC : (decide (0 ≤ x.to) = true ∧ 0 ≤ x.to ∧ decide (x.to ≤ x.fr) = false ∧ x.fr < x.to) ∨ (decide (0 ≤ x.to) = false ∧ x.to < 0) := by
                    by_cases c : 0 ≤ x.to
                    · have c2 : ¬ x.to ≤ x.fr := fun h => hA ⟨c, h⟩
                      exact Or.inl ⟨by simpa using c, c, by simpa using Int.not_le.1 c2, Int.not_le.1 c2⟩
                    · exact Or.inr ⟨by simpa using Int.not_le.1 c, Int.not_le.1 c⟩
                  have HA := Lib.hid hA
                  clear hA
                  by_cases hk0 : k = 0
                  · have hkz : decide (0 < k) = false := decide_eq_false (by omega)
                    have hkd : ¬ 0 < k := by omega
                    have hnx : Hid (lchkFrom n (k + 1) (prevL l (k + 1)) (l.drop (k + 1)) = R) := ST1.out (lfErr_0 G.out G3.out (by
                      rintro (c | c)
                      · exact HA.out c
                      · unfold prevL at c; rw [if_pos hk0] at c; simp at c))
                    clear hk0 hE1
                    rcases hBC with ⟨gd1, gd2, gd3, gd4⟩ | ⟨gd1, gd2⟩
                    all_goals
                      go_quiet (fail)
                      go_wp2_with fail
                      go_roundw
                      case rel => exact ⟨k + 1, by omega, by go_num, HM1.out.drewN _, hnx.out⟩
                      case measure => simp [intOf]; omega
                  · obtain ⟨j, hj⟩ : ∃ j, k = j + 1 := ⟨k - 1, by omega⟩
                    obtain ⟨b', off', y, hab, hbw', hy, hCy⟩ := hE1.at (show j < l.length by omega)
                    cases hab
                    obtain ⟨y0, y1, y2, y3⟩ := hCy
                    have hjl : (j : Int) < l.length := by omega
                    have hkp : (0 : Int) < (k : Int) := by omega
                    have hkn : 0 < k := by omega
                    have hkd : decide (0 < (k : Int)) = true := by simpa using hkn
                    have hwr : IntKind.i64.wrap ((k : Int) - 1) = (j : Int) := by
                      rw [hj, IntWalk.i64_in _ (by omega)]; omega
                    have HPR : Hid (prevL l k = some y) := by show _ = _; unfold prevL; rw [if_neg hk0, hj]; exact hy
                    clear hk0 hj hy hbw' hE1
                    by_cases g4 : follows y x
                    · have HB : Hid (∀ z, Calls Tryz.prog 70 #[.agg #[.int .u32 y.e.u, .int .u32 y.e.v, .int .i64 y.fr, .int .i64 y.to], .agg #[.int .u32 x.e.u, .int .u32 x.e.v, .int .i64 x.fr, .int .i64 x.to]] z
                          fun e w' => e = .returned (.bool true) ∧ Grw z w') := fun z => by
                        have := follows_grw z y.e.u y.e.v y.fr y.to x.e.u x.e.v x.fr x.to
                        rwa [show decide (follows ⟨⟨y.e.u, y.e.v⟩, y.fr, y.to⟩ ⟨⟨x.e.u, x.e.v⟩, x.fr, x.to⟩) = true by simpa using g4] at this
                      have hnx : Hid (lchkFrom n (k + 1) (prevL l (k + 1)) (l.drop (k + 1)) = R) := ST1.out (lfErr_0 G.out G3.out (by
                        rintro (c | c)
                        · exact HA.out c
                        · rw [HPR.out] at c; simp [g4] at c))
                      clear g4
                      rcases hBC with ⟨gd1, gd2, gd3, gd4⟩ | ⟨gd1, gd2⟩
                      all_goals
                        have hmx := mixed
                        have gy0 := cg y0
                        have gy1 := cg y1
                        have gy2 := cg y2
                        have gy3 := cg y3
                        have gd0 := cg dc0
                        have gx1 := cg dc1
                        have gx2 := cg dc2
                        have gx3 := cg dc3
                        go_quiet_grown ((go_at_call 70; exact Calls.byGrw (HB.out _)))
                        have H6 := Lib.hid (Grw.grown w2 nq osq).mod
                        go_wp2_with fail
                        go_roundw
                        case rel => exact ⟨k + 1, by omega, by go_num, HM1.out.trans H6.out (fun _ _ h => h), hnx.out⟩
                        case measure => simp [intOf]; omega
                    · have HB : Hid (∀ z, Calls Tryz.prog 70 #[.agg #[.int .u32 y.e.u, .int .u32 y.e.v, .int .i64 y.fr, .int .i64 y.to], .agg #[.int .u32 x.e.u, .int .u32 x.e.v, .int .i64 x.fr, .int .i64 x.to]] z
                          fun e w' => e = .returned (.bool false) ∧ Grw z w') := fun z => by
                        have := follows_grw z y.e.u y.e.v y.fr y.to x.e.u x.e.v x.fr x.to
                        rwa [show decide (follows ⟨⟨y.e.u, y.e.v⟩, y.fr, y.to⟩ ⟨⟨x.e.u, x.e.v⟩, x.fr, x.to⟩) = false by simpa using g4] at this
                      have hany : (prevL l k).any (fun y => decide (¬ follows y x)) = true := by
                        rw [HPR.out]; simp [g4]
                      have hR : R = (k, 23) := by rw [ST2.out (by rw [lfErr_23 G.out G3.out (Or.inr hany)]; omega), lfErr_23 G.out G3.out (Or.inr hany)]
                      subst hR
                      clear g4 hany
                      rcases hBC with ⟨gd1, gd2, gd3, gd4⟩ | ⟨gd1, gd2⟩
                      all_goals
                        have hmx := mixed
                        have gy0 := cg y0
                        have gy1 := cg y1
                        have gy2 := cg y2
                        have gy3 := cg y3
                        have gd0 := cg dc0
                        have gx1 := cg dc1
                        have gx2 := cg dc2
                        have gx3 := cg dc3
                        go_quiet_grown ((go_at_call 70; exact Calls.byGrw (HB.out _)))
                        have H6 := Lib.hid (Grw.grown w2 nq osq).mod
                        go_wp2_with fail
                        go_ret2
                        exact ⟨rfl, HM1.out.trans H6.out (fun _ _ h => h)⟩
              · have hR : R = (k, 24) := by rw [ST2.out (by rw [lfErr_24 G.out g3]; omega), lfErr_24 G.out g3]
                rw [show decide (right ⟨x.e.u, x.e.v⟩ n) = false by simp [g3]]
                subst hR
                clear g3
                go_wp2_with fail
                go_ret2
                exact ⟨rfl, HM.out.trans HW.out (fun _ _ h => h)⟩
      · have hkl : k = l.length := by omega
        obtain ⟨hM, hchk⟩ := HI.out
        have hR : R = (0, 0) := by rw [← hchk, hkl, List.drop_length]; rfl
        subst hR
        have HM := Lib.hid hM
        clear hM hchk hkl
        go_wp2_with fail
        go_ret2
        exact ⟨rfl, HM.out⟩
end Go.Proofs.YtppambkffgmkgaaGreatDoor
end

section
/- append, as a step of a region that draws its order, of a slice that may be nothing, at elements of any number of cells. Nothing of the program in it. -/
namespace Go.Proofs.YtppambkffgmkgaaGreatDoor
open Go.RowKit
set_option linter.unusedVariables false

theorem run_append_nothing {P : Program} (w : World) (t ty e : TypeId) (i : TypeInfo) (z : Value) (ht : P.underlying t = some (.slice e)) (hi : P.info? e = some i) (hz : i.zero = some z) {base size n c : Nat} {v : Value} {xs : List Value} (hown : w.ownsRow base e size v n xs) :
    (Builtin.append_ #[t, t] ty #[v, .slice none 0 c]).run P w = .ok v w := by
  rcases hown.2 with ⟨rfl, rfl⟩ | ⟨g, cap, cur, rfl, hb, hg, h1, h2, h3, h4⟩
  · simp [Builtin.append_, run_underlying ht, sizeOf, typeInfo, zeroValue, hi, hz, Builtin.lenOf, run_firstCells_none]
  · simp [Builtin.append_, run_underlying ht, sizeOf, typeInfo, zeroValue, hi, hz, Builtin.lenOf, run_firstCells_none, h1, storeCells]

/-- append, of what may be nothing, to what may be nothing. -/
theorem step_append_row {P : Program} (w : World) {ops : Array Oper} {o : Oper} {a : Act} {K : Act → World → Prop} {Q : Exit → Act → World → Prop} {E : Prop} (hgd : o.guard = none) (s x : Operand) (t : TypeId)
    (ho : o.op = .call { callee := .builtin .append, args := #[s, x], argTypes := #[t, t] })
    (e : TypeId) (i : TypeInfo) (z : Value) (size bytes : Nat) (ht : P.underlying t = some (.slice e)) (hi : P.info? e = some i) (hz : i.zero = some z)
    (hsize : i.size = size) (hby : i.bytes = bytes) (hzs : z.cells.size = size) (hsz : 0 < size)
    (v : Value) (n : Nat) (xs : List Value) (hs : a.eval s = v) (hown : w.ownsRow 0 e size v n xs)
    (ap : Option Addr) (m c : Nat) (news : List Value) (hx : a.eval x = .slice ap m c) (hl : news.length = m * size) (hnews : ∀ j u, news[j]? = some u → ∃ ad, ap = some ad ∧ w.cell? (ad.add j) = some u) (h1 : ∀ u ∈ news, u.oneCell' = true)
    (h63 : n + m ≤ maxLen) (hbytes : (n + m) * bytes ≤ 140737488355328)
    (h : ∀ v' w', w'.ownsRow 0 e size v' (n + m) (xs ++ news) → w.grownBy w' v.ownBlock → (v'.ownBlock = v.ownBlock ∨ v'.ownBlock = some w.heap.size) → K (a.put o.dst v') w') :
    if Region.wanted o (yielded ops a.tmps) = true then Oper.wp P o a w K Q else E := by
  have hw : Region.wanted o (yielded ops a.tmps) = true := by simp [Region.wanted, hgd]
  rw [if_pos hw]
  cases ap with
  | none =>
    have hn : news = [] := by
      cases news with
      | nil => rfl
      | cons u r => obtain ⟨ad, h0, _⟩ := hnews 0 u rfl; cases h0
    have hm : m = 0 := by
      rw [hn] at hl
      simp only [List.length_nil] at hl
      rcases Nat.eq_zero_or_pos m with c | c
      · exact c
      · have := Nat.mul_pos c hsz; omega
    subst hn hm
    have hr := run_append_nothing (P := P) w t o.type e i z ht hi hz (c := c) hown
    unfold Oper.wp execOp
    simp only [ho, resolve, invoke, builtin, Sem.run_bind, Sem.run_pure, Result.andThen_ok, List.map_toArray, List.map_cons, List.map_nil, hs, hx, hr]
    exact h v w (by simpa using hown) ⟨rfl, rfl, rfl, Nat.le_refl _, fun _ _ _ => rfl⟩ (Or.inl rfl)
  | some ad =>
    obtain ⟨v', w', hr, h2, h3, _, h5⟩ := run_append_own_at (P := P) w 0 t o.type e i z size bytes ht hi hz hsize hby hzs hsz v n xs hown ad m c news hl (fun j u hu => by obtain ⟨ad', k1, k2⟩ := hnews j u hu; cases k1; exact k2) h1 h63 hbytes (Nat.zero_le _)
    unfold Oper.wp execOp
    simp only [ho, resolve, invoke, builtin, Sem.run_bind, Sem.run_pure, Result.andThen_ok, List.map_toArray, List.map_cons, List.map_nil, hs, hx, hr]
    exact h v' w' h2 h3 h5
/-- The same at a plain region's list. -/
theorem wpList_append_row {P : Program} (w : World) {ops : Array Oper} {rest : List Oper} {o : Oper} {a : Act} {Q : Exit → Act → World → Prop} (hgd : o.guard = none) (s x : Operand) (t : TypeId)
    (ho : o.op = .call { callee := .builtin .append, args := #[s, x], argTypes := #[t, t] })
    (e : TypeId) (i : TypeInfo) (z : Value) (size bytes : Nat) (ht : P.underlying t = some (.slice e)) (hi : P.info? e = some i) (hz : i.zero = some z)
    (hsize : i.size = size) (hby : i.bytes = bytes) (hzs : z.cells.size = size) (hsz : 0 < size)
    (v : Value) (n : Nat) (xs : List Value) (hs : a.eval s = v) (hown : w.ownsRow 0 e size v n xs)
    (ap : Option Addr) (m c : Nat) (news : List Value) (hx : a.eval x = .slice ap m c) (hl : news.length = m * size) (hnews : ∀ j u, news[j]? = some u → ∃ ad, ap = some ad ∧ w.cell? (ad.add j) = some u) (h1 : ∀ u ∈ news, u.oneCell' = true)
    (h63 : n + m ≤ maxLen) (hbytes : (n + m) * bytes ≤ 140737488355328)
    (h : ∀ v' w', w'.ownsRow 0 e size v' (n + m) (xs ++ news) → w.grownBy w' v.ownBlock → (v'.ownBlock = v.ownBlock ∨ v'.ownBlock = some w.heap.size) → wpList P ops Q rest (a.put o.dst v') w') :
    wpList P ops Q (o :: rest) a w := by
  refine wpList_plain hgd fun K hK => ?_
  cases ap with
  | none =>
    have hn : news = [] := by
      cases news with
      | nil => rfl
      | cons u r => obtain ⟨ad, h0, _⟩ := hnews 0 u rfl; cases h0
    have hm : m = 0 := by
      rw [hn] at hl
      simp only [List.length_nil] at hl
      rcases Nat.eq_zero_or_pos m with c | c
      · exact c
      · have := Nat.mul_pos c hsz; omega
    subst hn hm
    have hr := run_append_nothing (P := P) w t o.type e i z ht hi hz (c := c) hown
    unfold Oper.wp execOp
    simp only [ho, resolve, invoke, builtin, Sem.run_bind, Sem.run_pure, Result.andThen_ok, List.map_toArray, List.map_cons, List.map_nil, hs, hx, hr]
    exact hK _ _ (h v w (by simpa using hown) ⟨rfl, rfl, rfl, Nat.le_refl _, fun _ _ _ => rfl⟩ (Or.inl rfl))
  | some ad =>
    obtain ⟨v', w', hr, h2, h3, _, h5⟩ := run_append_own_at (P := P) w 0 t o.type e i z size bytes ht hi hz hsize hby hzs hsz v n xs hown ad m c news hl (fun j u hu => by obtain ⟨ad', k1, k2⟩ := hnews j u hu; cases k1; exact k2) h1 h63 hbytes (Nat.zero_le _)
    unfold Oper.wp execOp
    simp only [ho, resolve, invoke, builtin, Sem.run_bind, Sem.run_pure, Result.andThen_ok, List.map_toArray, List.map_cons, List.map_nil, hs, hx, hr]
    exact hK _ _ (h v' w' h2 h3 h5)
end Go.Proofs.YtppambkffgmkgaaGreatDoor
end
