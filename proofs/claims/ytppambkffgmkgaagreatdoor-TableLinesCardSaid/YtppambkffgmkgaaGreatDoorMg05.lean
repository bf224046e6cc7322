/- Merged: LfK LfJ LfG -/
import Derived.Test.YtppambkffgmkgaaGreatDoorMg04
import Derived.DeepKeys4
import Derived.Deep.Cut
import Derived.Deep.CutBlock
section
/- Maps whose keys are edges. -/
namespace Go.Proofs.YtppambkffgmkgaaGreatDoor
open Go.RowKit Go.Maps Go.ChangeMaps
set_option linter.unusedVariables false

theorem laid_out : laidOutB Tryz.prog = true := by kernel_rfl
theorem edge_row : (57 : TypeId) < Tryz.prog.types.size := of_decide_eq_true (by kernel_rfl)
theorem edge_deep : Tryz.prog.keyTypeAt 2 57 = true := by kernel_rfl
theorem key_edge : Keyed Tryz.prog 57 := by
  refine Keyed.of_law (deep_law_laid (m := 2) laid_out (by omega) edge_row edge_deep ?_)
  rw [Tryz.underlying57]
theorem types_pos : 0 < Tryz.prog.types.size := Nat.lt_of_le_of_lt (Nat.zero_le _) edge_row
theorem edge_key : Tryz.prog.keyType 57 = true := by kernel_rfl
theorem edge_cells : Tryz.prog.cellsOf 57 = 2 := by kernel_rfl
theorem u32_cells : Tryz.prog.cellsOf 55 = 1 := by kernel_rfl

/-- An edge whose ends are numbers of 32 bits. -/
def EdB (x : Ed) : Prop := (0 ≤ x.u ∧ x.u ≤ 4294967295) ∧ 0 ≤ x.v ∧ x.v ≤ 4294967295
theorem wf_u32 {u : Int} (h : 0 ≤ u ∧ u ≤ 4294967295) : (Lit.int .u32 u).wf = true := by
  simp [Lit.wf, IntKind.min, IntKind.max, IntKind.signed, IntKind.bits]; omega
theorem lits_edge {d : Nat} {u v : Int} (hu : (Lit.int .u32 u).wf = true) (hv : (Lit.int .u32 v).wf = true) : Tryz.prog.keyLits (d + 2) 57 [.int .u32 u, .int .u32 v] = some [.int .u32 u, .int .u32 v] := by
  unfold Program.keyLits
  rw [Tryz.underlying57]
  simp [edge_cells, u32_cells, Program.keyLits, Tryz.underlying55, hu, hv]
theorem keyOf_edge {x : Ed} (h : EdB x) : ∃ l, keyOf Tryz.prog 57 (encE x) = some l := by
  have hu := wf_u32 h.1
  have hv := wf_u32 h.2
  have hs : ∃ d, Tryz.prog.types.size + 1 = d + 2 := ⟨Tryz.prog.types.size - 1, by have := types_pos; omega⟩
  obtain ⟨d, hd⟩ := hs
  refine ⟨.string (keyBytes [.int .u32 x.u, .int .u32 x.v]), ?_⟩
  unfold keyOf
  rw [Tryz.underlying57]
  simp only [edge_key, Value.formed, Tryz.underlying57, edge_cells, encE, Value.cells, hd]
  rw [lits_edge hu hv]
  simp

theorem encE_inj {x y : Ed} (h : encE x = encE y) : x = y := by
  unfold encE at h
  simp at h
  exact Ed.ext' h.1 h.2

/-- Block m is a map from edges: what it tells of each. -/
def EMap (w : World) (m : Nat) (z : Value) (g : Ed → Value) : Prop := ∃ n f, MapOf Tryz.prog 57 w m n f ∧ ∀ x : Ed, (f (encE x)).getD z = g x

namespace EMap
variable {w : World} {m : Nat} {z : Value} {g : Ed → Value}
theorem made (w : World) (z : Value) : EMap (w.alloc (.map #[] 0)) w.heap.size z (fun _ => z) := ⟨0, _, MapOf.made w _ _, fun x => rfl⟩
theorem mod {w' : World} {S : Nat → Prop} (h : EMap w m z g) (hm : Mod w w' S) (hn : ¬ S m) : EMap w' m z g := by
  obtain ⟨n, f, h1, h2⟩ := h
  exact ⟨n, f, h1.mod hm hn, h2⟩
theorem lt (h : EMap w m z g) : m < w.heap.size := by
  obtain ⟨n, f, h1, h2⟩ := h
  exact h1.lt
theorem look (h : EMap w m z g) {t e : TypeId} (ht : Tryz.prog.underlying t = some (.map 57 e)) (hz : (zeroValue e).run Tryz.prog w = .ok z w) {u v : Int} (hb : EdB ⟨u, v⟩) :
    (Instr.lookup t (.map (some m)) (.agg #[.int .u32 u, .int .u32 v]) false).run Tryz.prog w = .ok (g ⟨u, v⟩) w := by
  obtain ⟨n, f, h1, h2⟩ := h
  obtain ⟨l, hl⟩ := keyOf_edge hb
  have := h1.look key_edge ht hz hl false
  rw [if_neg (by simp), h2] at this
  exact this
theorem store (h : EMap w m z g) {t e : TypeId} (ht : Tryz.prog.underlying t = some (.map 57 e)) {u v : Int} (hb : EdB ⟨u, v⟩) (val : Value) :
    ∃ w', (Instr.mapUpdate t (.map (some m)) (.agg #[.int .u32 u, .int .u32 v]) val).run Tryz.prog w = .ok () w' ∧ EMap w' m z (fun x => if x = ⟨u, v⟩ then val else g x) ∧ Mod w w' (OneB m) := by
  obtain ⟨n, f, h1, h2⟩ := h
  obtain ⟨l, hl⟩ := keyOf_edge hb
  obtain ⟨w', k1, k2, es, ck, k3⟩ := h1.store key_edge ht hl val
  refine ⟨w', k1, ⟨n + 1, _, k2, fun x => ?_⟩, by rw [k3]; exact (Mod.refl w (OneB m)).setBlock (fun _ => (rfl : m = m)) _⟩
  show (MapOf.put f (encE ⟨u, v⟩) val (encE x)).getD z = if x = ⟨u, v⟩ then val else g x
  unfold MapOf.put
  by_cases hx : x = ⟨u, v⟩
  · rw [if_pos hx, if_pos (by rw [hx])]; rfl
  · rw [if_neg hx, if_neg (fun e => hx (encE_inj e))]
    exact h2 x
end EMap
end Go.Proofs.YtppambkffgmkgaaGreatDoor
end

section
/- The contract of history.Check. -/
namespace Go.Proofs.YtppambkffgmkgaaGreatDoor
open Go.RowKit
set_option linter.unusedVariables false

theorem zero_bool (w : World) : (zeroValue 4).run Tryz.prog w = .ok (.bool false) w := by kernel_rfl
theorem EMap.drewN {w : World} {m : Nat} {z : Value} {g : Ed → Value} (h : EMap w m z g) (n : Nat) : EMap (w.drewN n) m z g := h.mod ((Mod.refl _ NoB).drewN n) (by simp [NoB])

def prevOf (l : List Ev) (k : Nat) : Option Ev := if k = 0 then none else l[k - 1]?
theorem chk_step {n : Int} {l : List Ev} {k : Nat} {x : Ev} {there : Ed → Bool} {R : Nat × Nat} (hx : l[k]? = some x) (h : chkFrom n k (prevOf l k) there (l.drop k) = R) :
    (evErr n (prevOf l k) there x = 0 → chkFrom n (k + 1) (prevOf l (k + 1)) (turn there x) (l.drop (k + 1)) = R) ∧ (evErr n (prevOf l k) there x ≠ 0 → R = (k, evErr n (prevOf l k) there x)) := by
  obtain ⟨h1, h2⟩ := List.getElem?_eq_some_iff.1 hx
  rw [List.drop_eq_getElem_cons h1, h2] at h
  simp only [chkFrom] at h
  have hp : prevOf l (k + 1) = some x := by unfold prevOf; rw [if_neg (by omega)]; exact hx
  constructor
  · intro h0
    rw [if_pos h0] at h
    rw [hp]; exact h
  · intro h0
    rw [if_neg h0] at h
    exact h.symm

/-- An event of numbers that fit. -/
def EvB (x : Ev) : Prop := EdB x.e

/-- What the check keeps. -/
def HInv (w0 wr : World) (h0 m : Nat) (n : Int) (a : Option Addr) (len cap : Nat) (l : List Ev) (R : Nat × Nat) (k : Nat) : Prop :=
  Mod w0 wr NoB ∧ wr.cell? ⟨h0, 0, none⟩ = some (.int .u64 n) ∧ wr.cell? ⟨h0, 1, none⟩ = some (.slice a len cap) ∧
    ∃ there, EMap wr m (.bool false) (fun x => .bool (there x)) ∧ chkFrom n k (prevOf l k) there (l.drop k) = R

theorem evErr_26 {n : Int} {p : Option Ev} {f : Ed → Bool} {x : Ev} (h : x.t < 0 ∨ 4611686018427387903 < x.t) : evErr n p f x = 26 := by
  unfold evErr maxT; rw [if_pos h]
theorem evErr_24 {n : Int} {p : Option Ev} {f : Ed → Bool} {x : Ev} (h : ¬ (x.t < 0 ∨ 4611686018427387903 < x.t)) (h2 : ¬ right x.e n) : evErr n p f x = 24 := by
  unfold evErr maxT; rw [if_neg h, if_pos h2]
theorem evErr_23 {n : Int} {p : Option Ev} {f : Ed → Bool} {x : Ev} (h : ¬ (x.t < 0 ∨ 4611686018427387903 < x.t)) (h2 : right x.e n) (h3 : p.any (fun y => decide (¬ before y x)) = true) : evErr n p f x = 23 := by
  unfold evErr maxT; rw [if_neg h, if_neg (fun c => c h2), if_pos h3]
theorem evErr_25 {n : Int} {p : Option Ev} {f : Ed → Bool} {x : Ev} (h : ¬ (x.t < 0 ∨ 4611686018427387903 < x.t)) (h2 : right x.e n) (h3 : ¬ p.any (fun y => decide (¬ before y x)) = true) :
    evErr n p f x = if f x.e = x.add then 25 else 0 := by
  unfold evErr maxT; rw [if_neg h, if_neg (fun c => c h2), if_neg h3]

theorem chk_lim {n : Int} {l : List Ev} (h1 : ¬ 4294967296 < n) (h2 : l.length ≤ 1000000) : chk n l = chkFrom n 0 none (fun _ => false) l := by
  unfold chk
  rw [if_neg]
  unfold maxN
  omega

set_option maxRecDepth 100000 in
set_option maxHeartbeats 4000000 in
theorem hcheck_any (w : World) (n : Int) (a : Option Addr) (cap : Nat) (l : List Ev) (hE : Evs w a l) (hl : l.length ≤ 1000000) (hb : ∀ x ∈ l, EvB x) :
    Calls Tryz.prog 23 #[.agg #[.int .u64 n, .slice a l.length cap]] w fun e w' => e = .returned (.tuple #[.int .i64 (chk n l).1, .int .i64 (chk n l).2]) ∧ Mod w w' NoB := by
  have HE := Lib.hid hE
  have HBD := Lib.hid hb
  clear hE hb
  by_cases hn : 4294967296 < n
  · rw [show chk n l = (0, 26) by unfold chk; rw [if_pos]; exact Or.inl hn]
    go_enter Tryz.func23, Tryz.ntmps23
    go_wp2_with fail
    go_ret2
    exact ⟨rfl, (Mod.refl _ _).alloc _⟩
  · rw [chk_lim hn hl]
    obtain ⟨R, hR⟩ : ∃ R, chkFrom n 0 none (fun _ => false) l = R := ⟨_, rfl⟩
    rw [hR]
    have hmm := @run_makeMap Tryz.prog
    have hl2 : ¬ (2147483648 : Int) < l.length := by omega
    go_enter Tryz.func23, Tryz.ntmps23
    go_wp2_with fail
    obtain ⟨h0, hh0⟩ : ∃ h0, h0 = w.heap.size := ⟨_, rfl⟩
    obtain ⟨m, hm0⟩ : ∃ m, m = h0 + 1 := ⟨_, rfl⟩
    obtain ⟨W, hW⟩ : ∃ W, W = (w.alloc (.cells #[.int .u64 n, .slice a l.length cap] 25)).alloc (.map #[] 0) := ⟨_, rfl⟩
    have HI0 : Hid (HInv w W h0 m n a l.length cap l R 0 ∧ w.heap.size ≤ h0 ∧ w.heap.size ≤ m ∧ h0 ≠ m) := by
      have hs1 : (w.alloc (.cells #[.int .u64 n, .slice a l.length cap] 25)).heap.size = w.heap.size + 1 := by simp
      have lt1 : w.heap.size < (w.alloc (.cells #[.int .u64 n, .slice a l.length cap] 25)).heap.size := by rw [hs1]; omega
      refine ⟨⟨by rw [hW]; exact ((Mod.refl _ _).alloc _).alloc _, ?_, ?_, fun _ => false, ?_, hR⟩, by omega, by omega, by omega⟩
      · rw [hW, hh0]; exact (World.cell?_alloc_lt _ _ _ lt1).trans (World.cell?_alloc_at _ _ _ _ rfl)
      · rw [hW, hh0]; exact (World.cell?_alloc_lt _ _ _ lt1).trans (World.cell?_alloc_at _ _ _ _ rfl)
      · rw [hW, hm0, hh0, ← hs1]; exact EMap.made _ _
    rw [← hW, ← hh0, ← hm0]
    clear hW hh0 hm0 hR
    go_loopw [20] (fun i wr => ∃ k : Nat, k ≤ l.length ∧ i = .int .i64 k ∧ Hid (HInv w wr h0 m n a l.length cap l R k)) (fun i _ => l.length - (intOf i).toNat)
    case atStart => exact ⟨0, Nat.zero_le _, rfl, HI0.out.1⟩
    case round =>
      obtain ⟨k, hk, rfl, HI⟩ := hrel
      by_cases hlt : k < l.length
      · obtain ⟨b, off, x, rfl, hbw, hx, hC⟩ := (HE.out.mod HI.out.1).at hlt
        have hki : (k : Int) < l.length := by omega
        have hxB : EvB x := HBD.out x (List.mem_of_getElem? hx)
        obtain ⟨hM, ch0, ch1, there, hmap, hchk⟩ := HI.out
        obtain ⟨st1, st2⟩ := chk_step hx hchk
        have ST1 := Lib.hid st1
        have ST2 := Lib.hid st2
        have HX := Lib.hid (And.intro hx hxB)
        have HM := Lib.hid hM
        have HP := Lib.hid hmap
        obtain ⟨c0, c1, c2, c3⟩ := hC
        have h0l := World.block_lt_of_cell? _ _ ch0
        have hml := hmap.lt
        clear st1 st2 hx hxB hchk hM hmap
        by_cases g1 : x.t < 0
        · have hR : R = (k, 26) := by rw [ST2.out (by rw [evErr_26 (Or.inl g1)]; omega), evErr_26 (Or.inl g1)]
          subst hR
          go_wp2_with fail
          go_ret2
          exact ⟨rfl, HM.out.alloc _⟩
        · by_cases g2 : 4611686018427387903 < x.t
          · have hR : R = (k, 26) := by rw [ST2.out (by rw [evErr_26 (Or.inr g2)]; omega), evErr_26 (Or.inr g2)]
            subst hR
            go_wp2_with fail
            go_ret2
            exact ⟨rfl, HM.out.alloc _⟩
          · have G := Lib.hid (show ¬ (x.t < 0 ∨ 4611686018427387903 < x.t) by omega)
            go_wp2_with fail
            obtain ⟨e0, he0⟩ : ∃ e0, e0 = wr.heap.size := ⟨_, rfl⟩
            obtain ⟨V, hV⟩ : ∃ V, V = wr.alloc (.cells #[.int .i64 x.t, .int .u32 x.e.u, .int .u32 x.e.v, .bool x.add] 62) := ⟨_, rfl⟩
            have HV : Hid (Mod wr V NoB) := by rw [hV]; exact (Mod.refl _ _).alloc _
            have HD : Hid (EvAt V e0 0 x) := by
              rw [hV, he0]
              exact ⟨World.cell?_alloc_at _ _ _ _ rfl, World.cell?_alloc_at _ _ _ _ rfl, World.cell?_alloc_at _ _ _ _ rfl, World.cell?_alloc_at _ _ _ _ rfl⟩
            rw [← hV, ← he0]
            clear hV he0
            refine (right_any _ _ _ _ HX.out.2.2).mono ?_
            rintro e w1 ⟨rfl, hm⟩
            have HW : Hid (Mod wr w1 NoB) := HV.out.trans hm (fun _ _ h => h)
            have HD1 : Hid (EvAt w1 e0 0 x) := HD.out.mod hm
            have HC1 : Hid (EvAt w1 b (off + k * 4) x) := EvAt.mod ⟨c0, c1, c2, c3⟩ HW.out
            have d0 := keepc ch0 HW.out
            have d1 := keepc ch1 HW.out
            clear hm HV HD c0 c1 c2 c3 ch0 ch1 h0l
            by_cases g3 : right ⟨x.e.u, x.e.v⟩ n
            · have G3 := Lib.hid g3
              rw [show decide (right ⟨x.e.u, x.e.v⟩ n) = true by simp [g3]]
              clear g3
              have hM1 : Mod w w1 NoB := HM.out.trans HW.out (fun _ _ h => h)
              have hE1 := HE.out.mod hM1
              have HM1 := Lib.hid hM1
              clear hM1
              obtain ⟨dc0, dc1, dc2, dc3⟩ := HD1.out
              simp only [Nat.zero_add] at dc1 dc2 dc3
              go_upto_region 11 with (fail)
              by_cases hk0 : k = 0
              · have hkz : decide (0 < k) = false := decide_eq_false (by omega)
                have hkd : ¬ 0 < k := by omega
                have hany : Hid (¬ (prevOf l k).any (fun y => decide (¬ before y x)) = true) := by
                  show ¬ _
                  unfold prevOf; rw [if_pos hk0]; simp
                clear hk0 hE1
                go_quiet (fail)
                rename_i nq
                obtain ⟨z, hz⟩ : ∃ z, z = w1.drewN nq := ⟨_, rfl⟩
                have H6 : Hid (Mod w1 z NoB) := by rw [hz]; exact (Mod.refl _ _).drewN _
                rw [← hz]
                clear hz hkz hkd
                have k0 := keepc dc0 H6.out
                have k1 := keepc dc1 H6.out
                have k2 := keepc dc2 H6.out
                have k3 := keepc dc3 H6.out
                have kd0 := keepc d0 H6.out
                have kd1 := keepc d1 H6.out
                have HM2 : Hid (Mod w z NoB) := HM1.out.trans H6.out (fun _ _ h => h)
                have HMap : Hid (EMap z m (.bool false) (fun x => .bool (there x))) := HP.out.mod (HW.out.trans H6.out (fun _ _ h => h)) (by simp [NoB])
                have hbb := HX.out.2
                have HE5 := Lib.hid (evErr_25 (f := there) G.out G3.out hany.out)
                have hlook := fun nq : Nat => (HMap.out.drewN nq).look Tryz.underlying113 (zero_bool _) hbb
                have HBB := Lib.hid hbb
                clear dc0 dc1 dc2 dc3 d0 d1 HM1 H6 HW HD1 HC1 hany G G3 HP hbb
                by_cases g5 : there x.e = x.add
                · have hR : R = (k, 25) := by rw [ST2.out (by rw [HE5.out, if_pos g5]; omega), HE5.out, if_pos g5]
                  subst hR
                  have hthere : there ⟨x.e.u, x.e.v⟩ = x.add := g5
                  simp only [hthere] at hlook
                  clear hthere g5
                  go_upto_region 13 with (fail)
                  go_quiet (fail)
                  go_wp2_with fail
                  go_ret2
                  exact ⟨rfl, (HM2.out.drewN _)⟩
                · have hnx := ST1.out (by rw [HE5.out, if_neg g5])
                  obtain ⟨tb, htb⟩ : ∃ tb, there ⟨x.e.u, x.e.v⟩ = tb := ⟨_, rfl⟩
                  have hne : (tb == x.add) = false := by
                    rw [← htb]; simpa using g5
                  simp only [htb] at hlook
                  have HNX := Lib.hid hnx
                  clear hnx htb g5
                  go_upto_region 13 with (fail)
                  go_quiet (fail)
                  generalize hz2 : World.drewN z _ = z2
                  have H7 : Hid (Mod z z2 NoB) := by rw [← hz2]; exact (Mod.refl _ _).drewN _
                  clear hz2 hlook hne
                  have q0 := keepc k0 H7.out
                  have q1 := keepc k1 H7.out
                  have q2 := keepc k2 H7.out
                  have q3 := keepc k3 H7.out
                  have qd0 := keepc kd0 H7.out
                  have qd1 := keepc kd1 H7.out
                  obtain ⟨w6, hs1, hs2, hs3⟩ := (HMap.out.mod H7.out (by simp [NoB])).store Tryz.underlying113 HBB.out (.bool x.add)
                  have HS := Lib.hid (And.intro hs2 hs3)
                  clear hs2 hs3 k0 k1 k2 k3 kd0 kd1
                  go_wp2_with fail
                  go_roundw
                  case rel =>
                    refine ⟨k + 1, by omega, by go_num, (HM2.out.trans H7.out (fun _ _ h => h)).trans HS.out.2 (fun i hi hm => absurd (show m < w.heap.size by rw [← show i = m from hm]; exact hi) (Nat.not_lt.2 HI0.out.2.2.1)), keepS qd0 HS.out.2 HI0.out.2.2.2, keepS qd1 HS.out.2 HI0.out.2.2.2, turn there x, ?_, HNX.out⟩
                    have hfun : (fun y : Ed => if y = ⟨x.e.u, x.e.v⟩ then Value.bool x.add else .bool (there y)) = fun y => .bool (turn there x y) := by
                      funext y
                      show _ = Value.bool (if y = x.e then x.add else there y)
                      by_cases hy : y = x.e
                      · rw [if_pos hy, if_pos (by rw [hy])]
                      · rw [if_neg hy, if_neg (fun c => hy c)]
                    rw [← hfun]; exact HS.out.1
                  case measure => simp [intOf]; omega
              · obtain ⟨j, hj⟩ : ∃ j, k = j + 1 := ⟨k - 1, by omega⟩
                obtain ⟨b', off', y, hab, hbw', hy, hCy⟩ := hE1.at (show j < l.length by omega)
                cases hab
                obtain ⟨y0, y1, y2, y3⟩ := hCy
                have hjl : (j : Int) < l.length := by omega
                have hkp : (0 : Int) < (k : Int) := by omega
                have hkn : 0 < k := by omega
                have hkd : decide (0 < (k : Int)) = true := by simpa using hkn
                have hwr : IntKind.i64.wrap ((k : Int) - 1) = (j : Int) := by
                  rw [hj, IntWalk.i64_in _ (by omega)]; omega
                have hpr : prevOf l k = some y := by unfold prevOf; rw [if_neg hk0, hj]; exact hy
                have HPR := Lib.hid hpr
                clear hk0 hj hpr hy hbw'
                by_cases g4 : before y x
                · have HB : Hid (∀ z, Calls Tryz.prog 56 #[.agg #[.int .i64 y.t, .int .u32 y.e.u, .int .u32 y.e.v, .bool y.add], .agg #[.int .i64 x.t, .int .u32 x.e.u, .int .u32 x.e.v, .bool x.add]] z
                      fun e w' => e = .returned (.bool true) ∧ Mod z w' NoB) := fun z => by
                    have := before_any z y.t y.e.u y.e.v x.t x.e.u x.e.v y.add x.add
                    rwa [show decide (before ⟨y.t, ⟨y.e.u, y.e.v⟩, y.add⟩ ⟨x.t, ⟨x.e.u, x.e.v⟩, x.add⟩) = true by simpa using g4] at this
                  have hany : Hid (¬ (prevOf l k).any (fun y => decide (¬ before y x)) = true) := by
                    show ¬ _
                    rw [HPR.out]; simp [g4]
                  clear g4
                  go_region_held3 (fun z => z.cell? ⟨h0, 1, none⟩ = some (.slice (some ⟨b, off, none⟩) l.length cap) ∧ (z.cell? ⟨b, off + j * 4, none⟩ = some (.int .i64 y.t) ∧ z.cell? ⟨b, off + j * 4 + 1, none⟩ = some (.int .u32 y.e.u) ∧ z.cell? ⟨b, off + j * 4 + 2, none⟩ = some (.int .u32 y.e.v) ∧ z.cell? ⟨b, off + j * 4 + 3, none⟩ = some (.bool y.add)) ∧
                      z.cell? ⟨e0, 0, none⟩ = some (.int .i64 x.t) ∧ z.cell? ⟨e0, 1, none⟩ = some (.int .u32 x.e.u) ∧ z.cell? ⟨e0, 2, none⟩ = some (.int .u32 x.e.v) ∧ z.cell? ⟨e0, 3, none⟩ = some (.bool x.add))
                    (first | exact ⟨d1, ⟨y0, y1, y2, y3⟩, dc0, dc1, dc2, dc3⟩ | exact ⟨keepc d1 H6.out, ⟨keepc y0 H6.out, keepc y1 H6.out, keepc y2 H6.out, keepc y3 H6.out⟩, keepc dc0 H6.out, keepc dc1 H6.out, keepc dc2 H6.out, keepc dc3 H6.out⟩)
                    (first
                    | (refine (HB.out _).mono ?_; rintro e w5 ⟨rfl, hm5⟩; have H6 := Lib.hid (Mod.trans (Mod.drew (Mod.refl w1 NoB)) hm5 (fun _ _ h => h)); clear hm5))
                  clear hkp hkn hkd hwr hjl y0 y1 y2 y3 HB
                  have k0 := keepc dc0 H6.out
                  have k1 := keepc dc1 H6.out
                  have k2 := keepc dc2 H6.out
                  have k3 := keepc dc3 H6.out
                  have kd0 := keepc d0 H6.out
                  have kd1 := keepc d1 H6.out
                  have HM2 : Hid (Mod w w5 NoB) := HM1.out.trans H6.out (fun _ _ h => h)
                  have HMap : Hid (EMap w5 m (.bool false) (fun x => .bool (there x))) := HP.out.mod (HW.out.trans H6.out (fun _ _ h => h)) (by simp [NoB])
                  have hbb := HX.out.2
                  have HE5 := Lib.hid (evErr_25 (f := there) G.out G3.out hany.out)
                  have hlook := fun nq : Nat => (HMap.out.drewN nq).look Tryz.underlying113 (zero_bool _) hbb
                  have HBB := Lib.hid hbb
                  clear dc0 dc1 dc2 dc3 d0 d1 HM1 H6 HW HD1 HC1 hany G G3 HP hbb
                  by_cases g5 : there x.e = x.add
                  · have hR : R = (k, 25) := by rw [ST2.out (by rw [HE5.out, if_pos g5]; omega), HE5.out, if_pos g5]
                    subst hR
                    have hthere : there ⟨x.e.u, x.e.v⟩ = x.add := g5
                    simp only [hthere] at hlook
                    clear hthere g5
                    go_upto_region 13 with (fail)
                    go_quiet (fail)
                    go_wp2_with fail
                    go_ret2
                    exact ⟨rfl, (HM2.out.drewN _)⟩
                  · have hnx := ST1.out (by rw [HE5.out, if_neg g5])
                    obtain ⟨tb, htb⟩ : ∃ tb, there ⟨x.e.u, x.e.v⟩ = tb := ⟨_, rfl⟩
                    have hne : (tb == x.add) = false := by
                      rw [← htb]; simpa using g5
                    simp only [htb] at hlook
                    have HNX := Lib.hid hnx
                    clear hnx htb g5
                    go_upto_region 13 with (fail)
                    go_quiet (fail)
                    generalize hz2 : World.drewN w5 _ = z2
                    have H7 : Hid (Mod w5 z2 NoB) := by rw [← hz2]; exact (Mod.refl _ _).drewN _
                    clear hz2 hlook hne
                    have q0 := keepc k0 H7.out
                    have q1 := keepc k1 H7.out
                    have q2 := keepc k2 H7.out
                    have q3 := keepc k3 H7.out
                    have qd0 := keepc kd0 H7.out
                    have qd1 := keepc kd1 H7.out
                    obtain ⟨w6, hs1, hs2, hs3⟩ := (HMap.out.mod H7.out (by simp [NoB])).store Tryz.underlying113 HBB.out (.bool x.add)
                    have HS := Lib.hid (And.intro hs2 hs3)
                    clear hs2 hs3 k0 k1 k2 k3 kd0 kd1
                    go_wp2_with fail
                    go_roundw
                    case rel =>
                      refine ⟨k + 1, by omega, by go_num, (HM2.out.trans H7.out (fun _ _ h => h)).trans HS.out.2 (fun i hi hm => absurd (show m < w.heap.size by rw [← show i = m from hm]; exact hi) (Nat.not_lt.2 HI0.out.2.2.1)), keepS qd0 HS.out.2 HI0.out.2.2.2, keepS qd1 HS.out.2 HI0.out.2.2.2, turn there x, ?_, HNX.out⟩
                      have hfun : (fun y : Ed => if y = ⟨x.e.u, x.e.v⟩ then Value.bool x.add else .bool (there y)) = fun y => .bool (turn there x y) := by
                        funext y
                        show _ = Value.bool (if y = x.e then x.add else there y)
                        by_cases hy : y = x.e
                        · rw [if_pos hy, if_pos (by rw [hy])]
                        · rw [if_neg hy, if_neg (fun c => hy c)]
                      rw [← hfun]; exact HS.out.1
                    case measure => simp [intOf]; omega
                · have HB : Hid (∀ z, Calls Tryz.prog 56 #[.agg #[.int .i64 y.t, .int .u32 y.e.u, .int .u32 y.e.v, .bool y.add], .agg #[.int .i64 x.t, .int .u32 x.e.u, .int .u32 x.e.v, .bool x.add]] z
                      fun e w' => e = .returned (.bool false) ∧ Mod z w' NoB) := fun z => by
                    have := before_any z y.t y.e.u y.e.v x.t x.e.u x.e.v y.add x.add
                    rwa [show decide (before ⟨y.t, ⟨y.e.u, y.e.v⟩, y.add⟩ ⟨x.t, ⟨x.e.u, x.e.v⟩, x.add⟩) = false by simpa using g4] at this
                  have hany : (prevOf l k).any (fun y => decide (¬ before y x)) = true := by
                    rw [HPR.out]; simp [g4]
                  have hR : R = (k, 23) := by rw [ST2.out (by rw [evErr_23 G.out G3.out hany]; omega), evErr_23 G.out G3.out hany]
                  subst hR
                  clear g4 hany
                  go_region_held3 (fun z => z.cell? ⟨h0, 1, none⟩ = some (.slice (some ⟨b, off, none⟩) l.length cap) ∧ (z.cell? ⟨b, off + j * 4, none⟩ = some (.int .i64 y.t) ∧ z.cell? ⟨b, off + j * 4 + 1, none⟩ = some (.int .u32 y.e.u) ∧ z.cell? ⟨b, off + j * 4 + 2, none⟩ = some (.int .u32 y.e.v) ∧ z.cell? ⟨b, off + j * 4 + 3, none⟩ = some (.bool y.add)) ∧
                      z.cell? ⟨e0, 0, none⟩ = some (.int .i64 x.t) ∧ z.cell? ⟨e0, 1, none⟩ = some (.int .u32 x.e.u) ∧ z.cell? ⟨e0, 2, none⟩ = some (.int .u32 x.e.v) ∧ z.cell? ⟨e0, 3, none⟩ = some (.bool x.add))
                    (first | exact ⟨d1, ⟨y0, y1, y2, y3⟩, dc0, dc1, dc2, dc3⟩ | exact ⟨keepc d1 H6.out, ⟨keepc y0 H6.out, keepc y1 H6.out, keepc y2 H6.out, keepc y3 H6.out⟩, keepc dc0 H6.out, keepc dc1 H6.out, keepc dc2 H6.out, keepc dc3 H6.out⟩)
                    (first
                    | (refine (HB.out _).mono ?_; rintro e w5 ⟨rfl, hm5⟩; have H6 := Lib.hid (Mod.trans (Mod.drew (Mod.refl w1 NoB)) hm5 (fun _ _ h => h)); clear hm5))
                  all_goals
                    go_wp2_with fail
                    go_ret2
                    exact ⟨rfl, HM1.out.trans H6.out (fun _ _ h => h)⟩
            · have hR : R = (k, 24) := by rw [ST2.out (by rw [evErr_24 G.out g3]; omega), evErr_24 G.out g3]
              rw [show decide (right ⟨x.e.u, x.e.v⟩ n) = false by simp [g3]]
              subst hR
              clear g3
              go_wp2_with fail
              go_ret2
              exact ⟨rfl, HM.out.trans HW.out (fun _ _ h => h)⟩
      · have hkl : k = l.length := by omega
        obtain ⟨hM, ch0, ch1, there, hmap, hchk⟩ := HI.out
        have hR : R = (0, 0) := by rw [← hchk, hkl, List.drop_length]; rfl
        subst hR
        have HM := Lib.hid hM
        clear hM hmap hchk hkl
        go_wp2_with fail
        go_ret2
        exact ⟨rfl, HM.out⟩
end Go.Proofs.YtppambkffgmkgaaGreatDoor
end

section
/- The closures that tell how two stand: by's, and Of's own. -/
namespace Go.Proofs.YtppambkffgmkgaaGreatDoor
open Go.RowKit
set_option linter.unusedVariables false

/-- How two stand, by an order. -/
def byI (lt gt : Prop) [Decidable lt] [Decidable gt] : Int := if lt then -1 else if gt then 1 else 0

set_option maxRecDepth 100000 in
set_option maxHeartbeats 2000000 in
theorem byE_grw (w : World) (p : Nat) (u v x y : Int) (hp : w.cell? ⟨p, 0, none⟩ = some (.func (.func 58) #[] #[])) :
    Calls Tryz.prog 80 #[.agg #[.int .u32 u, .int .u32 v], .agg #[.int .u32 x, .int .u32 y], .pointer (some ⟨p, 0, none⟩)] w
      fun e w' => e = .returned (.int .i64 (byI (edLt ⟨u, v⟩ ⟨x, y⟩) (edLt ⟨x, y⟩ ⟨u, v⟩))) ∧ Grw w w' := by
  obtain ⟨r, hr⟩ : ∃ r, byI (edLt ⟨u, v⟩ ⟨x, y⟩) (edLt ⟨x, y⟩ ⟨u, v⟩) = r := ⟨_, rfl⟩
  rw [hr]
  unfold byI at hr
  have HRS := Lib.hid hr
  clear hr
  have hpl := World.block_lt_of_cell? _ _ hp
  obtain ⟨q, hq⟩ : ∃ q, q = w.heap.size := ⟨_, rfl⟩
  obtain ⟨W, hW⟩ : ∃ W, W = (w.alloc (.cells #[.int .u32 u, .int .u32 v] 57)).alloc (.cells #[.int .u32 x, .int .u32 y] 57) := ⟨_, rfl⟩
  have HM : Hid (Grw w W) := by rw [hW]; exact ((Grw.refl _).alloc _).alloc _
  have hs1 : (w.alloc (.cells #[.int .u32 u, .int .u32 v] 57)).heap.size = w.heap.size + 1 := by simp
  have lt1 : w.heap.size < (w.alloc (.cells #[.int .u32 u, .int .u32 v] 57)).heap.size := by rw [hs1]; omega
  have HC : Hid (W.cell? ⟨p, 0, none⟩ = some (.func (.func 58) #[] #[]) ∧ (W.cell? ⟨q, 0, none⟩ = some (.int .u32 u) ∧ W.cell? ⟨q, 1, none⟩ = some (.int .u32 v)) ∧ W.cell? ⟨q + 1, 0, none⟩ = some (.int .u32 x) ∧ W.cell? ⟨q + 1, 1, none⟩ = some (.int .u32 y)) := by
    refine ⟨keepc hp HM.out.mod, ?_⟩
    rw [hW, hq]
    exact ⟨⟨(World.cell?_alloc_lt _ _ _ lt1).trans (World.cell?_alloc_at _ _ _ _ rfl), (World.cell?_alloc_lt _ _ _ lt1).trans (World.cell?_alloc_at _ _ _ _ rfl)⟩, World.cell?_alloc_at _ _ _ _ hs1.symm, World.cell?_alloc_at _ _ _ _ hs1.symm⟩
  go_enter Tryz.func80, Tryz.ntmps80
  go_wp2_with fail
  rw [← hW, ← hq]
  clear hW hs1 hq lt1 hp hpl
  refine (less_grw _ _ _ _ _).mono ?_
  rintro e w1 ⟨rfl, hm⟩
  have a0 := keepc HC.out.1 hm.mod
  have a1 := keepc HC.out.2.1.1 hm.mod
  have a2 := keepc HC.out.2.1.2 hm.mod
  have a3 := keepc HC.out.2.2.1 hm.mod
  have a4 := keepc HC.out.2.2.2 hm.mod
  have HN : Hid (Grw w w1) := HM.out.trans hm
  clear hm HM HC
  by_cases h1 : edLt ⟨u, v⟩ ⟨x, y⟩
  · rw [show decide (edLt ⟨u, v⟩ ⟨x, y⟩) = true by simp [h1]]
    have hr : r = -1 := by rw [← HRS.out, if_pos h1]
    subst hr
    clear h1
    go_wp2_with fail
    go_ret
    exact ⟨rfl, HN.out⟩
  · rw [show decide (edLt ⟨u, v⟩ ⟨x, y⟩) = false by simp [h1]]
    have HS : Hid ((if edLt ⟨x, y⟩ ⟨u, v⟩ then (1 : Int) else 0) = r) := by
      have := HRS.out
      rw [if_neg h1] at this
      exact this
    clear h1 HRS
    go_wp2_with fail
    refine (less_grw _ _ _ _ _).mono ?_
    rintro e w2 ⟨rfl, hm⟩
    have HK : Hid (Grw w w2) := HN.out.trans hm
    clear hm
    by_cases h2 : edLt ⟨x, y⟩ ⟨u, v⟩
    · rw [show decide (edLt ⟨x, y⟩ ⟨u, v⟩) = true by simp [h2]]
      have hr : r = 1 := by rw [← HS.out, if_pos h2]
      subst hr
      clear h2
      go_wp2_with fail
      go_ret
      exact ⟨rfl, HK.out⟩
    · rw [show decide (edLt ⟨x, y⟩ ⟨u, v⟩) = false by simp [h2]]
      have hr : r = 0 := by rw [← HS.out, if_neg h2]
      subst hr
      clear h2
      go_wp2_with fail
      go_ret
      exact ⟨rfl, HK.out⟩

set_option maxRecDepth 100000 in
set_option maxHeartbeats 2000000 in
theorem byV_grw (w : World) (p : Nat) (t u v s x y : Int) (a b : Bool) (hp : w.cell? ⟨p, 0, none⟩ = some (.func (.func 56) #[] #[])) :
    Calls Tryz.prog 91 #[.agg #[.int .i64 t, .int .u32 u, .int .u32 v, .bool a], .agg #[.int .i64 s, .int .u32 x, .int .u32 y, .bool b], .pointer (some ⟨p, 0, none⟩)] w
      fun e w' => e = .returned (.int .i64 (byI (before ⟨t, ⟨u, v⟩, a⟩ ⟨s, ⟨x, y⟩, b⟩) (before ⟨s, ⟨x, y⟩, b⟩ ⟨t, ⟨u, v⟩, a⟩))) ∧ Grw w w' := by
  obtain ⟨r, hr⟩ : ∃ r, byI (before ⟨t, ⟨u, v⟩, a⟩ ⟨s, ⟨x, y⟩, b⟩) (before ⟨s, ⟨x, y⟩, b⟩ ⟨t, ⟨u, v⟩, a⟩) = r := ⟨_, rfl⟩
  rw [hr]
  unfold byI at hr
  have HRS := Lib.hid hr
  clear hr
  have hpl := World.block_lt_of_cell? _ _ hp
  obtain ⟨q, hq⟩ : ∃ q, q = w.heap.size := ⟨_, rfl⟩
  obtain ⟨W, hW⟩ : ∃ W, W = (w.alloc (.cells #[.int .i64 t, .int .u32 u, .int .u32 v, .bool a] 62)).alloc (.cells #[.int .i64 s, .int .u32 x, .int .u32 y, .bool b] 62) := ⟨_, rfl⟩
  have HM : Hid (Grw w W) := by rw [hW]; exact ((Grw.refl _).alloc _).alloc _
  have hs1 : (w.alloc (.cells #[.int .i64 t, .int .u32 u, .int .u32 v, .bool a] 62)).heap.size = w.heap.size + 1 := by simp
  have lt1 : w.heap.size < (w.alloc (.cells #[.int .i64 t, .int .u32 u, .int .u32 v, .bool a] 62)).heap.size := by rw [hs1]; omega
  have HC : Hid (W.cell? ⟨p, 0, none⟩ = some (.func (.func 56) #[] #[]) ∧ (W.cell? ⟨q, 0, none⟩ = some (.int .i64 t) ∧ W.cell? ⟨q, 1, none⟩ = some (.int .u32 u) ∧ W.cell? ⟨q, 2, none⟩ = some (.int .u32 v) ∧ W.cell? ⟨q, 3, none⟩ = some (.bool a)) ∧ W.cell? ⟨q + 1, 0, none⟩ = some (.int .i64 s) ∧ W.cell? ⟨q + 1, 1, none⟩ = some (.int .u32 x) ∧ W.cell? ⟨q + 1, 2, none⟩ = some (.int .u32 y) ∧ W.cell? ⟨q + 1, 3, none⟩ = some (.bool b)) := by
    refine ⟨keepc hp HM.out.mod, ?_⟩
    rw [hW, hq]
    exact ⟨⟨(World.cell?_alloc_lt _ _ _ lt1).trans (World.cell?_alloc_at _ _ _ _ rfl), (World.cell?_alloc_lt _ _ _ lt1).trans (World.cell?_alloc_at _ _ _ _ rfl), (World.cell?_alloc_lt _ _ _ lt1).trans (World.cell?_alloc_at _ _ _ _ rfl), (World.cell?_alloc_lt _ _ _ lt1).trans (World.cell?_alloc_at _ _ _ _ rfl)⟩, World.cell?_alloc_at _ _ _ _ hs1.symm, World.cell?_alloc_at _ _ _ _ hs1.symm, World.cell?_alloc_at _ _ _ _ hs1.symm, World.cell?_alloc_at _ _ _ _ hs1.symm⟩
  go_enter Tryz.func91, Tryz.ntmps91
  go_wp2_with fail
  rw [← hW, ← hq]
  clear hW hs1 hq lt1 hp hpl
  refine (before_grw _ _ _ _ _ _ _ _ _).mono ?_
  rintro e w1 ⟨rfl, hm⟩
  have a0 := keepc HC.out.1 hm.mod
  have a1 := keepc HC.out.2.1.1 hm.mod
  have a2 := keepc HC.out.2.1.2.1 hm.mod
  have a3 := keepc HC.out.2.1.2.2.1 hm.mod
  have a4 := keepc HC.out.2.1.2.2.2 hm.mod
  have b1 := keepc HC.out.2.2.1 hm.mod
  have b2 := keepc HC.out.2.2.2.1 hm.mod
  have b3 := keepc HC.out.2.2.2.2.1 hm.mod
  have b4 := keepc HC.out.2.2.2.2.2 hm.mod
  have HN : Hid (Grw w w1) := HM.out.trans hm
  clear hm HM HC
  by_cases h1 : before ⟨t, ⟨u, v⟩, a⟩ ⟨s, ⟨x, y⟩, b⟩
  · rw [show decide (before ⟨t, ⟨u, v⟩, a⟩ ⟨s, ⟨x, y⟩, b⟩) = true by simp [h1]]
    have hr : r = -1 := by rw [← HRS.out, if_pos h1]
    subst hr
    clear h1
    go_wp2_with fail
    go_ret
    exact ⟨rfl, HN.out⟩
  · rw [show decide (before ⟨t, ⟨u, v⟩, a⟩ ⟨s, ⟨x, y⟩, b⟩) = false by simp [h1]]
    have HS : Hid ((if before ⟨s, ⟨x, y⟩, b⟩ ⟨t, ⟨u, v⟩, a⟩ then (1 : Int) else 0) = r) := by
      have := HRS.out
      rw [if_neg h1] at this
      exact this
    clear h1 HRS
    go_wp2_with fail
    refine (before_grw _ _ _ _ _ _ _ _ _).mono ?_
    rintro e w2 ⟨rfl, hm⟩
    have HK : Hid (Grw w w2) := HN.out.trans hm
    clear hm
    by_cases h2 : before ⟨s, ⟨x, y⟩, b⟩ ⟨t, ⟨u, v⟩, a⟩
    · rw [show decide (before ⟨s, ⟨x, y⟩, b⟩ ⟨t, ⟨u, v⟩, a⟩) = true by simp [h2]]
      have hr : r = 1 := by rw [← HS.out, if_pos h2]
      subst hr
      clear h2
      go_wp2_with fail
      go_ret
      exact ⟨rfl, HK.out⟩
    · rw [show decide (before ⟨s, ⟨x, y⟩, b⟩ ⟨t, ⟨u, v⟩, a⟩) = false by simp [h2]]
      have hr : r = 0 := by rw [← HS.out, if_neg h2]
      subst hr
      clear h2
      go_wp2_with fail
      go_ret
      exact ⟨rfl, HK.out⟩
end Go.Proofs.YtppambkffgmkgaaGreatDoor
end
