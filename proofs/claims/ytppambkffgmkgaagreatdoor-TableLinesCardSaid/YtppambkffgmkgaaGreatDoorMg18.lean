/- Merged: LfO LfR LfSd -/
import Derived.Test.YtppambkffgmkgaaGreatDoorMg17
import Derived.Test.YtppambkffgmkgaaGreatDoorMg05
import Derived.Test.YtppambkffgmkgaaGreatDoorMg02
import Derived.Deep.RegionHeld3
import Derived.BigQuiet
import Derived.OwnWalk
import Derived.Laws.EntriesVeiled
import Derived.Deep.AppendLies
import Derived.Test.YtppambkffgmkgaaGreatDoorMg06
import Derived.OneCell
import Derived.Test.YtppambkffgmkgaaGreatDoorMg09
import Derived.Deep.DeepCutAuto
section
/- The contract of life.Of. -/
namespace Go.Proofs.YtppambkffgmkgaaGreatDoor
open Go.RowKit
set_option linter.unusedVariables false

theorem info_life : (Tryz.prog.info? 81).map (fun i => (i.zero, i.size, i.bytes)) = some (some (.agg #[.int .u32 0, .int .u32 0, .int .i64 0, .int .i64 0]), 4, 24) := by kernel_rfl
theorem info_event : (Tryz.prog.info? 62).map (fun i => (i.zero, i.size, i.bytes)) = some (some (.agg #[.int .i64 0, .int .u32 0, .int .u32 0, .bool false]), 4, 24) := by kernel_rfl
theorem zero_i64 (w : World) : (zeroValue 3).run Tryz.prog w = .ok (.int .i64 0) w := by kernel_rfl

/-- The lives of a history. -/
def ofL (n : Int) (l : List Ev) : List Lf := if (chk n l).2 = 0 then putAll lfLt (raw l) else []

/-- What the loop keeps. -/
def OInv (w wr : World) (m : Nat) (n : Int) (l : List Ev) (k : Nat) (v : Value) (L : Nat) : Prop :=
  Mod w wr NoB ∧ m < wr.heap.size ∧ L = (raw (l.take k)).length ∧ wr.ownsRow (m + 1) 81 4 v L ((raw (l.take k)).flatMap encL) ∧
    ∃ at' prev, Opn (l.take k) at' ∧ EMap wr m (.int .i64 0) (fun x => .int .i64 (at' x : Nat)) ∧ AllOk n prev (thereOf (l.take k)) (l.drop k)

theorem raw_len (l : List Ev) : (raw l).length ≤ l.length := by
  induction l with
  | nil => simp [raw]
  | cons e l ih => simp only [raw]; split <;> simp <;> omega

theorem le_alloc {w : World} {o : Obj} {n : Nat} (h : n ≤ w.heap.size) : n ≤ (w.alloc o).heap.size := Nat.le_trans h (by simp)
/-- Behind an append. -/
theorem OInv.add {w wr V w6 w8 : World} {m k L : Nat} {n : Int} {l : List Ev} {x : Ev} {v : Value} {o : Obj} {g1 cap1 : Nat} {at' : Ed → Nat} (hm0 : w.heap.size ≤ m) (hM : Mod w wr NoB) (hV : Mod wr V NoB) (hS : Mod V w6 (OneB m)) (hLL : L = (raw (l.take k)).length)
    (hmap : EMap w6 m (.int .i64 0) (fun y => if y = x.e then .int .i64 (L : Nat) else .int .i64 (at' y : Nat)))
    (hr : raw (l.take (k + 1)) = raw (l.take k) ++ [⟨x.e, x.t, -1⟩]) (ho : Opn (l.take (k + 1)) (fun y => if y = x.e then (raw (l.take k)).length else at' y)) (hA : AllOk n (some x) (thereOf (l.take (k + 1))) (l.drop (k + 1)))
    (hrow0 : ∀ q, v.ownBlock = some q → m + 1 ≤ q)
    (hown : w8.ownsRow (m + 1) 81 4 (.slice (some ⟨g1, 0, none⟩) (L + 1) cap1) (L + 1) ((raw (l.take k)).flatMap encL ++ encL ⟨x.e, x.t, -1⟩)) (hgrow : (w6.alloc o).grownBy w8 v.ownBlock) :
    OInv w w8 m n l (k + 1) (.slice (some ⟨g1, 0, none⟩) (L + 1) cap1) (L + 1) := by
  have hM6 : Mod w w6 NoB := (hM.trans hV (fun _ _ h => h)).trans hS (fun i hi c => by
    have : i = m := c
    omega)
  have h8 : Mod w6 w8 (fun q => v.ownBlock = some q) := ((Mod.refl _ _).alloc _).grown hgrow (fun q hq _ => hq)
  refine ⟨hM6.trans h8 (fun i hi c => by have := hrow0 i c; omega), Nat.lt_of_lt_of_le hmap.lt h8.size, ?_, ?_, _, some x, ho, ?_, hA⟩
  · rw [hr, List.length_append, ← hLL]; rfl
  · rw [hr, List.flatMap_append]
    simpa using hown
  · have hf : (fun y : Ed => Value.int .i64 (((if y = x.e then (raw (l.take k)).length else at' y) : Nat) : Int)) = fun y => if y = x.e then .int .i64 (L : Nat) else .int .i64 (at' y : Nat) := by
      funext y
      by_cases hy : y = x.e
      · rw [if_pos hy, if_pos hy, hLL]
      · rw [if_neg hy, if_neg hy]
    rw [hf]
    exact hmap.mod h8 (fun c => by have := hrow0 m c; omega)

/-- Behind an end. -/
theorem OInv.del {w wr V : World} {m k L g oc : Nat} {n fr : Int} {l : List Ev} {x : Ev} {at' : Ed → Nat} {ak : Nat} (hak : at' x.e = ak) (hm0 : w.heap.size ≤ m) (hM : Mod w wr NoB) (hV : Mod wr V NoB) (hLL : L = (raw (l.take k)).length)
    (hmap : EMap V m (.int .i64 0) (fun y => .int .i64 (at' y : Nat))) (hget : (raw (l.take k))[at' x.e]? = some ⟨x.e, fr, -1⟩) (hr : raw (l.take (k + 1)) = (raw (l.take k)).set (at' x.e) ⟨x.e, fr, x.t⟩) (ho : Opn (l.take (k + 1)) at')
    (hA : AllOk n (some x) (thereOf (l.take (k + 1))) (l.drop (k + 1))) (hrow : V.ownsRow (m + 1) 81 4 (.slice (some ⟨g, 0, none⟩) L oc) L ((raw (l.take k)).flatMap encL)) :
    OInv w (V.setCell ⟨g, ak * 4 + 3, none⟩ (.int .i64 x.t)).drew m n l (k + 1) (.slice (some ⟨g, 0, none⟩) L oc) L := by
  have hg : m + 1 ≤ g := (hrow.lt g rfl).1
  have h8 : Mod V (V.setCell ⟨g, ak * 4 + 3, none⟩ (.int .i64 x.t)).drew (OneB g) := (Mod.set1 V g (ak * 4 + 3) (.int .i64 x.t)).drew
  have hrow2 := row_set (ak * 4 + 3) (.int .i64 x.t) hrow
  rw [flat_set _ ak _ x.t (hak ▸ hget)] at hrow2
  refine ⟨(hM.trans hV (fun _ _ h => h)).trans h8 (fun i hi c => by
      have : i = g := c
      omega), Nat.lt_of_lt_of_le hmap.lt h8.size, ?_, ?_, at', some x, ho, hmap.mod h8 (fun c => by
      have : m = g := c
      omega), hA⟩
  · rw [hr, List.length_set]; exact hLL
  · rw [hr, hak]
    exact (Mod.drew (Mod.refl _ NoB)).row hrow2 (fun q _ c => c)

/-- A closure that compares is made. -/
theorem byE_new (w : World) : Calls Tryz.prog 57 #[.func (.func 58) #[] #[]] w fun e w' =>
    e = .returned (.func (.func 80) #[] #[.pointer (some ⟨w.heap.size, 0, none⟩)]) ∧ w.alloc (.cells #[.func (.func 58) #[] #[]] 112) = w' := by
  go_enter Tryz.func57, Tryz.ntmps57
  go_wp2_with fail
  go_ret
  exact ⟨rfl, rfl⟩

/-- An event that may be: what is kept turns so. -/
theorem opn_step {n : Int} {l : List Ev} {k : Nat} {x : Ev} {prev : Option Ev} {at' : Ed → Nat} (hx : l[k]? = some x) (ho : Opn (l.take k) at') (h0 : ∀ y ∈ l, 0 ≤ y.t) (hA : AllOk n prev (thereOf (l.take k)) (l.drop k)) :
    AllOk n (some x) (thereOf (l.take (k + 1))) (l.drop (k + 1)) ∧
    (x.add = true → raw (l.take (k + 1)) = raw (l.take k) ++ [⟨x.e, x.t, -1⟩] ∧ Opn (l.take (k + 1)) (fun y => if y = x.e then (raw (l.take k)).length else at' y)) ∧
    (x.add = false → Opn (l.take (k + 1)) at' ∧ at' x.e < (raw (l.take k)).length ∧ ∃ fr, (raw (l.take k))[at' x.e]? = some ⟨x.e, fr, -1⟩ ∧ raw (l.take (k + 1)) = (raw (l.take k)).set (at' x.e) ⟨x.e, fr, x.t⟩) := by
  obtain ⟨h1, h2⟩ := List.getElem?_eq_some_iff.1 hx
  have ht : l.take (k + 1) = l.take k ++ [x] := by rw [List.take_succ_eq_append_getElem h1, h2]
  rw [List.drop_eq_getElem_cons h1, h2] at hA
  obtain ⟨a1, a2⟩ := hA
  obtain ⟨⟨t0, _⟩, _, _, hne⟩ := evErr_ok a1
  have h0' : ∀ y ∈ l.take k, 0 ≤ y.t := fun y hy => h0 y (List.mem_of_mem_take hy)
  rw [ht, thereOf_snoc]
  refine ⟨a2, fun ha => ?_, fun ha => ?_⟩
  · rw [ha] at hne
    exact ho.add h0' ha (by simpa using hne)
  · rw [ha] at hne
    obtain ⟨⟨fr, k1, k2⟩, k3⟩ := ho.del h0' t0 ha (by simpa using hne)
    exact ⟨k3, (List.getElem?_eq_some_iff.1 k1).1, fr, k1, k2⟩
theorem allOk_t {n : Int} : ∀ {l : List Ev} {prev : Option Ev} {there : Ed → Bool}, AllOk n prev there l → ∀ y ∈ l, 0 ≤ y.t
  | [], _, _, _, y, hy => by simp at hy
  | e :: l, _, _, h, y, hy => by
    rcases List.mem_cons.1 hy with rfl | hy
    · exact (evErr_ok h.1).1.1
    · exact allOk_t h.2 y hy

set_option maxRecDepth 100000 in
set_option maxHeartbeats 4000000 in
theorem of_any (w : World) (n : Int) (a : Option Addr) (cap : Nat) (l : List Ev) (hE : Evs w a l) (hl : l.length ≤ 100000) (hb : ∀ x ∈ l, EvB x) :
    Calls Tryz.prog 24 #[.agg #[.int .u64 n, .slice a l.length cap]] w fun e w' =>
      ∃ a' cap', e = .returned (.tuple #[.slice a' (ofL n l).length cap', .int .i64 (chk n l).2]) ∧ Lvs w' a' (ofL n l) ∧ Mod w w' NoB := by
  have HE := Lib.hid hE
  have HBD := Lib.hid hb
  clear hE hb
  obtain ⟨i0, hi, hz0, hz1, hz2⟩ := info_parts info_life
  have hmm := @run_makeMap Tryz.prog
  by_cases hc : (chk n l).2 = 0
  · have hofl : ofL n l = putAll lfLt (raw l) := if_pos hc
    rw [hofl]
    obtain ⟨c2, hc2⟩ : ∃ c2, (chk n l).2 = c2 := ⟨_, rfl⟩
    obtain ⟨c1, hc1⟩ : ∃ c1, (chk n l).1 = c1 := ⟨_, rfl⟩
    have hcz : c2 = 0 := hc2.symm.trans hc
    have HC : Hid (∀ z, Evs z a l → Calls Tryz.prog 23 #[.agg #[.int .u64 n, .slice a l.length cap]] z fun e w' => e = .returned (.tuple #[.int .i64 c1, .int .i64 0]) ∧ Mod z w' NoB) := fun z hz => by
      have := hcheck_any z n a cap l hz (by omega) HBD.out
      rw [hc1, hc] at this
      exact this
    rw [hc]
    have HOK : Hid (AllOk n none (fun _ => false) l) := by
      have h2 := hc
      unfold chk at h2
      split at h2
      · cases h2
      · exact allOk_of h2
    clear hc hofl hc2 hc1 hcz
    obtain ⟨h0, hh0⟩ : ∃ h0, h0 = w.heap.size := ⟨_, rfl⟩
    obtain ⟨W, hW⟩ : ∃ W, W = w.alloc (.cells #[.int .u64 n, .slice a l.length cap] 25) := ⟨_, rfl⟩
    have HW : Hid (Mod w W NoB) := by rw [hW]; exact (Mod.refl _ _).alloc _
    have ch0 : W.cell? ⟨h0, 0, none⟩ = some (.int .u64 n) := by rw [hW, hh0]; exact World.cell?_alloc_at _ _ _ _ rfl
    have ch1 : W.cell? ⟨h0, 1, none⟩ = some (.slice a l.length cap) := by rw [hW, hh0]; exact World.cell?_alloc_at _ _ _ _ rfl
    go_enter Tryz.func24, Tryz.ntmps24
    go_upto_region 1 with (fail)
    rw [← hW, ← hh0]
    clear hW hh0
    go_wp2_with fail
    refine (HC.out _ (HE.out.mod HW.out)).mono ?_
    rintro e w1 ⟨rfl, hm⟩
    have d1 := keepc ch1 hm
    have hd1 := World.block_lt_of_cell? _ _ d1
    have HM : Hid (Mod w w1 NoB) := HW.out.trans hm (fun _ _ h => h)
    clear hm HW ch0 ch1
    go_wp2_with fail
    obtain ⟨m, hm0⟩ : ∃ m, m = w1.heap.size := ⟨_, rfl⟩
    obtain ⟨w2, hw2⟩ : ∃ w2, w2 = w1.alloc (.map #[] 0) := ⟨_, rfl⟩
    have HI0 : Hid (OInv w w2 m n l 0 (.slice none 0 0) 0 ∧ w.heap.size ≤ m) := by
      refine ⟨⟨by rw [hw2]; exact HM.out.alloc _, by rw [hw2, hm0]; simp, rfl, World.ownsRow_nil _ _ _ _, fun _ => 0, none, Opn.nil _, ?_, ?_⟩, by rw [hm0]; exact HM.out.size⟩
      · rw [hw2, hm0]; exact EMap.made _ _
      · exact HOK.out
    have HT0 : Hid (∀ y ∈ l, 0 ≤ y.t) := allOk_t HOK.out
    rw [← hw2, ← hm0]
    clear hw2 hm0 d1 hd1
    go_loopw [6, 23] (fun o i wr => ∃ (k : Nat) (oa : Option Addr) (oc L : Nat), k ≤ l.length ∧ o = .slice oa L oc ∧ i = .int .i64 k ∧ Hid (OInv w wr m n l k (.slice oa L oc) L)) (fun _ i _ => l.length - (intOf i).toNat)
    case atStart => exact ⟨0, none, 0, 0, Nat.zero_le _, rfl, rfl, HI0.out.1⟩
    case round =>
      obtain ⟨k, oa, oc, L, hk, rfl, rfl, HI⟩ := hrel
      by_cases hlt : k < l.length
      · obtain ⟨b, off, x, rfl, hbw, hx, hC⟩ := (HE.out.mod HI.out.1).at hlt
        have hki : (k : Int) < l.length := by omega
        have hxB : EdB ⟨x.e.u, x.e.v⟩ := HBD.out x (List.mem_of_getElem? hx)
        obtain ⟨hM, hml, hLL, hrow, at', prev, hopn, hmap, hall⟩ := HI.out
        obtain ⟨s1, s2, s3⟩ := opn_step hx hopn HT0.out hall
        have hLle : L ≤ 100000 := by
          have := raw_len (l.take k)
          rw [List.length_take] at this
          omega
        obtain ⟨c0, c1, c2, c3⟩ := hC
        have H1 := Lib.hid s1
        have H2 := Lib.hid s2
        have H3 := Lib.hid s3
        have HM2 := Lib.hid hM
        have HML := Lib.hid hml
        have HLL := Lib.hid hLL
        have HRow := Lib.hid hrow
        have HMap := Lib.hid hmap
        have HXB := Lib.hid hxB
        clear s1 s2 s3 hM hLL hrow hopn hmap hall hx hml hxB
        obtain ⟨e0, he0⟩ : ∃ e0, e0 = wr.heap.size := ⟨_, rfl⟩
        obtain ⟨V, hV⟩ : ∃ V, V = wr.alloc (.cells #[.int .i64 x.t, .int .u32 x.e.u, .int .u32 x.e.v, .bool x.add] 62) := ⟨_, rfl⟩
        have HV : Hid (Mod wr V NoB) := by rw [hV]; exact (Mod.refl _ _).alloc _
        have HD : Hid (EvAt V e0 0 x) := by
          rw [hV, he0]
          exact ⟨World.cell?_alloc_at _ _ _ _ rfl, World.cell?_alloc_at _ _ _ _ rfl, World.cell?_alloc_at _ _ _ _ rfl, World.cell?_alloc_at _ _ _ _ rfl⟩
        go_upto_region 9 with (fail)
        rw [← hV, ← he0]
        have HE0 : Hid (m < e0) := by rw [he0]; exact HML.out
        clear hV he0
        obtain ⟨v0, v1, v2, v3⟩ := HD.out
        simp only [Nat.zero_add] at v1 v2 v3
        clear c0 c1 c2 c3 hbw
        cases hadd : x.add with
        | true =>
          rw [hadd] at v3
          obtain ⟨w6, hs1, hs2, hs3⟩ := (HMap.out.mod HV.out (by simp [NoB])).store Tryz.underlying115 HXB.out (.int .i64 (L : Nat))
          have HS2 := Lib.hid hs2
          have HS3 := Lib.hid hs3
          have hne : ¬ OneB m e0 := fun c => absurd (show e0 = m from c) (Nat.ne_of_gt HE0.out)
          have u0 := keepS v0 hs3 hne
          have u1 := keepS v1 hs3 hne
          have u2 := keepS v2 hs3 hne
          have hul := World.block_lt_of_cell? _ _ u0
          have hrow6 : w6.ownsRow (m + 1) 81 4 (.slice oa L oc) L ((raw (l.take k)).flatMap encL) :=
            hs3.row (HV.out.row HRow.out (fun q _ c => c)) (fun q hq c => by
              have := (HRow.out.lt q hq).1
              have hqm : q = m := c
              omega)
          have HR6 := Lib.hid hrow6
          have hone : ∀ u ∈ encL ⟨x.e, x.t, -1⟩, u.oneCell' = true := by simp [encL, Value.oneCell']
          clear hs2 hs3 hrow6 hne
          have hms : m + 1 ≤ w6.heap.size := HS2.out.lt
          have hB1 : L + 1 ≤ maxLen := by unfold maxLen; omega
          have hB2 : (L + 1) * 24 ≤ 140737488355328 := by omega
          go_wp2_with (at_builtin; refine wpList_append_lies _ rfl _ _ 50 rfl (m + 1) 81 i0 _ 4 24 Tryz.underlying50 hi hz0 hz1 hz2 rfl (by decide) (.slice oa L oc) L _ rfl (HR6.out.alloc _) ⟨_, 0, none⟩ 1 1 (encL ⟨x.e, x.t, -1⟩) rfl rfl (World.news_of_block (MapKept.heap_alloc _ _).1) hone (by decide) hB1 hB2 (le_alloc hms) _ rfl ?_; intro g1 cap1 w8 hown hgrow hat hlt8; have H8 := Lib.hid (And.intro hown hgrow); clear hown hgrow hat hlt8)
          go_roundw
          case rel => exact ⟨k + 1, some ⟨g1, 0, none⟩, cap1, L + 1, by omega, rfl, by go_num, OInv.add HI0.out.2 HM2.out HV.out HS3.out HLL.out HS2.out (H2.out hadd).1 (H2.out hadd).2 H1.out (fun q hq => (HRow.out.lt q hq).1) H8.out.1 H8.out.2⟩
          case measure => simp [intOf]; omega
        | false =>
          rw [hadd] at v3
          obtain ⟨hop, hatL, fr, hget, hset⟩ := H3.out hadd
          have HOP := Lib.hid (And.intro hop (And.intro hget hset))
          clear hop hget hset
          have hrowV : V.ownsRow (m + 1) 81 4 (.slice oa L oc) L ((raw (l.take k)).flatMap encL) := HV.out.row HRow.out (fun q _ c => c)
          have hmapV := HMap.out.mod HV.out (by simp [NoB])
          obtain ⟨ak, hak⟩ : ∃ ak, at' x.e = ak := ⟨_, rfl⟩
          rw [hak] at hatL
          have hL0 : 0 < L := by rw [HLL.out]; omega
          obtain ⟨g, cg, hvv, hcells, hfroz, _⟩ := row_open hrowV hL0
          cases hvv
          have hlook : ∀ q, (Instr.lookup 115 (.map (some m)) (.agg #[.int .u32 x.e.u, .int .u32 x.e.v]) false).run Tryz.prog (V.drewN q) = .ok (.int .i64 ak) (V.drewN q) := fun q => by
            have := (hmapV.drewN q).look Tryz.underlying115 (zero_i64 _) HXB.out
            rw [show at' ⟨x.e.u, x.e.v⟩ = ak from hak] at this
            exact this
          have hlook1 : (Instr.lookup 115 (.map (some m)) (.agg #[.int .u32 x.e.u, .int .u32 x.e.v]) false).run Tryz.prog V.drew = .ok (.int .i64 ak) V.drew := hlook 1
          have hatI : (ak : Int) < (L : Nat) := by rw [HLL.out]; omega
          have hcT : V.cell? ⟨g, ak * 4 + 3, none⟩ = some (.int .i64 (-1)) := hcells _ _ (enc4_get encL_len _ _ ⟨x.e, fr, -1⟩ 3 (by rw [← hak]; exact HOP.out.2.1) (by omega))
          have hfT := hfroz (ak * 4 + 3)
          have HRV := Lib.hid hrowV
          have HMV := Lib.hid hmapV
          have HAK := Lib.hid hak
          have hml2 : m < V.heap.size := hmapV.lt
          clear hrowV hmapV hcells hfroz hak hatL
          go_upto_region 12 with (fail)
          go_region
          go_wp2_with fail
          go_roundw
          case rel => exact ⟨k + 1, some ⟨g, 0, none⟩, oc, L, by omega, rfl, by go_num, OInv.del HAK.out HI0.out.2 HM2.out HV.out HLL.out HMV.out HOP.out.2.1 HOP.out.2.2 HOP.out.1 H1.out HRV.out⟩
          case measure => simp [intOf]; omega
      · have hkl : k = l.length := by omega
        obtain ⟨hM, hml, hLL, hrow, _⟩ := HI.out
        rw [hkl, List.take_length] at hLL hrow
        have HM2 := Lib.hid hM
        have HLL := Lib.hid hLL
        have HRow := Lib.hid hrow
        clear hkl hM hml hLL hrow
        go_wp2_with fail
        refine (byE_new _).mono ?_
        rintro e w3 ⟨rfl, rfl⟩
        go_wp2_with fail
        have hLL := HLL.out
        subst hLL
        have hs1 : (wr.alloc (.cells #[.func (.func 58) #[] #[]] 112)).heap.size = wr.heap.size + 1 := by simp
        refine (sortLf_row _ (m + 1) wr.heap.size (wr.heap.size + 1) (.slice oa (raw l).length oc) (raw l) ((HRow.out.alloc _).alloc _) (Nat.le_trans (raw_len l) (by omega))
          ((World.cell?_alloc_lt _ _ _ (by show wr.heap.size < _; rw [hs1]; omega)).trans (World.cell?_alloc_at _ _ _ _ rfl)) (World.cell?_alloc_at _ _ _ _ hs1.symm)
          (fun c => Nat.lt_irrefl _ (HRow.out.lt _ c).2) (fun c => by have := (HRow.out.lt _ c).2; omega)).mono ?_
        rintro e w5 ⟨rfl, l', k1, k2, k3, k4, k5⟩
        have hpw := (allOk_before HOK.out).1
        have hl' : l' = putAll lfLt (raw l) := sort_lives hpw (strict_of k3 ((k2.pairwise_iff (fun h => h.symm)).2 (raw_pair hpw))) k2
        have HF : Hid (Lvs w5 oa (putAll lfLt (raw l)) ∧ (raw l).length = (putAll lfLt (raw l)).length ∧ Mod w w5 NoB) := by
          rw [← hl']
          refine ⟨lvs_of_row k1 k4, k1.symm, ((HM2.out.alloc _).alloc _).trans k5 (fun i hi c => ?_)⟩
          have := (HRow.out.lt i c).1
          have := HI0.out.2
          omega
        clear k1 k2 k3 k4 k5 hl' hpw hs1
        go_wp2_with fail
        go_ret2
        exact ⟨oa, oc, by rw [← HF.out.2.1]; rfl, HF.out.1, HF.out.2.2⟩
  · have hofl : ofL n l = [] := if_neg hc
    rw [hofl]
    obtain ⟨c2, hc2⟩ : ∃ c2, (chk n l).2 = c2 := ⟨_, rfl⟩
    have HC : Hid (∀ z, Evs z a l → Calls Tryz.prog 23 #[.agg #[.int .u64 n, .slice a l.length cap]] z fun e w' => e = .returned (.tuple #[.int .i64 (chk n l).1, .int .i64 c2]) ∧ Mod z w' NoB) := fun z hz => by
      have := hcheck_any z n a cap l hz (by omega) HBD.out
      rw [hc2] at this
      exact this
    rw [hc2]
    have hcne : ((c2 : Int) != 0) = true := by rw [← hc2]; simpa using hc
    clear hc hofl hc2
    go_enter Tryz.func24, Tryz.ntmps24
    go_wp2_with fail
    refine (HC.out _ (HE.out.mod ((Mod.refl _ _).alloc _))).mono ?_
    rintro e w1 ⟨rfl, hm⟩
    have HM : Hid (Mod w w1 NoB) := ((Mod.refl _ _).alloc _).trans hm (fun _ _ h => h)
    clear hm
    go_wp2_with fail
    go_ret2
    exact ⟨none, 0, rfl, Or.inl rfl, HM.out⟩
end Go.Proofs.YtppambkffgmkgaaGreatDoor
end

section
/- The contract of life.Back. -/
namespace Go.Proofs.YtppambkffgmkgaaGreatDoor
open Go.RowKit
set_option linter.unusedVariables false

def backN (n : Int) (l : List Lf) : Int := if (lchk n l).2 = 0 then n else 0
/-- The events of lives, in order. -/
def backE (n : Int) (l : List Lf) : List Ev := if (lchk n l).2 = 0 then putAll before (evs l) else []

/-- What Back keeps: the history that grows. -/
structure BSt (w wr : World) (h4 h8 : Nat) (n : Int) (v : Value) (L : Nat) (es : List Ev) : Prop where
  mod : Mod w wr NoB
  hh : w.heap.size ≤ h4 ∧ h4 < h8
  a0 : wr.cell? ⟨h4, 0, none⟩ = some (.int .u64 0)
  a1 : wr.cell? ⟨h4, 1, none⟩ = some (.slice none 0 0)
  fa0 : wr.frozen? ⟨h4, 0, none⟩ = false
  fa1 : wr.frozen? ⟨h4, 1, none⟩ = false
  b0 : wr.cell? ⟨h8, 0, none⟩ = some (.int .u64 n)
  b1 : wr.cell? ⟨h8, 1, none⟩ = some v
  fb0 : wr.frozen? ⟨h8, 0, none⟩ = false
  fb1 : wr.frozen? ⟨h8, 1, none⟩ = false
  len : L = es.length
  row : wr.ownsRow (h8 + 1) 62 4 v L (es.flatMap encV)

namespace BSt
variable {w V w8 : World} {h4 h8 L : Nat} {n : Int} {v : Value} {es : List Ev}
theorem own (h : BSt w V h4 h8 n v L es) : ∀ q, v.ownBlock = some q → h8 + 1 ≤ q ∧ q < V.heap.size := h.row.lt
theorem moved {S : Nat → Prop} (h : BSt w V h4 h8 n v L es) (hm : Mod V w8 S) (hs : ∀ q, S q → V.heap.size ≤ q) : BSt w w8 h4 h8 n v L es := by
  have l4 := World.block_lt_of_cell? _ _ h.a0
  have l8 := World.block_lt_of_cell? _ _ h.b0
  have n4 : ¬ S h4 := fun c => Nat.not_lt.2 (hs _ c) l4
  have n8 : ¬ S h8 := fun c => Nat.not_lt.2 (hs _ c) l8
  exact ⟨h.mod.trans hm (fun i hi c => absurd (Nat.lt_of_lt_of_le hi h.mod.size) (Nat.not_lt.2 (hs _ c))), h.hh, keepS h.a0 hm n4, keepS h.a1 hm n4, (hm.frozen (p := ⟨h4, 0, none⟩) l4 n4).trans h.fa0, (hm.frozen (p := ⟨h4, 1, none⟩) l4 n4).trans h.fa1,
    keepS h.b0 hm n8, keepS h.b1 hm n8, (hm.frozen (p := ⟨h8, 0, none⟩) l8 n8).trans h.fb0, (hm.frozen (p := ⟨h8, 1, none⟩) l8 n8).trans h.fb1, h.len, hm.row h.row (fun q hq c => Nat.not_lt.2 (hs _ c) (h.own q hq).2)⟩
theorem quiet (h : BSt w V h4 h8 n v L es) (hm : Mod V w8 NoB) : BSt w w8 h4 h8 n v L es := h.moved hm (fun _ c => c.elim)
/-- Behind an append. -/
theorem app {o : Obj} {g1 cap1 : Nat} {e : Ev} (h : BSt w V h4 h8 n v L es) (hown : w8.ownsRow (h8 + 1) 62 4 (.slice (some ⟨g1, 0, none⟩) (L + 1) cap1) (L + 1) (es.flatMap encV ++ encV e)) (hgrow : (V.alloc o).grownBy w8 v.ownBlock) :
    (w8.cell? ⟨h8, 1, none⟩ = some v ∧ w8.frozen? ⟨h8, 1, none⟩ = false) ∧ BSt w (w8.setCell ⟨h8, 1, none⟩ (.slice (some ⟨g1, 0, none⟩) (L + 1) cap1)) h4 h8 n (.slice (some ⟨g1, 0, none⟩) (L + 1) cap1) (L + 1) (es ++ [e]) ∧
      Mod V (w8.setCell ⟨h8, 1, none⟩ (.slice (some ⟨g1, 0, none⟩) (L + 1) cap1)) (fun q => v.ownBlock = some q ∨ q = h8) := by
  have hm : Mod V w8 (fun q => v.ownBlock = some q) := ((Mod.refl _ _).alloc _).grown hgrow (fun q hq _ => hq)
  have l4 := World.block_lt_of_cell? _ _ h.a0
  have l8 := World.block_lt_of_cell? _ _ h.b0
  have n4 : ¬ v.ownBlock = some h4 := fun c => by have := (h.own _ c).1; have := h.hh.2; omega
  have n8 : ¬ v.ownBlock = some h8 := fun c => by have := (h.own _ c).1; omega
  have c8 := keepS h.b1 hm n8
  have hg := (hown.lt g1 rfl).1
  have h48 : h4 ≠ h8 := Nat.ne_of_lt h.hh.2
  have ne0 : (⟨h4, 0, none⟩ : Addr) ≠ ⟨h8, 1, none⟩ := fun c => h48 (congrArg Addr.block c)
  have ne1 : (⟨h4, 1, none⟩ : Addr) ≠ ⟨h8, 1, none⟩ := fun c => h48 (congrArg Addr.block c)
  have hm2 : Mod V (w8.setCell ⟨h8, 1, none⟩ (.slice (some ⟨g1, 0, none⟩) (L + 1) cap1)) (fun q => v.ownBlock = some q ∨ q = h8) := Mod.setS (S := fun q => v.ownBlock = some q ∨ q = h8) (g := h8) (i := 1) (hm.mono (fun _ _ c => Or.inl c)) (Or.inr rfl) _
  refine ⟨⟨c8, (hm.frozen (p := ⟨h8, 1, none⟩) l8 n8).trans h.fb1⟩, ⟨h.mod.trans hm2 (fun i hi c => ?_), h.hh, ?_, ?_, ?_, ?_, ?_, ?_, ?_, ?_, ?_, ?_⟩, hm2⟩
  · rcases c with c | c
    · have := (h.own _ c).1; have := h.hh; omega
    · have := h.hh; omega
  · rw [World.cell?_setCell_other _ _ _ _ ne0.symm]; exact keepS h.a0 hm n4
  · rw [World.cell?_setCell_other _ _ _ _ ne1.symm]; exact keepS h.a1 hm n4
  · rw [World.frozen?_setCell]; exact (hm.frozen (p := ⟨h4, 0, none⟩) l4 n4).trans h.fa0
  · rw [World.frozen?_setCell]; exact (hm.frozen (p := ⟨h4, 1, none⟩) l4 n4).trans h.fa1
  · rw [World.cell?_setCell_other _ _ _ _ (by simp)]; exact keepS h.b0 hm n8
  · exact World.cell?_setCell_same _ _ _ c8
  · rw [World.frozen?_setCell]; exact (hm.frozen (p := ⟨h8, 0, none⟩) l8 n8).trans h.fb0
  · rw [World.frozen?_setCell]; exact (hm.frozen (p := ⟨h8, 1, none⟩) l8 n8).trans h.fb1
  · rw [List.length_append, ← h.len]; rfl
  · have := ownsRow_setCell_other hown (a := ⟨h8, 1, none⟩) (by intro c; cases c; omega) (.slice (some ⟨g1, 0, none⟩) (L + 1) cap1)
    rw [List.flatMap_append]
    simpa using this
/-- Behind a sort. -/
theorem sorted {z w6 : World} {es' : List Ev} (h : BSt w V h4 h8 n v L es) (hz : Mod V z NoB) (hl : es'.length = L) (hrow : w6.ownsRow (h8 + 1) 62 4 v L (es'.flatMap encV)) (hm : Mod z w6 (fun q => v.ownBlock = some q)) : BSt w w6 h4 h8 n v L es' := by
  have g := h.quiet hz
  have l4 := World.block_lt_of_cell? _ _ g.a0
  have l8 := World.block_lt_of_cell? _ _ g.b0
  have n4 : ¬ v.ownBlock = some h4 := fun c => by have := (h.own _ c).1; have := h.hh.2; omega
  have n8 : ¬ v.ownBlock = some h8 := fun c => by have := (h.own _ c).1; omega
  exact ⟨g.mod.trans hm (fun i hi c => by have := (h.own _ c).1; have := h.hh; omega), h.hh, keepS g.a0 hm n4, keepS g.a1 hm n4, (hm.frozen (p := ⟨h4, 0, none⟩) l4 n4).trans g.fa0, (hm.frozen (p := ⟨h4, 1, none⟩) l4 n4).trans g.fa1,
    keepS g.b0 hm n8, keepS g.b1 hm n8, (hm.frozen (p := ⟨h8, 0, none⟩) l8 n8).trans g.fb0, (hm.frozen (p := ⟨h8, 1, none⟩) l8 n8).trans g.fb1, hl.symm, hrow⟩
end BSt

theorem strictE {m : List Ev} (hs : m.Pairwise (fun a b => ¬ before b a)) (hd : m.Pairwise (fun a b => before a b ∨ before b a)) : m.Pairwise before := by
  induction m with
  | nil => exact List.Pairwise.nil
  | cons a m ih =>
    obtain ⟨h1, h2⟩ := List.pairwise_cons.1 hs
    obtain ⟨k1, k2⟩ := List.pairwise_cons.1 hd
    refine List.pairwise_cons.2 ⟨fun b hb => ?_, ih h2 k2⟩
    rcases k1 b hb with c | c
    · exact c
    · exact absurd c (h1 b hb)
/-- A sort of the events of lives that may be. -/
theorem sort_back {n : Int} {l : List Lf} (h : AllLf n none l) {m : List Ev} (hs : m.Pairwise (fun a b => ¬ before b a)) (hp : m.Perm (evs l)) : m = putAll before (evs l) := by
  obtain ⟨k1, k2, _⟩ := allLf_far h
  exact sort_evs h (strictE hs ((hp.pairwise_iff (fun h => h.symm)).2 (evs_pair k1 k2))) hp

theorem evs_take {l : List Lf} {k : Nat} {x : Lf} (hx : l[k]? = some x) : evs (l.take (k + 1)) = evs (l.take k) ++ evsOf x := by
  obtain ⟨h1, h2⟩ := List.getElem?_eq_some_iff.1 hx
  rw [List.take_succ_eq_append_getElem h1, h2]
  unfold evs
  rw [List.flatMap_append]; simp
theorem evs_len (l : List Lf) : (evs l).length ≤ 2 * l.length := by
  induction l with
  | nil => simp [evs]
  | cons x l ih =>
    have h1 : evs (x :: l) = evsOf x ++ evs l := by unfold evs; rw [List.flatMap_cons]
    have h2 : (evsOf x).length ≤ 2 := by unfold evsOf; split <;> simp
    rw [h1, List.length_append, List.length_cons]
    omega

/-- A closure that compares events is made. -/
theorem byV_new (w : World) : Calls Tryz.prog 72 #[.func (.func 56) #[] #[]] w fun e w' =>
    e = .returned (.func (.func 91) #[] #[.pointer (some ⟨w.heap.size, 0, none⟩)]) ∧ w.alloc (.cells #[.func (.func 56) #[] #[]] 109) = w' := by
  go_enter Tryz.func72, Tryz.ntmps72
  go_wp2_with fail
  go_ret
  exact ⟨rfl, rfl⟩

set_option maxRecDepth 100000 in
set_option maxHeartbeats 4000000 in
theorem back_yg (w : World) (n : Int) (a : Option Addr) (cap : Nat) (l : List Lf) (hL : Lvs w a l) (hl : l.length ≤ 100000) (hb : ∀ x ∈ l, EdB x.e) :
    Calls Tryz.prog 39 #[.int .u64 n, .slice a l.length cap] w fun e w' =>
      ∃ a' cap', e = .returned (.tuple #[.agg #[.int .u64 (backN n l), .slice a' (backE n l).length cap'], .int .i64 (lchk n l).2]) ∧ Evs w' a' (backE n l) ∧ Mod w w' NoB ∧ (∀ p, a' = some p → w.heap.size ≤ p.block) := by
  have HL := Lib.hid hL
  have HBD := Lib.hid hb
  clear hL hb
  obtain ⟨i0, hi, hz0, hz1, hz2⟩ := info_parts info_event
  obtain ⟨h4, hh4⟩ : ∃ h4, h4 = w.heap.size := ⟨_, rfl⟩
  obtain ⟨W, hW⟩ : ∃ W, W = w.alloc (.cells #[.int .u64 0, .slice none 0 0] 25) := ⟨_, rfl⟩
  have HW : Hid (Mod w W NoB) := by rw [hW]; exact (Mod.refl _ _).alloc _
  have ca0 : W.cell? ⟨h4, 0, none⟩ = some (.int .u64 0) := by rw [hW, hh4]; exact World.cell?_alloc_at _ _ _ _ rfl
  have ca1 : W.cell? ⟨h4, 1, none⟩ = some (.slice none 0 0) := by rw [hW, hh4]; exact World.cell?_alloc_at _ _ _ _ rfl
  have cf0 : W.frozen? ⟨h4, 0, none⟩ = false := by rw [hW, hh4]; simp
  have cf1 : W.frozen? ⟨h4, 1, none⟩ = false := by rw [hW, hh4]; simp
  by_cases hc : (lchk n l).2 = 0
  · have hbn : backN n l = n := if_pos hc
    have hbe : backE n l = putAll before (evs l) := if_pos hc
    rw [hbn, hbe]
    obtain ⟨c1, hc1⟩ : ∃ c1, (lchk n l).1 = c1 := ⟨_, rfl⟩
    have HC : Hid (∀ z, Lvs z a l → Calls Tryz.prog 38 #[.int .u64 n, .slice a l.length cap] z fun e w' => e = .returned (.tuple #[.int .i64 c1, .int .i64 0]) ∧ Mod z w' NoB) := fun z hz => by
      have := lcheck_any z n a cap l hz (by omega) HBD.out
      rw [hc1, hc] at this
      exact this
    rw [hc]
    have HOK : Hid (AllLf n none l) := by
      have h2 := hc
      unfold lchk at h2
      split at h2
      · cases h2
      · exact allLf_of h2
    clear hc hbn hbe hc1
    go_enter Tryz.func39, Tryz.ntmps39
    go_wp2_with fail
    rw [← hW, ← hh4]
    refine (HC.out _ (HL.out.mod HW.out)).mono ?_
    rintro e w1 ⟨rfl, hm⟩
    have HM : Hid (Mod w w1 NoB) := HW.out.trans hm (fun _ _ h => h)
    have l4 := World.block_lt_of_cell? _ _ ca0
    have HA : Hid (w1.cell? ⟨h4, 0, none⟩ = some (.int .u64 0) ∧ w1.cell? ⟨h4, 1, none⟩ = some (.slice none 0 0) ∧ w1.frozen? ⟨h4, 0, none⟩ = false ∧ w1.frozen? ⟨h4, 1, none⟩ = false ∧ h4 < w1.heap.size ∧ w.heap.size ≤ h4) :=
      ⟨keepc ca0 hm, keepc ca1 hm, (hm.frozen (p := ⟨h4, 0, none⟩) l4 (by simp [NoB])).trans cf0, (hm.frozen (p := ⟨h4, 1, none⟩) l4 (by simp [NoB])).trans cf1, Nat.lt_of_lt_of_le l4 hm.size, by omega⟩
    clear hm HW ca0 ca1 cf0 cf1 l4 hW hh4
    go_wp2_with fail
    obtain ⟨h8, hh8⟩ : ∃ h8, h8 = w1.heap.size := ⟨_, rfl⟩
    obtain ⟨w2, hw2⟩ : ∃ w2, w2 = w1.alloc (.cells #[.int .u64 n, .slice none 0 0] 25) := ⟨_, rfl⟩
    have HB0 : Hid (BSt w w2 h4 h8 n (.slice none 0 0) 0 (evs (l.take 0))) := by
      have hm2 : Mod w1 w2 NoB := by rw [hw2]; exact (Mod.refl _ _).alloc _
      obtain ⟨q1, q2, q3, q4, q5, q6⟩ := HA.out
      refine ⟨HM.out.trans hm2 (fun _ _ h => h), ⟨q6, by omega⟩, keepc q1 hm2, keepc q2 hm2, (hm2.frozen (p := ⟨h4, 0, none⟩) q5 (by simp [NoB])).trans q3, (hm2.frozen (p := ⟨h4, 1, none⟩) q5 (by simp [NoB])).trans q4, ?_, ?_, ?_, ?_, rfl, World.ownsRow_nil _ _ _ _⟩
      · rw [hw2, hh8]; exact World.cell?_alloc_at _ _ _ _ rfl
      · rw [hw2, hh8]; exact World.cell?_alloc_at _ _ _ _ rfl
      · rw [hw2, hh8]; simp
      · rw [hw2, hh8]; simp
    rw [← hw2, ← hh8]
    clear hw2 hh8
    go_loopw [25] (fun i wr => ∃ (k : Nat) (oa : Option Addr) (oc L : Nat), k ≤ l.length ∧ i = .int .i64 k ∧ Hid (BSt w wr h4 h8 n (.slice oa L oc) L (evs (l.take k)))) (fun i _ => l.length - (intOf i).toNat)
    case atStart => exact ⟨0, none, 0, 0, Nat.zero_le _, rfl, HB0.out⟩
    case round =>
      obtain ⟨k, oa, oc, L, hk, rfl, HI⟩ := hrel
      by_cases hlt : k < l.length
      · obtain ⟨b, off, x, rfl, hbw, hx, hC⟩ := (HL.out.mod HI.out.mod).at hlt
        have hki : (k : Int) < l.length := by omega
        have hLle : L ≤ 200000 := by
          have h1 := evs_len (l.take k)
          have h2 := HI.out.len
          rw [List.length_take] at h1
          omega
        obtain ⟨c0, c1', c2, c3⟩ := hC
        have HX := Lib.hid hx
        clear hx hbw
        obtain ⟨e0, he0⟩ : ∃ e0, e0 = wr.heap.size := ⟨_, rfl⟩
        obtain ⟨V, hV⟩ : ∃ V, V = wr.alloc (.cells #[.int .u32 x.e.u, .int .u32 x.e.v, .int .i64 x.fr, .int .i64 x.to] 81) := ⟨_, rfl⟩
        have HV : Hid (Mod wr V NoB) := by rw [hV]; exact (Mod.refl _ _).alloc _
        have HD : Hid (LfAt V e0 0 x) := by
          rw [hV, he0]
          exact ⟨World.cell?_alloc_at _ _ _ _ rfl, World.cell?_alloc_at _ _ _ _ rfl, World.cell?_alloc_at _ _ _ _ rfl, World.cell?_alloc_at _ _ _ _ rfl⟩
        have HE0 : Hid (wr.heap.size ≤ e0 ∧ e0 < V.heap.size) := ⟨by omega, by rw [hV, he0]; simp⟩
        go_upto_region 8 with (fail)
        rw [← hV, ← he0]
        clear hV he0 c0 c1' c2 c3
        have HS := Lib.hid (HI.out.quiet HV.out)
        obtain ⟨v0, v1, v2, v3⟩ := HD.out
        simp only [Nat.zero_add] at v1 v2 v3
        have b1 := HS.out.b1
        have f1 := HS.out.fb1
        have lb := World.block_lt_of_cell? _ _ b1
        have le := World.block_lt_of_cell? _ _ v0
        have hone : ∀ u ∈ encV ⟨x.fr, x.e, true⟩, u.oneCell' = true := by simp [encV, Value.oneCell']
        have hms : h8 + 1 ≤ V.heap.size := lb
        have hB1 : L + 1 ≤ maxLen := by unfold maxLen; omega
        have hB2 : (L + 1) * 24 ≤ 140737488355328 := by omega
        go_upto_region 9 with (at_builtin; refine wpList_append_lies _ rfl _ _ 23 rfl (h8 + 1) 62 i0 _ 4 24 Tryz.underlying23 hi hz0 hz1 hz2 rfl (by decide) (.slice oa L oc) L _ rfl (HS.out.row.alloc _) ⟨_, 0, none⟩ 1 1 (encV ⟨x.fr, x.e, true⟩) rfl rfl (World.news_of_block (MapKept.heap_alloc _ _).1) hone (by decide) hB1 hB2 (le_alloc hms) _ rfl ?_; intro g1 cap1 w8 hown hgrow hat hlt8; have H8 := Lib.hid (HS.out.app hown hgrow); clear hown hgrow hat hlt8 b1 f1; have b2 := H8.out.1.1; have f2 := H8.out.1.2)
        obtain ⟨Z, hZ⟩ : ∃ Z, Z = w8.setCell ⟨h8, 1, none⟩ (.slice (some ⟨g1, 0, none⟩) (L + 1) cap1) := ⟨_, rfl⟩
        have H9 : Hid (BSt w Z h4 h8 n (.slice (some ⟨g1, 0, none⟩) (L + 1) cap1) (L + 1) (evs (l.take k) ++ [⟨x.fr, x.e, true⟩]) ∧ Mod V Z (fun q => (Value.slice oa L oc).ownBlock = some q ∨ q = h8)) := by
          show _ ∧ _
          rw [hZ]; exact H8.out.2
        have hne : ¬ ((Value.slice oa L oc).ownBlock = some e0 ∨ e0 = h8) := by
          have h1 := HE0.out.1
          have h2 := World.block_lt_of_cell? _ _ HI.out.b0
          rintro (c | c)
          · have := (HI.out.own _ c).2; omega
          · rw [c] at h1; exact absurd h2 (Nat.not_lt.2 h1)
        have u0 := keepS v0 H9.out.2 hne
        have u1 := keepS v1 H9.out.2 hne
        have u2 := keepS v2 H9.out.2 hne
        have u3 := keepS v3 H9.out.2 hne
        rw [← hZ]
        clear hZ v0 v1 v2 v3 b2 f2 hne H8 hone hB1 hB2 hms lb le
        have ht := evs_take HX.out
        by_cases ht0 : 0 ≤ x.to
        · have hev : evs (l.take (k + 1)) = (evs (l.take k) ++ [⟨x.fr, x.e, true⟩]) ++ [⟨x.to, x.e, false⟩] := by
            rw [ht]; unfold evsOf; rw [if_pos ht0]; simp
          have HEV := Lib.hid hev
          clear hev ht
          have b1 := H9.out.1.b1
          have f1 := H9.out.1.fb1
          have lb := World.block_lt_of_cell? _ _ b1
          have le := World.block_lt_of_cell? _ _ u0
          have hone : ∀ u ∈ encV ⟨x.to, x.e, false⟩, u.oneCell' = true := by simp [encV, Value.oneCell']
          have hms : h8 + 1 ≤ Z.heap.size := lb
          have hB1 : L + 1 + 1 ≤ maxLen := by unfold maxLen; omega
          have hB2 : (L + 1 + 1) * 24 ≤ 140737488355328 := by omega
          go_upto_region 11 with (at_builtin; refine wpList_append_lies _ rfl _ _ 23 rfl (h8 + 1) 62 i0 _ 4 24 Tryz.underlying23 hi hz0 hz1 hz2 rfl (by decide) (.slice (some ⟨g1, 0, none⟩) (L + 1) cap1) (L + 1) _ rfl (H9.out.1.row.alloc _) ⟨_, 0, none⟩ 1 1 (encV ⟨x.to, x.e, false⟩) rfl rfl (World.news_of_block (MapKept.heap_alloc _ _).1) hone (by decide) hB1 hB2 (le_alloc hms) _ rfl ?_; intro g2 cap2 wA hown hgrow hat hlt8; have HA8 := Lib.hid (H9.out.1.app hown hgrow); clear hown hgrow hat hlt8 b1 f1; have b2 := HA8.out.1.1; have f2 := HA8.out.1.2)
          go_wp2_with fail
          go_roundw
          case rel => exact ⟨k + 1, some ⟨g2, 0, none⟩, cap2, L + 1 + 1, by omega, by go_num, by rw [HEV.out]; exact HA8.out.2.1⟩
          case measure => simp [intOf]; omega
        · have hev : evs (l.take (k + 1)) = evs (l.take k) ++ [⟨x.fr, x.e, true⟩] := by
            rw [ht]; unfold evsOf; rw [if_neg ht0]
          have HEV := Lib.hid hev
          clear hev ht
          go_wp2_with fail
          go_roundw
          case rel => exact ⟨k + 1, some ⟨g1, 0, none⟩, cap1, L + 1, by omega, by go_num, by rw [HEV.out]; exact H9.out.1⟩
          case measure => simp [intOf]; omega
      · have hkl : k = l.length := by omega
        have hI := HI.out
        rw [hkl, List.take_length] at hI
        have HB := Lib.hid hI
        clear hI hkl
        have hLL := HB.out.len
        subst hLL
        have b1 := HB.out.b1
        have f1 := HB.out.fb1
        have lb := World.block_lt_of_cell? _ _ b1
        have hel := evs_len l
        have HLE : Hid ((evs l).length ≤ 1000000) := by show _ ≤ _; omega
        clear hel
        have HN : Hid ((Value.slice oa (evs l).length oc).ownBlock ≠ some wr.heap.size) := fun c => Nat.lt_irrefl _ (HB.out.own _ c).2
        have HRW : Hid (∀ z, Mod wr z NoB → z.ownsRow (h8 + 1) 62 4 (.slice oa (evs l).length oc) (evs l).length ((evs l).flatMap encV)) := fun z hz => hz.row HB.out.row (fun _ _ c => c)
        go_upto_region 12 with (fail)
        go_region_held3 (fun z => z.cell? ⟨h8, 1, none⟩ = some (.slice oa (evs l).length oc))
          (first | exact b1 | exact (World.cell?_alloc_lt _ _ _ lb).trans b1 | exact H6.out.1.b1)
          (first
          | (go_at_call 72; refine (byV_new _).mono ?_; rintro e w5 ⟨rfl, rfl⟩)
          | (go_at_call 71; refine (sortEv_row _ (h8 + 1) _ _ (evs l) (HRW.out _ (Mod.alloc (Mod.drew (Mod.refl _ _)) _)) HLE.out (World.cell?_alloc_at _ _ _ _ rfl) HN.out).mono ?_; rintro e w6 ⟨rfl, l', k1, k2, k3, k4, k5⟩; have H6 := Lib.hid (And.intro (HB.out.sorted (Mod.alloc (Mod.drew (Mod.refl _ _)) _) k1 k4 k5) (And.intro k2 k3)); clear k1 k2 k3 k4 k5))
        all_goals
          have q0 := H6.out.1.a0
          have q1 := H6.out.1.a1
          have q2 := H6.out.1.fa0
          have q3 := H6.out.1.fa1
          have q4 := H6.out.1.b0
          have q5 := H6.out.1.b1
          clear b1 f1 lb
          go_wp2_with fail
          have hl' : l' = putAll before (evs l) := sort_back HOK.out H6.out.2.2 H6.out.2.1
          subst hl'
          obtain ⟨z, hz⟩ : ∃ z, z = (w6.setCell ⟨h4, 0, none⟩ (.int .u64 n)).setCell ⟨h4, 1, none⟩ (.slice oa (evs l).length oc) := ⟨_, rfl⟩
          have h46 : Mod w6 z (OneB h4) := by
            rw [hz]; exact (Mod.set1 w6 h4 0 (.int .u64 n)).setG _
          have hne : ¬ (Value.slice oa (evs l).length oc).ownBlock = some h4 := fun c => by
            have := (H6.out.1.own _ c).1
            have := H6.out.1.hh.2
            omega
          have HZ : Hid (Evs z oa (putAll before (evs l)) ∧ (evs l).length = (putAll before (evs l)).length ∧ Mod w z NoB ∧ ∀ p, oa = some p → w.heap.size ≤ p.block) := by
            have hrow := h46.row H6.out.1.row (fun q hq c => hne (by rw [hq, show q = h4 from c]))
            refine ⟨evs_of_row H6.out.1.len.symm hrow, H6.out.1.len, H6.out.1.mod.trans h46 (fun i hi c => by
              have h1 : i = h4 := c
              have := H6.out.1.hh.1
              omega), fun p hp => ?_⟩
            have h1 := (H6.out.1.own p.block (by rw [hp]; rfl)).1
            have h2 := H6.out.1.hh
            omega
          have z0 : z.cell? ⟨h4, 0, none⟩ = some (.int .u64 n) := by
            rw [hz, World.cell?_setCell_other _ _ _ _ (by simp)]; exact World.cell?_setCell_same _ _ _ q0
          have z1 : z.cell? ⟨h4, 1, none⟩ = some (.slice oa (evs l).length oc) := by
            rw [hz]; exact World.cell?_setCell_same _ _ _ (by rw [World.cell?_setCell_other _ _ _ _ (by simp)]; exact q1)
          rw [← hz]
          clear hz q0 q1 q2 q3 q4 q5 h46 hne
          exact bodyPost_ret (v := .tuple #[.agg #[.int .u64 n, .slice oa (evs l).length oc], .int .i64 0]) (by simp [results, Tryz.results39, go_sem, z0, z1]) rfl ⟨oa, oc, by rw [← HZ.out.2.1]; rfl, HZ.out.1, HZ.out.2.2⟩
  · have hbn : backN n l = 0 := if_neg hc
    have hbe : backE n l = [] := if_neg hc
    rw [hbn, hbe]
    obtain ⟨c2, hc2⟩ : ∃ c2, (lchk n l).2 = c2 := ⟨_, rfl⟩
    have HC : Hid (∀ z, Lvs z a l → Calls Tryz.prog 38 #[.int .u64 n, .slice a l.length cap] z fun e w' => e = .returned (.tuple #[.int .i64 (lchk n l).1, .int .i64 c2]) ∧ Mod z w' NoB) := fun z hz => by
      have := lcheck_any z n a cap l hz (by omega) HBD.out
      rw [hc2] at this
      exact this
    rw [hc2]
    have hcne : ((c2 : Int) != 0) = true := by rw [← hc2]; simpa using hc
    clear hc hbn hbe hc2
    go_enter Tryz.func39, Tryz.ntmps39
    go_wp2_with fail
    rw [← hW, ← hh4]
    refine (HC.out _ (HL.out.mod HW.out)).mono ?_
    rintro e w1 ⟨rfl, hm⟩
    have HM : Hid (Mod w w1 NoB) := HW.out.trans hm (fun _ _ h => h)
    have l4 := World.block_lt_of_cell? _ _ ca0
    have d0 := keepc ca0 hm
    have d1 := keepc ca1 hm
    have e0 := (hm.frozen (p := ⟨h4, 0, none⟩) l4 (by simp [NoB])).trans cf0
    have e1 := (hm.frozen (p := ⟨h4, 1, none⟩) l4 (by simp [NoB])).trans cf1
    have HH : Hid (w.heap.size ≤ h4) := by show w.heap.size ≤ h4; omega
    clear hm HW ca0 ca1 cf0 cf1 l4 hW hh4
    go_wp2_with fail
    obtain ⟨z, hz⟩ : ∃ z, z = (w1.setCell ⟨h4, 0, none⟩ (.int .u64 0)).setCell ⟨h4, 1, none⟩ (.slice none 0 0) := ⟨_, rfl⟩
    have HZ : Hid (Mod w z NoB) := by
      show Mod w z NoB
      rw [hz]
      exact (HM.out.setCell (p := ⟨h4, 0, none⟩) (fun c => absurd c (Nat.not_lt.2 HH.out)) _).setCell (p := ⟨h4, 1, none⟩) (fun c => absurd c (Nat.not_lt.2 HH.out)) _
    have z0 : z.cell? ⟨h4, 0, none⟩ = some (.int .u64 0) := by
      rw [hz, World.cell?_setCell_other _ _ _ _ (by simp)]; exact World.cell?_setCell_same _ _ _ d0
    have z1 : z.cell? ⟨h4, 1, none⟩ = some (.slice none 0 0) := by
      rw [hz]; exact World.cell?_setCell_same _ _ _ (by rw [World.cell?_setCell_other _ _ _ _ (by simp)]; exact d1)
    rw [← hz]
    clear hz d0 d1 e0 e1
    exact bodyPost_ret (v := .tuple #[.agg #[.int .u64 0, .slice none 0 0], .int .i64 c2]) (by simp [results, Tryz.results39, go_sem, z0, z1]) rfl ⟨none, 0, rfl, Or.inl rfl, HZ.out, fun p hp => by cases hp⟩
theorem back_any (w : World) (n : Int) (a : Option Addr) (cap : Nat) (l : List Lf) (hL : Lvs w a l) (hl : l.length ≤ 100000) (hb : ∀ x ∈ l, EdB x.e) :
    Calls Tryz.prog 39 #[.int .u64 n, .slice a l.length cap] w fun e w' =>
      ∃ a' cap', e = .returned (.tuple #[.agg #[.int .u64 (backN n l), .slice a' (backE n l).length cap'], .int .i64 (lchk n l).2]) ∧ Evs w' a' (backE n l) ∧ Mod w w' NoB :=
  (back_yg w n a cap l hL hl hb).mono fun _ _ ⟨a', c, h1, h2, h3, _⟩ => ⟨a', c, h1, h2, h3⟩
end Go.Proofs.YtppambkffgmkgaaGreatDoor
end

section
/- The statements' own histories: the first loop of History. -/
namespace Go.Proofs.YtppambkffgmkgaaGreatDoor
open Go.RowKit
set_option linter.unusedVariables false

/-- What History's first loop keeps. -/
structure HSt (w wr : World) (h4 h5 : Nat) (n : Int) (i : Nat) (t : Int) (oa : Option Addr) (oc : Nat) (T : List Ev) : Prop where
  bst : BSt w wr h4 h5 n (.slice none 0 0) 0 []
  evs : Evs wr oa T
  plain : Plain oa
  cap : T.length ≤ oc
  len : T.length ≤ 40
  times : Times n t T
  tlo : 0 ≤ t
  thi : t ≤ 2 + i * 40000
  sep : ∀ p, oa = some p → p.block ≠ h5
theorem HSt.quiet {w wr w' : World} {h4 h5 i oc : Nat} {n t : Int} {oa : Option Addr} {T : List Ev} (h : HSt w wr h4 h5 n i t oa oc T) (hm : Mod wr w' NoB) : HSt w w' h4 h5 n i t oa oc T :=
  ⟨h.bst.quiet hm, h.evs.mod hm, h.plain, h.cap, h.len, h.times, h.tlo, h.thi, h.sep⟩
theorem HSt.later {w wr : World} {h4 h5 i oc : Nat} {n t : Int} {oa : Option Addr} {T : List Ev} (h : HSt w wr h4 h5 n i t oa oc T) {t' : Int} (h1 : t ≤ t') {i' : Nat} (h2 : t' ≤ 2 + i' * 40000) : HSt w wr h4 h5 n i' t' oa oc T :=
  ⟨h.bst, h.evs, h.plain, h.cap, h.len, h.times.mono h1, by have := h.tlo; omega, h2, h.sep⟩

theorem flag_get : ∀ (T : List Ev) (there : Ed → Bool) (j : Nat) (x : Ev), T[j]? = some x → (flag there T)[j]? = some { x with add := !(((flag there T).take j).foldl turn there) x.e }
  | [], _, j, x, h => by simp at h
  | y :: T, there, 0, x, h => by
    cases h
    simp [flag]
  | y :: T, there, j + 1, x, h => by
    have ih := flag_get T (turn there { y with add := !there y.e }) j x (by simpa using h)
    simp only [flag, List.getElem?_cons_succ, List.take_succ_cons, List.foldl_cons]
    exact ih
theorem turnL_len {l n' : List Ed} {e : Ev} (h : turnL l e = some n') : n'.length ≤ l.length + 1 := by
  have hi : ∀ (x : Ed) (l : List Ed), (insL x l).length = l.length + 1 := by
    intro x l
    induction l with
    | nil => rfl
    | cons y l ih => simp only [insL]; split <;> simp [ih]
  unfold turnL at h
  split at h
  · cases h
  · split at h
    · cases h; rw [hi]; exact Nat.le_refl _
    · cases h; exact Nat.le_trans (List.length_eraseIdx_le _ _) (by omega)

/-- What History's second loop keeps. -/
structure GSt (w wr : World) (h4 h5 : Nat) (n : Int) (oa : Option Addr) (T : List Ev) (j : Nat) (na : Option Addr) (nc : Nat) (N : List Ed) (ea : Option Addr) (ec : Nat) : Prop where
  bst : BSt w wr h4 h5 n (.slice ea j ec) j ((flag (fun _ => false) T).take j)
  evs : Evs wr oa T
  now : NowOk N (thereOf ((flag (fun _ => false) T).take j))
  eds : Eds wr na N
  plain : Plain na
  cap : N.length ≤ nc
  len : N.length ≤ j
  sa : ∀ p, oa = some p → p.block ≠ h5 ∧ (Value.slice ea j ec).ownBlock ≠ some p.block
  sn : N = [] ∨ ∀ p, na = some p → p.block ≠ h5 ∧ (Value.slice ea j ec).ownBlock ≠ some p.block
/-- Beside a change of a young block. -/
theorem Evs.young {w w' : World} {S : Nat → Prop} {a : Option Addr} {l : List Ev} (h : Evs w a l) (hm : Mod w w' S) (hs : ∀ q, S q → w.heap.size ≤ q) : Evs w' a l := h.modS hm (fun b hb _ c => Nat.not_lt.2 (hs b c) hb)
theorem Eds.young {w w' : World} {S : Nat → Prop} {a : Option Addr} {l : List Ed} (h : Eds w a l) (hm : Mod w w' S) (hs : ∀ q, S q → w.heap.size ≤ q) : Eds w' a l := by
  rcases h with h | ⟨b, off, rfl, hb, h⟩
  · exact Or.inl h
  · have hn : ¬ S b := fun c => Nat.not_lt.2 (hs b c) hb
    exact Or.inr ⟨b, off, rfl, Nat.lt_of_lt_of_le hb hm.size, fun i x hx => ⟨keepS (h i x hx).1 hm hn, keepS (h i x hx).2 hm hn⟩⟩
/-- Behind an append to the history. -/
theorem GSt.next {w wr w7 Z : World} {h4 h5 j nc ec nc2 ec2 g1 : Nat} {n : Int} {oa na ea na2 : Option Addr} {T : List Ev} {N N2 : List Ed} {x : Ev} {e : Ev} (h : GSt w wr h4 h5 n oa T j na nc N ea ec) (hx : T[j]? = some x) (h7 : Mod wr w7 NoB)
    (hm : Mod w7 Z (fun q => (Value.slice ea j ec).ownBlock = some q ∨ q = h5)) (hb : BSt w Z h4 h5 n (.slice (some ⟨g1, 0, none⟩) (j + 1) ec2) (j + 1) ((flag (fun _ => false) T).take j ++ [e])) (htk : (flag (fun _ => false) T).take (j + 1) = (flag (fun _ => false) T).take j ++ [e])
    (hn : NowOk N2 (thereOf ((flag (fun _ => false) T).take (j + 1)))) (k1 : Eds w7 na2 N2) (k2 : Plain na2 ∧ Yg wr na2) (k3 : N2.length ≤ nc2) (hl : N2.length ≤ N.length + 1) (hat : (Value.slice ea j ec).ownBlock = some g1 ∨ w7.heap.size ≤ g1) :
    GSt w Z h4 h5 n oa T (j + 1) na2 nc2 N2 (some ⟨g1, 0, none⟩) ec2 := by
  have l5 := World.block_lt_of_cell? _ _ h.bst.b0
  have hown : ∀ q, (Value.slice ea j ec).ownBlock = some q → q < wr.heap.size := fun q hq => (h.bst.own q hq).2
  have so : ∀ p, oa = some p → ¬ ((Value.slice ea j ec).ownBlock = some p.block ∨ p.block = h5) := fun p hp c => by
    obtain ⟨c1, c2⟩ := h.sa p hp
    rcases c with c | c
    · exact c2 c
    · exact c1 c
  have sn2 : ∀ p, na2 = some p → ¬ ((Value.slice ea j ec).ownBlock = some p.block ∨ p.block = h5) := fun p hp c => by
    have h1 := k2.2 p hp
    rcases c with c | c
    · exact Nat.not_lt.2 h1 (hown _ c)
    · rw [c] at h1; exact Nat.not_lt.2 h1 l5
  have hE := h.evs.mod h7
  obtain ⟨bo, offo, _, hoa, hbo, _, _⟩ := hE.at (List.getElem?_eq_some_iff.1 hx).1
  have hne2 : ∀ p, na2 = some p → p.block ≠ h5 := fun p hp c => sn2 p hp (Or.inr c)
  refine ⟨by rw [htk]; exact hb, hE.modS hm (fun b _ hp c => ?_), hn, ?_, k2.1, k3, by have := h.len; omega, fun p hp => ⟨(h.sa p hp).1, ?_⟩, ?_⟩
  · obtain ⟨p, hp1, hp2⟩ := hp
    subst hp2
    exact so p hp1 c
  · rcases k1 with c | ⟨b, off, rfl, hb', hc⟩
    · exact Or.inl c
    · have hnb := sn2 ⟨b, off, none⟩ rfl
      exact Or.inr ⟨b, off, rfl, Nat.lt_of_lt_of_le hb' hm.size, fun i y hy => ⟨keepS (hc i y hy).1 hm hnb, keepS (hc i y hy).2 hm hnb⟩⟩
  · rw [hoa] at hp
    cases hp
    intro c
    have c' : g1 = bo := by simpa [Value.ownBlock] using c
    rcases hat with q | q
    · exact (h.sa ⟨bo, offo, none⟩ hoa).2 (by rw [q, c'])
    · omega
  · rcases k1 with c | ⟨b, off, rfl, hb', _⟩
    · exact Or.inl c
    · refine Or.inr (fun p hp => ⟨hne2 p hp, fun c => ?_⟩)
      cases hp
      have c' : g1 = b := by simpa [Value.ownBlock] using c
      rcases hat with q | q
      · exact sn2 _ rfl (Or.inl (by rw [q, c']))
      · omega

theorem app_at {w : World} {o : Obj} {v : Value} {g : Nat} (h : v.ownBlock = some g ∨ g = (w.alloc o).heap.size) : v.ownBlock = some g ∨ w.heap.size ≤ g := by
  rcases h with h | h
  · exact Or.inl h
  · right; rw [h]; simp

theorem set_young {w w' : World} {S : Nat → Prop} (h : Mod w w' S) {g i : Nat} (hg : w.heap.size ≤ g) (v : Value) : Mod w (w'.setCell ⟨g, i, none⟩ v) S := h.setCell (p := ⟨g, i, none⟩) (fun c => absurd c (Nat.not_lt.2 hg)) v
theorem new_lt (w : World) (o : Obj) : w.heap.size < (w.alloc o).drew.heap.size := by show _ < (w.alloc o).heap.size; simp
theorem new_cell (w : World) (j : Nat) (v : Value) (cs : Array Value) (t : TypeId) (h : cs[j]? = some v) : (w.alloc (.cells cs t)).drew.cell? ⟨w.heap.size, j, none⟩ = some v := (World.cell?_alloc_at _ _ _ _ rfl).trans h
theorem new_froz (w : World) (j : Nat) (cs : Array Value) (t : TypeId) : (w.alloc (.cells cs t)).drew.frozen? ⟨w.heap.size, j, none⟩ = false := by
  show (w.alloc (.cells cs t)).frozen? ⟨w.heap.size, j, none⟩ = false
  simp

set_option maxRecDepth 100000 in
set_option maxHeartbeats 8000000 in
theorem hist_top (w : World) (k : Int) (a : Option Addr) (len cap : Nat) (zs : List Int) (hk : 0 ≤ k ∧ k ≤ 255) (hA : IsRow .u8 w a len cap zs) (hlen : len ≤ 90) :
    Calls Tryz.prog 7 #[.int .u8 k, .slice a len cap] w fun r w' => ∃ T top a' cap', r = .returned (.agg #[.int .u64 (vertsOf k.toNat), .slice a' T.length cap']) ∧ Times (vertsOf k.toNat) top T ∧ top < maxT ∧ T.length ≤ 40 ∧ Evs w' a' (flag (fun _ => false) T) ∧ Plain a' ∧ T.length ≤ cap' ∧ Mod w w' NoB := by
  have HA := Lib.hid hA
  clear hA
  have hmx := mixed
  have hnb := vertsOf_bd k.toNat
  obtain ⟨n, hn⟩ : ∃ n, vertsOf k.toNat = n := ⟨_, rfl⟩
  have HV : Hid (∀ z, Calls Tryz.prog 18 #[.int .u8 k] z fun e w' => e = .returned (.int .u64 n) ∧ Mod z w' NoB) := fun z => by rw [← hn]; exact verts_any z k hk
  rw [hn] at hnb ⊢
  clear hn
  obtain ⟨h4, hh4⟩ : ∃ h4, h4 = w.heap.size := ⟨_, rfl⟩
  obtain ⟨W, hW⟩ : ∃ W, W = w.alloc (.cells #[.int .u64 0, .slice none 0 0] 25) := ⟨_, rfl⟩
  have HW : Hid (Mod w W NoB) := by rw [hW]; exact (Mod.refl _ _).alloc _
  have ca0 : W.cell? ⟨h4, 0, none⟩ = some (.int .u64 0) := by rw [hW, hh4]; exact World.cell?_alloc_at _ _ _ _ rfl
  have ca1 : W.cell? ⟨h4, 1, none⟩ = some (.slice none 0 0) := by rw [hW, hh4]; exact World.cell?_alloc_at _ _ _ _ rfl
  have cf0 : W.frozen? ⟨h4, 0, none⟩ = false := by rw [hW, hh4]; simp
  have cf1 : W.frozen? ⟨h4, 1, none⟩ = false := by rw [hW, hh4]; simp
  go_enter Tryz.func7, Tryz.ntmps7
  go_wp2_with fail
  rw [← hW, ← hh4]
  refine (HV.out _).mono ?_
  rintro e w1 ⟨rfl, hm⟩
  have HM : Hid (Mod w w1 NoB) := HW.out.trans hm (fun _ _ h => h)
  have l4 := World.block_lt_of_cell? _ _ ca0
  have HAA : Hid (w1.cell? ⟨h4, 0, none⟩ = some (.int .u64 0) ∧ w1.cell? ⟨h4, 1, none⟩ = some (.slice none 0 0) ∧ w1.frozen? ⟨h4, 0, none⟩ = false ∧ w1.frozen? ⟨h4, 1, none⟩ = false ∧ h4 < w1.heap.size ∧ w.heap.size ≤ h4) :=
    ⟨keepc ca0 hm, keepc ca1 hm, (hm.frozen (p := ⟨h4, 0, none⟩) l4 (by simp [NoB])).trans cf0, (hm.frozen (p := ⟨h4, 1, none⟩) l4 (by simp [NoB])).trans cf1, Nat.lt_of_lt_of_le l4 hm.size, by omega⟩
  clear hm HW ca0 ca1 cf0 cf1 l4 hW hh4
  go_wp2_with fail
  obtain ⟨h5, hh5⟩ : ∃ h5, h5 = w1.heap.size := ⟨_, rfl⟩
  obtain ⟨w2, hw2⟩ : ∃ w2, w2 = w1.alloc (.cells #[.int .u64 n, .slice none 0 0] 25) := ⟨_, rfl⟩
  have HB0 : Hid (HSt w w2 h4 h5 n 0 (k % 3) none 0 []) := by
    have hm2 : Mod w1 w2 NoB := by rw [hw2]; exact (Mod.refl _ _).alloc _
    obtain ⟨q1, q2, q3, q4, q5, q6⟩ := HAA.out
    refine ⟨⟨HM.out.trans hm2 (fun _ _ h => h), ⟨q6, by omega⟩, keepc q1 hm2, keepc q2 hm2, (hm2.frozen (p := ⟨h4, 0, none⟩) q5 (by simp [NoB])).trans q3, (hm2.frozen (p := ⟨h4, 1, none⟩) q5 (by simp [NoB])).trans q4, ?_, ?_, ?_, ?_, rfl, World.ownsRow_nil _ _ _ _⟩, Or.inl rfl, Or.inl rfl, by simp, by simp, Times.nil _ _, by omega, by omega, fun p hp => by cases hp⟩
    · rw [hw2, hh5]; exact World.cell?_alloc_at _ _ _ _ rfl
    · rw [hw2, hh5]; exact World.cell?_alloc_at _ _ _ _ rfl
    · rw [hw2, hh5]; simp
    · rw [hw2, hh5]; simp
  rw [← hw2, ← hh5]
  clear hw2 hh5
  obtain ⟨t0, ht0⟩ : ∃ t0, k % 3 = t0 := ⟨_, rfl⟩
  rw [ht0] at HB0
  rw [ht0]
  clear ht0
  go_loopw [6, 7, 8] (fun v6 v7 v8 wr => ∃ (i : Nat) (t : Int) (oa : Option Addr) (oc : Nat) (T : List Ev), i ≤ len + 2 ∧ v6 = .int .i64 t ∧ v7 = .slice oa T.length oc ∧ v8 = .int .i64 i ∧ Hid (HSt w wr h4 h5 n i t oa oc T)) (fun _ _ v8 _ => len + 3 - (intOf v8).toNat)
  case atStart => exact ⟨0, t0, none, 0, [], by omega, rfl, rfl, rfl, HB0.out⟩
  case round =>
    obtain ⟨i, t, oa, oc, T, hi, rfl, rfl, rfl, HI⟩ := hrel
    have hT40 := HI.out.len
    have htl := HI.out.tlo
    have hth := HI.out.thi
    have hw2 : IntKind.i64.wrap ((i : Int) + 2) = (i : Int) + 2 := IntWalk.i64_in _ (by omega)
    by_cases hgo : i + 2 < len ∧ T.length < 40
    · obtain ⟨hi2, hT2⟩ := hgo
      obtain ⟨b, off, hab, hbw, hz0, hwf0⟩ := isrow_at HA.out (show i < len by omega)
      obtain ⟨b', off', hab', _, hz1, hwf1⟩ := isrow_at HA.out (show i + 1 < len by omega)
      obtain ⟨b'', off'', hab'', _, hz2, hwf2⟩ := isrow_at HA.out hi2
      subst hab
      cases hab'
      cases hab''
      obtain ⟨z0, hz0e⟩ : ∃ z, zs.getD i 0 = z := ⟨_, rfl⟩
      obtain ⟨z1, hz1e⟩ : ∃ z, zs.getD (i + 1) 0 = z := ⟨_, rfl⟩
      obtain ⟨z2, hz2e⟩ : ∃ z, zs.getD (i + 2) 0 = z := ⟨_, rfl⟩
      rw [hz0e] at hz0 hwf0
      rw [hz1e] at hz1 hwf1
      rw [hz2e] at hz2 hwf2
      have c0 := (HI.out.bst.mod.cell hbw (by simp [NoB])).trans hz0
      have c1 := (HI.out.bst.mod.cell (p := ⟨b, off + (i + 1), none⟩) hbw (by simp [NoB])).trans hz1
      have c2 := (HI.out.bst.mod.cell (p := ⟨b, off + (i + 2), none⟩) hbw (by simp [NoB])).trans hz2
      obtain ⟨bz0, bz1⟩ := bounds_u8 hwf0
      have hb1 := bounds_u8 hwf1
      have hb2 := bounds_u8 hwf2
      have hii : (i : Int) < len := by omega
      have hii2 : (i : Int) + 2 < len := by omega
      have hii1 : (i : Int) + 1 < len := by omega
      have hT2i : (T.length : Int) < 40 := by omega
      have htq : IntKind.i64.wrap (t + z0 % 4) = t + z0 % 4 := IntWalk.i64_in _ (by omega)
      clear hz0 hz1 hz2 hwf0 hwf1 hwf2 hz0e hz1e hz2e
      go_upto_region 8 with (fail)
      obtain ⟨ta, hta⟩ : ∃ ta, t + z0 % 4 = ta := ⟨_, rfl⟩
      rw [hta]
      have hta2 : t ≤ ta ∧ ta ≤ t + 3 := by omega
      clear htq hta
      by_cases h240 : 240 < z0
      focus
        have hz40 : z0 % 40 = z0 - 240 := by omega
        have hpw : (1 : Int) ≤ 2 ^ (z0 - 240).toNat ∧ (2 : Int) ^ (z0 - 240).toNat ≤ 32768 := by
          have h1 : 2 ^ (z0 - 240).toNat ≤ 2 ^ 15 := Nat.pow_le_pow_right (by omega) (by omega)
          have h2 : 1 ≤ 2 ^ (z0 - 240).toNat := Nat.one_le_two_pow
          have h3 : ((2 ^ (z0 - 240).toNat : Nat) : Int) = (2 : Int) ^ (z0 - 240).toNat := by simp
          constructor
          · rw [← h3]; exact_mod_cast h2
          · rw [← h3]; exact_mod_cast h1
        obtain ⟨P, hP⟩ : ∃ P, (2 : Int) ^ (z0 - 240).toNat = P := ⟨_, rfl⟩
        rw [hP] at hpw
        have hw3 : wrap64 P = P := by unfold wrap64; omega
        have hw4 : wrap64 (ta + P) = ta + P := by unfold wrap64; omega
        go_upto_region 10 with (fail)
        obtain ⟨tb, htb⟩ : ∃ tb, ta + P = tb := ⟨_, rfl⟩
        rw [htb]
        have htb2 : t ≤ tb ∧ tb ≤ t + 40000 := by omega
        clear hw3 hw4 hpw hP hz40 htb
      rotate_left
      focus
        go_upto_region 10 with (fail)
        obtain ⟨tb, htb⟩ : ∃ tb, ta = tb := ⟨_, rfl⟩
        have htb2 : t ≤ tb ∧ tb ≤ t + 40000 := by omega
        rw [htb]
        clear htb
      all_goals
        have HLt := Lib.hid (HI.out.later htb2.1 (i' := i + 3) (by omega))
        clear c0 h240 hta2 htl hth hT40 hii bz0 bz1
        have n0 := HI.out.bst.b0
        have ln := World.block_lt_of_cell? _ _ n0
        have hw1 : IntKind.i64.wrap ((i : Int) + 1) = (i : Int) + 1 := IntWalk.i64_in _ (by omega)
        have hti1 : ((i : Int) + 1).toNat = i + 1 := by omega
        have hti2 : ((i : Int) + 2).toNat = i + 2 := by omega
        have hp1 : (0 : Int) ≤ (i : Int) + 1 := by omega
        have hp2 : (0 : Int) ≤ (i : Int) + 2 := by omega
        go_cut [9, 10] (fun v9 v10 wc => ∃ g, v9 = .pointer (some ⟨g, 0, none⟩) ∧ v10 = .bool (edgeOf z1 z2 n).isSome ∧ Hid (Mod wr wc NoB ∧ EdAt wc g 0 (edgeOr z1 z2 n)))
        case first =>
          go_region_held3 (fun z => z.cell? ⟨b, off + (i + 1), none⟩ = some (.int .u8 z1) ∧ z.cell? ⟨b, off + (i + 2), none⟩ = some (.int .u8 z2) ∧ z.cell? ⟨h5, 0, none⟩ = some (.int .u64 n))
            (first | exact ⟨c1, c2, n0⟩ | exact ⟨keepc c1 ((Mod.drew (Mod.refl wr NoB)).alloc _), keepc c2 ((Mod.drew (Mod.refl wr NoB)).alloc _), keepc n0 ((Mod.drew (Mod.refl wr NoB)).alloc _)⟩ | exact ⟨keepc c1 (Mod.drew (Mod.alloc (Mod.refl wr NoB) _)), keepc c2 (Mod.drew (Mod.alloc (Mod.refl wr NoB) _)), keepc n0 (Mod.drew (Mod.alloc (Mod.refl wr NoB) _))⟩ | exact ⟨keepc c1 H5.out, keepc c2 H5.out, keepc n0 H5.out⟩ | exact ⟨keepc c1 (H5.out.alloc _), keepc c2 (H5.out.alloc _), keepc n0 (H5.out.alloc _)⟩ | exact ⟨keepc c1 (set_young (set_young H5.out HG.out _) HG.out _), keepc c2 (set_young (set_young H5.out HG.out _) HG.out _), keepc n0 (set_young (set_young H5.out HG.out _) HG.out _)⟩)
            (first
            | (go_at_call 19; refine (edge_any _ z1 z2 n hb1 hb2 hnb).mono ?_; rintro r w5 ⟨rfl, hm5⟩; have H5 := Lib.hid (Mod.trans (Mod.drew (Mod.refl wr NoB)) hm5 (fun _ _ h => h)); have HG := Lib.hid H5.out.size; clear hm5)
            | (go_at_call 19; refine (edge_any _ z1 z2 n hb1 hb2 hnb).mono ?_; rintro r w5 ⟨rfl, hm5⟩; have e0 := keepc (new_cell wr 0 (.int .u32 0) #[.int .u32 0, .int .u32 0] 57 rfl) hm5; have e1 := keepc (new_cell wr 1 (.int .u32 0) #[.int .u32 0, .int .u32 0] 57 rfl) hm5; have fe0 := (hm5.frozen (p := ⟨wr.heap.size, 0, none⟩) (new_lt wr _) (by simp [NoB])).trans (new_froz wr 0 _ _); have fe1 := (hm5.frozen (p := ⟨wr.heap.size, 1, none⟩) (new_lt wr _) (by simp [NoB])).trans (new_froz wr 1 _ _); have H5 := Lib.hid (Mod.trans (Mod.drew (Mod.alloc (Mod.refl wr NoB) _)) hm5 (fun _ _ h => h)); have HG := Lib.hid (Nat.le_refl wr.heap.size); clear hm5))
          all_goals
            go_wp2_with fail
            go_meet
          all_goals
            first
            | (refine ⟨_, rfl, rfl, H5.out.alloc _, ?_, ?_⟩
               · exact World.cell?_alloc_at _ _ _ _ rfl
               · exact World.cell?_alloc_at _ _ _ _ rfl)
            | (refine ⟨_, rfl, rfl, set_young (set_young H5.out HG.out _) HG.out _, ?_, ?_⟩
               · rw [World.cell?_setCell_other _ _ _ _ (by simp)]; exact World.cell?_setCell_same _ _ _ e0
               · exact World.cell?_setCell_same _ _ _ (by rw [World.cell?_setCell_other _ _ _ _ (by simp)]; exact e1))
        case rest =>
          obtain ⟨g, rfl, rfl, HC⟩ := hcut
          have HS3 := Lib.hid (HLt.out.quiet HC.out.1)
          have d0 := HC.out.2.1
          have d1 := HC.out.2.2
          simp only [Nat.zero_add] at d1
          clear c1 c2 n0 ln hw1 hti1 hti2 hp1 hp2 hii1 hw2
          have hw5 : IntKind.i64.wrap ((i : Int) + 3) = (i : Int) + 3 := IntWalk.i64_in _ (by omega)
          cases hed : edgeOf z1 z2 n with
          | none =>
            clear d0 d1
            go_wp2_with fail
            go_roundw
            case rel => exact ⟨i + 3, tb, oa, oc, T, by omega, rfl, rfl, by go_num, HS3.out⟩
            case measure => simp [intOf]; omega
          | some x =>
            have hx : edgeOr z1 z2 n = x := by unfold edgeOr; rw [hed]; rfl
            rw [hx] at d0 d1
            have hr := edgeOf_right hnb.1 hed
            have HR := Lib.hid hr
            clear hx hr hed
            go_wp2_with fail
            refine (sins_any _ oa oc T ⟨tb, x, false⟩ HS3.out.evs HS3.out.plain (by omega) HS3.out.cap HS3.out.times.sorted (fun y hy => (HS3.out.times.bd y hy).2.2.2.2)).mono ?_
            rintro r w6 ⟨oa', oc', rfl, q1, q2, q3, hm6⟩
            have H6 : Hid (HSt w w6 h4 h5 n (i + 3) tb oa' oc' (putNew ⟨tb, x, false⟩ T)) :=
              ⟨HS3.out.bst.quiet hm6, q1, q2.1, q3, Nat.le_trans (putNew_len _ _) (by omega), HS3.out.times.put HS3.out.tlo (Int.le_refl _) HR.out, HS3.out.tlo, HS3.out.thi, fun p hp => by
                rcases q2.2 with c | c
                · exact HS3.out.sep p (by rw [← c]; exact hp)
                · have h1 := c p hp
                  have h2 := World.block_lt_of_cell? _ _ HS3.out.bst.b0
                  intro hc
                  rw [hc] at h1
                  exact Nat.not_lt.2 h1 h2⟩
            clear q1 q2 q3 hm6 d0 d1
            go_wp2_with fail
            go_roundw
            case rel => exact ⟨i + 3, tb, oa', oc', putNew ⟨tb, x, false⟩ T, by omega, rfl, rfl, by go_num, H6.out⟩
            case measure => simp [intOf]; omega
    · have HX : Hid (Mod w wr NoB) := HI.out.bst.mod
      by_cases hi2 : i + 2 < len
      focus
        have hT2 : decide ((T.length : Int) < 40) = false := decide_eq_false (by omega)
        have hii2 : (i : Int) + 2 < len := by omega
        go_upto_region 13 with (fail)
      rotate_left
      focus
        have hii2 : decide ((i : Int) + 2 < len) = false := decide_eq_false (by omega)
        go_upto_region 13 with (fail)
      all_goals
        clear hgo hi2 hii2 HX hw2 htl hth
        have HG0 : Hid (GSt w wr h4 h5 n oa T 0 none 0 [] none 0) := ⟨HI.out.bst, HI.out.evs, NowOk.nil, Or.inl rfl, Or.inl rfl, by simp, by simp, fun p hp => ⟨HI.out.sep p hp, by simp [Value.ownBlock]⟩, Or.inl rfl⟩
        have HTI := Lib.hid (And.intro HI.out.times (And.intro HI.out.len (show t < maxT by have := HI.out.thi; unfold maxT; omega)))
        go_wp2_with fail
        go_loopw [11, 12] (fun v11 v12 wr => ∃ (j : Nat) (na : Option Addr) (nc : Nat) (N : List Ed) (ea : Option Addr) (ec : Nat), j ≤ T.length ∧ v11 = .slice na N.length nc ∧ v12 = .int .i64 j ∧ Hid (GSt w wr h4 h5 n oa T j na nc N ea ec)) (fun _ v12 _ => T.length + 1 - (intOf v12).toNat)
        case atStart => exact ⟨0, none, 0, [], none, 0, Nat.zero_le _, rfl, rfl, HG0.out⟩
        case round =>
          obtain ⟨j, na, nc, N, ea, ec, hj, rfl, rfl, HI2⟩ := hrel
          by_cases hlt : j < T.length
          · obtain ⟨b, off, x, rfl, hbw, hx, hC⟩ := HI2.out.evs.at hlt
            have hji : (j : Int) < T.length := by omega
            obtain ⟨c0, c1, c2, c3⟩ := hC
            have hfx := flag_get T (fun _ => false) j x hx
            obtain ⟨th, hth⟩ : ∃ th, thereOf ((flag (fun _ => false) T).take j) x.e = th := ⟨_, rfl⟩
            have hfx2 : (flag (fun _ => false) T)[j]? = some ⟨x.t, x.e, !th⟩ := by rw [← hth]; exact hfx
            have htk : (flag (fun _ => false) T).take (j + 1) = (flag (fun _ => false) T).take j ++ [⟨x.t, x.e, !th⟩] := by
              obtain ⟨p1, p2⟩ := List.getElem?_eq_some_iff.1 hfx2
              rw [List.take_succ_eq_append_getElem p1, p2]
            have hfind : (fndE x.e N).isSome = th := by rw [← hth]; exact HI2.out.now.find x.e
            obtain ⟨N2, ht2, hn2⟩ := HI2.out.now.some (e := ⟨x.t, x.e, !th⟩) (by show thereOf _ x.e ≠ !th; rw [hth]; cases th <;> simp)
            rw [← thereOf_snoc, ← htk] at hn2
            have hN2 := turnL_len ht2
            have hNj := HI2.out.len
            have HXX := Lib.hid hx
            have HF := Lib.hid (And.intro htk (And.intro ht2 (And.intro hn2 hN2)))
            have HasC : Hid (∀ z, Eds z na N → Calls Tryz.prog 21 #[.slice na N.length nc, .agg #[.int .u32 x.e.u, .int .u32 x.e.v]] z fun e w' => e = .returned (.bool th) ∧ Mod z w' NoB) := fun z hz => by
              have := has_any z na nc N x.e hz (by omega)
              rwa [hfind] at this
            obtain ⟨e0, he0⟩ : ∃ e0, e0 = wr.heap.size := ⟨_, rfl⟩
            obtain ⟨V, hV⟩ : ∃ V, V = wr.alloc (.cells #[.int .i64 x.t, .int .u32 x.e.u, .int .u32 x.e.v, .bool x.add] 62) := ⟨_, rfl⟩
            have HV : Hid (Mod wr V NoB) := by rw [hV]; exact (Mod.refl _ _).alloc _
            have HD : Hid (EvAt V e0 0 x ∧ V.frozen? ⟨e0, 3, none⟩ = false ∧ wr.heap.size ≤ e0 ∧ e0 < V.heap.size) := by
              show _ ∧ _
              rw [hV, he0]
              exact ⟨⟨World.cell?_alloc_at _ _ _ _ rfl, World.cell?_alloc_at _ _ _ _ rfl, World.cell?_alloc_at _ _ _ _ rfl, World.cell?_alloc_at _ _ _ _ rfl⟩, by simp, Nat.le_refl _, by simp⟩
            clear hfx hth hfx2 htk hfind ht2 hn2 hx hbw
            go_upto_region 18 with (fail)
            rw [← hV, ← he0]
            clear hV he0 c0 c1 c2 c3
            obtain ⟨v0, v1, v2, v3⟩ := HD.out.1
            simp only [Nat.zero_add] at v1 v2 v3
            go_wp2_with fail
            refine (HasC.out _ (HI2.out.eds.mod HV.out)).mono ?_
            rintro r w6 ⟨rfl, hm6⟩
            have u0 := keepc v0 hm6
            have u1 := keepc v1 hm6
            have u2 := keepc v2 hm6
            have u3 := keepc v3 hm6
            have fu : w6.frozen? ⟨e0, 3, none⟩ = false := (hm6.frozen (p := ⟨e0, 3, none⟩) HD.out.2.2.2 (by simp [NoB])).trans HD.out.2.1
            have H6 : Hid (Mod wr w6 NoB) := HV.out.trans hm6 (fun _ _ h => h)
            clear hm6 v0 v1 v2 v3
            go_upto_region 19 with (fail)
            obtain ⟨Y, hY⟩ : ∃ Y, Y = w6.setCell ⟨e0, 3, none⟩ (.bool !th) := ⟨_, rfl⟩
            have HY : Hid (Mod wr Y NoB) := by show Mod wr Y NoB; rw [hY]; exact set_young H6.out HD.out.2.2.1 _
            have y0 : Y.cell? ⟨e0, 0, none⟩ = some (.int .i64 x.t) := by rw [hY, World.cell?_setCell_other _ _ _ _ (by simp)]; exact u0
            have y1 : Y.cell? ⟨e0, 1, none⟩ = some (.int .u32 x.e.u) := by rw [hY, World.cell?_setCell_other _ _ _ _ (by simp)]; exact u1
            have y2 : Y.cell? ⟨e0, 2, none⟩ = some (.int .u32 x.e.v) := by rw [hY, World.cell?_setCell_other _ _ _ _ (by simp)]; exact u2
            have y3 : Y.cell? ⟨e0, 3, none⟩ = some (.bool !th) := by rw [hY]; exact World.cell?_setCell_same _ _ _ u3
            have HY0 : Hid (wr.heap.size ≤ Y.heap.size) := HY.out.size
            rw [← hY]
            clear hY u0 u1 u2 u3 fu H6 HV
            go_wp2_with fail
            refine (turn_any _ na nc N ⟨x.t, x.e, !th⟩ (HI2.out.eds.mod HY.out) HI2.out.plain (by omega) HI2.out.cap HI2.out.now.sorted).mono ?_
            rintro r w7 ⟨_, h7⟩
            obtain ⟨na', nc', rfl, k1, k2, k3, hm7⟩ := h7 N2 HF.out.2.1
            have r0 := keepc y0 hm7
            have r1 := keepc y1 hm7
            have r2 := keepc y2 hm7
            have r3 := keepc y3 hm7
            have H7 : Hid (Mod wr w7 NoB) := HY.out.trans hm7 (fun _ _ h => h)
            have HK := Lib.hid (And.intro k1 (And.intro k2 k3))
            clear hm7 k1 k2 k3 y0 y1 y2 y3 HY h7
            have HB7 := Lib.hid (HI2.out.bst.quiet H7.out)
            have b1 := HB7.out.b1
            have f1 := HB7.out.fb1
            have lb := World.block_lt_of_cell? _ _ b1
            have le := World.block_lt_of_cell? _ _ r0
            have hone : ∀ u ∈ encV ⟨x.t, x.e, !th⟩, u.oneCell' = true := by simp [encV, Value.oneCell']
            have hms : h5 + 1 ≤ w7.heap.size := lb
            have hB1 : j + 1 ≤ maxLen := by unfold maxLen; omega
            have hB2 : (j + 1) * 24 ≤ 140737488355328 := by omega
            obtain ⟨i0, hi, hz0, hz1, hz2⟩ := info_parts info_event2
            go_wp2_with (at_builtin; refine wpList_append_lies _ rfl _ _ 23 rfl (h5 + 1) 62 i0 _ 4 24 Tryz.underlying23 hi hz0 hz1 hz2 rfl (by decide) (.slice ea j ec) j _ rfl (HB7.out.row.alloc _) ⟨_, 0, none⟩ 1 1 (encV ⟨x.t, x.e, !th⟩) rfl rfl (World.news_of_block (MapKept.heap_alloc _ _).1) hone (by decide) hB1 hB2 (le_alloc hms) _ rfl ?_; intro g1 cap1 w8 hown hgrow hat hlt8; have H8 := Lib.hid (And.intro (HB7.out.app hown hgrow) (app_at hat)); clear hown hgrow hat hlt8 b1 f1; have b2 := H8.out.1.1.1; have f2 := H8.out.1.1.2)
            go_roundw
            case rel => exact ⟨j + 1, na', nc', N2, some ⟨g1, 0, none⟩, cap1, by omega, rfl, by go_num, GSt.next HI2.out HXX.out H7.out H8.out.1.2.2 H8.out.1.2.1 HF.out.1 HF.out.2.2.1 HK.out.1 ⟨HK.out.2.1.1, HK.out.2.1.2.mono HY0.out⟩ HK.out.2.2 HF.out.2.2.2 H8.out.2⟩
            case measure => simp [intOf]; omega
          · have hjl : j = T.length := by omega
            have hFt : (flag (fun _ => false) T).take j = flag (fun _ => false) T := List.take_of_length_le (by rw [flag_len]; omega)
            have hB := HI2.out.bst
            rw [hFt] at hB
            have HB := Lib.hid hB
            have q0 := hB.a0
            have q1 := hB.a1
            have q2 := hB.fa0
            have q3 := hB.fa1
            have q4 := hB.b0
            have q5 := hB.b1
            have HJ := Lib.hid hjl
            clear hFt hB hjl
            go_wp2_with fail
            obtain ⟨z, hz⟩ : ∃ z, z = (wr.setCell ⟨h4, 0, none⟩ (.int .u64 n)).setCell ⟨h4, 1, none⟩ (.slice ea j ec) := ⟨_, rfl⟩
            have h46 : Mod wr z (OneB h4) := by
              rw [hz]; exact (Mod.set1 wr h4 0 (.int .u64 n)).setG _
            have hne : ¬ (Value.slice ea j ec).ownBlock = some h4 := fun c => by
              have := (HB.out.own _ c).1
              have := HB.out.hh.2
              omega
            have HZ : Hid (Evs z ea (flag (fun _ => false) T) ∧ Plain ea ∧ j ≤ ec ∧ Mod w z NoB) := by
              have hrow := h46.row HB.out.row (fun q hq c => hne (by rw [hq, show q = h4 from c]))
              refine ⟨evs_of_row HB.out.len.symm hrow, row_plain hrow, ?_, HB.out.mod.trans h46 (fun i hi c => by
                have h1 : i = h4 := c
                have := HB.out.hh.1
                omega)⟩
              rcases hrow.2 with ⟨hv, h0⟩ | ⟨g, c, cur, hv, _, _, h1, _⟩
              · rw [h0]; exact Nat.zero_le _
              · cases hv; exact h1
            have z0 : z.cell? ⟨h4, 0, none⟩ = some (.int .u64 n) := by
              rw [hz, World.cell?_setCell_other _ _ _ _ (by simp)]; exact World.cell?_setCell_same _ _ _ q0
            have z1 : z.cell? ⟨h4, 1, none⟩ = some (.slice ea j ec) := by
              rw [hz]; exact World.cell?_setCell_same _ _ _ (by rw [World.cell?_setCell_other _ _ _ _ (by simp)]; exact q1)
            rw [← hz]
            clear hz q0 q1 q2 q3 q4 q5 h46 hne
            exact bodyPost_ret (v := .agg #[.int .u64 n, .slice ea j ec]) (by simp [results, Tryz.results7, go_sem, z0, z1]) rfl ⟨T, t, ea, ec, by rw [← HJ.out], HTI.out.1, HTI.out.2.2, HTI.out.2.1, HZ.out.1, HZ.out.2.1, by rw [← HJ.out]; exact HZ.out.2.2.1, HZ.out.2.2.2⟩
theorem hist_any (w : World) (k : Int) (a : Option Addr) (len cap : Nat) (zs : List Int) (hk : 0 ≤ k ∧ k ≤ 255) (hA : IsRow .u8 w a len cap zs) (hlen : len ≤ 90) :
    Calls Tryz.prog 7 #[.int .u8 k, .slice a len cap] w fun r w' => ∃ T top a' cap', r = .returned (.agg #[.int .u64 (vertsOf k.toNat), .slice a' T.length cap']) ∧ Times (vertsOf k.toNat) top T ∧ top ≤ maxT ∧ T.length ≤ 40 ∧ Evs w' a' (flag (fun _ => false) T) ∧ Plain a' ∧ T.length ≤ cap' ∧ Mod w w' NoB :=
  (hist_top w k a len cap zs hk hA hlen).mono fun _ _ ⟨T, top, a', cap', h1, h2, h3, h4⟩ => ⟨T, top, a', cap', h1, h2, Int.le_of_lt h3, h4⟩
end Go.Proofs.YtppambkffgmkgaaGreatDoor
end
