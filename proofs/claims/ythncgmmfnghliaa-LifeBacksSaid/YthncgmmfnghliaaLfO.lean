/- The contract of life.Of. -/
import Derived.Test.YthncgmmfnghliaaLfW
import Derived.Test.YthncgmmfnghliaaLfJ
import Derived.Test.YthncgmmfnghliaaLfT
import Derived.Deep.RegionHeld3
import Derived.BigQuiet
import Derived.OwnWalk
import Derived.Laws.EntriesVeiled
import Derived.Deep.AppendLies
namespace Go.Proofs.Ythncgmmfnghliaa
open Go.RowKit
set_option linter.unusedVariables false

theorem info_life : (Try.prog.info? 56).map (fun i => (i.zero, i.size, i.bytes)) = some (some (.agg #[.int .u32 0, .int .u32 0, .int .i64 0, .int .i64 0]), 4, 24) := by kernel_rfl
theorem info_event : (Try.prog.info? 65).map (fun i => (i.zero, i.size, i.bytes)) = some (some (.agg #[.int .i64 0, .int .u32 0, .int .u32 0, .bool false]), 4, 24) := by kernel_rfl
theorem zero_i64 (w : World) : (zeroValue 3).run Try.prog w = .ok (.int .i64 0) w := by kernel_rfl

/-- The lives of a history. -/
def ofL (n : Int) (l : List Ev) : List Lf := if (chk n l).2 = 0 then putAll lfLt (raw l) else []

/-- What the loop keeps. -/
def OInv (w wr : World) (m : Nat) (n : Int) (l : List Ev) (k : Nat) (v : Value) (L : Nat) : Prop :=
  Mod w wr NoB ∧ m < wr.heap.size ∧ L = (raw (l.take k)).length ∧ wr.ownsRow (m + 1) 56 4 v L ((raw (l.take k)).flatMap encL) ∧
    ∃ at' prev, Opn (l.take k) at' ∧ EMap wr m (.int .i64 0) (fun x => .int .i64 (at' x : Nat)) ∧ AllOk n prev (thereOf (l.take k)) (l.drop k)

theorem raw_len (l : List Ev) : (raw l).length ≤ l.length := by
  induction l with
  | nil => simp [raw]
  | cons e l ih => simp only [raw]; split <;> simp <;> omega

theorem le_alloc {w : World} {o : Obj} {n : Nat} (h : n ≤ w.heap.size) : n ≤ (w.alloc o).heap.size := Nat.le_trans h (by simp)
/-- Behind an append. -/
theorem OInv.add {w wr V w6 w8 : World} {m k L : Nat} {n : Int} {l : List Ev} {x : Ev} {v : Value} {o : Obj} {g1 cap1 : Nat} {at' : Ed → Nat} (hm0 : w.heap.size ≤ m) (hM : Mod w wr NoB) (hV : Mod wr V NoB) (hS : Mod V w6 (OneB m)) (hLL : L = (raw (l.take k)).length)
    (hmap : EMap w6 m (.int .i64 0) (fun y => if y = x.e then .int .i64 (L : Nat) else .int .i64 (at' y : Nat)))
    (hr : raw (l.take (k + 1)) = raw (l.take k) ++ [⟨x.e, x.t, -1⟩]) (ho : Opn (l.take (k + 1)) (fun y => if y = x.e then (raw (l.take k)).length else at' y)) (hA : AllOk n (some x) (thereOf (l.take (k + 1))) (l.drop (k + 1)))
    (hrow0 : ∀ q, v.ownBlock = some q → m + 1 ≤ q)
    (hown : w8.ownsRow (m + 1) 56 4 (.slice (some ⟨g1, 0, none⟩) (L + 1) cap1) (L + 1) ((raw (l.take k)).flatMap encL ++ encL ⟨x.e, x.t, -1⟩)) (hgrow : (w6.alloc o).grownBy w8 v.ownBlock) :
    OInv w w8 m n l (k + 1) (.slice (some ⟨g1, 0, none⟩) (L + 1) cap1) (L + 1) := by
  have hM6 : Mod w w6 NoB := (hM.trans hV (fun _ _ h => h)).trans hS (fun i hi c => by
    have : i = m := c
    omega)
  have h8 : Mod w6 w8 (fun q => v.ownBlock = some q) := ((Mod.refl _ _).alloc _).grown hgrow (fun q hq _ => hq)
  refine ⟨hM6.trans h8 (fun i hi c => by have := hrow0 i c; omega), Nat.lt_of_lt_of_le hmap.lt h8.size, ?_, ?_, _, some x, ho, ?_, hA⟩
  · rw [hr, List.length_append, ← hLL]; rfl
  · rw [hr, List.flatMap_append]
    simpa using hown
  · have hf : (fun y : Ed => Value.int .i64 (((if y = x.e then (raw (l.take k)).length else at' y) : Nat) : Int)) = fun y => if y = x.e then .int .i64 (L : Nat) else .int .i64 (at' y : Nat) := by
      funext y
      by_cases hy : y = x.e
      · rw [if_pos hy, if_pos hy, hLL]
      · rw [if_neg hy, if_neg hy]
    rw [hf]
    exact hmap.mod h8 (fun c => by have := hrow0 m c; omega)

/-- Behind an end. -/
theorem OInv.del {w wr V : World} {m k L g oc : Nat} {n fr : Int} {l : List Ev} {x : Ev} {at' : Ed → Nat} {ak : Nat} (hak : at' x.e = ak) (hm0 : w.heap.size ≤ m) (hM : Mod w wr NoB) (hV : Mod wr V NoB) (hLL : L = (raw (l.take k)).length)
    (hmap : EMap V m (.int .i64 0) (fun y => .int .i64 (at' y : Nat))) (hget : (raw (l.take k))[at' x.e]? = some ⟨x.e, fr, -1⟩) (hr : raw (l.take (k + 1)) = (raw (l.take k)).set (at' x.e) ⟨x.e, fr, x.t⟩) (ho : Opn (l.take (k + 1)) at')
    (hA : AllOk n (some x) (thereOf (l.take (k + 1))) (l.drop (k + 1))) (hrow : V.ownsRow (m + 1) 56 4 (.slice (some ⟨g, 0, none⟩) L oc) L ((raw (l.take k)).flatMap encL)) :
    OInv w (V.setCell ⟨g, ak * 4 + 3, none⟩ (.int .i64 x.t)).drew m n l (k + 1) (.slice (some ⟨g, 0, none⟩) L oc) L := by
  have hg : m + 1 ≤ g := (hrow.lt g rfl).1
  have h8 : Mod V (V.setCell ⟨g, ak * 4 + 3, none⟩ (.int .i64 x.t)).drew (OneB g) := (Mod.set1 V g (ak * 4 + 3) (.int .i64 x.t)).drew
  have hrow2 := row_set (ak * 4 + 3) (.int .i64 x.t) hrow
  rw [flat_set _ ak _ x.t (hak ▸ hget)] at hrow2
  refine ⟨(hM.trans hV (fun _ _ h => h)).trans h8 (fun i hi c => by
      have : i = g := c
      omega), Nat.lt_of_lt_of_le hmap.lt h8.size, ?_, ?_, at', some x, ho, hmap.mod h8 (fun c => by
      have : m = g := c
      omega), hA⟩
  · rw [hr, List.length_set]; exact hLL
  · rw [hr, hak]
    exact (Mod.drew (Mod.refl _ NoB)).row hrow2 (fun q _ c => c)

/-- A closure that compares is made. -/
theorem byE_new (w : World) : Calls Try.prog 30 #[.func (.func 31) #[] #[]] w fun e w' =>
    e = .returned (.func (.func 52) #[] #[.pointer (some ⟨w.heap.size, 0, none⟩)]) ∧ w.alloc (.cells #[.func (.func 31) #[] #[]] 79) = w' := by
  go_enter Try.func30, Try.ntmps30
  go_wp2_with fail
  go_ret
  exact ⟨rfl, rfl⟩

/-- An event that may be: what is kept turns so. -/
theorem opn_step {n : Int} {l : List Ev} {k : Nat} {x : Ev} {prev : Option Ev} {at' : Ed → Nat} (hx : l[k]? = some x) (ho : Opn (l.take k) at') (h0 : ∀ y ∈ l, 0 ≤ y.t) (hA : AllOk n prev (thereOf (l.take k)) (l.drop k)) :
    AllOk n (some x) (thereOf (l.take (k + 1))) (l.drop (k + 1)) ∧
    (x.add = true → raw (l.take (k + 1)) = raw (l.take k) ++ [⟨x.e, x.t, -1⟩] ∧ Opn (l.take (k + 1)) (fun y => if y = x.e then (raw (l.take k)).length else at' y)) ∧
    (x.add = false → Opn (l.take (k + 1)) at' ∧ at' x.e < (raw (l.take k)).length ∧ ∃ fr, (raw (l.take k))[at' x.e]? = some ⟨x.e, fr, -1⟩ ∧ raw (l.take (k + 1)) = (raw (l.take k)).set (at' x.e) ⟨x.e, fr, x.t⟩) := by
  obtain ⟨h1, h2⟩ := List.getElem?_eq_some_iff.1 hx
  have ht : l.take (k + 1) = l.take k ++ [x] := by rw [List.take_succ_eq_append_getElem h1, h2]
  rw [List.drop_eq_getElem_cons h1, h2] at hA
  obtain ⟨a1, a2⟩ := hA
  obtain ⟨⟨t0, _⟩, _, _, hne⟩ := evErr_ok a1
  have h0' : ∀ y ∈ l.take k, 0 ≤ y.t := fun y hy => h0 y (List.mem_of_mem_take hy)
  rw [ht, thereOf_snoc]
  refine ⟨a2, fun ha => ?_, fun ha => ?_⟩
  · rw [ha] at hne
    exact ho.add h0' ha (by simpa using hne)
  · rw [ha] at hne
    obtain ⟨⟨fr, k1, k2⟩, k3⟩ := ho.del h0' t0 ha (by simpa using hne)
    exact ⟨k3, (List.getElem?_eq_some_iff.1 k1).1, fr, k1, k2⟩
theorem allOk_t {n : Int} : ∀ {l : List Ev} {prev : Option Ev} {there : Ed → Bool}, AllOk n prev there l → ∀ y ∈ l, 0 ≤ y.t
  | [], _, _, _, y, hy => by simp at hy
  | e :: l, _, _, h, y, hy => by
    rcases List.mem_cons.1 hy with rfl | hy
    · exact (evErr_ok h.1).1.1
    · exact allOk_t h.2 y hy

set_option maxHeartbeats 4000000 in
theorem of_any (w : World) (n : Int) (a : Option Addr) (cap : Nat) (l : List Ev) (hE : Evs w a l) (hl : l.length ≤ 100000) (hb : ∀ x ∈ l, EvB x) :
    Calls Try.prog 11 #[.agg #[.int .u64 n, .slice a l.length cap]] w fun e w' =>
      ∃ a' cap', e = .returned (.tuple #[.slice a' (ofL n l).length cap', .int .i64 (chk n l).2]) ∧ Lvs w' a' (ofL n l) ∧ Mod w w' NoB := by
  have HE := Lib.hid hE
  have HBD := Lib.hid hb
  clear hE hb
  obtain ⟨i0, hi, hz0, hz1, hz2⟩ := info_parts info_life
  have hmm := @run_makeMap Try.prog
  by_cases hc : (chk n l).2 = 0
  · have hofl : ofL n l = putAll lfLt (raw l) := if_pos hc
    rw [hofl]
    obtain ⟨c2, hc2⟩ : ∃ c2, (chk n l).2 = c2 := ⟨_, rfl⟩
    obtain ⟨c1, hc1⟩ : ∃ c1, (chk n l).1 = c1 := ⟨_, rfl⟩
    have hcz : c2 = 0 := hc2.symm.trans hc
    have HC : Hid (∀ z, Evs z a l → Calls Try.prog 29 #[.agg #[.int .u64 n, .slice a l.length cap]] z fun e w' => e = .returned (.tuple #[.int .i64 c1, .int .i64 0]) ∧ Mod z w' NoB) := fun z hz => by
      have := hcheck_any z n a cap l hz (by omega) HBD.out
      rw [hc1, hc] at this
      exact this
    rw [hc]
    have HOK : Hid (AllOk n none (fun _ => false) l) := by
      have h2 := hc
      unfold chk at h2
      split at h2
      · cases h2
      · exact allOk_of h2
    clear hc hofl hc2 hc1 hcz
    obtain ⟨h0, hh0⟩ : ∃ h0, h0 = w.heap.size := ⟨_, rfl⟩
    obtain ⟨W, hW⟩ : ∃ W, W = w.alloc (.cells #[.int .u64 n, .slice a l.length cap] 25) := ⟨_, rfl⟩
    have HW : Hid (Mod w W NoB) := by rw [hW]; exact (Mod.refl _ _).alloc _
    have ch0 : W.cell? ⟨h0, 0, none⟩ = some (.int .u64 n) := by rw [hW, hh0]; exact World.cell?_alloc_at _ _ _ _ rfl
    have ch1 : W.cell? ⟨h0, 1, none⟩ = some (.slice a l.length cap) := by rw [hW, hh0]; exact World.cell?_alloc_at _ _ _ _ rfl
    go_enter Try.func11, Try.ntmps11
    go_upto_region 1 with (fail)
    rw [← hW, ← hh0]
    clear hW hh0
    go_wp2_with fail
    refine (HC.out _ (HE.out.mod HW.out)).mono ?_
    rintro e w1 ⟨rfl, hm⟩
    have d1 := keepc ch1 hm
    have hd1 := World.block_lt_of_cell? _ _ d1
    have HM : Hid (Mod w w1 NoB) := HW.out.trans hm (fun _ _ h => h)
    clear hm HW ch0 ch1
    go_wp2_with fail
    obtain ⟨m, hm0⟩ : ∃ m, m = w1.heap.size := ⟨_, rfl⟩
    obtain ⟨w2, hw2⟩ : ∃ w2, w2 = w1.alloc (.map #[] 0) := ⟨_, rfl⟩
    have HI0 : Hid (OInv w w2 m n l 0 (.slice none 0 0) 0 ∧ w.heap.size ≤ m) := by
      refine ⟨⟨by rw [hw2]; exact HM.out.alloc _, by rw [hw2, hm0]; simp, rfl, World.ownsRow_nil _ _ _ _, fun _ => 0, none, Opn.nil _, ?_, ?_⟩, by rw [hm0]; exact HM.out.size⟩
      · rw [hw2, hm0]; exact EMap.made _ _
      · exact HOK.out
    have HT0 : Hid (∀ y ∈ l, 0 ≤ y.t) := allOk_t HOK.out
    rw [← hw2, ← hm0]
    clear hw2 hm0 d1 hd1
    go_loopw [6, 23] (fun o i wr => ∃ (k : Nat) (oa : Option Addr) (oc L : Nat), k ≤ l.length ∧ o = .slice oa L oc ∧ i = .int .i64 k ∧ Hid (OInv w wr m n l k (.slice oa L oc) L)) (fun _ i _ => l.length - (intOf i).toNat)
    case atStart => exact ⟨0, none, 0, 0, Nat.zero_le _, rfl, rfl, HI0.out.1⟩
    case round =>
      obtain ⟨k, oa, oc, L, hk, rfl, rfl, HI⟩ := hrel
      by_cases hlt : k < l.length
      · obtain ⟨b, off, x, rfl, hbw, hx, hC⟩ := (HE.out.mod HI.out.1).at hlt
        have hki : (k : Int) < l.length := by omega
        have hxB : EdB ⟨x.e.u, x.e.v⟩ := HBD.out x (List.mem_of_getElem? hx)
        obtain ⟨hM, hml, hLL, hrow, at', prev, hopn, hmap, hall⟩ := HI.out
        obtain ⟨s1, s2, s3⟩ := opn_step hx hopn HT0.out hall
        have hLle : L ≤ 100000 := by
          have := raw_len (l.take k)
          rw [List.length_take] at this
          omega
        obtain ⟨c0, c1, c2, c3⟩ := hC
        have H1 := Lib.hid s1
        have H2 := Lib.hid s2
        have H3 := Lib.hid s3
        have HM2 := Lib.hid hM
        have HML := Lib.hid hml
        have HLL := Lib.hid hLL
        have HRow := Lib.hid hrow
        have HMap := Lib.hid hmap
        have HXB := Lib.hid hxB
        clear s1 s2 s3 hM hLL hrow hopn hmap hall hx hml hxB
        obtain ⟨e0, he0⟩ : ∃ e0, e0 = wr.heap.size := ⟨_, rfl⟩
        obtain ⟨V, hV⟩ : ∃ V, V = wr.alloc (.cells #[.int .i64 x.t, .int .u32 x.e.u, .int .u32 x.e.v, .bool x.add] 65) := ⟨_, rfl⟩
        have HV : Hid (Mod wr V NoB) := by rw [hV]; exact (Mod.refl _ _).alloc _
        have HD : Hid (EvAt V e0 0 x) := by
          rw [hV, he0]
          exact ⟨World.cell?_alloc_at _ _ _ _ rfl, World.cell?_alloc_at _ _ _ _ rfl, World.cell?_alloc_at _ _ _ _ rfl, World.cell?_alloc_at _ _ _ _ rfl⟩
        go_upto_region 9 with (fail)
        rw [← hV, ← he0]
        have HE0 : Hid (m < e0) := by rw [he0]; exact HML.out
        clear hV he0
        obtain ⟨v0, v1, v2, v3⟩ := HD.out
        simp only [Nat.zero_add] at v1 v2 v3
        clear c0 c1 c2 c3 hbw
        cases hadd : x.add with
        | true =>
          rw [hadd] at v3
          obtain ⟨w6, hs1, hs2, hs3⟩ := (HMap.out.mod HV.out (by simp [NoB])).store Try.underlying76 HXB.out (.int .i64 (L : Nat))
          have HS2 := Lib.hid hs2
          have HS3 := Lib.hid hs3
          have hne : ¬ OneB m e0 := fun c => absurd (show e0 = m from c) (Nat.ne_of_gt HE0.out)
          have u0 := keepS v0 hs3 hne
          have u1 := keepS v1 hs3 hne
          have u2 := keepS v2 hs3 hne
          have hul := World.block_lt_of_cell? _ _ u0
          have hrow6 : w6.ownsRow (m + 1) 56 4 (.slice oa L oc) L ((raw (l.take k)).flatMap encL) :=
            hs3.row (HV.out.row HRow.out (fun q _ c => c)) (fun q hq c => by
              have := (HRow.out.lt q hq).1
              have hqm : q = m := c
              omega)
          have HR6 := Lib.hid hrow6
          have hone : ∀ u ∈ encL ⟨x.e, x.t, -1⟩, u.oneCell' = true := by simp [encL, Value.oneCell']
          clear hs2 hs3 hrow6 hne
          have hms : m + 1 ≤ w6.heap.size := HS2.out.lt
          have hB1 : L + 1 ≤ maxLen := by unfold maxLen; omega
          have hB2 : (L + 1) * 24 ≤ 140737488355328 := by omega
          go_wp2_with (at_builtin; refine wpList_append_lies _ rfl _ _ 31 rfl (m + 1) 56 i0 _ 4 24 Try.underlying31 hi hz0 hz1 hz2 rfl (by decide) (.slice oa L oc) L _ rfl (HR6.out.alloc _) ⟨_, 0, none⟩ 1 1 (encL ⟨x.e, x.t, -1⟩) rfl rfl (World.news_of_block (MapKept.heap_alloc _ _).1) hone (by decide) hB1 hB2 (le_alloc hms) _ rfl ?_; intro g1 cap1 w8 hown hgrow hat hlt8; have H8 := Lib.hid (And.intro hown hgrow); clear hown hgrow hat hlt8)
          go_roundw
          case rel => exact ⟨k + 1, some ⟨g1, 0, none⟩, cap1, L + 1, by omega, rfl, by go_num, OInv.add HI0.out.2 HM2.out HV.out HS3.out HLL.out HS2.out (H2.out hadd).1 (H2.out hadd).2 H1.out (fun q hq => (HRow.out.lt q hq).1) H8.out.1 H8.out.2⟩
          case measure => simp [intOf]; omega
        | false =>
          rw [hadd] at v3
          obtain ⟨hop, hatL, fr, hget, hset⟩ := H3.out hadd
          have HOP := Lib.hid (And.intro hop (And.intro hget hset))
          clear hop hget hset
          have hrowV : V.ownsRow (m + 1) 56 4 (.slice oa L oc) L ((raw (l.take k)).flatMap encL) := HV.out.row HRow.out (fun q _ c => c)
          have hmapV := HMap.out.mod HV.out (by simp [NoB])
          obtain ⟨ak, hak⟩ : ∃ ak, at' x.e = ak := ⟨_, rfl⟩
          rw [hak] at hatL
          have hL0 : 0 < L := by rw [HLL.out]; omega
          obtain ⟨g, cg, hvv, hcells, hfroz, _⟩ := row_open hrowV hL0
          cases hvv
          have hlook : ∀ q, (Instr.lookup 76 (.map (some m)) (.agg #[.int .u32 x.e.u, .int .u32 x.e.v]) false).run Try.prog (V.drewN q) = .ok (.int .i64 ak) (V.drewN q) := fun q => by
            have := (hmapV.drewN q).look Try.underlying76 (zero_i64 _) HXB.out
            rw [show at' ⟨x.e.u, x.e.v⟩ = ak from hak] at this
            exact this
          have hlook1 : (Instr.lookup 76 (.map (some m)) (.agg #[.int .u32 x.e.u, .int .u32 x.e.v]) false).run Try.prog V.drew = .ok (.int .i64 ak) V.drew := hlook 1
          have hatI : (ak : Int) < (L : Nat) := by rw [HLL.out]; omega
          have hcT : V.cell? ⟨g, ak * 4 + 3, none⟩ = some (.int .i64 (-1)) := hcells _ _ (enc4_get encL_len _ _ ⟨x.e, fr, -1⟩ 3 (by rw [← hak]; exact HOP.out.2.1) (by omega))
          have hfT := hfroz (ak * 4 + 3)
          have HRV := Lib.hid hrowV
          have HMV := Lib.hid hmapV
          have HAK := Lib.hid hak
          have hml2 : m < V.heap.size := hmapV.lt
          clear hrowV hmapV hcells hfroz hak hatL
          go_upto_region 12 with (fail)
          go_region
          go_wp2_with fail
          go_roundw
          case rel => exact ⟨k + 1, some ⟨g, 0, none⟩, oc, L, by omega, rfl, by go_num, OInv.del HAK.out HI0.out.2 HM2.out HV.out HLL.out HMV.out HOP.out.2.1 HOP.out.2.2 HOP.out.1 H1.out HRV.out⟩
          case measure => simp [intOf]; omega
      · have hkl : k = l.length := by omega
        obtain ⟨hM, hml, hLL, hrow, _⟩ := HI.out
        rw [hkl, List.take_length] at hLL hrow
        have HM2 := Lib.hid hM
        have HLL := Lib.hid hLL
        have HRow := Lib.hid hrow
        clear hkl hM hml hLL hrow
        go_wp2_with fail
        refine (byE_new _).mono ?_
        rintro e w3 ⟨rfl, rfl⟩
        go_wp2_with fail
        have hLL := HLL.out
        subst hLL
        have hs1 : (wr.alloc (.cells #[.func (.func 31) #[] #[]] 79)).heap.size = wr.heap.size + 1 := by simp
        refine (sortLf_row _ (m + 1) wr.heap.size (wr.heap.size + 1) (.slice oa (raw l).length oc) (raw l) ((HRow.out.alloc _).alloc _) (Nat.le_trans (raw_len l) (by omega))
          ((World.cell?_alloc_lt _ _ _ (by show wr.heap.size < _; rw [hs1]; omega)).trans (World.cell?_alloc_at _ _ _ _ rfl)) (World.cell?_alloc_at _ _ _ _ hs1.symm)
          (fun c => Nat.lt_irrefl _ (HRow.out.lt _ c).2) (fun c => by have := (HRow.out.lt _ c).2; omega)).mono ?_
        rintro e w5 ⟨rfl, l', k1, k2, k3, k4, k5⟩
        have hpw := (allOk_before HOK.out).1
        have hl' : l' = putAll lfLt (raw l) := sort_lives hpw (strict_of k3 ((k2.pairwise_iff (fun h => h.symm)).2 (raw_pair hpw))) k2
        have HF : Hid (Lvs w5 oa (putAll lfLt (raw l)) ∧ (raw l).length = (putAll lfLt (raw l)).length ∧ Mod w w5 NoB) := by
          rw [← hl']
          refine ⟨lvs_of_row k1 k4, k1.symm, ((HM2.out.alloc _).alloc _).trans k5 (fun i hi c => ?_)⟩
          have := (HRow.out.lt i c).1
          have := HI0.out.2
          omega
        clear k1 k2 k3 k4 k5 hl' hpw hs1
        go_wp2_with fail
        go_ret2
        exact ⟨oa, oc, by rw [← HF.out.2.1]; rfl, HF.out.1, HF.out.2.2⟩
  · have hofl : ofL n l = [] := if_neg hc
    rw [hofl]
    obtain ⟨c2, hc2⟩ : ∃ c2, (chk n l).2 = c2 := ⟨_, rfl⟩
    have HC : Hid (∀ z, Evs z a l → Calls Try.prog 29 #[.agg #[.int .u64 n, .slice a l.length cap]] z fun e w' => e = .returned (.tuple #[.int .i64 (chk n l).1, .int .i64 c2]) ∧ Mod z w' NoB) := fun z hz => by
      have := hcheck_any z n a cap l hz (by omega) HBD.out
      rw [hc2] at this
      exact this
    rw [hc2]
    have hcne : ((c2 : Int) != 0) = true := by rw [← hc2]; simpa using hc
    clear hc hofl hc2
    go_enter Try.func11, Try.ntmps11
    go_wp2_with fail
    refine (HC.out _ (HE.out.mod ((Mod.refl _ _).alloc _))).mono ?_
    rintro e w1 ⟨rfl, hm⟩
    have HM : Hid (Mod w w1 NoB) := ((Mod.refl _ _).alloc _).trans hm (fun _ _ h => h)
    clear hm
    go_wp2_with fail
    go_ret2
    exact ⟨none, 0, rfl, Or.inl rfl, HM.out⟩
end Go.Proofs.Ythncgmmfnghliaa
