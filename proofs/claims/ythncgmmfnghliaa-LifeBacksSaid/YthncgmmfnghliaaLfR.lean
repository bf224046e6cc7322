/- The contract of life.Back. -/
import Derived.Test.YthncgmmfnghliaaLfO
import Derived.Test.YthncgmmfnghliaaLfL
import Derived.OneCell
namespace Go.Proofs.Ythncgmmfnghliaa
open Go.RowKit
set_option linter.unusedVariables false

def backN (n : Int) (l : List Lf) : Int := if (lchk n l).2 = 0 then n else 0
/-- The events of lives, in order. -/
def backE (n : Int) (l : List Lf) : List Ev := if (lchk n l).2 = 0 then putAll before (evs l) else []

/-- What Back keeps: the history that grows. -/
structure BSt (w wr : World) (h4 h8 : Nat) (n : Int) (v : Value) (L : Nat) (es : List Ev) : Prop where
  mod : Mod w wr NoB
  hh : w.heap.size ≤ h4 ∧ h4 < h8
  a0 : wr.cell? ⟨h4, 0, none⟩ = some (.int .u64 0)
  a1 : wr.cell? ⟨h4, 1, none⟩ = some (.slice none 0 0)
  fa0 : wr.frozen? ⟨h4, 0, none⟩ = false
  fa1 : wr.frozen? ⟨h4, 1, none⟩ = false
  b0 : wr.cell? ⟨h8, 0, none⟩ = some (.int .u64 n)
  b1 : wr.cell? ⟨h8, 1, none⟩ = some v
  fb0 : wr.frozen? ⟨h8, 0, none⟩ = false
  fb1 : wr.frozen? ⟨h8, 1, none⟩ = false
  len : L = es.length
  row : wr.ownsRow (h8 + 1) 65 4 v L (es.flatMap encV)

namespace BSt
variable {w V w8 : World} {h4 h8 L : Nat} {n : Int} {v : Value} {es : List Ev}
theorem own (h : BSt w V h4 h8 n v L es) : ∀ q, v.ownBlock = some q → h8 + 1 ≤ q ∧ q < V.heap.size := h.row.lt
theorem moved {S : Nat → Prop} (h : BSt w V h4 h8 n v L es) (hm : Mod V w8 S) (hs : ∀ q, S q → V.heap.size ≤ q) : BSt w w8 h4 h8 n v L es := by
  have l4 := World.block_lt_of_cell? _ _ h.a0
  have l8 := World.block_lt_of_cell? _ _ h.b0
  have n4 : ¬ S h4 := fun c => Nat.not_lt.2 (hs _ c) l4
  have n8 : ¬ S h8 := fun c => Nat.not_lt.2 (hs _ c) l8
  exact ⟨h.mod.trans hm (fun i hi c => absurd (Nat.lt_of_lt_of_le hi h.mod.size) (Nat.not_lt.2 (hs _ c))), h.hh, keepS h.a0 hm n4, keepS h.a1 hm n4, (hm.frozen (p := ⟨h4, 0, none⟩) l4 n4).trans h.fa0, (hm.frozen (p := ⟨h4, 1, none⟩) l4 n4).trans h.fa1,
    keepS h.b0 hm n8, keepS h.b1 hm n8, (hm.frozen (p := ⟨h8, 0, none⟩) l8 n8).trans h.fb0, (hm.frozen (p := ⟨h8, 1, none⟩) l8 n8).trans h.fb1, h.len, hm.row h.row (fun q hq c => Nat.not_lt.2 (hs _ c) (h.own q hq).2)⟩
theorem quiet (h : BSt w V h4 h8 n v L es) (hm : Mod V w8 NoB) : BSt w w8 h4 h8 n v L es := h.moved hm (fun _ c => c.elim)
/-- Behind an append. -/
theorem app {o : Obj} {g1 cap1 : Nat} {e : Ev} (h : BSt w V h4 h8 n v L es) (hown : w8.ownsRow (h8 + 1) 65 4 (.slice (some ⟨g1, 0, none⟩) (L + 1) cap1) (L + 1) (es.flatMap encV ++ encV e)) (hgrow : (V.alloc o).grownBy w8 v.ownBlock) :
    (w8.cell? ⟨h8, 1, none⟩ = some v ∧ w8.frozen? ⟨h8, 1, none⟩ = false) ∧ BSt w (w8.setCell ⟨h8, 1, none⟩ (.slice (some ⟨g1, 0, none⟩) (L + 1) cap1)) h4 h8 n (.slice (some ⟨g1, 0, none⟩) (L + 1) cap1) (L + 1) (es ++ [e]) ∧
      Mod V (w8.setCell ⟨h8, 1, none⟩ (.slice (some ⟨g1, 0, none⟩) (L + 1) cap1)) (fun q => v.ownBlock = some q ∨ q = h8) := by
  have hm : Mod V w8 (fun q => v.ownBlock = some q) := ((Mod.refl _ _).alloc _).grown hgrow (fun q hq _ => hq)
  have l4 := World.block_lt_of_cell? _ _ h.a0
  have l8 := World.block_lt_of_cell? _ _ h.b0
  have n4 : ¬ v.ownBlock = some h4 := fun c => by have := (h.own _ c).1; have := h.hh.2; omega
  have n8 : ¬ v.ownBlock = some h8 := fun c => by have := (h.own _ c).1; omega
  have c8 := keepS h.b1 hm n8
  have hg := (hown.lt g1 rfl).1
  have h48 : h4 ≠ h8 := Nat.ne_of_lt h.hh.2
  have ne0 : (⟨h4, 0, none⟩ : Addr) ≠ ⟨h8, 1, none⟩ := fun c => h48 (congrArg Addr.block c)
  have ne1 : (⟨h4, 1, none⟩ : Addr) ≠ ⟨h8, 1, none⟩ := fun c => h48 (congrArg Addr.block c)
  have hm2 : Mod V (w8.setCell ⟨h8, 1, none⟩ (.slice (some ⟨g1, 0, none⟩) (L + 1) cap1)) (fun q => v.ownBlock = some q ∨ q = h8) := Mod.setS (S := fun q => v.ownBlock = some q ∨ q = h8) (g := h8) (i := 1) (hm.mono (fun _ _ c => Or.inl c)) (Or.inr rfl) _
  refine ⟨⟨c8, (hm.frozen (p := ⟨h8, 1, none⟩) l8 n8).trans h.fb1⟩, ⟨h.mod.trans hm2 (fun i hi c => ?_), h.hh, ?_, ?_, ?_, ?_, ?_, ?_, ?_, ?_, ?_, ?_⟩, hm2⟩
  · rcases c with c | c
    · have := (h.own _ c).1; have := h.hh; omega
    · have := h.hh; omega
  · rw [World.cell?_setCell_other _ _ _ _ ne0.symm]; exact keepS h.a0 hm n4
  · rw [World.cell?_setCell_other _ _ _ _ ne1.symm]; exact keepS h.a1 hm n4
  · rw [World.frozen?_setCell]; exact (hm.frozen (p := ⟨h4, 0, none⟩) l4 n4).trans h.fa0
  · rw [World.frozen?_setCell]; exact (hm.frozen (p := ⟨h4, 1, none⟩) l4 n4).trans h.fa1
  · rw [World.cell?_setCell_other _ _ _ _ (by simp)]; exact keepS h.b0 hm n8
  · exact World.cell?_setCell_same _ _ _ c8
  · rw [World.frozen?_setCell]; exact (hm.frozen (p := ⟨h8, 0, none⟩) l8 n8).trans h.fb0
  · rw [World.frozen?_setCell]; exact (hm.frozen (p := ⟨h8, 1, none⟩) l8 n8).trans h.fb1
  · rw [List.length_append, ← h.len]; rfl
  · have := ownsRow_setCell_other hown (a := ⟨h8, 1, none⟩) (by intro c; cases c; omega) (.slice (some ⟨g1, 0, none⟩) (L + 1) cap1)
    rw [List.flatMap_append]
    simpa using this
/-- Behind a sort. -/
theorem sorted {z w6 : World} {es' : List Ev} (h : BSt w V h4 h8 n v L es) (hz : Mod V z NoB) (hl : es'.length = L) (hrow : w6.ownsRow (h8 + 1) 65 4 v L (es'.flatMap encV)) (hm : Mod z w6 (fun q => v.ownBlock = some q)) : BSt w w6 h4 h8 n v L es' := by
  have g := h.quiet hz
  have l4 := World.block_lt_of_cell? _ _ g.a0
  have l8 := World.block_lt_of_cell? _ _ g.b0
  have n4 : ¬ v.ownBlock = some h4 := fun c => by have := (h.own _ c).1; have := h.hh.2; omega
  have n8 : ¬ v.ownBlock = some h8 := fun c => by have := (h.own _ c).1; omega
  exact ⟨g.mod.trans hm (fun i hi c => by have := (h.own _ c).1; have := h.hh; omega), h.hh, keepS g.a0 hm n4, keepS g.a1 hm n4, (hm.frozen (p := ⟨h4, 0, none⟩) l4 n4).trans g.fa0, (hm.frozen (p := ⟨h4, 1, none⟩) l4 n4).trans g.fa1,
    keepS g.b0 hm n8, keepS g.b1 hm n8, (hm.frozen (p := ⟨h8, 0, none⟩) l8 n8).trans g.fb0, (hm.frozen (p := ⟨h8, 1, none⟩) l8 n8).trans g.fb1, hl.symm, hrow⟩
end BSt

theorem strictE {m : List Ev} (hs : m.Pairwise (fun a b => ¬ before b a)) (hd : m.Pairwise (fun a b => before a b ∨ before b a)) : m.Pairwise before := by
  induction m with
  | nil => exact List.Pairwise.nil
  | cons a m ih =>
    obtain ⟨h1, h2⟩ := List.pairwise_cons.1 hs
    obtain ⟨k1, k2⟩ := List.pairwise_cons.1 hd
    refine List.pairwise_cons.2 ⟨fun b hb => ?_, ih h2 k2⟩
    rcases k1 b hb with c | c
    · exact c
    · exact absurd c (h1 b hb)
/-- A sort of the events of lives that may be. -/
theorem sort_back {n : Int} {l : List Lf} (h : AllLf n none l) {m : List Ev} (hs : m.Pairwise (fun a b => ¬ before b a)) (hp : m.Perm (evs l)) : m = putAll before (evs l) := by
  obtain ⟨k1, k2, _⟩ := allLf_far h
  exact sort_evs h (strictE hs ((hp.pairwise_iff (fun h => h.symm)).2 (evs_pair k1 k2))) hp

theorem evs_take {l : List Lf} {k : Nat} {x : Lf} (hx : l[k]? = some x) : evs (l.take (k + 1)) = evs (l.take k) ++ evsOf x := by
  obtain ⟨h1, h2⟩ := List.getElem?_eq_some_iff.1 hx
  rw [List.take_succ_eq_append_getElem h1, h2]
  unfold evs
  rw [List.flatMap_append]; simp
theorem evs_len (l : List Lf) : (evs l).length ≤ 2 * l.length := by
  induction l with
  | nil => simp [evs]
  | cons x l ih =>
    have h1 : evs (x :: l) = evsOf x ++ evs l := by unfold evs; rw [List.flatMap_cons]
    have h2 : (evsOf x).length ≤ 2 := by unfold evsOf; split <;> simp
    rw [h1, List.length_append, List.length_cons]
    omega

/-- A closure that compares events is made. -/
theorem byV_new (w : World) : Calls Try.prog 43 #[.func (.func 44) #[] #[]] w fun e w' =>
    e = .returned (.func (.func 58) #[] #[.pointer (some ⟨w.heap.size, 0, none⟩)]) ∧ w.alloc (.cells #[.func (.func 44) #[] #[]] 90) = w' := by
  go_enter Try.func43, Try.ntmps43
  go_wp2_with fail
  go_ret
  exact ⟨rfl, rfl⟩

set_option maxRecDepth 100000 in
set_option maxHeartbeats 4000000 in
theorem back_any (w : World) (n : Int) (a : Option Addr) (cap : Nat) (l : List Lf) (hL : Lvs w a l) (hl : l.length ≤ 100000) (hb : ∀ x ∈ l, EdB x.e) :
    Calls Try.prog 17 #[.int .u64 n, .slice a l.length cap] w fun e w' =>
      ∃ a' cap', e = .returned (.tuple #[.agg #[.int .u64 (backN n l), .slice a' (backE n l).length cap'], .int .i64 (lchk n l).2]) ∧ Evs w' a' (backE n l) ∧ Mod w w' NoB := by
  have HL := Lib.hid hL
  have HBD := Lib.hid hb
  clear hL hb
  obtain ⟨i0, hi, hz0, hz1, hz2⟩ := info_parts info_event
  obtain ⟨h4, hh4⟩ : ∃ h4, h4 = w.heap.size := ⟨_, rfl⟩
  obtain ⟨W, hW⟩ : ∃ W, W = w.alloc (.cells #[.int .u64 0, .slice none 0 0] 25) := ⟨_, rfl⟩
  have HW : Hid (Mod w W NoB) := by rw [hW]; exact (Mod.refl _ _).alloc _
  have ca0 : W.cell? ⟨h4, 0, none⟩ = some (.int .u64 0) := by rw [hW, hh4]; exact World.cell?_alloc_at _ _ _ _ rfl
  have ca1 : W.cell? ⟨h4, 1, none⟩ = some (.slice none 0 0) := by rw [hW, hh4]; exact World.cell?_alloc_at _ _ _ _ rfl
  have cf0 : W.frozen? ⟨h4, 0, none⟩ = false := by rw [hW, hh4]; simp
  have cf1 : W.frozen? ⟨h4, 1, none⟩ = false := by rw [hW, hh4]; simp
  by_cases hc : (lchk n l).2 = 0
  · have hbn : backN n l = n := if_pos hc
    have hbe : backE n l = putAll before (evs l) := if_pos hc
    rw [hbn, hbe]
    obtain ⟨c1, hc1⟩ : ∃ c1, (lchk n l).1 = c1 := ⟨_, rfl⟩
    have HC : Hid (∀ z, Lvs z a l → Calls Try.prog 15 #[.int .u64 n, .slice a l.length cap] z fun e w' => e = .returned (.tuple #[.int .i64 c1, .int .i64 0]) ∧ Mod z w' NoB) := fun z hz => by
      have := lcheck_any z n a cap l hz (by omega) HBD.out
      rw [hc1, hc] at this
      exact this
    rw [hc]
    have HOK : Hid (AllLf n none l) := by
      have h2 := hc
      unfold lchk at h2
      split at h2
      · cases h2
      · exact allLf_of h2
    clear hc hbn hbe hc1
    go_enter Try.func17, Try.ntmps17
    go_wp2_with fail
    rw [← hW, ← hh4]
    refine (HC.out _ (HL.out.mod HW.out)).mono ?_
    rintro e w1 ⟨rfl, hm⟩
    have HM : Hid (Mod w w1 NoB) := HW.out.trans hm (fun _ _ h => h)
    have l4 := World.block_lt_of_cell? _ _ ca0
    have HA : Hid (w1.cell? ⟨h4, 0, none⟩ = some (.int .u64 0) ∧ w1.cell? ⟨h4, 1, none⟩ = some (.slice none 0 0) ∧ w1.frozen? ⟨h4, 0, none⟩ = false ∧ w1.frozen? ⟨h4, 1, none⟩ = false ∧ h4 < w1.heap.size ∧ w.heap.size ≤ h4) :=
      ⟨keepc ca0 hm, keepc ca1 hm, (hm.frozen (p := ⟨h4, 0, none⟩) l4 (by simp [NoB])).trans cf0, (hm.frozen (p := ⟨h4, 1, none⟩) l4 (by simp [NoB])).trans cf1, Nat.lt_of_lt_of_le l4 hm.size, by omega⟩
    clear hm HW ca0 ca1 cf0 cf1 l4 hW hh4
    go_wp2_with fail
    obtain ⟨h8, hh8⟩ : ∃ h8, h8 = w1.heap.size := ⟨_, rfl⟩
    obtain ⟨w2, hw2⟩ : ∃ w2, w2 = w1.alloc (.cells #[.int .u64 n, .slice none 0 0] 25) := ⟨_, rfl⟩
    have HB0 : Hid (BSt w w2 h4 h8 n (.slice none 0 0) 0 (evs (l.take 0))) := by
      have hm2 : Mod w1 w2 NoB := by rw [hw2]; exact (Mod.refl _ _).alloc _
      obtain ⟨q1, q2, q3, q4, q5, q6⟩ := HA.out
      refine ⟨HM.out.trans hm2 (fun _ _ h => h), ⟨q6, by omega⟩, keepc q1 hm2, keepc q2 hm2, (hm2.frozen (p := ⟨h4, 0, none⟩) q5 (by simp [NoB])).trans q3, (hm2.frozen (p := ⟨h4, 1, none⟩) q5 (by simp [NoB])).trans q4, ?_, ?_, ?_, ?_, rfl, World.ownsRow_nil _ _ _ _⟩
      · rw [hw2, hh8]; exact World.cell?_alloc_at _ _ _ _ rfl
      · rw [hw2, hh8]; exact World.cell?_alloc_at _ _ _ _ rfl
      · rw [hw2, hh8]; simp
      · rw [hw2, hh8]; simp
    rw [← hw2, ← hh8]
    clear hw2 hh8
    go_loopw [25] (fun i wr => ∃ (k : Nat) (oa : Option Addr) (oc L : Nat), k ≤ l.length ∧ i = .int .i64 k ∧ Hid (BSt w wr h4 h8 n (.slice oa L oc) L (evs (l.take k)))) (fun i _ => l.length - (intOf i).toNat)
    case atStart => exact ⟨0, none, 0, 0, Nat.zero_le _, rfl, HB0.out⟩
    case round =>
      obtain ⟨k, oa, oc, L, hk, rfl, HI⟩ := hrel
      by_cases hlt : k < l.length
      · obtain ⟨b, off, x, rfl, hbw, hx, hC⟩ := (HL.out.mod HI.out.mod).at hlt
        have hki : (k : Int) < l.length := by omega
        have hLle : L ≤ 200000 := by
          have h1 := evs_len (l.take k)
          have h2 := HI.out.len
          rw [List.length_take] at h1
          omega
        obtain ⟨c0, c1', c2, c3⟩ := hC
        have HX := Lib.hid hx
        clear hx hbw
        obtain ⟨e0, he0⟩ : ∃ e0, e0 = wr.heap.size := ⟨_, rfl⟩
        obtain ⟨V, hV⟩ : ∃ V, V = wr.alloc (.cells #[.int .u32 x.e.u, .int .u32 x.e.v, .int .i64 x.fr, .int .i64 x.to] 56) := ⟨_, rfl⟩
        have HV : Hid (Mod wr V NoB) := by rw [hV]; exact (Mod.refl _ _).alloc _
        have HD : Hid (LfAt V e0 0 x) := by
          rw [hV, he0]
          exact ⟨World.cell?_alloc_at _ _ _ _ rfl, World.cell?_alloc_at _ _ _ _ rfl, World.cell?_alloc_at _ _ _ _ rfl, World.cell?_alloc_at _ _ _ _ rfl⟩
        have HE0 : Hid (wr.heap.size ≤ e0 ∧ e0 < V.heap.size) := ⟨by omega, by rw [hV, he0]; simp⟩
        go_upto_region 8 with (fail)
        rw [← hV, ← he0]
        clear hV he0 c0 c1' c2 c3
        have HS := Lib.hid (HI.out.quiet HV.out)
        obtain ⟨v0, v1, v2, v3⟩ := HD.out
        simp only [Nat.zero_add] at v1 v2 v3
        have b1 := HS.out.b1
        have f1 := HS.out.fb1
        have lb := World.block_lt_of_cell? _ _ b1
        have le := World.block_lt_of_cell? _ _ v0
        have hone : ∀ u ∈ encV ⟨x.fr, x.e, true⟩, u.oneCell' = true := by simp [encV, Value.oneCell']
        have hms : h8 + 1 ≤ V.heap.size := lb
        have hB1 : L + 1 ≤ maxLen := by unfold maxLen; omega
        have hB2 : (L + 1) * 24 ≤ 140737488355328 := by omega
        go_upto_region 9 with (at_builtin; refine wpList_append_lies _ rfl _ _ 23 rfl (h8 + 1) 65 i0 _ 4 24 Try.underlying23 hi hz0 hz1 hz2 rfl (by decide) (.slice oa L oc) L _ rfl (HS.out.row.alloc _) ⟨_, 0, none⟩ 1 1 (encV ⟨x.fr, x.e, true⟩) rfl rfl (World.news_of_block (MapKept.heap_alloc _ _).1) hone (by decide) hB1 hB2 (le_alloc hms) _ rfl ?_; intro g1 cap1 w8 hown hgrow hat hlt8; have H8 := Lib.hid (HS.out.app hown hgrow); clear hown hgrow hat hlt8 b1 f1; have b2 := H8.out.1.1; have f2 := H8.out.1.2)
        obtain ⟨Z, hZ⟩ : ∃ Z, Z = w8.setCell ⟨h8, 1, none⟩ (.slice (some ⟨g1, 0, none⟩) (L + 1) cap1) := ⟨_, rfl⟩
        have H9 : Hid (BSt w Z h4 h8 n (.slice (some ⟨g1, 0, none⟩) (L + 1) cap1) (L + 1) (evs (l.take k) ++ [⟨x.fr, x.e, true⟩]) ∧ Mod V Z (fun q => (Value.slice oa L oc).ownBlock = some q ∨ q = h8)) := by
          show _ ∧ _
          rw [hZ]; exact H8.out.2
        have hne : ¬ ((Value.slice oa L oc).ownBlock = some e0 ∨ e0 = h8) := by
          have h1 := HE0.out.1
          have h2 := World.block_lt_of_cell? _ _ HI.out.b0
          rintro (c | c)
          · have := (HI.out.own _ c).2; omega
          · rw [c] at h1; exact absurd h2 (Nat.not_lt.2 h1)
        have u0 := keepS v0 H9.out.2 hne
        have u1 := keepS v1 H9.out.2 hne
        have u2 := keepS v2 H9.out.2 hne
        have u3 := keepS v3 H9.out.2 hne
        rw [← hZ]
        clear hZ v0 v1 v2 v3 b2 f2 hne H8 hone hB1 hB2 hms lb le
        have ht := evs_take HX.out
        by_cases ht0 : 0 ≤ x.to
        · have hev : evs (l.take (k + 1)) = (evs (l.take k) ++ [⟨x.fr, x.e, true⟩]) ++ [⟨x.to, x.e, false⟩] := by
            rw [ht]; unfold evsOf; rw [if_pos ht0]; simp
          have HEV := Lib.hid hev
          clear hev ht
          have b1 := H9.out.1.b1
          have f1 := H9.out.1.fb1
          have lb := World.block_lt_of_cell? _ _ b1
          have le := World.block_lt_of_cell? _ _ u0
          have hone : ∀ u ∈ encV ⟨x.to, x.e, false⟩, u.oneCell' = true := by simp [encV, Value.oneCell']
          have hms : h8 + 1 ≤ Z.heap.size := lb
          have hB1 : L + 1 + 1 ≤ maxLen := by unfold maxLen; omega
          have hB2 : (L + 1 + 1) * 24 ≤ 140737488355328 := by omega
          go_upto_region 11 with (at_builtin; refine wpList_append_lies _ rfl _ _ 23 rfl (h8 + 1) 65 i0 _ 4 24 Try.underlying23 hi hz0 hz1 hz2 rfl (by decide) (.slice (some ⟨g1, 0, none⟩) (L + 1) cap1) (L + 1) _ rfl (H9.out.1.row.alloc _) ⟨_, 0, none⟩ 1 1 (encV ⟨x.to, x.e, false⟩) rfl rfl (World.news_of_block (MapKept.heap_alloc _ _).1) hone (by decide) hB1 hB2 (le_alloc hms) _ rfl ?_; intro g2 cap2 wA hown hgrow hat hlt8; have HA8 := Lib.hid (H9.out.1.app hown hgrow); clear hown hgrow hat hlt8 b1 f1; have b2 := HA8.out.1.1; have f2 := HA8.out.1.2)
          go_wp2_with fail
          go_roundw
          case rel => exact ⟨k + 1, some ⟨g2, 0, none⟩, cap2, L + 1 + 1, by omega, by go_num, by rw [HEV.out]; exact HA8.out.2.1⟩
          case measure => simp [intOf]; omega
        · have hev : evs (l.take (k + 1)) = evs (l.take k) ++ [⟨x.fr, x.e, true⟩] := by
            rw [ht]; unfold evsOf; rw [if_neg ht0]
          have HEV := Lib.hid hev
          clear hev ht
          go_wp2_with fail
          go_roundw
          case rel => exact ⟨k + 1, some ⟨g1, 0, none⟩, cap1, L + 1, by omega, by go_num, by rw [HEV.out]; exact H9.out.1⟩
          case measure => simp [intOf]; omega
      · have hkl : k = l.length := by omega
        have hI := HI.out
        rw [hkl, List.take_length] at hI
        have HB := Lib.hid hI
        clear hI hkl
        have hLL := HB.out.len
        subst hLL
        have b1 := HB.out.b1
        have f1 := HB.out.fb1
        have lb := World.block_lt_of_cell? _ _ b1
        have hel := evs_len l
        have HLE : Hid ((evs l).length ≤ 1000000) := by show _ ≤ _; omega
        clear hel
        have HN : Hid ((Value.slice oa (evs l).length oc).ownBlock ≠ some wr.heap.size) := fun c => Nat.lt_irrefl _ (HB.out.own _ c).2
        have HRW : Hid (∀ z, Mod wr z NoB → z.ownsRow (h8 + 1) 65 4 (.slice oa (evs l).length oc) (evs l).length ((evs l).flatMap encV)) := fun z hz => hz.row HB.out.row (fun _ _ c => c)
        go_upto_region 12 with (fail)
        go_region_held3 (fun z => z.cell? ⟨h8, 1, none⟩ = some (.slice oa (evs l).length oc))
          (first | exact b1 | exact (World.cell?_alloc_lt _ _ _ lb).trans b1 | exact H6.out.1.b1)
          (first
          | (go_at_call 43; refine (byV_new _).mono ?_; rintro e w5 ⟨rfl, rfl⟩)
          | (go_at_call 42; refine (sortEv_row _ (h8 + 1) _ _ (evs l) (HRW.out _ (Mod.alloc (Mod.drew (Mod.refl _ _)) _)) HLE.out (World.cell?_alloc_at _ _ _ _ rfl) HN.out).mono ?_; rintro e w6 ⟨rfl, l', k1, k2, k3, k4, k5⟩; have H6 := Lib.hid (And.intro (HB.out.sorted (Mod.alloc (Mod.drew (Mod.refl _ _)) _) k1 k4 k5) (And.intro k2 k3)); clear k1 k2 k3 k4 k5))
        all_goals
          have q0 := H6.out.1.a0
          have q1 := H6.out.1.a1
          have q2 := H6.out.1.fa0
          have q3 := H6.out.1.fa1
          have q4 := H6.out.1.b0
          have q5 := H6.out.1.b1
          clear b1 f1 lb
          go_wp2_with fail
          have hl' : l' = putAll before (evs l) := sort_back HOK.out H6.out.2.2 H6.out.2.1
          subst hl'
          obtain ⟨z, hz⟩ : ∃ z, z = (w6.setCell ⟨h4, 0, none⟩ (.int .u64 n)).setCell ⟨h4, 1, none⟩ (.slice oa (evs l).length oc) := ⟨_, rfl⟩
          have h46 : Mod w6 z (OneB h4) := by
            rw [hz]; exact (Mod.set1 w6 h4 0 (.int .u64 n)).setG _
          have hne : ¬ (Value.slice oa (evs l).length oc).ownBlock = some h4 := fun c => by
            have := (H6.out.1.own _ c).1
            have := H6.out.1.hh.2
            omega
          have HZ : Hid (Evs z oa (putAll before (evs l)) ∧ (evs l).length = (putAll before (evs l)).length ∧ Mod w z NoB) := by
            have hrow := h46.row H6.out.1.row (fun q hq c => hne (by rw [hq, show q = h4 from c]))
            refine ⟨evs_of_row H6.out.1.len.symm hrow, H6.out.1.len, H6.out.1.mod.trans h46 (fun i hi c => by
              have h1 : i = h4 := c
              have := H6.out.1.hh.1
              omega)⟩
          have z0 : z.cell? ⟨h4, 0, none⟩ = some (.int .u64 n) := by
            rw [hz, World.cell?_setCell_other _ _ _ _ (by simp)]; exact World.cell?_setCell_same _ _ _ q0
          have z1 : z.cell? ⟨h4, 1, none⟩ = some (.slice oa (evs l).length oc) := by
            rw [hz]; exact World.cell?_setCell_same _ _ _ (by rw [World.cell?_setCell_other _ _ _ _ (by simp)]; exact q1)
          rw [← hz]
          clear hz q0 q1 q2 q3 q4 q5 h46 hne
          exact bodyPost_ret (v := .tuple #[.agg #[.int .u64 n, .slice oa (evs l).length oc], .int .i64 0]) (by simp [results, Try.results17, go_sem, z0, z1]) rfl ⟨oa, oc, by rw [← HZ.out.2.1]; rfl, HZ.out.1, HZ.out.2.2⟩
  · have hbn : backN n l = 0 := if_neg hc
    have hbe : backE n l = [] := if_neg hc
    rw [hbn, hbe]
    obtain ⟨c2, hc2⟩ : ∃ c2, (lchk n l).2 = c2 := ⟨_, rfl⟩
    have HC : Hid (∀ z, Lvs z a l → Calls Try.prog 15 #[.int .u64 n, .slice a l.length cap] z fun e w' => e = .returned (.tuple #[.int .i64 (lchk n l).1, .int .i64 c2]) ∧ Mod z w' NoB) := fun z hz => by
      have := lcheck_any z n a cap l hz (by omega) HBD.out
      rw [hc2] at this
      exact this
    rw [hc2]
    have hcne : ((c2 : Int) != 0) = true := by rw [← hc2]; simpa using hc
    clear hc hbn hbe hc2
    go_enter Try.func17, Try.ntmps17
    go_wp2_with fail
    rw [← hW, ← hh4]
    refine (HC.out _ (HL.out.mod HW.out)).mono ?_
    rintro e w1 ⟨rfl, hm⟩
    have HM : Hid (Mod w w1 NoB) := HW.out.trans hm (fun _ _ h => h)
    have l4 := World.block_lt_of_cell? _ _ ca0
    have d0 := keepc ca0 hm
    have d1 := keepc ca1 hm
    have e0 := (hm.frozen (p := ⟨h4, 0, none⟩) l4 (by simp [NoB])).trans cf0
    have e1 := (hm.frozen (p := ⟨h4, 1, none⟩) l4 (by simp [NoB])).trans cf1
    have HH : Hid (w.heap.size ≤ h4) := by show w.heap.size ≤ h4; omega
    clear hm HW ca0 ca1 cf0 cf1 l4 hW hh4
    go_wp2_with fail
    obtain ⟨z, hz⟩ : ∃ z, z = (w1.setCell ⟨h4, 0, none⟩ (.int .u64 0)).setCell ⟨h4, 1, none⟩ (.slice none 0 0) := ⟨_, rfl⟩
    have HZ : Hid (Mod w z NoB) := by
      show Mod w z NoB
      rw [hz]
      exact (HM.out.setCell (p := ⟨h4, 0, none⟩) (fun c => absurd c (Nat.not_lt.2 HH.out)) _).setCell (p := ⟨h4, 1, none⟩) (fun c => absurd c (Nat.not_lt.2 HH.out)) _
    have z0 : z.cell? ⟨h4, 0, none⟩ = some (.int .u64 0) := by
      rw [hz, World.cell?_setCell_other _ _ _ _ (by simp)]; exact World.cell?_setCell_same _ _ _ d0
    have z1 : z.cell? ⟨h4, 1, none⟩ = some (.slice none 0 0) := by
      rw [hz]; exact World.cell?_setCell_same _ _ _ (by rw [World.cell?_setCell_other _ _ _ _ (by simp)]; exact d1)
    rw [← hz]
    clear hz d0 d1 e0 e1
    exact bodyPost_ret (v := .tuple #[.agg #[.int .u64 0, .slice none 0 0], .int .i64 c2]) (by simp [results, Try.results17, go_sem, z0, z1]) rfl ⟨none, 0, rfl, Or.inl rfl, HZ.out⟩
end Go.Proofs.Ythncgmmfnghliaa
