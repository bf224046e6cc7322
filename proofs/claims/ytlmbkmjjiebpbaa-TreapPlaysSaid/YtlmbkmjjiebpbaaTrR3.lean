/- The reference's arena: the contracts of Node and Cut. -/
import Derived.Test.YtlmbkmjjiebpbaaTrR2
import Derived.Test.YtlmbkmjjiebpbaaTrT
import Derived.Deep.RegionLaw
import Derived.Deep.DeepCutAuto
import Derived.Deep.CutBlock
namespace Go.Proofs.Ytlmbkmjjiebpbaa
open Go.RowKit
set_option linter.unusedVariables false

theorem info_ints : (Try.prog.info? 37).map (fun i => (i.zero, i.size, i.bytes)) = some (some (.slice none 0 0), 1, 24) := by kernel_rfl

/-- An inner list, behind a change of the outer row. -/
theorem Inn.move {w w' : World} {T T' U : Nat → Prop} {h : Nat} {v v' u : Value} {l : List Nat} (hi : Inn w T h v u l) (hm : Mod w w' U) (hU : ∀ k, U k → k = h ∨ v.ownBlock = some k) (hT : ∀ k, T k → T' k)
    (hv : ∀ k, v'.ownBlock = some k → v.ownBlock = some k ∨ w.heap.size ≤ k) : Inn w' T' h v' u l := by
  obtain ⟨h0, b, cap, rfl, h1, h2, h3, h4, h5, hc⟩ := hi
  have hpos : 0 < l.length := List.length_pos_iff.2 h0
  have hb := World.block_lt_of_cell? _ _ (hc 0 hpos)
  have hb' : b < w.heap.size := hb
  refine ⟨h0, b, cap, rfl, hT b h1, h2, fun e => ?_, h4, h5, fun j hj => (hm.cell (World.block_lt_of_cell? _ _ (hc j hj)) (fun e => ?_)).trans (hc j hj)⟩
  · rcases hv b e with e | e
    · exact h3 e
    · omega
  · rcases hU b e with e | e
    · exact h2 e
    · exact h3 e

/-- The reference's arena, opened: its outer row v, what is in it. -/
structure RO (w : World) (T : Nat → Prop) (h n : Nat) (L : List (List Nat)) (v : Value) (us : List Value) : Prop where
  c0 : w.cell? ⟨h, 0, none⟩ = some (.int .i64 n)
  c1 : w.cell? ⟨h, 1, none⟩ = some v
  f0 : w.frozen? ⟨h, 0, none⟩ = false
  f1 : w.frozen? ⟨h, 1, none⟩ = false
  row : w.ownsRow 0 37 1 v L.length us
  inn : ∀ (i : Nat) (l : List Nat), L[i]? = some l → ∃ u, us[i]? = some u ∧ Inn w T h v u l
  th : T h
  tv : ∀ k, v.ownBlock = some k → T k ∧ k ≠ h
  nb : n ≤ 1048576
  lb : L.length ≤ 1048576
  ll : ∀ l ∈ L, l.length ≤ 1048576

theorem RA.open {w : World} {T : Nat → Prop} {h n : Nat} {L : List (List Nat)} (hR : RA h n L w T) : ∃ a cap us, RO w T h n L (.slice a L.length cap) us := by
  obtain ⟨v, us, c0, c1, f0, f1, hr, hl, hi, ht, hv, hn, hL, hll⟩ := hR
  obtain ⟨a, cap, rfl⟩ := row_form hr
  exact ⟨a, cap, us, c0, c1, f0, f1, hr, hi, ht, hv, hn, hL, hll⟩
theorem RO.hl {w : World} {T : Nat → Prop} {h n : Nat} {L : List (List Nat)} {v : Value} {us : List Value} (o : RO w T h n L v us) : h < w.heap.size := World.block_lt_of_cell? _ _ o.c0
theorem RO.vl {w : World} {T : Nat → Prop} {h n : Nat} {L : List (List Nat)} {v : Value} {us : List Value} (o : RO w T h n L v us) : ∀ k, v.ownBlock = some k → k < w.heap.size := fun k hk => (World.ownsRow.lt o.row k hk).2

/-- The arena is made again, in another world. -/
theorem RO.again {w W : World} {T : Nat → Prop} {h n n' : Nat} {L L' : List (List Nat)} {v v' : Value} {us us' : List Value} {U : Nat → Prop} (o : RO w T h n L v us)
    (hm : Mod w W U) (hU : ∀ k, U k → k = h ∨ v.ownBlock = some k) (d0 : W.cell? ⟨h, 0, none⟩ = some (.int .i64 n')) (d1 : W.cell? ⟨h, 1, none⟩ = some v') (g0 : W.frozen? ⟨h, 0, none⟩ = false) (g1 : W.frozen? ⟨h, 1, none⟩ = false)
    (hr : W.ownsRow 0 37 1 v' L'.length us') (hv : ∀ k, v'.ownBlock = some k → v.ownBlock = some k ∨ w.heap.size ≤ k)
    (hi : ∀ (i : Nat) (l : List Nat), L'[i]? = some l → ∃ u, us'[i]? = some u ∧ ((∃ j : Nat, L[j]? = some l ∧ us[j]? = some u) ∨ (Inn W (Fresh T w W) h v' u l)))
    (hn : n' ≤ 1048576) (hL : L'.length ≤ 1048576) (hll : ∀ l ∈ L', l.length ≤ 1048576) : RA h n' L' W (Fresh T w W) ∧ Mod w W T := by
  refine ⟨⟨v', us', d0, d1, g0, g1, hr, ?_, fun i l hil => ?_, Or.inl o.th, fun k hk => ?_, hn, hL, hll⟩, hm.mono (fun k _ hk => ?_)⟩
  · have := hr.1; omega
  · obtain ⟨u, hu, ⟨j, hj, huj⟩ | hnew⟩ := hi i l hil
    · obtain ⟨u', hu', hin⟩ := o.inn j l hj
      rw [huj] at hu'
      cases hu'
      exact ⟨u, hu, hin.move hm hU (fun k hk => Or.inl hk) hv⟩
    · exact ⟨u, hu, hnew⟩
  · rcases hv k hk with e | e
    · exact ⟨Or.inl (o.tv k e).1, (o.tv k e).2⟩
    · refine ⟨Or.inr ⟨e, (World.ownsRow.lt hr k hk).2⟩, fun e2 => ?_⟩
      have := o.hl; omega
  · rcases hU k hk with rfl | e
    · exact o.th
    · exact (o.tv k e).1

/-- A new list of one or more numbers, laid in a block of its own behind all that was there. -/
theorem Inn.new {w W : World} {T : Nat → Prop} {h : Nat} {v' : Value} {l : List Nat} {b cap : Nat} (h0 : l ≠ []) (hb : w.heap.size ≤ b) (hlt : b < W.heap.size) (hh : h < w.heap.size) (hv : v'.ownBlock ≠ some b) (h1 : l.length ≤ cap) (h2 : cap ≤ maxLen)
    (hc : ∀ j, j < l.length → W.cell? ⟨b, j, none⟩ = some (.int .i64 ((l.getD j 0 : Nat) : Int))) : Inn W (Fresh T w W) h v' (.slice (some ⟨b, 0, none⟩) l.length cap) l :=
  ⟨h0, b, cap, rfl, Or.inr ⟨hb, hlt⟩, by omega, hv, h1, h2, hc⟩

/-- Behind the two literals and the append of Node. -/
theorem rnode_rep {w w1 : World} {T : Nat → Prop} {h n : Nat} {L : List (List Nat)} {a : Option Addr} {cap g1 cap1 : Nat} {us : List Value} (o : RO w T h n L (.slice a L.length cap) us) (hn : n < 1048576) (hL : L.length < 1048576) {t1 t2 : TypeId}
    (hown : w1.ownsRow 0 37 1 (.slice (some ⟨g1, 0, none⟩) (L.length + 1) cap1) (L.length + 1) (us ++ [.slice (some ⟨w.heap.size, 0, none⟩) 1 1]))
    (hg : ((w.alloc (.cells #[.int .i64 n] t1)).alloc (.cells #[.slice (some ⟨w.heap.size, 0, none⟩) 1 1] t2)).drew.grownBy w1 (Value.slice a L.length cap).ownBlock) (hat : (Value.slice a L.length cap).ownBlock = some g1 ∨ g1 = w.heap.size + 2) (hlt : g1 < w1.heap.size) :
    (w1.cell? ⟨h, 0, none⟩ = some (.int .i64 n) ∧ w1.cell? ⟨h, 1, none⟩ = some (.slice a L.length cap) ∧ w1.frozen? ⟨h, 0, none⟩ = false ∧ w1.frozen? ⟨h, 1, none⟩ = false) ∧
    Hid (RA h (n + 1) (L ++ [[n]]) ((w1.setCell ⟨h, 1, none⟩ (.slice (some ⟨g1, 0, none⟩) (L.length + 1) cap1)).setCell ⟨h, 0, none⟩ (.int .i64 ((n : Int) + 1))) (Fresh T w ((w1.setCell ⟨h, 1, none⟩ (.slice (some ⟨g1, 0, none⟩) (L.length + 1) cap1)).setCell ⟨h, 0, none⟩ (.int .i64 ((n : Int) + 1)))) ∧
      Mod w ((w1.setCell ⟨h, 1, none⟩ (.slice (some ⟨g1, 0, none⟩) (L.length + 1) cap1)).setCell ⟨h, 0, none⟩ (.int .i64 ((n : Int) + 1))) T) := by
  have hh := o.hl
  have hvl := o.vl
  have hM : Mod w w1 (fun k => (Value.slice a L.length cap).ownBlock = some k) := (((Mod.refl w _).alloc _).alloc _).drew.grown hg (fun k hk _ => hk)
  have hnh : ¬ (Value.slice a L.length cap).ownBlock = some h := fun e => (o.tv h e).2 rfl
  have e0 := (hM.cell (p := ⟨h, 0, none⟩) hh hnh).trans o.c0
  have e1 := (hM.cell (p := ⟨h, 1, none⟩) hh hnh).trans o.c1
  have e2 := (hM.frozen (p := ⟨h, 0, none⟩) hh hnh).trans o.f0
  have e3 := (hM.frozen (p := ⟨h, 1, none⟩) hh hnh).trans o.f1
  have hg1 : g1 ≠ h := by
    rcases hat with e | e
    · exact (o.tv _ e).2
    · omega
  have hsz2 : w.heap.size + 2 ≤ w1.heap.size := by have := hg.size; simp at this; omega
  have hnew : w1.cell? ⟨w.heap.size, 0, none⟩ = some (.int .i64 n) := by
    have hb := hg.block w.heap.size (by simp; omega) (fun e => by have := hvl _ e.symm; omega)
    rw [World.cell?_of_block (a := ⟨w.heap.size, 0, none⟩) hb]
    have h2 : ((w.alloc (.cells #[.int .i64 n] t1)).alloc (.cells #[.slice (some ⟨w.heap.size, 0, none⟩) 1 1] t2)).heap[w.heap.size]? = (w.alloc (.cells #[.int .i64 n] t1)).heap[w.heap.size]? := Below.heap_alloc _ _ _ (by simp)
    have h3 : ((w.alloc (.cells #[.int .i64 n] t1)).alloc (.cells #[.slice (some ⟨w.heap.size, 0, none⟩) 1 1] t2)).drew.cell? ⟨w.heap.size, 0, none⟩ = (w.alloc (.cells #[.int .i64 n] t1)).cell? ⟨w.heap.size, 0, none⟩ := World.cell?_of_block (a := ⟨w.heap.size, 0, none⟩) h2
    rw [h3]
    exact World.cell?_alloc_at _ _ _ _ rfl
  refine ⟨⟨e0, e1, e2, e3⟩, ?_⟩
  obtain ⟨W, hW⟩ : ∃ W, W = ((w1.setCell ⟨h, 1, none⟩ (.slice (some ⟨g1, 0, none⟩) (L.length + 1) cap1)).setCell ⟨h, 0, none⟩ (.int .i64 ((n : Int) + 1))) := ⟨_, rfl⟩
  have hMW : Mod w1 W (OneB h) := by rw [hW]; exact (Mod.set1 _ _ _ _).setG _
  have hMM : Mod w W (fun k => k = h ∨ (Value.slice a L.length cap).ownBlock = some k) := (hM.mono (fun k _ hk => Or.inr hk)).trans hMW (fun k _ hk => Or.inl hk)
  have hw0 : w.heap.size ≠ h := by omega
  have hv' : (Value.slice (some ⟨g1, 0, none⟩) (L.length + 1) cap1).ownBlock ≠ some w.heap.size := fun e => by
    simp [Value.ownBlock] at e
    rcases hat with e' | e'
    · have := hvl _ e'; omega
    · omega
  show RA h (n + 1) (L ++ [[n]]) _ _ ∧ _
  rw [← hW]
  have hcell0 : (w1.setCell ⟨h, 1, none⟩ (.slice (some ⟨g1, 0, none⟩) (L.length + 1) cap1)).cell? ⟨h, 0, none⟩ = some (.int .i64 n) := by
    rw [World.cell?_setCell_other _ _ _ _ (by simp)]; exact e0
  refine o.again (v' := .slice (some ⟨g1, 0, none⟩) (L.length + 1) cap1) (us' := us ++ [.slice (some ⟨w.heap.size, 0, none⟩) 1 1]) hMM (fun k hk => hk) ?_ ?_ ?_ ?_ ?_ (fun k hk => ?_) (fun i l hil => ?_) (by omega) (by simp; omega) (fun l hl => ?_)
  · rw [hW, World.cell?_setCell_same _ _ _ hcell0]; simp
  · rw [hW, World.cell?_setCell_other _ _ _ _ (by simp)]; exact World.cell?_setCell_same _ _ _ e1
  · rw [hW, World.frozen?_setCell, World.frozen?_setCell]; exact e2
  · rw [hW, World.frozen?_setCell, World.frozen?_setCell]; exact e3
  · rw [show (L ++ [[n]]).length = L.length + 1 by simp]
    exact hMW.row hown (fun k hk => by simp [Value.ownBlock] at hk; subst hk; exact hg1)
  · simp [Value.ownBlock] at hk
    subst hk
    rcases hat with e | e
    · exact Or.inl e
    · right; omega
  · have hul : us.length = L.length := by have := o.row.1; omega
    by_cases hi : i < L.length
    · rw [List.getElem?_append_left hi] at hil
      obtain ⟨u, hu, _⟩ := o.inn i l hil
      exact ⟨u, by rw [List.getElem?_append_left (by omega)]; exact hu, Or.inl ⟨i, hil, hu⟩⟩
    · have hi2 : i = L.length := by
        have := (List.getElem?_eq_some_iff.1 hil).1
        simp at this; omega
      subst hi2
      have hl : l = [n] := by simpa using hil.symm
      subst hl
      refine ⟨.slice (some ⟨w.heap.size, 0, none⟩) 1 1, by rw [List.getElem?_append_right (by omega)]; simp [hul], Or.inr (Inn.new (by simp) (Nat.le_refl _) (by have := hMW.size; omega) hh hv' (by simp) (by unfold maxLen; simp) (fun j hj => ?_))⟩
      have hj0 : j = 0 := by simp at hj; omega
      subst hj0
      exact (hMW.cell (p := ⟨w.heap.size, 0, none⟩) (by show w.heap.size < _; omega) (by unfold OneB; exact hw0)).trans hnew
  · rcases List.mem_append.1 hl with h' | h'
    · exact o.ll l h'
    · simp at h'; subst h'; simp

set_option maxHeartbeats 4000000 in
theorem rnode_any (w : World) (T : Nat → Prop) (h n : Nat) (L : List (List Nat)) (hR : RA h n L w T) (hn : n < 1048576) (hL : L.length < 1048576) :
    Calls Try.prog 10 #[.pointer (some ⟨h, 0, none⟩)] w fun e w' => e = .returned (.int .i64 n) ∧ RA h (n + 1) (L ++ [[n]]) w' (Fresh T w w') ∧ Mod w w' T := by
  obtain ⟨a, cap, us, o⟩ := hR.open
  have c0 := o.c0
  have c1 := o.c1
  have f0 := o.f0
  have f1 := o.f1
  have hh := o.hl
  have hb : ((n : Int) == 1048576) = false := by simp; omega
  obtain ⟨i0, hi, hz0, hz1, hz2⟩ := info_parts info_ints
  have hB1 : L.length + 1 ≤ maxLen := by unfold maxLen; omega
  have hB2 : (L.length + 1) * 24 ≤ 140737488355328 := by omega
  have hone : ∀ u ∈ [Value.slice (some ⟨w.heap.size, 0, none⟩) 1 1], u.oneCell' = true := by simp [Value.oneCell']
  have hsz1 : (w.alloc (.cells #[.int .i64 (n : Int)] 3)).heap.size = w.heap.size + 1 := by simp
  have hnw := cell_one_new (w.alloc (.cells #[.int .i64 (n : Int)] 3)) (.slice (some ⟨w.heap.size, 0, none⟩) 1 1) 37
  rw [hsz1] at hnw
  have HW := Lib.hid hnw
  have HO := Lib.hid o
  clear o hR hnw hsz1
  go_enter Try.func10, Try.ntmps10
  go_wp2_with fail
  go_region_law (refine step_append_lies _ rfl _ _ 28 rfl 0 37 i0 (.slice none 0 0) 1 24 Try.underlying28 hi hz0 hz1 hz2 rfl (by decide) (.slice a L.length cap) L.length _ rfl ((HO.out.row.alloc _).alloc _) ⟨w.heap.size + 1, 0, none⟩ 1 1 [.slice (some ⟨w.heap.size, 0, none⟩) 1 1] rfl rfl HW.out hone (by decide) hB1 hB2 (Nat.zero_le _) (w.heap.size + 2) (by simp) ?_; intro g1 cap1 w1 hown1 hgrow1 hat1 hlt1; obtain ⟨⟨d0, d1, d2, d3⟩, HG⟩ := rnode_rep HO.out hn hL hown1 hgrow1 hat1 hlt1; clear hown1 hgrow1 hat1 hlt1)
  all_goals
    go_wp2_with fail
    go_ret
    exact ⟨rfl, HG.out⟩
end Go.Proofs.Ytlmbkmjjiebpbaa
