/- The reference's arena: the contract of Cut, whole. -/
import Derived.Test.YtlmbkmjjiebpbaaTrR4
namespace Go.Proofs.Ytlmbkmjjiebpbaa
open Go.RowKit
set_option linter.unusedVariables false

theorem nums_one' (l : List Nat) : ∀ u ∈ nums l, u.oneCell' = true := fun u hu => by
  obtain ⟨x, _, rfl⟩ := List.mem_map.1 hu
  rfl
theorem add_at (b k j : Nat) : (⟨b, k, none⟩ : Addr).add j = ⟨b, k + j, none⟩ := by unfold Addr.add; split <;> simp_all

theorem RO.drew {w : World} {T : Nat → Prop} {h n : Nat} {L : List (List Nat)} {v : Value} {us : List Value} (o : RO w T h n L v us) : RO w.drew T h n L v us := ⟨o.c0, o.c1, o.f0, o.f1, o.row, o.inn, o.th, o.tv, o.nb, o.lb, o.ll⟩

/-- Between the two halves of Cut. -/
structure Half (w wc : World) (T : Nat → Prop) (h n ob cap b k : Nat) (L : List (List Nat)) (l : List Nat) (us : List Value) : Prop where
  ro : RO wc T h n L (.slice (some ⟨ob, 0, none⟩) L.length cap) us
  mod : Mod w wc T
  cell : ∀ j, j < l.length → wc.cell? ⟨b, j, none⟩ = some (.int .i64 ((l.getD j 0 : Nat) : Int))
  bl : b < wc.heap.size
  ne : b ≠ ob

theorem half_end {w wc w6 w7 : World} {T : Nat → Prop} {h n ob cap b k i g1 cap1 g2 cap2 : Nat} {L : List (List Nat)} {l : List Nat} {us : List Value} {o : Obj} (H : Half w wc T h n ob cap b k (L.set i (l.take k)) l us) (hkl : k < l.length) (hll : l.length ≤ 1048576) (hL : L.length < 1048576)
    (hr6 : w6.ownsRow 0 3 1 (.slice (some ⟨g1, 0, none⟩) (l.length - k) cap1) (l.length - k) (nums (l.drop k))) (ha6 : g1 = wc.heap.size) (hm6 : Mod wc w6 NoB) (hlt1 : g1 < w6.heap.size)
    (hown : w7.ownsRow 0 37 1 (.slice (some ⟨g2, 0, none⟩) (L.length + 1) cap2) (L.length + 1) (us ++ [.slice (some ⟨g1, 0, none⟩) (l.length - k) cap1])) (hg : (w6.alloc o).grownBy w7 (some ob)) (hat : some ob = some g2 ∨ g2 = w6.heap.size + 1) :
    (w7.cell? ⟨h, 1, none⟩ = some (.slice (some ⟨ob, 0, none⟩) L.length cap) ∧ w7.frozen? ⟨h, 1, none⟩ = false) ∧
    Hid (RA h n (L.set i (l.take k) ++ [l.drop k]) (w7.setCell ⟨h, 1, none⟩ (.slice (some ⟨g2, 0, none⟩) (L.length + 1) cap2)) (Fresh T w (w7.setCell ⟨h, 1, none⟩ (.slice (some ⟨g2, 0, none⟩) (L.length + 1) cap2))) ∧ Mod w (w7.setCell ⟨h, 1, none⟩ (.slice (some ⟨g2, 0, none⟩) (L.length + 1) cap2)) T) := by
  have e5 : (L.set i (l.take k)).length = L.length := by simp
  have ed : (l.drop k).length = l.length - k := by simp
  obtain ⟨ro, md, hc, hbl, hbo⟩ := H
  rw [e5] at ro
  have hh := ro.hl
  have hob := ro.vl ob rfl
  have hoh : ob ≠ h := (ro.tv ob rfl).2
  have hm7 : Mod wc w7 (fun q => (Value.slice (some ⟨ob, 0, none⟩) L.length cap).ownBlock = some q) := ((hm6.mono (fun q _ hq => absurd hq (by simp [NoB]))).alloc o).grown hg (fun q hq _ => hq)
  have hnh : ¬ (Value.slice (some ⟨ob, 0, none⟩) L.length cap).ownBlock = some h := fun e => hoh (by simpa [Value.ownBlock] using e)
  refine ⟨⟨(hm7.cell (p := ⟨h, 1, none⟩) hh hnh).trans ro.c1, (hm7.frozen (p := ⟨h, 1, none⟩) hh hnh).trans ro.f1⟩, ?_⟩
  have hg1ob : g1 ≠ ob := by omega
  have hsz7 : w6.heap.size ≤ w7.heap.size := by have := hg.size; simp at this; omega
  obtain ⟨g1', cap1', e, hcs, _, q1, q2⟩ := row_open hr6 (by omega)
  simp only [Value.slice.injEq, Option.some.injEq, Addr.mk.injEq, and_true, true_and] at e
  obtain ⟨rfl, rfl⟩ := e
  have hcell : ∀ j, j < (l.drop k).length → w7.cell? ⟨g1, j, none⟩ = some (.int .i64 (((l.drop k).getD j 0 : Nat) : Int)) := fun j hj => by
    have h6 : w6.cell? ⟨g1, j, none⟩ = some (.int .i64 (((l.drop k).getD j 0 : Nat) : Int)) := hcs j _ (by
      have hj2 : k + j < l.length := by rw [ed] at hj; omega
      simp [nums, hj2])
    have h7 : w7.cell? ⟨g1, j, none⟩ = (w6.alloc o).cell? ⟨g1, j, none⟩ := World.cell?_of_block (a := ⟨g1, j, none⟩) (hg.block g1 (by simp; omega) (fun e => hg1ob (by simpa using e)))
    rw [h7, World.cell?_alloc_lt _ _ _ hlt1]; exact h6
  obtain ⟨r1, r2⟩ := rcut_rep (l' := l.drop k) (g1 := g1) (cap1 := cap1) ro e5.symm (by rw [e5]; exact hL) (fun e => by have := congrArg List.length e; rw [ed] at this; simp at this; omega) (by rw [ed]; omega) hm7
    (by rw [ed]; exact hown) (by omega) (by omega) (by
      rcases hat with e | e
      · exact Or.inl e
      · right; have := hm6.size; exact ⟨by omega, by omega⟩) (by rw [ed]; exact q1) q2 hcell
  refine ⟨r1.mono (fun q hq => ?_), md.trans r2 (fun q _ hq => hq)⟩
  rcases hq with hq | ⟨a, b⟩
  · exact Or.inl hq
  · exact Or.inr ⟨Nat.le_trans md.size a, b⟩

set_option maxHeartbeats 8000000 in
theorem rcut_yes (w : World) (T : Nat → Prop) (h n : Nat) (L : List (List Nat)) (x : Int) (i k : Nat) (hR : RA h n L w T) (hf : fnd L x = some (i, k)) (hk0 : 0 < k) (hL : L.length < 1048576) :
    Calls Try.prog 14 #[.pointer (some ⟨h, 0, none⟩), .int .i64 x] w fun e w' => e = .returned (.bool true) ∧ RA h n (L.set i ((L.getD i []).take k) ++ [(L.getD i []).drop k]) w' (Fresh T w w') ∧ Mod w w' T := by
  obtain ⟨l, y, hl, hy, _⟩ := fnd_some hf
  have hgd : L.getD i [] = l := by rw [List.getD_eq_getElem?_getD, hl]; rfl
  rw [hgd]
  have hil : i < L.length := (List.getElem?_eq_some_iff.1 hl).1
  have hkl : k < l.length := (List.getElem?_eq_some_iff.1 hy).1
  obtain ⟨a, cap, us, o⟩ := hR.open
  obtain ⟨ob, cap', e, hcs, hfs, e1, e2⟩ := row_open o.row (by omega)
  simp only [Value.slice.injEq, true_and] at e
  obtain ⟨rfl, rfl⟩ := e
  obtain ⟨u, hu, h0, b, icap, rfl, hTb, hbh, hbo, i1, i2, hc⟩ := o.inn i l hl
  have ci := hcs i _ hu
  have fi := hfs i
  have c1 := o.c1
  have hh := o.hl
  have hob := World.block_lt_of_cell? _ _ ci
  have hb : b < w.heap.size := World.block_lt_of_cell? _ _ (hc 0 (by omega))
  have hbob : b ≠ ob := fun e => hbo (by simp [Value.ownBlock, e])
  unfold maxLen at e2 i2
  have hll := o.ll l (List.mem_of_getElem? hl)
  have hlb := o.lb
  have hii : (i : Int) < L.length := by omega
  have hki : (k : Int) < l.length := by omega
  have hk1 : ¬ ((k : Int) < 1) := by omega
  have HRA := Lib.hid hR
  have HO := Lib.hid o
  have HC := Lib.hid hc
  have HF := Lib.hid hf
  have HT := Lib.hid hTb
  obtain ⟨i0, hi, hz0, hz1, hz2⟩ := info_parts info_int
  obtain ⟨j0, hj, hy0, hy1, hy2⟩ := info_parts info_ints
  clear o hc hf hcs hfs hu hl hy hR hTb hgd
  go_enter Try.func14, Try.ntmps14
  go_wp2_with fail
  refine (find_some HRA.out HF.out).mono ?_
  rintro e w1 ⟨rfl, rfl⟩
  go_upto_region 5 with (fail)
  have hki2 : k ≤ icap := by omega
  have hkn : k ≤ l.length := by omega
  have hkn2 : k < l.length := by omega
  have hk2 : ¬ icap = k := by omega
  go_cut [7] (fun v wc => v = .slice (some ⟨b, 0, none⟩) l.length icap ∧ Hid (Half w wc T h n ob cap b k (L.set i (l.take k)) l (us.set i (.slice (some ⟨b, 0, none⟩) k k))))
  case first =>
    go_wp2_with fail
    go_region
    go_wp2_with fail
    go_meet
    case rel =>
      refine ⟨rfl, ?_⟩
      have hM1 : Mod w w.drew NoB := (Mod.refl _ _).drew
      have hsz : (w.setCell ⟨ob, i, none⟩ (.slice (some ⟨b, 0, none⟩) k k)).heap.size = w.heap.size := by simp [World.setCell]
      have hcc : ∀ j, j < l.length → (w.setCell ⟨ob, i, none⟩ (.slice (some ⟨b, 0, none⟩) k k)).cell? ⟨b, j, none⟩ = some (.int .i64 ((l.getD j 0 : Nat) : Int)) := fun j hj => by
        rw [World.cell?_setCell_other _ _ _ _ (fun e => hbob (congrArg Addr.block e).symm)]; exact HC.out j hj
      have hne : l.take k ≠ [] := fun e => by
        have e3 := congrArg List.length e
        rw [List.length_take, List.length_nil] at e3
        omega
      obtain ⟨r1, r2⟩ := HO.out.put (T' := T) rfl (Mod.refl w NoB) (i := i) (l' := l.take k) (u' := .slice (some ⟨b, 0, none⟩) k k) hil ⟨hne, b, k, by simp; omega, HT.out, hbh, hbo, by simp; omega, by unfold maxLen; omega, fun j hj => by
        have hj' : j < k := by simp at hj; omega
        rw [hcc j (by omega)]
        rw [List.getD_eq_getElem?_getD, List.getD_eq_getElem?_getD, List.getElem?_take, if_pos hj']⟩ (fun _ h => h) (by simp; omega)
      have e5 : (L.set i (l.take k)).length = L.length := by simp
      refine ⟨by rw [e5]; exact r1.drew, r2.drew, hcc, ?_, hbob⟩
      show b < (w.setCell ⟨ob, i, none⟩ (.slice (some ⟨b, 0, none⟩) k k)).heap.size
      rw [hsz]; exact hb
  case rest =>
    obtain ⟨rfl, HH⟩ := hcut
    clear c1 ci fi hh hob hb
    have c1 := HH.out.ro.c1
    have f1 := HH.out.ro.f1
    have hh := HH.out.ro.hl
    have e5 : (L.set i (l.take k)).length = L.length := by simp
    rw [e5] at c1
    obtain ⟨W, hW⟩ : ∃ W, W = wc := ⟨_, rfl⟩
    have hB1 : 0 + (l.length - k) ≤ maxLen := by unfold maxLen; omega
    have hB2 : (0 + (l.length - k)) * 8 ≤ 140737488355328 := by omega
    have hB3 : L.length + 1 ≤ maxLen := by unfold maxLen; omega
    have hB4 : (L.length + 1) * 24 ≤ 140737488355328 := by omega
    have hB5 : 0 < 0 + (l.length - k) := by omega
    have hl1 : (nums (l.drop k)).length = l.length - k := by simp [nums]
    have hrow := HH.out.ro.row
    rw [e5] at hrow
    have k1 : ∀ j u, (nums (l.drop k))[j]? = some u → wc.drew.cell? ((⟨b, k, none⟩ : Addr).add j) = some u := fun j u hu => by
      have hj : k + j < l.length := by
        rcases Nat.lt_or_ge (k + j) l.length with e | e
        · exact e
        · rw [List.getElem?_eq_none (by rw [hl1]; omega)] at hu; cases hu
      rw [add_at]
      refine (HH.out.cell (k + j) hj).trans ?_
      rw [← hu]; simp [nums, hj]
    have HK := Lib.hid (And.intro k1 (And.intro hl1 (And.intro hrow (nums_one' (l.drop k)))))
    have HB := Lib.hid (And.intro hB1 (And.intro hB2 (And.intro hB3 (And.intro hB4 hB5))))
    clear k1 hl1 hrow hB1 hB2 hB3 hB4 hB5 e5 hW
    go_wp2_with fail
    have hones : ∀ (v : Option Addr) (m c : Nat), ∀ u ∈ [Value.slice v m c], u.oneCell' = true := fun v m c => by simp [Value.oneCell']
    go_region_law (first
      | (refine step_append_own0 _ rfl _ _ 37 rfl 3 i0 (.int .i64 0) 8 Try.underlying37 hi hz0 hz1 hz2 rfl (.slice none 0 0) 0 [] rfl (World.ownsRow_nil _ _ _ _) ⟨b, k, none⟩ (l.length - k) (icap - k) (nums (l.drop k)) rfl HK.out.2.1 HK.out.1 HK.out.2.2.2 HB.out.2.2.2.2 HB.out.1 HB.out.2.1 ?_
         intro g1 cap1 w6 hown1 hgrow1 hat1 hlt1
         have hr6 : w6.ownsRow 0 3 1 (.slice (some ⟨g1, 0, none⟩) (l.length - k) cap1) (l.length - k) (nums (l.drop k)) := by simpa using hown1
         have ha6 : g1 = wc.heap.size := by simpa [Value.ownBlock] using hat1
         have hm6 : Mod wc w6 NoB := ⟨hgrow1.os, hgrow1.tape, hgrow1.output, hgrow1.size, fun q hq _ => hgrow1.block q hq (by simp [Value.ownBlock])⟩
         have d0 := (hm6.cell (p := ⟨h, 1, none⟩) hh (by simp [NoB])).trans c1
         have d1 := (hm6.frozen (p := ⟨h, 1, none⟩) hh (by simp [NoB])).trans f1
         have d2 : h < w6.heap.size := Nat.lt_of_lt_of_le hh hm6.size
         have H9 := Lib.hid (And.intro hr6 (And.intro ha6 (And.intro hm6 hlt1)))
         clear hown1 hgrow1 hat1 hlt1 hr6 ha6 hm6)
      | (refine step_append_lies _ rfl _ _ 28 rfl 0 37 j0 (.slice none 0 0) 1 24 Try.underlying28 hj hy0 hy1 hy2 rfl (by decide) (.slice (some ⟨ob, 0, none⟩) L.length cap) L.length _ rfl ((H9.out.2.2.1.row HK.out.2.2.1 (fun q _ hq => absurd hq (by simp [NoB]))).alloc _) ⟨w6.heap.size, 0, none⟩ 1 1 [.slice (some ⟨g1, 0, none⟩) (l.length - k) cap1] rfl rfl (cell_one_new _ _ _) (hones _ _ _) (by decide) HB.out.2.2.1 HB.out.2.2.2.1 (Nat.zero_le _) (w6.heap.size + 1) (by simp) ?_
         intro g2 cap2 w7 hown2 hgrow2 hat2 hlt2
         obtain ⟨⟨e1', e2'⟩, HE⟩ := half_end HH.out hkl hll hL H9.out.1 H9.out.2.1 H9.out.2.2.1 H9.out.2.2.2 hown2 hgrow2 hat2
         clear hown2 hgrow2 hat2 hlt2))
    all_goals
      go_wp2_with fail
      go_ret
      exact ⟨rfl, HE.out⟩
end Go.Proofs.Ytlmbkmjjiebpbaa
