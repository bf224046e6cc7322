/- Merged: LfRe LfRf LfLk -/
import Derived.Test.YtppambkffgmkgaaDoorMg20
section
/- The reference: LifeCheck. -/
namespace Go.Proofs.YtppambkffgmkgaaDoor
open Go.RowKit
set_option linter.unusedVariables false

end Go.Proofs.YtppambkffgmkgaaDoor
end

section
/- The reference: Back. -/
namespace Go.Proofs.YtppambkffgmkgaaDoor
open Go.RowKit
set_option linter.unusedVariables false

/-- What the document's Back keeps: the history that grows. -/
structure KSt (w wr : World) (h4 h8 : Nat) (n : Int) (oa : Option Addr) (oc : Nat) (es : List Ev) : Prop where
  mod : Mod w wr NoB
  hh : w.heap.size ≤ h4 ∧ h4 < h8
  a0 : wr.cell? ⟨h4, 0, none⟩ = some (.int .u64 0)
  a1 : wr.cell? ⟨h4, 1, none⟩ = some (.slice none 0 0)
  fa0 : wr.frozen? ⟨h4, 0, none⟩ = false
  fa1 : wr.frozen? ⟨h4, 1, none⟩ = false
  b0 : wr.cell? ⟨h8, 0, none⟩ = some (.int .u64 n)
  b1 : wr.cell? ⟨h8, 1, none⟩ = some (.slice oa es.length oc)
  fb0 : wr.frozen? ⟨h8, 0, none⟩ = false
  fb1 : wr.frozen? ⟨h8, 1, none⟩ = false
  evs : Evs wr oa es
  plain : Plain oa
  cap : es.length ≤ oc
  sep : ∀ p, oa = some p → h8 < p.block
theorem KSt.quiet {w V w8 : World} {h4 h8 oc : Nat} {n : Int} {oa : Option Addr} {es : List Ev} (h : KSt w V h4 h8 n oa oc es) (hm : Mod V w8 NoB) : KSt w w8 h4 h8 n oa oc es := by
  have l4 := World.block_lt_of_cell? _ _ h.a0
  have l8 := World.block_lt_of_cell? _ _ h.b0
  exact ⟨h.mod.trans hm (fun _ _ c => c), h.hh, keepc h.a0 hm, keepc h.a1 hm, (hm.frozen (p := ⟨h4, 0, none⟩) l4 (by simp [NoB])).trans h.fa0, (hm.frozen (p := ⟨h4, 1, none⟩) l4 (by simp [NoB])).trans h.fa1,
    keepc h.b0 hm, keepc h.b1 hm, (hm.frozen (p := ⟨h8, 0, none⟩) l8 (by simp [NoB])).trans h.fb0, (hm.frozen (p := ⟨h8, 1, none⟩) l8 (by simp [NoB])).trans h.fb1, h.evs.mod hm, h.plain, h.cap, h.sep⟩
theorem KSt.put {w V w5 : World} {h4 h8 oc c' : Nat} {n : Int} {oa a' : Option Addr} {es es' : List Ev} (h : KSt w V h4 h8 n oa oc es) (hm : Mod V w5 NoB) (hE : Evs w5 a' es') (hp : Plain a') (hy : Yg V a') (hc : es'.length ≤ c') :
    KSt w (w5.setCell ⟨h8, 1, none⟩ (.slice a' es'.length c')) h4 h8 n a' c' es' := by
  have g := h.quiet hm
  have l8 := World.block_lt_of_cell? _ _ h.b0
  have h48 : h4 ≠ h8 := Nat.ne_of_lt h.hh.2
  have ne0 : (⟨h4, 0, none⟩ : Addr) ≠ ⟨h8, 1, none⟩ := fun c => h48 (congrArg Addr.block c)
  have ne1 : (⟨h4, 1, none⟩ : Addr) ≠ ⟨h8, 1, none⟩ := fun c => h48 (congrArg Addr.block c)
  have sep : ∀ p, a' = some p → h8 < p.block := fun p hp => Nat.lt_of_lt_of_le l8 (hy p hp)
  refine ⟨g.mod.setCell (p := ⟨h8, 1, none⟩) (fun c => absurd c (Nat.not_lt.2 (by have := h.hh; show w.heap.size ≤ h8; omega))) _, h.hh, ?_, ?_, ?_, ?_, ?_, ?_, ?_, ?_, ?_, hp, hc, sep⟩
  · rw [World.cell?_setCell_other _ _ _ _ ne0.symm]; exact g.a0
  · rw [World.cell?_setCell_other _ _ _ _ ne1.symm]; exact g.a1
  · rw [World.frozen?_setCell]; exact g.fa0
  · rw [World.frozen?_setCell]; exact g.fa1
  · rw [World.cell?_setCell_other _ _ _ _ (by simp)]; exact g.b0
  · exact World.cell?_setCell_same _ _ _ g.b1
  · rw [World.frozen?_setCell]; exact g.fb0
  · rw [World.frozen?_setCell]; exact g.fb1
  · exact hE.modS (Mod.set1 w5 h8 1 _) (fun b _ hp c => by
      obtain ⟨p, hp1, hp2⟩ := hp
      have := sep p hp1
      have : b = h8 := c
      omega)
theorem putAll_snoc {α : Type} {lt : α → α → Prop} [DecidableRel lt] (l : List α) (x : α) : putAll lt (l ++ [x]) = putR lt x (putAll lt l) := by
  unfold putAll
  rw [List.foldl_append]
  rfl

end Go.Proofs.YtppambkffgmkgaaDoor
end

section
/- Rows of lives: parts of a row, and a row that is appended to. -/
namespace Go.Proofs.YtppambkffgmkgaaDoor
open Go.RowKit
set_option linter.unusedVariables false

theorem info_life2 : (Tryd.prog.info? 67).map (fun i => (i.zero, i.size, i.bytes)) = some (some (.agg #[.int .u32 0, .int .u32 0, .int .i64 0, .int .i64 0]), 4, 24) := by kernel_rfl

/-- The cells of a part of a row of lives. -/
theorem lvs_news {w : World} {b off o' p m : Nat} {l : List Lf} (h : ∀ (i : Nat) (x : Lf), l[i]? = some x → LfAt w b (off + i * 4) x) (ho : o' = off + p * 4) :
    ∀ (j : Nat) (u : Value), (((l.drop p).take m).flatMap encL)[j]? = some u → ∃ ad, (some ⟨b, o', none⟩ : Option Addr) = some ad ∧ w.cell? (ad.add j) = some u := by
  intro j u hu
  obtain ⟨h1, h2⟩ := List.getElem?_eq_some_iff.1 hu
  have hj2 : j / 4 < ((l.drop p).take m).length := by rw [enc4_len encL_len] at h1; omega
  obtain ⟨x, hx⟩ : ∃ x, ((l.drop p).take m)[j / 4]? = some x := ⟨_, List.getElem?_eq_getElem hj2⟩
  have hx' : l[p + j / 4]? = some x := by
    rw [List.getElem?_take] at hx
    split at hx
    · rw [List.getElem?_drop] at hx; exact hx
    · cases hx
  have hg := enc4_get encL_len _ (j / 4) x (j % 4) hx (Nat.mod_lt _ (by omega))
  rw [show j / 4 * 4 + j % 4 = j by omega, hu] at hg
  obtain ⟨e0, e1, e2, e3⟩ := h _ _ hx'
  refine ⟨_, rfl, ?_⟩
  have hadd : (⟨b, o', none⟩ : Addr).add j = ⟨b, o' + j, none⟩ := by unfold Addr.add; split <;> simp_all
  rw [hadd]
  have hm : j % 4 < 4 := Nat.mod_lt _ (by omega)
  have hc : j % 4 = 0 ∨ j % 4 = 1 ∨ j % 4 = 2 ∨ j % 4 = 3 := by omega
  rcases hc with hr | hr | hr | hr
  · rw [hr] at hg
    have hu' : u = .int .u32 x.e.u := by simpa [encL] using hg
    rw [hu', show o' + j = off + (p + j / 4) * 4 by omega]; exact e0
  · rw [hr] at hg
    have hu' : u = .int .u32 x.e.v := by simpa [encL] using hg
    rw [hu', show o' + j = off + (p + j / 4) * 4 + 1 by omega]; exact e1
  · rw [hr] at hg
    have hu' : u = .int .i64 x.fr := by simpa [encL] using hg
    rw [hu', show o' + j = off + (p + j / 4) * 4 + 2 by omega]; exact e2
  · rw [hr] at hg
    have hu' : u = .int .i64 x.to := by simpa [encL] using hg
    rw [hu', show o' + j = off + (p + j / 4) * 4 + 3 by omega]; exact e3
theorem encL_one (l : List Lf) : ∀ u ∈ l.flatMap encL, u.oneCell' = true := by
  intro u hu
  obtain ⟨x, _, hx⟩ := List.mem_flatMap.1 hu
  simp [encL] at hx
  rcases hx with rfl | rfl | rfl | rfl <;> rfl
theorem New.lives {w w' : World} {n : Nat} {v : Value} {l : List Lf} (h : New w w' 67 4 v n (l.flatMap encL)) (hn : n = l.length) : ∃ a' cap', v = .slice a' l.length cap' ∧ Lvs w' a' l ∧ (Plain a' ∧ Yg w a') ∧ l.length ≤ cap' := by
  subst hn
  obtain ⟨a', cap', rfl⟩ := row_form h.row
  refine ⟨a', cap', rfl, lvs_of_row rfl h.row, ⟨row_plain h.row, h.yg⟩, ?_⟩
  rcases h.row.2 with ⟨hv, h0⟩ | ⟨g, c, cur, hv, _, _, h1, _⟩
  · rw [h0]; exact Nat.zero_le _
  · cases hv; exact h1

end Go.Proofs.YtppambkffgmkgaaDoor
end
