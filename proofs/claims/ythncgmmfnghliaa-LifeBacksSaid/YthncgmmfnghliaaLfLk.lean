/- Rows of lives: parts of a row, and a row that is appended to. -/
import Derived.Test.YthncgmmfnghliaaLfSe
namespace Go.Proofs.Ythncgmmfnghliaa
open Go.RowKit
set_option linter.unusedVariables false

theorem info_life2 : (Try.prog.info? 56).map (fun i => (i.zero, i.size, i.bytes)) = some (some (.agg #[.int .u32 0, .int .u32 0, .int .i64 0, .int .i64 0]), 4, 24) := by kernel_rfl

/-- The cells of a part of a row of lives. -/
theorem lvs_news {w : World} {b off o' p m : Nat} {l : List Lf} (h : ∀ (i : Nat) (x : Lf), l[i]? = some x → LfAt w b (off + i * 4) x) (ho : o' = off + p * 4) :
    ∀ (j : Nat) (u : Value), (((l.drop p).take m).flatMap encL)[j]? = some u → ∃ ad, (some ⟨b, o', none⟩ : Option Addr) = some ad ∧ w.cell? (ad.add j) = some u := by
  intro j u hu
  obtain ⟨h1, h2⟩ := List.getElem?_eq_some_iff.1 hu
  have hj2 : j / 4 < ((l.drop p).take m).length := by rw [enc4_len encL_len] at h1; omega
  obtain ⟨x, hx⟩ : ∃ x, ((l.drop p).take m)[j / 4]? = some x := ⟨_, List.getElem?_eq_getElem hj2⟩
  have hx' : l[p + j / 4]? = some x := by
    rw [List.getElem?_take] at hx
    split at hx
    · rw [List.getElem?_drop] at hx; exact hx
    · cases hx
  have hg := enc4_get encL_len _ (j / 4) x (j % 4) hx (Nat.mod_lt _ (by omega))
  rw [show j / 4 * 4 + j % 4 = j by omega, hu] at hg
  obtain ⟨e0, e1, e2, e3⟩ := h _ _ hx'
  refine ⟨_, rfl, ?_⟩
  have hadd : (⟨b, o', none⟩ : Addr).add j = ⟨b, o' + j, none⟩ := by unfold Addr.add; split <;> simp_all
  rw [hadd]
  have hm : j % 4 < 4 := Nat.mod_lt _ (by omega)
  have hc : j % 4 = 0 ∨ j % 4 = 1 ∨ j % 4 = 2 ∨ j % 4 = 3 := by omega
  rcases hc with hr | hr | hr | hr
  · rw [hr] at hg
    have hu' : u = .int .u32 x.e.u := by simpa [encL] using hg
    rw [hu', show o' + j = off + (p + j / 4) * 4 by omega]; exact e0
  · rw [hr] at hg
    have hu' : u = .int .u32 x.e.v := by simpa [encL] using hg
    rw [hu', show o' + j = off + (p + j / 4) * 4 + 1 by omega]; exact e1
  · rw [hr] at hg
    have hu' : u = .int .i64 x.fr := by simpa [encL] using hg
    rw [hu', show o' + j = off + (p + j / 4) * 4 + 2 by omega]; exact e2
  · rw [hr] at hg
    have hu' : u = .int .i64 x.to := by simpa [encL] using hg
    rw [hu', show o' + j = off + (p + j / 4) * 4 + 3 by omega]; exact e3
theorem encL_one (l : List Lf) : ∀ u ∈ l.flatMap encL, u.oneCell' = true := by
  intro u hu
  obtain ⟨x, _, hx⟩ := List.mem_flatMap.1 hu
  simp [encL] at hx
  rcases hx with rfl | rfl | rfl | rfl <;> rfl
theorem New.lives {w w' : World} {n : Nat} {v : Value} {l : List Lf} (h : New w w' 56 4 v n (l.flatMap encL)) (hn : n = l.length) : ∃ a' cap', v = .slice a' l.length cap' ∧ Lvs w' a' l ∧ (Plain a' ∧ Yg w a') ∧ l.length ≤ cap' := by
  subst hn
  obtain ⟨a', cap', rfl⟩ := row_form h.row
  refine ⟨a', cap', rfl, lvs_of_row rfl h.row, ⟨row_plain h.row, h.yg⟩, ?_⟩
  rcases h.row.2 with ⟨hv, h0⟩ | ⟨g, c, cur, hv, _, _, h1, _⟩
  · rw [h0]; exact Nat.zero_le _
  · cases hv; exact h1

end Go.Proofs.Ythncgmmfnghliaa
