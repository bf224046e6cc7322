/- The reference's arena: Join: what its halves come to. -/
import Derived.Test.YtlmbkmjjiebpbaaTrR4
namespace Go.Proofs.Ytlmbkmjjiebpbaa
open Go.RowKit
set_option linter.unusedVariables false

theorem add_at2 (b k j : Nat) : (⟨b, k, none⟩ : Addr).add j = ⟨b, k + j, none⟩ := by unfold Addr.add; split <;> simp_all
theorem RO.drew2 {w : World} {T : Nat → Prop} {h n : Nat} {L : List (List Nat)} {v : Value} {us : List Value} (o : RO w T h n L v us) : RO w.drew T h n L v us := ⟨o.c0, o.c1, o.f0, o.f1, o.row, o.inn, o.th, o.tv, o.nb, o.lb, o.ll⟩

/-- append as a step of a region that draws its order: nothing to nothing, too. -/
theorem step_append_any {P : Program} (w : World) {ops : Array Oper} {o : Oper} {a : Act} {K : Act → World → Prop} {Q : Exit → Act → World → Prop} {E : Prop} (hgd : o.guard = none) (s x : Operand) (t : TypeId)
    (ho : o.op = .call { callee := .builtin .append, args := #[s, x], argTypes := #[t, t] })
    (e : TypeId) (i : TypeInfo) (z : Value) (bytes : Nat) (ht : P.underlying t = some (.slice e)) (hi : P.info? e = some i) (hz : i.zero = some z)
    (hsize : i.size = 1) (hby : i.bytes = bytes) (hzs : z.cells.size = 1)
    (v : Value) (n : Nat) (xs : List Value) (hs : a.eval s = v) (hown : w.ownsRow 0 e 1 v n xs)
    (ad : Addr) (m c : Nat) (news : List Value) (hx : a.eval x = .slice (some ad) m c) (hl : news.length = m) (hnews : ∀ j u, news[j]? = some u → w.cell? (ad.add j) = some u) (h1 : ∀ u ∈ news, u.oneCell' = true)
    (h63 : n + m ≤ maxLen) (hbytes : (n + m) * bytes ≤ 140737488355328)
    (h : ∀ v' w', w'.ownsRow 0 e 1 v' (n + m) (xs ++ news) → w.grownBy w' v.ownBlock → (v'.ownBlock = v.ownBlock ∨ v'.ownBlock = some w.heap.size) → K (a.put o.dst v') w') :
    if Region.wanted o (yielded ops a.tmps) = true then Oper.wp P o a w K Q else E := by
  have hw : Region.wanted o (yielded ops a.tmps) = true := by simp [Region.wanted, hgd]
  rw [if_pos hw]
  obtain ⟨v', w', hr, h2, h3, _, h5⟩ := run_append_own_at (P := P) w 0 t o.type e i z 1 bytes ht hi hz hsize hby hzs (by decide) v n xs hown ad m c news (by simpa using hl) hnews h1 h63 hbytes (Nat.zero_le _)
  unfold Oper.wp execOp
  simp only [ho, resolve, invoke, builtin, Sem.run_bind, Sem.run_pure, Result.andThen_ok, List.map_toArray, List.map_cons, List.map_nil, hs, hx, hr]
  exact h v' w' h2 h3 h5

/-- Between the two halves of Join. -/
structure Half2 (w wc : World) (T : Nat → Prop) (h n ob cap : Nat) (L : List (List Nat)) (us : List Value) : Prop where
  ro : RO wc (Fresh T w wc) h n L (.slice (some ⟨ob, 0, none⟩) L.length cap) us
  mod : Mod w wc T

/-- The first half. -/
theorem half2_first {w w7 : World} {T : Nat → Prop} {h n ob cap i g2 cap2 m : Nat} {L : List (List Nat)} {us : List Value} {l' : List Nat} (o : RO w T h n L (.slice (some ⟨ob, 0, none⟩) L.length cap) us) (hi : i < L.length) (hm : Mod w w7 NoB)
    (hlen : l'.length = m) (h0 : 0 < m) (hl' : m ≤ 1048576) (hown : w7.ownsRow 0 3 1 (.slice (some ⟨g2, 0, none⟩) m cap2) m (nums l')) (hg : w.heap.size ≤ g2) (hlt : g2 < w7.heap.size) :
    Half2 w (w7.setCell ⟨ob, i, none⟩ (.slice (some ⟨g2, 0, none⟩) m cap2)) T h n ob cap (L.set i l') (us.set i (.slice (some ⟨g2, 0, none⟩) m cap2)) := by
  subst hlen
  have hob := o.vl ob rfl
  have hh := o.hl
  have hsz : (w7.setCell ⟨ob, i, none⟩ (.slice (some ⟨g2, 0, none⟩) l'.length cap2)).heap.size = w7.heap.size := by simp [World.setCell]
  obtain ⟨g', cap', e, hcs, _, q1, q2⟩ := row_open hown h0
  simp only [Value.slice.injEq, Option.some.injEq, Addr.mk.injEq, and_true, true_and] at e
  obtain ⟨rfl, rfl⟩ := e
  have hgo : g2 ≠ ob := by omega
  obtain ⟨r1, r2⟩ := o.put (T' := Fresh T w (w7.setCell ⟨ob, i, none⟩ (.slice (some ⟨g2, 0, none⟩) l'.length cap2))) rfl hm (i := i) (l' := l') (u' := .slice (some ⟨g2, 0, none⟩) l'.length cap2) hi
    ⟨List.length_pos_iff.1 h0, g2, cap2, rfl, Or.inr ⟨hg, by rw [hsz]; exact hlt⟩, by omega, by simp [Value.ownBlock]; omega, q1, q2, fun j hj => by
      rw [World.cell?_setCell_other _ _ _ _ (fun e => hgo (congrArg Addr.block e).symm)]
      exact hcs j _ (by simp [nums, hj])⟩ (fun k hk => Or.inl hk) hl'
  exact ⟨by rw [List.length_set]; exact r1, r2⟩

/-- The second half. -/
theorem half2_end {w wc w7 : World} {T : Nat → Prop} {h n ob cap k g4 cap4 m : Nat} {L : List (List Nat)} {us : List Value} (H : Half2 w wc T h n ob cap L us) (hk : k < L.length) (hm7 : Mod wc w7 NoB) (hmm : m = L.length - 1)
    (hown : w7.ownsRow 0 37 1 (.slice (some ⟨g4, 0, none⟩) m cap4) m (us.take k ++ us.drop (k + 1))) (hg : wc.heap.size ≤ g4) (hlt : g4 < w7.heap.size) :
    RA h n (L.eraseIdx k) (w7.setCell ⟨h, 1, none⟩ (.slice (some ⟨g4, 0, none⟩) m cap4)) (Fresh T w (w7.setCell ⟨h, 1, none⟩ (.slice (some ⟨g4, 0, none⟩) m cap4))) ∧ Mod w (w7.setCell ⟨h, 1, none⟩ (.slice (some ⟨g4, 0, none⟩) m cap4)) T := by
  subst hmm
  obtain ⟨o, md⟩ := H
  have hh := o.hl
  have hul : us.length = L.length := by have := o.row.1; omega
  have e1 := (hm7.cell (p := ⟨h, 1, none⟩) hh (by simp [NoB])).trans o.c1
  obtain ⟨W, hW⟩ : ∃ W, W = w7.setCell ⟨h, 1, none⟩ (.slice (some ⟨g4, 0, none⟩) (L.length - 1) cap4) := ⟨_, rfl⟩
  have hMW : Mod w7 W (OneB h) := by rw [hW]; exact Mod.set1 _ _ _ _
  have hMM : Mod wc W (OneB h) := (hm7.mono (fun q _ hq => absurd hq (by simp [NoB]))).trans hMW (fun q _ hq => hq)
  have hus : us.take k ++ us.drop (k + 1) = us.eraseIdx k := (List.eraseIdx_eq_take_drop_succ us k).symm
  rw [hus] at hown
  have hel : (L.eraseIdx k).length = L.length - 1 := List.length_eraseIdx_of_lt hk
  rw [← hW]
  obtain ⟨r1, r2⟩ := o.again (W := W) (n' := n) (L' := L.eraseIdx k) (v' := .slice (some ⟨g4, 0, none⟩) (L.length - 1) cap4) (us' := us.eraseIdx k) hMM (fun q hq => Or.inl hq) (by
      rw [hW, World.cell?_setCell_other _ _ _ _ (by simp)]; exact (hm7.cell (p := ⟨h, 0, none⟩) hh (by simp [NoB])).trans o.c0) (by rw [hW]; exact World.cell?_setCell_same _ _ _ e1) (by
      rw [hW, World.frozen?_setCell]; exact (hm7.frozen (p := ⟨h, 0, none⟩) hh (by simp [NoB])).trans o.f0) (by rw [hW, World.frozen?_setCell]; exact (hm7.frozen (p := ⟨h, 1, none⟩) hh (by simp [NoB])).trans o.f1) (by
      rw [hel]; exact hMW.row hown (fun q hq e => by simp [Value.ownBlock] at hq; unfold OneB at e; omega)) (fun q hq => by
      simp [Value.ownBlock] at hq; subst hq; exact Or.inr hg) (fun j l hjl => by
      rw [List.getElem?_eraseIdx] at hjl
      by_cases hc : j < k
      · rw [if_pos hc] at hjl
        obtain ⟨u, hu, _⟩ := o.inn j l hjl
        exact ⟨u, by rw [List.getElem?_eraseIdx, if_pos hc]; exact hu, Or.inl ⟨j, hjl, hu⟩⟩
      · rw [if_neg hc] at hjl
        obtain ⟨u, hu, _⟩ := o.inn (j + 1) l hjl
        exact ⟨u, by rw [List.getElem?_eraseIdx, if_neg hc]; exact hu, Or.inl ⟨j + 1, hjl, hu⟩⟩) o.nb (by have := o.lb; omega) (fun l hl => o.ll l (List.mem_of_mem_eraseIdx hl))
  refine ⟨r1.mono (fun q hq => ?_), md.trans r2 (fun q hq hf => ?_)⟩
  · rcases hq with (hq | ⟨a, b⟩) | ⟨a, b⟩
    · exact Or.inl hq
    · exact Or.inr ⟨a, Nat.lt_of_lt_of_le b hMM.size⟩
    · exact Or.inr ⟨Nat.le_trans md.size a, b⟩
  · rcases hf with hf | ⟨a, _⟩
    · exact hf
    · omega
end Go.Proofs.Ytlmbkmjjiebpbaa
