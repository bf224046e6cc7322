/- The reference's arena: the contract of Cut. -/
import Derived.Test.YtlmbkmjjiebpbaaTrR3
namespace Go.Proofs.Ytlmbkmjjiebpbaa
open Go.RowKit
set_option linter.unusedVariables false

theorem Inn.mono {w : World} {T T' : Nat → Prop} {h : Nat} {v u : Value} {l : List Nat} (hi : Inn w T h v u l) (hT : ∀ k, T k → T' k) : Inn w T' h v u l := by
  obtain ⟨h0, b, cap, rfl, h1, h2⟩ := hi
  exact ⟨h0, b, cap, rfl, hT b h1, h2⟩
theorem RA.mono {w : World} {T T' : Nat → Prop} {h n : Nat} {L : List (List Nat)} (hR : RA h n L w T) (hT : ∀ k, T k → T' k) : RA h n L w T' := by
  obtain ⟨v, us, c0, c1, f0, f1, hr, hl, hi, ht, hv, hn⟩ := hR
  exact ⟨v, us, c0, c1, f0, f1, hr, hl, fun i l hil => by obtain ⟨u, h1, h2⟩ := hi i l hil; exact ⟨u, h1, h2.mono hT⟩, hT h ht, fun k hk => ⟨hT k (hv k hk).1, (hv k hk).2⟩, hn⟩

/-- One inner list is put in the place of another. -/
theorem RO.put {w w7 : World} {T T' : Nat → Prop} {h n ob cap m : Nat} {L : List (List Nat)} {us : List Value} (o : RO w T h n L (.slice (some ⟨ob, 0, none⟩) m cap) us) (hm' : m = L.length) (hm : Mod w w7 NoB) {i : Nat} {l' : List Nat} {u' : Value} (hi : i < L.length)
    (hin : Inn (w7.setCell ⟨ob, i, none⟩ u') T' h (.slice (some ⟨ob, 0, none⟩) m cap) u' l') (hT : ∀ k, T k → T' k) (hl' : l'.length ≤ 1048576) :
    RO (w7.setCell ⟨ob, i, none⟩ u') T' h n (L.set i l') (.slice (some ⟨ob, 0, none⟩) m cap) (us.set i u') ∧ Mod w (w7.setCell ⟨ob, i, none⟩ u') T := by
  subst hm'
  have hob := o.tv ob rfl
  have hh := o.hl
  have hne : ¬ OneB ob h := fun e => hob.2 e.symm
  have hM : Mod w (w7.setCell ⟨ob, i, none⟩ u') (OneB ob) := (hm.mono (fun k _ hk => absurd hk (by simp [NoB]))).setG _
  have hr7 := hm.row o.row (fun k hk => by simp [NoB])
  have hul : us.length = L.length := by have := o.row.1; omega
  refine ⟨⟨(hM.cell (p := ⟨h, 0, none⟩) hh hne).trans o.c0, (hM.cell (p := ⟨h, 1, none⟩) hh hne).trans o.c1, (hM.frozen (p := ⟨h, 0, none⟩) hh hne).trans o.f0, (hM.frozen (p := ⟨h, 1, none⟩) hh hne).trans o.f1, ?_, fun j l hj => ?_, hT h o.th, fun k hk => ⟨hT k (o.tv k hk).1, (o.tv k hk).2⟩, o.nb, by simpa using o.lb, fun l hl => ?_⟩, hM.mono (fun k _ hk => by unfold OneB at hk; subst hk; exact hob.1)⟩
  · rw [List.length_set]; exact (hr7.stored i u').1
  · rw [List.getElem?_set] at hj
    by_cases e : i = j
    · subst e
      rw [if_pos rfl, if_pos hi] at hj
      cases hj
      exact ⟨u', by rw [List.getElem?_set, if_pos rfl, if_pos (by omega)], hin⟩
    · rw [if_neg e] at hj
      obtain ⟨u, hu, hinn⟩ := o.inn j l hj
      exact ⟨u, by rw [List.getElem?_set, if_neg e]; exact hu, hinn.move hM (fun k hk => by unfold OneB at hk; subst hk; exact Or.inr rfl) hT (fun k hk => Or.inl hk)⟩
  · rcases List.mem_or_eq_of_mem_set hl with h' | rfl
    · exact o.ll l h'
    · exact hl'

/-- What Cut's last append comes to. -/
theorem rcut_rep {w w7 : World} {T : Nat → Prop} {h n g2 cap2 g1 cap1 : Nat} {L : List (List Nat)} {a : Option Addr} {cap m : Nat} {us : List Value} {l' : List Nat} (o : RO w T h n L (.slice a m cap) us) (hm' : m = L.length) (hL : L.length < 1048576)
    (h0 : l' ≠ []) (hl' : l'.length ≤ 1048576) (hm : Mod w w7 (fun k => (Value.slice a m cap).ownBlock = some k))
    (hown : w7.ownsRow 0 37 1 (.slice (some ⟨g2, 0, none⟩) (m + 1) cap2) (m + 1) (us ++ [.slice (some ⟨g1, 0, none⟩) l'.length cap1])) (hg1 : w.heap.size ≤ g1) (hg1' : g1 < w7.heap.size) (hg2 : (Value.slice a m cap).ownBlock = some g2 ∨ (w.heap.size ≤ g2 ∧ g2 ≠ g1))
    (hc1 : l'.length ≤ cap1) (hc2 : cap1 ≤ maxLen) (hc : ∀ j, j < l'.length → w7.cell? ⟨g1, j, none⟩ = some (.int .i64 ((l'.getD j 0 : Nat) : Int))) :
    RA h n (L ++ [l']) (w7.setCell ⟨h, 1, none⟩ (.slice (some ⟨g2, 0, none⟩) (m + 1) cap2)) (Fresh T w (w7.setCell ⟨h, 1, none⟩ (.slice (some ⟨g2, 0, none⟩) (m + 1) cap2))) ∧ Mod w (w7.setCell ⟨h, 1, none⟩ (.slice (some ⟨g2, 0, none⟩) (m + 1) cap2)) T := by
  subst hm'
  have hh := o.hl
  have hvl := o.vl
  have hnh : ¬ (Value.slice a L.length cap).ownBlock = some h := fun e => (o.tv h e).2 rfl
  have e0 := (hm.cell (p := ⟨h, 0, none⟩) hh hnh).trans o.c0
  have e1 := (hm.cell (p := ⟨h, 1, none⟩) hh hnh).trans o.c1
  have e2 := (hm.frozen (p := ⟨h, 0, none⟩) hh hnh).trans o.f0
  have e3 := (hm.frozen (p := ⟨h, 1, none⟩) hh hnh).trans o.f1
  have hg2h : g2 ≠ h := by
    rcases hg2 with e | e
    · exact (o.tv _ e).2
    · omega
  obtain ⟨W, hW⟩ : ∃ W, W = w7.setCell ⟨h, 1, none⟩ (.slice (some ⟨g2, 0, none⟩) (L.length + 1) cap2) := ⟨_, rfl⟩
  have hMW : Mod w7 W (OneB h) := by rw [hW]; exact Mod.set1 _ _ _ _
  have hMM : Mod w W (fun k => k = h ∨ (Value.slice a L.length cap).ownBlock = some k) := (hm.mono (fun k _ hk => Or.inr hk)).trans hMW (fun k _ hk => Or.inl hk)
  rw [← hW]
  have hul : us.length = L.length := by have := o.row.1; omega
  refine o.again (v' := .slice (some ⟨g2, 0, none⟩) (L.length + 1) cap2) (us' := us ++ [.slice (some ⟨g1, 0, none⟩) l'.length cap1]) hMM (fun k hk => hk) ?_ ?_ ?_ ?_ ?_ (fun k hk => ?_) (fun i l hil => ?_) o.nb (by simp; omega) (fun l hl => ?_)
  · rw [hW, World.cell?_setCell_other _ _ _ _ (by simp)]; exact e0
  · rw [hW]; exact World.cell?_setCell_same _ _ _ e1
  · rw [hW, World.frozen?_setCell]; exact e2
  · rw [hW, World.frozen?_setCell]; exact e3
  · rw [show (L ++ [l']).length = L.length + 1 by simp]
    exact hMW.row hown (fun k hk => by simp [Value.ownBlock] at hk; subst hk; exact hg2h)
  · simp [Value.ownBlock] at hk
    subst hk
    rcases hg2 with e | e
    · exact Or.inl e
    · exact Or.inr e.1
  · by_cases hi : i < L.length
    · rw [List.getElem?_append_left hi] at hil
      obtain ⟨u, hu, _⟩ := o.inn i l hil
      exact ⟨u, by rw [List.getElem?_append_left (by omega)]; exact hu, Or.inl ⟨i, hil, hu⟩⟩
    · have hi2 : i = L.length := by
        have := (List.getElem?_eq_some_iff.1 hil).1
        simp at this; omega
      subst hi2
      have hl : l = l' := by simpa using hil.symm
      subst hl
      refine ⟨.slice (some ⟨g1, 0, none⟩) l.length cap1, by rw [List.getElem?_append_right (by omega)]; simp [hul], Or.inr (Inn.new h0 hg1 (Nat.lt_of_lt_of_le hg1' hMW.size) hh ?_ hc1 hc2 (fun j hj => (hMW.cell (p := ⟨g1, j, none⟩) hg1' (by unfold OneB; show ¬ g1 = h; omega)).trans (hc j hj)))⟩
      simp [Value.ownBlock]
      rcases hg2 with e | e
      · have := hvl _ e; omega
      · exact e.2
  · rcases List.mem_append.1 hl with h' | h'
    · exact o.ll l h'
    · simp at h'; subst h'; exact hl'

theorem rcut_not (w : World) (T : Nat → Prop) (h n : Nat) (L : List (List Nat)) (x : Int) (hR : RA h n L w T) (hj : ¬ 0 < idx L x) :
    Calls Try.prog 14 #[.pointer (some ⟨h, 0, none⟩), .int .i64 x] w fun e w' => e = .returned (.bool false) ∧ w = w' := by
  have HR := Lib.hid hR
  clear hR
  cases hf : fnd L x with
  | some p =>
    obtain ⟨i, k⟩ := p
    have hk : k = 0 := by unfold idx at hj; rw [hf] at hj; simp at hj; omega
    subst hk
    clear hj
    go_enter Try.func14, Try.ntmps14
    go_wp2_with fail
    refine (find_some HR.out hf).mono ?_
    rintro e w1 ⟨rfl, rfl⟩
    go_wp2_with fail
    go_ret
    exact ⟨rfl, rfl⟩
  | none =>
    clear hj
    go_enter Try.func14, Try.ntmps14
    go_wp2_with fail
    refine (find_none HR.out hf).mono ?_
    rintro e w1 ⟨rfl, rfl⟩
    go_wp2_with fail
    go_ret
    exact ⟨rfl, rfl⟩
end Go.Proofs.Ytlmbkmjjiebpbaa
