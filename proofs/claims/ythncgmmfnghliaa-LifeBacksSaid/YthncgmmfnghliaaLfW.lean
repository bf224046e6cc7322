/- The contracts of slices.SortFunc at lives and at events. -/
import Derived.Shelf.SlSortCmp.NoneTotal
import Derived.Test.YthncgmmfnghliaaLfLay
import Derived.Test.YthncgmmfnghliaaLfS
import Derived.Test.YthncgmmfnghliaaLfG2
namespace Go.Proofs.Ythncgmmfnghliaa
open Go.RowKit
set_option linter.unusedVariables false

instance : Inhabited Lf := ⟨⟨⟨0, 0⟩, 0, 0⟩⟩
instance : Inhabited Ev := ⟨⟨0, ⟨0, 0⟩, false⟩⟩

theorem ed_eq {a b : Ed} : a = b ↔ a.u = b.u ∧ a.v = b.v := ⟨fun h => by rw [h]; exact ⟨rfl, rfl⟩, fun h => Ed.ext' h.1 h.2⟩
theorem ltOf_lf (x y : Lf) : Go.Proofs.ltOf lfI x y = decide (lfLt x y) := by
  unfold Go.Proofs.ltOf
  exact decide_eq_decide.2 (lfI_lt x y)
theorem lfLt_iff (a b : Lf) : lfLt a b ↔ (a.e.u < b.e.u ∨ (a.e.u = b.e.u ∧ (a.e.v < b.e.v ∨ (a.e.v = b.e.v ∧ a.fr < b.fr)))) := by
  unfold lfLt edLt; rw [ed_eq]; omega
theorem before_iff (a b : Ev) : before a b ↔ (a.t < b.t ∨ (a.t = b.t ∧ (a.e.u < b.e.u ∨ (a.e.u = b.e.u ∧ a.e.v < b.e.v)))) := by
  unfold before edLt; omega
theorem swo_lf : Go.Sort.SWO (Go.Proofs.ltOf lfI) where
  irrefl x := by rw [ltOf_lf]; exact decide_eq_false (lfLt_irrefl x)
  trans x y z h1 h2 := by rw [ltOf_lf] at *; exact decide_eq_true (lfLt_trans (of_decide_eq_true h1) (of_decide_eq_true h2))
  ntrans x y z h1 h2 := by
    rw [ltOf_lf] at *
    have a := of_decide_eq_false h1
    have b := of_decide_eq_false h2
    refine decide_eq_false (fun c => ?_)
    rw [lfLt_iff] at *
    omega
def evI (a b : Ev) : Int := byI (before a b) (before b a)
theorem ltOf_ev (x y : Ev) : Go.Proofs.ltOf evI x y = decide (before x y) := by
  unfold Go.Proofs.ltOf
  refine decide_eq_decide.2 ?_
  unfold evI byI
  by_cases h1 : before x y
  · simp [h1]
  · by_cases h2 : before y x
    · simp [h1, h2]
    · simp [h1, h2]
theorem swo_ev : Go.Sort.SWO (Go.Proofs.ltOf evI) where
  irrefl x := by rw [ltOf_ev]; exact decide_eq_false (before_irrefl x)
  trans x y z h1 h2 := by rw [ltOf_ev] at *; exact decide_eq_true (before_trans (of_decide_eq_true h1) (of_decide_eq_true h2))
  ntrans x y z h1 h2 := by
    rw [ltOf_ev] at *
    have a := of_decide_eq_false h1
    have b := of_decide_eq_false h2
    refine decide_eq_false (fun c => ?_)
    rw [before_iff] at *
    omega

theorem sortLf_any (w : World) (base g cap p1 p2 : Nat) (l : List Lf) (hr : w.ownsRow base 56 4 (.slice (some ⟨g, 0, none⟩) l.length cap) l.length (l.flatMap encL)) (hl : l.length ≤ 1000000)
    (h1 : w.cell? ⟨p1, 0, none⟩ = some (.func (.func 31) #[] #[])) (h2 : w.cell? ⟨p2, 0, none⟩ = some (.func (.func 52) #[] #[.pointer (some ⟨p1, 0, none⟩)]))
    (n1 : p1 ≠ g) (n2 : p2 ≠ g) (hg : g < w.heap.size) :
    Calls Try.prog 32 #[.slice (some ⟨g, 0, none⟩) l.length cap, .func (.func 33) #[] #[.pointer (some ⟨p2, 0, none⟩)]] w
      fun e w' => e = .returned (.tuple #[]) ∧ ∃ l' : List Lf, l'.length = l.length ∧ l'.Perm l ∧ l'.Pairwise (fun a b => ¬ lfLt b a) ∧ w'.ownsRow base 56 4 (.slice (some ⟨g, 0, none⟩) l.length cap) l.length (l'.flatMap encL) ∧ Mod w w' (OneB g) := by
  obtain ⟨d, hd⟩ : ∃ d : Array Lf, d = l.toArray := ⟨_, rfl⟩
  have hds : d.size = l.length := by rw [hd]; simp
  have hdl : d.toList = l := by rw [hd]
  have hr' : w.ownsRow base 56 4 (.slice (some ⟨g, 0, none⟩) l.length cap) l.length (d.toList.flatMap encL) := by rw [hdl]; exact hr
  have hH := row_holdsK encL_len (by omega) hds hr'
  have hcmp : Go.Proofs.CmpLays Try.prog 33 #[.pointer (some ⟨p2, 0, none⟩)] encL 4 lfI g 0 d.size w := by
    intro m os dk hs x y
    obtain ⟨_, hm⟩ := sorted_row (m := m) (os := os) encL_len (by omega) hds (hs.trans hds) hr'
    exact (of1_grw _ p1 p2 x.e.u x.e.v x.fr x.to y.e.u y.e.v y.fr y.to (keepS h1 hm (fun c => n1 c)) (keepS h2 hm (fun c => n2 c))).mono fun _ _ h => ⟨h.1, by obtain ⟨q, os', h'⟩ := h.2; exact ⟨q, os', h'⟩⟩
  have eg : ∀ args w, (callFunc 33 args).run Try.prog w = .ok (.enter 33 args) w := Go.Proofs.enters_of Try.func33 (by kernel_rfl) rfl
  have hcon := Go.Proofs.AnyQ.slices_SortFunc sortLf 4 Try.isAgg56 Try.sizeOf56 encL encL_len (fun x v hv => by simp [encL] at hv; rcases hv with rfl | rfl | rfl | rfl <;> rfl) lfI swo_lf 33 #[.pointer (some ⟨p2, 0, none⟩)] g 0 cap d w eg hcmp hH hg (by omega)
  change Calls Try.prog 32 _ _ _ at hcon
  rw [hds] at hcon
  refine hcon.mono ?_
  rintro e w' ⟨rfl, d', n, os, hp, hso, rfl⟩
  rw [← hds] at hp
  obtain ⟨hs, hperm⟩ := perm_list hp
  have hs' := hs.trans hds
  obtain ⟨h5, h6⟩ := sorted_row (m := n) (os := os) encL_len (by omega) hds hs' hr'
  refine ⟨rfl, d'.toList, by simpa using hs', hdl ▸ hperm, ?_, h5, h6⟩
  refine (sorted_list hs' hso).imp (fun {a b} h => ?_)
  rw [ltOf_lf] at h
  exact of_decide_eq_false h

theorem sortEv_any (w : World) (base g cap p1 : Nat) (l : List Ev) (hr : w.ownsRow base 65 4 (.slice (some ⟨g, 0, none⟩) l.length cap) l.length (l.flatMap encV)) (hl : l.length ≤ 1000000)
    (h1 : w.cell? ⟨p1, 0, none⟩ = some (.func (.func 44) #[] #[])) (n1 : p1 ≠ g) (hg : g < w.heap.size) :
    Calls Try.prog 42 #[.slice (some ⟨g, 0, none⟩) l.length cap, .func (.func 58) #[] #[.pointer (some ⟨p1, 0, none⟩)]] w
      fun e w' => e = .returned (.tuple #[]) ∧ ∃ l' : List Ev, l'.length = l.length ∧ l'.Perm l ∧ l'.Pairwise (fun a b => ¬ before b a) ∧ w'.ownsRow base 65 4 (.slice (some ⟨g, 0, none⟩) l.length cap) l.length (l'.flatMap encV) ∧ Mod w w' (OneB g) := by
  obtain ⟨d, hd⟩ : ∃ d : Array Ev, d = l.toArray := ⟨_, rfl⟩
  have hds : d.size = l.length := by rw [hd]; simp
  have hdl : d.toList = l := by rw [hd]
  have hr' : w.ownsRow base 65 4 (.slice (some ⟨g, 0, none⟩) l.length cap) l.length (d.toList.flatMap encV) := by rw [hdl]; exact hr
  have hH := row_holdsK encV_len (by omega) hds hr'
  have hcmp : Go.Proofs.CmpLays Try.prog 58 #[.pointer (some ⟨p1, 0, none⟩)] encV 4 evI g 0 d.size w := by
    intro m os dk hs x y
    obtain ⟨_, hm⟩ := sorted_row (m := m) (os := os) encV_len (by omega) hds (hs.trans hds) hr'
    exact (byV_grw _ p1 x.t x.e.u x.e.v y.t y.e.u y.e.v x.add y.add (keepS h1 hm (fun c => n1 c))).mono fun _ _ h => ⟨h.1, by obtain ⟨q, os', h'⟩ := h.2; exact ⟨q, os', h'⟩⟩
  have eg : ∀ args w, (callFunc 58 args).run Try.prog w = .ok (.enter 58 args) w := Go.Proofs.enters_of Try.func58 (by kernel_rfl) rfl
  have hcon := Go.Proofs.AnyQ.slices_SortFunc sortEv 4 Try.isAgg65 Try.sizeOf65 encV encV_len (fun x v hv => by simp [encV] at hv; rcases hv with rfl | rfl | rfl | rfl <;> rfl) evI swo_ev 58 #[.pointer (some ⟨p1, 0, none⟩)] g 0 cap d w eg hcmp hH hg (by omega)
  change Calls Try.prog 42 _ _ _ at hcon
  rw [hds] at hcon
  refine hcon.mono ?_
  rintro e w' ⟨rfl, d', n, os, hp, hso, rfl⟩
  rw [← hds] at hp
  obtain ⟨hs, hperm⟩ := perm_list hp
  have hs' := hs.trans hds
  obtain ⟨h5, h6⟩ := sorted_row (m := n) (os := os) encV_len (by omega) hds hs' hr'
  refine ⟨rfl, d'.toList, by simpa using hs', hdl ▸ hperm, ?_, h5, h6⟩
  refine (sorted_list hs' hso).imp (fun {a b} h => ?_)
  rw [ltOf_ev] at h
  exact of_decide_eq_false h
/-- A row that a call owns: nil, or a block of its own. -/
theorem row_two {w : World} {base : Nat} {e : TypeId} {v : Value} {n : Nat} {xs : List Value} {size : Nat} (h : w.ownsRow base e size v n xs) : (v = .slice none 0 0 ∧ n = 0) ∨ ∃ g cap, v = .slice (some ⟨g, 0, none⟩) n cap ∧ base ≤ g ∧ g < w.heap.size := by
  rcases h.2 with h | ⟨g, cap, cur, hv, hb, hg, _⟩
  · exact Or.inl h
  · exact Or.inr ⟨g, cap, hv, hb, (Array.getElem?_eq_some_iff.1 hg).1⟩

theorem sortLf_row (w : World) (base p1 p2 : Nat) (v : Value) (l : List Lf) (hr : w.ownsRow base 56 4 v l.length (l.flatMap encL)) (hl : l.length ≤ 1000000)
    (h1 : w.cell? ⟨p1, 0, none⟩ = some (.func (.func 31) #[] #[])) (h2 : w.cell? ⟨p2, 0, none⟩ = some (.func (.func 52) #[] #[.pointer (some ⟨p1, 0, none⟩)]))
    (n1 : v.ownBlock ≠ some p1) (n2 : v.ownBlock ≠ some p2) :
    Calls Try.prog 32 #[v, .func (.func 33) #[] #[.pointer (some ⟨p2, 0, none⟩)]] w
      fun e w' => e = .returned (.tuple #[]) ∧ ∃ l' : List Lf, l'.length = l.length ∧ l'.Perm l ∧ l'.Pairwise (fun a b => ¬ lfLt b a) ∧ w'.ownsRow base 56 4 v l.length (l'.flatMap encL) ∧ Mod w w' (fun k => v.ownBlock = some k) := by
  rcases row_two hr with ⟨rfl, h0⟩ | ⟨g, cap, rfl, _, hg⟩
  · have hcon := Go.Proofs.AnyF.slices_SortFunc_none sortLf none 0 (.func (.func 33) #[] #[.pointer (some ⟨p2, 0, none⟩)]) w
    change Calls Try.prog 32 _ _ _ at hcon
    have hl0 := List.length_eq_zero_iff.1 h0
    refine hcon.mono ?_
    rintro e w' ⟨rfl, rfl⟩
    exact ⟨rfl, l, rfl, List.Perm.refl _, by rw [hl0]; exact List.Pairwise.nil, hr, Mod.refl _ _⟩
  · refine (sortLf_any w base g cap p1 p2 l hr hl h1 h2 (fun c => n1 (by rw [c]; rfl)) (fun c => n2 (by rw [c]; rfl)) hg).mono ?_
    rintro e w' ⟨rfl, l', k1, k2, k3, k4, k5⟩
    exact ⟨rfl, l', k1, k2, k3, k4, k5.mono (fun i _ hi => by show some g = some i; rw [show i = g from hi])⟩
theorem sortEv_row (w : World) (base p1 : Nat) (v : Value) (l : List Ev) (hr : w.ownsRow base 65 4 v l.length (l.flatMap encV)) (hl : l.length ≤ 1000000)
    (h1 : w.cell? ⟨p1, 0, none⟩ = some (.func (.func 44) #[] #[])) (n1 : v.ownBlock ≠ some p1) :
    Calls Try.prog 42 #[v, .func (.func 58) #[] #[.pointer (some ⟨p1, 0, none⟩)]] w
      fun e w' => e = .returned (.tuple #[]) ∧ ∃ l' : List Ev, l'.length = l.length ∧ l'.Perm l ∧ l'.Pairwise (fun a b => ¬ before b a) ∧ w'.ownsRow base 65 4 v l.length (l'.flatMap encV) ∧ Mod w w' (fun k => v.ownBlock = some k) := by
  rcases row_two hr with ⟨rfl, h0⟩ | ⟨g, cap, rfl, _, hg⟩
  · have hcon := Go.Proofs.AnyF.slices_SortFunc_none sortEv none 0 (.func (.func 58) #[] #[.pointer (some ⟨p1, 0, none⟩)]) w
    change Calls Try.prog 42 _ _ _ at hcon
    have hl0 := List.length_eq_zero_iff.1 h0
    refine hcon.mono ?_
    rintro e w' ⟨rfl, rfl⟩
    exact ⟨rfl, l, rfl, List.Perm.refl _, by rw [hl0]; exact List.Pairwise.nil, hr, Mod.refl _ _⟩
  · refine (sortEv_any w base g cap p1 l hr hl h1 (fun c => n1 (by rw [c]; rfl)) hg).mono ?_
    rintro e w' ⟨rfl, l', k1, k2, k3, k4, k5⟩
    exact ⟨rfl, l', k1, k2, k3, k4, k5.mono (fun i _ hi => by show some g = some i; rw [show i = g from hi])⟩
end Go.Proofs.Ythncgmmfnghliaa
