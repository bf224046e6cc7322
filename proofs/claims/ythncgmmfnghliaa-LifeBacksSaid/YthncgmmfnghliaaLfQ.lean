/- Lives that may be, and back from them, plainly. Nothing of the program in it. -/
import Derived.Test.YthncgmmfnghliaaLfP
namespace Go.Proofs.Ythncgmmfnghliaa
set_option linter.unusedVariables false

/-- May a life stand behind another one? -/
def follows (a b : Lf) : Prop := edLt a.e b.e ∨ (a.e = b.e ∧ 0 ≤ a.to ∧ a.to < b.fr)
instance (a b : Lf) : Decidable (follows a b) := by unfold follows; infer_instance
/-- What is wrong with a life, behind another one: 0: nothing. -/
def lfErr (n : Int) (prev : Option Lf) (x : Lf) : Nat :=
  if x.fr < 0 ∨ maxT < x.fr ∨ maxT < x.to then 26 else if ¬ right x.e n then 24 else if (0 ≤ x.to ∧ x.to ≤ x.fr) ∨ prev.any (fun p => decide (¬ follows p x)) = true then 23 else 0
def lchkFrom (n : Int) (i : Nat) (prev : Option Lf) : List Lf → Nat × Nat
  | [] => (0, 0)
  | x :: l => if lfErr n prev x = 0 then lchkFrom n (i + 1) (some x) l else (i, lfErr n prev x)
/-- How many events lives have. -/
def evCount (l : List Lf) : Nat := l.length + (l.filter (fun x => decide (0 ≤ x.to))).length
def lchk (n : Int) (l : List Lf) : Nat × Nat := if maxN < n ∨ 2147483648 < evCount l then (0, 26) else lchkFrom n 0 none l

/-- The events of lives. -/
def evsOf (x : Lf) : List Ev := ⟨x.fr, x.e, true⟩ :: (if 0 ≤ x.to then [⟨x.to, x.e, false⟩] else [])
def evs (l : List Lf) : List Ev := l.flatMap evsOf

def AllLf (n : Int) : Option Lf → List Lf → Prop
  | _, [] => True
  | prev, x :: l => lfErr n prev x = 0 ∧ AllLf n (some x) l
theorem allLf_of {n : Int} : ∀ {l : List Lf} {i : Nat} {prev : Option Lf}, (lchkFrom n i prev l).2 = 0 → AllLf n prev l
  | [], _, _, _ => trivial
  | x :: l, i, prev, h => by
    simp only [lchkFrom] at h
    by_cases hc : lfErr n prev x = 0
    · rw [if_pos hc] at h; exact ⟨hc, allLf_of h⟩
    · rw [if_neg hc] at h; exact absurd h hc
theorem lfErr_ok {n : Int} {prev : Option Lf} {x : Lf} (h : lfErr n prev x = 0) : 0 ≤ x.fr ∧ right x.e n ∧ (0 ≤ x.to → x.fr < x.to) ∧ ∀ p, prev = some p → follows p x := by
  unfold lfErr at h
  split at h
  · cases h
  · rename_i h1
    split at h
    · cases h
    · rename_i h2
      split at h
      · cases h
      · rename_i h3
        rw [not_or] at h3
        refine ⟨by omega, Decidable.of_not_not h2, fun h0 => by omega, fun p hp => ?_⟩
        subst hp
        simpa using h3.2

/-- Far apart: whatever is ahead is ahead. -/
def far (a b : Lf) : Prop := edLt a.e b.e ∨ (a.e = b.e ∧ 0 ≤ a.to ∧ a.fr < a.to ∧ a.to < b.fr)
theorem allLf_far {n : Int} : ∀ {l : List Lf} {prev : Option Lf}, AllLf n prev l → l.Pairwise far ∧ (∀ x ∈ l, 0 ≤ x.to → x.fr < x.to) ∧ ∀ p, prev = some p → (0 ≤ p.to → p.fr < p.to) → ∀ x ∈ l, far p x
  | [], _, _ => ⟨List.Pairwise.nil, fun _ h => by simp at h, fun _ _ _ x hx => by simp at hx⟩
  | y :: l, prev, h => by
    obtain ⟨h1, h2⟩ := h
    obtain ⟨_, _, h3, h4⟩ := lfErr_ok h1
    obtain ⟨k1, k2, k3⟩ := allLf_far h2
    refine ⟨List.pairwise_cons.2 ⟨fun x hx => k3 y rfl h3 x hx, k1⟩, fun x hx => ?_, fun p hp hpt x hx => ?_⟩
    · rcases List.mem_cons.1 hx with rfl | hx
      · exact h3
      · exact k2 x hx
    · have hpy : far p y := by
        rcases h4 p hp with c | ⟨c1, c2, c3⟩
        · exact Or.inl c
        · exact Or.inr ⟨c1, c2, hpt c2, c3⟩
      rcases List.mem_cons.1 hx with rfl | hx
      · exact hpy
      · have hyx := k3 y rfl h3 x hx
        unfold far at *
        rcases hpy with c | ⟨c1, c2, c3, c4⟩ <;> rcases hyx with d | ⟨d1, d2, d3, d4⟩
        · exact Or.inl (edLt_trans c d)
        · left; rw [← d1]; exact c
        · left; rw [c1]; exact d
        · right; exact ⟨c1.trans d1, c2, c3, by omega⟩

theorem mem_evsOf {x : Lf} {v : Ev} (h : v ∈ evsOf x) : v.e = x.e ∧ (v.t = x.fr ∨ (0 ≤ x.to ∧ v.t = x.to)) := by
  unfold evsOf at h
  rcases List.mem_cons.1 h with rfl | h
  · exact ⟨rfl, Or.inl rfl⟩
  · split at h
    · rename_i hc
      have : v = ⟨x.to, x.e, false⟩ := by simpa using h
      subst this
      exact ⟨rfl, Or.inr ⟨hc, rfl⟩⟩
    · simp at h

/-- Any two events of lives that may be stand in an order. -/
theorem evs_pair {l : List Lf} (hf : l.Pairwise far) (ht : ∀ x ∈ l, 0 ≤ x.to → x.fr < x.to) : (evs l).Pairwise (fun a b => before a b ∨ before b a) := by
  induction l with
  | nil => simp [evs]
  | cons x l ih =>
    obtain ⟨h1, h2⟩ := List.pairwise_cons.1 hf
    have ih' := ih h2 (fun y hy => ht y (by simp [hy]))
    unfold evs at ih' ⊢
    rw [List.flatMap_cons]
    refine List.pairwise_append.2 ⟨?_, ih', fun a ha b hb => ?_⟩
    · unfold evsOf
      refine List.pairwise_cons.2 ⟨fun b hb => ?_, ?_⟩
      · split at hb
        · rename_i hc
          have hb' : b = ⟨x.to, x.e, false⟩ := by simpa using hb
          subst hb'
          left; left; exact ht x (by simp) hc
        · simp at hb
      · split
        · exact List.pairwise_singleton _ _
        · exact List.Pairwise.nil
    · obtain ⟨y, hy, hby⟩ := List.mem_flatMap.1 hb
      have hxy := h1 y hy
      obtain ⟨a1, a2⟩ := mem_evsOf ha
      obtain ⟨b1, b2⟩ := mem_evsOf hby
      have hyt := ht y (by simp [hy])
      unfold before
      rcases Int.lt_trichotomy a.t b.t with c | c | c
      · exact Or.inl (Or.inl c)
      · rcases hxy with d | ⟨d1, d2, d3, d4⟩
        · left; right; exact ⟨c, by rw [a1, b1]; exact d⟩
        · exfalso
          rcases a2 with a2 | ⟨_, a2⟩ <;> rcases b2 with b2 | ⟨b0, b2⟩
          · omega
          · have := hyt b0; omega
          · omega
          · have := hyt b0; omega
      · exact Or.inr (Or.inl c)

/-- A sort of the events of lives that may be is what the document's putting in comes to. -/
theorem sort_evs {n : Int} {l : List Lf} {prev : Option Lf} (h : AllLf n prev l) {m : List Ev} (hm : m.Pairwise before) (hp : m.Perm (evs l)) : m = putAll before (evs l) := by
  obtain ⟨k1, k2, _⟩ := allLf_far h
  obtain ⟨h1, h2⟩ := putAll_sorted (lt := before) before_trans (evs_pair k1 k2)
  exact sorted_unique before_irrefl before_trans hm h1 (hp.trans h2.symm)

theorem evs_perm {l m : List Lf} (h : l.Perm m) : (evs l).Perm (evs m) := h.flatMap_right _

theorem ev_eq {e : Ev} {b : Bool} (h : e.add = b) : e = ⟨e.t, e.e, b⟩ := by cases e; subst h; rfl

/-- The events of a history's lives are its events. -/
theorem evs_raw {n : Int} : ∀ (l p : List Ev) (at' : Ed → Nat), Opn p at' → (∀ y ∈ p, 0 ≤ y.t) → (evs (raw p)).Perm p → (∀ prev, AllOk n prev (thereOf p) l → (evs (raw (p ++ l))).Perm (p ++ l))
  | [], p, at', _, _, hp, _, _ => by simpa using hp
  | e :: l, p, at', o, h0, hp, prev, h => by
    obtain ⟨h1, h2⟩ := h
    obtain ⟨⟨t0, _⟩, _, _, hne⟩ := evErr_ok h1
    have h0' : ∀ y ∈ p ++ [e], 0 ≤ y.t := fun y hy => by
      rcases List.mem_append.1 hy with hy | hy
      · exact h0 y hy
      · have : y = e := by simpa using hy
        rw [this]; exact t0
    rw [← thereOf_snoc] at h2
    have hcat : p ++ e :: l = (p ++ [e]) ++ l := by simp
    rw [hcat]
    cases ha : e.add with
    | true =>
      have hn : thereOf p e.e = false := by
        rw [ha] at hne; simpa using hne
      obtain ⟨hr, ho⟩ := o.add h0 ha hn
      refine evs_raw l (p ++ [e]) _ ho h0' ?_ _ h2
      rw [hr]
      unfold evs at hp ⊢
      rw [List.flatMap_append]
      have he : [Lf.mk e.e e.t (-1)].flatMap evsOf = [e] := by
        have hee : e = ⟨e.t, e.e, true⟩ := ev_eq ha
        show evsOf ⟨e.e, e.t, -1⟩ ++ [] = [e]
        rw [hee]; simp [evsOf]
      rw [he]
      exact hp.append_right [e]
    | false =>
      have hn : thereOf p e.e = true := by
        rw [ha] at hne; simpa using hne
      obtain ⟨⟨fr, k1, k2⟩, ho⟩ := o.del h0 t0 ha hn
      refine evs_raw l (p ++ [e]) _ ho h0' ?_ _ h2
      rw [k2]
      have hlt := (List.getElem?_eq_some_iff.1 k1).1
      have hget : (raw p)[at' e.e] = ⟨e.e, fr, -1⟩ := (List.getElem?_eq_some_iff.1 k1).2
      have hsplit : raw p = (raw p).take (at' e.e) ++ ⟨e.e, fr, -1⟩ :: (raw p).drop (at' e.e + 1) := by
        rw [← hget, List.getElem_cons_drop, List.take_append_drop]
      have hset : (raw p).set (at' e.e) ⟨e.e, fr, e.t⟩ = (raw p).take (at' e.e) ++ ⟨e.e, fr, e.t⟩ :: (raw p).drop (at' e.e + 1) := by
        rw [List.set_eq_take_append_cons_drop, if_pos hlt]
      rw [hset]
      rw [hsplit] at hp
      unfold evs at hp ⊢
      rw [List.flatMap_append, List.flatMap_cons] at hp ⊢
      have e1 : evsOf ⟨e.e, fr, -1⟩ = [⟨fr, e.e, true⟩] := by simp [evsOf]
      have e2 : evsOf ⟨e.e, fr, e.t⟩ = [⟨fr, e.e, true⟩, e] := by
        have hee : e = ⟨e.t, e.e, false⟩ := ev_eq ha
        have h3 : evsOf ⟨e.e, fr, e.t⟩ = [⟨fr, e.e, true⟩, ⟨e.t, e.e, false⟩] := by unfold evsOf; show _ :: (if 0 ≤ e.t then _ else _) = _; rw [if_pos t0]
        rw [h3]; exact congrArg (fun z => [⟨fr, e.e, true⟩, z]) hee.symm
      rw [e1] at hp
      rw [e2]
      refine List.Perm.trans ?_ (hp.append_right [e])
      generalize List.flatMap evsOf ((raw p).take (at' e.e)) = A
      generalize List.flatMap evsOf ((raw p).drop (at' e.e + 1)) = B
      simp only [List.cons_append, List.nil_append, List.append_assoc]
      refine List.Perm.append_left A (List.Perm.cons _ ?_)
      have := List.perm_append_comm (l₁ := [e]) (l₂ := B)
      simpa using this

theorem evs_raw_all {n : Int} {l : List Ev} (h : AllOk n none (fun _ => false) l) : (evs (raw l)).Perm l := by
  have := evs_raw l [] (fun _ => 0) (Opn.nil _) (by simp) (by simp [evs, raw]) none (by simpa [thereOf] using h)
  simpa using this
end Go.Proofs.Ythncgmmfnghliaa
