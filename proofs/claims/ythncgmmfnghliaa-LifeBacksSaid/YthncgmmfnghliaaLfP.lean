/- Edges, events, histories and lives, plainly: what checks, lives and their order are. Nothing of the program in it. -/
import Derived.WalkKit
namespace Go.Proofs.Ythncgmmfnghliaa
set_option linter.unusedVariables false

structure Ed where
  u : Int
  v : Int
deriving DecidableEq
structure Ev where
  t : Int
  e : Ed
  add : Bool
deriving DecidableEq
structure Lf where
  e : Ed
  fr : Int
  to : Int
deriving DecidableEq

def edLt (a b : Ed) : Prop := a.u < b.u ∨ (a.u = b.u ∧ a.v < b.v)
instance (a b : Ed) : Decidable (edLt a b) := by unfold edLt; infer_instance
def before (a b : Ev) : Prop := a.t < b.t ∨ (a.t = b.t ∧ edLt a.e b.e)
instance (a b : Ev) : Decidable (before a b) := by unfold before; infer_instance
def lfLt (a b : Lf) : Prop := edLt a.e b.e ∨ (a.e = b.e ∧ a.fr < b.fr)
instance (a b : Lf) : Decidable (lfLt a b) := by unfold lfLt; infer_instance

theorem Ed.ext' {a b : Ed} (h1 : a.u = b.u) (h2 : a.v = b.v) : a = b := by cases a; cases b; simp_all
theorem edLt_irrefl (a : Ed) : ¬ edLt a a := by unfold edLt; omega
theorem edLt_trans {a b c : Ed} (h : edLt a b) (k : edLt b c) : edLt a c := by unfold edLt at *; omega
theorem edLt_total (a b : Ed) : edLt a b ∨ a = b ∨ edLt b a := by
  unfold edLt
  by_cases h1 : a.u = b.u
  · by_cases h2 : a.v = b.v
    · exact Or.inr (Or.inl (Ed.ext' h1 h2))
    · omega
  · omega
theorem before_irrefl (a : Ev) : ¬ before a a := by
  unfold before; have := edLt_irrefl a.e; simp [this]
theorem before_trans {a b c : Ev} (h : before a b) (k : before b c) : before a c := by
  unfold before at *
  rcases h with h | ⟨h1, h2⟩ <;> rcases k with k | ⟨k1, k2⟩
  · left; omega
  · left; omega
  · left; omega
  · right; exact ⟨by omega, edLt_trans h2 k2⟩
theorem lfLt_irrefl (a : Lf) : ¬ lfLt a a := by
  unfold lfLt; have := edLt_irrefl a.e; simp [this]
theorem lfLt_trans {a b c : Lf} (h : lfLt a b) (k : lfLt b c) : lfLt a c := by
  unfold lfLt at *
  rcases h with h | ⟨h1, h2⟩ <;> rcases k with k | ⟨k1, k2⟩
  · exact Or.inl (edLt_trans h k)
  · left; rw [← k1]; exact h
  · left; rw [h1]; exact k
  · right; exact ⟨h1.trans k1, by omega⟩

/-- The limits. -/
def maxT : Int := 4611686018427387903
def maxN : Int := 4294967296

/-- May an edge be, of so many vertices? -/
def right (e : Ed) (n : Int) : Prop := e.u < e.v ∧ e.v < n
instance (e : Ed) (n : Int) : Decidable (right e n) := by unfold right; infer_instance

/-- What is wrong with an event, behind what was there: 0: nothing. -/
def evErr (n : Int) (prev : Option Ev) (there : Ed → Bool) (e : Ev) : Nat :=
  if e.t < 0 ∨ maxT < e.t then 26 else if ¬ right e.e n then 24 else if prev.any (fun p => decide (¬ before p e)) = true then 23 else if there e.e = e.add then 25 else 0
def turn (there : Ed → Bool) (e : Ev) : Ed → Bool := fun x => if x = e.e then e.add else there x
/-- The first event that may not be, and why. -/
def chkFrom (n : Int) (i : Nat) (prev : Option Ev) (there : Ed → Bool) : List Ev → Nat × Nat
  | [] => (0, 0)
  | e :: l => if evErr n prev there e = 0 then chkFrom n (i + 1) (some e) (turn there e) l else (i, evErr n prev there e)
def chk (n : Int) (l : List Ev) : Nat × Nat := if maxN < n ∨ 2147483648 < l.length then (0, 26) else chkFrom n 0 none (fun _ => false) l

/-- The time at which an edge is told of next. -/
def nextT (x : Ed) : List Ev → Int
  | [] => -1
  | e :: l => if e.e = x then e.t else nextT x l
/-- The lives, in the order in which they begin. -/
def raw : List Ev → List Lf
  | [] => []
  | e :: l => if e.add then ⟨e.e, e.t, nextT e.e l⟩ :: raw l else raw l

/-- Two strictly rising lists of the same lives are one. -/
theorem sorted_unique {α : Type} {lt : α → α → Prop} (hi : ∀ a, ¬ lt a a) (ht : ∀ {a b c}, lt a b → lt b c → lt a c) : ∀ {l m : List α}, l.Pairwise lt → m.Pairwise lt → l.Perm m → l = m
  | [], m, _, _, hp => (List.nil_perm.1 hp).symm ▸ rfl
  | a :: l, m, hl, hm, hp => by
    cases m with
    | nil => exact absurd hp.length_eq (by simp)
    | cons b m =>
      obtain ⟨h1, h2⟩ := List.pairwise_cons.1 hl
      obtain ⟨k1, k2⟩ := List.pairwise_cons.1 hm
      have hab : a = b := by
        have ha : a ∈ b :: m := hp.subset (by simp)
        have hb : b ∈ a :: l := hp.symm.subset (by simp)
        rcases List.mem_cons.1 ha with e | ha
        · exact e
        · rcases List.mem_cons.1 hb with e | hb
          · exact e.symm
          · exact absurd (ht (h1 b hb) (k1 a ha)) (hi a)
      subst hab
      rw [sorted_unique hi ht h2 k2 (List.perm_cons a |>.1 hp)]

/-- Put in from the right, behind all that isn't above. -/
def putR {α : Type} (lt : α → α → Prop) [DecidableRel lt] (x : α) : List α → List α
  | [] => [x]
  | y :: l => if lt x y ∧ ∀ z ∈ l, lt x z then x :: y :: l else y :: putR lt x l

theorem putR_perm {α : Type} (lt : α → α → Prop) [DecidableRel lt] (x : α) : ∀ l : List α, (putR lt x l).Perm (x :: l)
  | [] => List.Perm.refl _
  | y :: l => by
    simp only [putR]
    split
    · exact List.Perm.refl _
    · exact (List.Perm.cons y (putR_perm lt x l)).trans (List.Perm.swap x y l)
theorem putR_sorted {α : Type} {lt : α → α → Prop} [DecidableRel lt] (ht : ∀ {a b c}, lt a b → lt b c → lt a c) {x : α} : ∀ {l : List α}, l.Pairwise lt → (∀ y ∈ l, lt x y ∨ lt y x) → (putR lt x l).Pairwise lt
  | [], _, _ => List.pairwise_singleton _ _
  | y :: l, hl, hx => by
    obtain ⟨h1, h2⟩ := List.pairwise_cons.1 hl
    simp only [putR]
    split
    · rename_i hc
      exact List.pairwise_cons.2 ⟨fun z hz => by rcases List.mem_cons.1 hz with rfl | hz; exact hc.1; exact hc.2 z hz, hl⟩
    · rename_i hc
      have ih : (putR lt x l).Pairwise lt := putR_sorted (lt := lt) ht h2 (fun z hz => hx z (List.mem_cons_of_mem _ hz))
      refine List.pairwise_cons.2 ⟨fun z hz => ?_, ih⟩
      rcases List.mem_cons.1 ((putR_perm lt x l).subset hz) with rfl | hz
      · rcases hx y (by simp) with h | h
        · exact absurd ⟨h, fun w hw => ht h (h1 w hw)⟩ hc
        · exact h
      · exact h1 z hz

/-! ### The lives of a history that may be, event by event -/
/-- What is there behind some events. -/
def thereOf (p : List Ev) : Ed → Bool := p.foldl turn (fun _ => false)
theorem thereOf_snoc (p : List Ev) (e : Ev) : thereOf (p ++ [e]) = turn (thereOf p) e := by simp [thereOf]

/-- An event closes the life of its edge that is open. -/
def close (e : Ev) (l : Lf) : Lf := if l.e = e.e ∧ l.to = -1 then { l with to := e.t } else l

theorem nextT_snoc {x : Ed} {p : List Ev} {e : Ev} (h0 : ∀ y ∈ p, 0 ≤ y.t) : nextT x (p ++ [e]) = if nextT x p = -1 ∧ e.e = x then e.t else nextT x p := by
  induction p with
  | nil => simp only [List.nil_append, nextT]; split <;> simp_all
  | cons y p ih =>
    by_cases hy : y.e = x
    · have h1 := h0 y (by simp)
      have e1 : nextT x (y :: p ++ [e]) = y.t := by simp [nextT, hy]
      have e2 : nextT x (y :: p) = y.t := by simp [nextT, hy]
      rw [e1, if_neg (by rw [e2]; omega), e2]
    · have e1 : nextT x (y :: p ++ [e]) = nextT x (p ++ [e]) := by simp [nextT, hy]
      have e2 : nextT x (y :: p) = nextT x p := by simp [nextT, hy]
      rw [e1, ih (fun z hz => h0 z (by simp [hz]))]
      simp only [e2]

theorem raw_snoc {p : List Ev} {e : Ev} (h0 : ∀ y ∈ p, 0 ≤ y.t) : raw (p ++ [e]) = (raw p).map (close e) ++ (if e.add then [⟨e.e, e.t, -1⟩] else []) := by
  induction p with
  | nil => simp only [List.nil_append, raw, nextT]; split <;> simp_all
  | cons y p ih =>
    have h1 : ∀ z ∈ p, 0 ≤ z.t := fun z hz => h0 z (by simp [hz])
    simp only [List.cons_append, raw]
    by_cases hy : y.add = true
    · rw [if_pos hy, if_pos hy, ih h1, nextT_snoc h1]
      simp only [List.map_cons, List.cons_append]
      congr 1
      unfold close
      by_cases hc : nextT y.e p = -1 ∧ e.e = y.e
      · rw [if_pos hc, if_pos ⟨hc.2.symm, hc.1⟩]
      · rw [if_neg hc, if_neg (fun h => hc ⟨h.2, h.1.symm⟩)]
    · rw [if_neg hy, if_neg hy, ih h1]

/-- Which lives are open, and where: what the program's map tells. -/
structure Opn (p : List Ev) (at' : Ed → Nat) : Prop where
  yes : ∀ x, thereOf p x = true → ∃ fr, (raw p)[at' x]? = some ⟨x, fr, -1⟩ ∧ ∀ j l, (raw p)[j]? = some l → l.e = x → l.to = -1 → j = at' x
  no : ∀ x, thereOf p x = false → ∀ l ∈ raw p, l.e = x → l.to ≠ -1

theorem Opn.nil (at' : Ed → Nat) : Opn [] at' := ⟨fun x h => by simp [thereOf] at h, fun x _ l hl => by simp [raw] at hl⟩

theorem close_keep {e : Ev} {l : Lf} (h : ¬ (l.e = e.e ∧ l.to = -1)) : close e l = l := if_neg h

/-- An edge comes: nothing is closed, a life is put behind. -/
theorem Opn.add {p : List Ev} {at' : Ed → Nat} (o : Opn p at') {e : Ev} (h0 : ∀ y ∈ p, 0 ≤ y.t) (ha : e.add = true) (hn : thereOf p e.e = false) :
    raw (p ++ [e]) = raw p ++ [⟨e.e, e.t, -1⟩] ∧ Opn (p ++ [e]) (fun x => if x = e.e then (raw p).length else at' x) := by
  have hm : (raw p).map (close e) = raw p := by
    conv => rhs; rw [← List.map_id (raw p)]
    exact List.map_congr_left (fun l hl => close_keep (fun h => o.no e.e hn l hl h.1 h.2))
  have hr : raw (p ++ [e]) = raw p ++ [⟨e.e, e.t, -1⟩] := by rw [raw_snoc h0, hm, if_pos ha]
  refine ⟨hr, ⟨fun x hx => ?_, fun x hx l hl hle => ?_⟩⟩
  · rw [thereOf_snoc] at hx
    unfold turn at hx
    rw [hr]
    by_cases hxe : x = e.e
    · subst hxe
      refine ⟨e.t, by simp, fun j l hj hle hto => ?_⟩
      rw [if_pos rfl]
      rcases Nat.lt_or_ge j (raw p).length with h | h
      · rw [List.getElem?_append_left h] at hj
        exact absurd hto (o.no _ hn l (List.mem_of_getElem? hj) hle)
      · have := (List.getElem?_eq_some_iff.1 hj).1
        simp at this; omega
    · rw [if_neg hxe] at hx
      obtain ⟨fr, h1, h2⟩ := o.yes x hx
      have hlt := (List.getElem?_eq_some_iff.1 h1).1
      refine ⟨fr, by simp only [if_neg hxe]; rw [List.getElem?_append_left hlt]; exact h1, fun j l hj hle hto => ?_⟩
      simp only [if_neg hxe]
      rcases Nat.lt_or_ge j (raw p).length with h | h
      · rw [List.getElem?_append_left h] at hj
        exact h2 j l hj hle hto
      · rw [List.getElem?_append_right h] at hj
        have hl : l = ⟨e.e, e.t, -1⟩ := by
          have hk := List.mem_of_getElem? hj
          simpa using hk
        rw [hl] at hle
        exact absurd hle.symm hxe
  · rw [thereOf_snoc] at hx
    unfold turn at hx
    rw [hr] at hl
    by_cases hxe : x = e.e
    · rw [if_pos hxe, ha] at hx; cases hx
    · rw [if_neg hxe] at hx
      rcases List.mem_append.1 hl with h | h
      · exact o.no x hx l h hle
      · have hl' : l = ⟨e.e, e.t, -1⟩ := by simpa using h
        rw [hl'] at hle
        exact absurd hle.symm hxe

/-- An edge goes: its open life ends. -/
theorem Opn.del {p : List Ev} {at' : Ed → Nat} (o : Opn p at') {e : Ev} (h0 : ∀ y ∈ p, 0 ≤ y.t) (he : 0 ≤ e.t) (ha : e.add = false) (hn : thereOf p e.e = true) :
    (∃ fr, (raw p)[at' e.e]? = some ⟨e.e, fr, -1⟩ ∧ raw (p ++ [e]) = (raw p).set (at' e.e) ⟨e.e, fr, e.t⟩) ∧ Opn (p ++ [e]) at' := by
  obtain ⟨fr, h1, h2⟩ := o.yes e.e hn
  have hlt := (List.getElem?_eq_some_iff.1 h1).1
  have hr : raw (p ++ [e]) = (raw p).set (at' e.e) ⟨e.e, fr, e.t⟩ := by
    rw [raw_snoc h0, if_neg (by rw [ha]; simp), List.append_nil]
    apply List.ext_getElem?
    intro j
    rw [List.getElem?_map, List.getElem?_set]
    by_cases hj : at' e.e = j
    · subst hj; rw [if_pos rfl, if_pos hlt, h1]; simp [close]
    · rw [if_neg hj]
      cases hl : (raw p)[j]? with
      | none => rfl
      | some l => simp only [Option.map_some]; rw [close_keep (fun h => hj (h2 j l hl h.1 h.2).symm)]
  refine ⟨⟨fr, h1, hr⟩, ⟨fun x hx => ?_, fun x hx l hl hle => ?_⟩⟩
  · rw [thereOf_snoc] at hx
    unfold turn at hx
    by_cases hxe : x = e.e
    · rw [if_pos hxe, ha] at hx; cases hx
    · rw [if_neg hxe] at hx
      obtain ⟨fr', k1, k2⟩ := o.yes x hx
      have hne : at' e.e ≠ at' x := fun h => by
        rw [← h, h1] at k1
        have := congrArg Lf.e (Option.some.inj k1)
        exact hxe this.symm
      rw [hr]
      refine ⟨fr', by rw [List.getElem?_set, if_neg hne]; exact k1, fun j l hj hle hto => ?_⟩
      rw [List.getElem?_set] at hj
      by_cases hc : at' e.e = j
      · rw [if_pos hc, if_pos (by omega)] at hj
        have hj' := (Option.some.inj hj).symm
        rw [hj'] at hle
        exact absurd hle.symm hxe
      · rw [if_neg hc] at hj
        exact k2 j l hj hle hto
  · rw [thereOf_snoc] at hx
    unfold turn at hx
    rw [hr] at hl
    obtain ⟨j, hj⟩ := List.mem_iff_getElem?.1 hl
    rw [List.getElem?_set] at hj
    by_cases hc : at' e.e = j
    · rw [if_pos hc, if_pos (by omega)] at hj
      have hj' := (Option.some.inj hj).symm
      rw [hj']; show e.t ≠ -1; omega
    · rw [if_neg hc] at hj
      by_cases hxe : x = e.e
      · intro hto
        subst hxe
        exact hc (h2 j l hj hle hto).symm
      · rw [if_neg hxe] at hx
        exact o.no x hx l (List.mem_of_getElem? hj) hle

/-! ### The order of lives -/
theorem mem_raw {l : List Ev} {x : Lf} (h : x ∈ raw l) : ∃ y ∈ l, y.e = x.e ∧ y.t = x.fr ∧ y.add = true := by
  induction l with
  | nil => simp [raw] at h
  | cons e l ih =>
    simp only [raw] at h
    by_cases ha : e.add = true
    · rw [if_pos ha] at h
      rcases List.mem_cons.1 h with rfl | h
      · exact ⟨e, by simp, rfl, rfl, ha⟩
      · obtain ⟨y, hy, k⟩ := ih h
        exact ⟨y, by simp [hy], k⟩
    · rw [if_neg ha] at h
      obtain ⟨y, hy, k⟩ := ih h
      exact ⟨y, by simp [hy], k⟩

theorem raw_pair {l : List Ev} (h : l.Pairwise before) : (raw l).Pairwise (fun a b => lfLt a b ∨ lfLt b a) := by
  induction l with
  | nil => simp [raw]
  | cons e l ih =>
    obtain ⟨h1, h2⟩ := List.pairwise_cons.1 h
    simp only [raw]
    by_cases ha : e.add = true
    · rw [if_pos ha]
      refine List.pairwise_cons.2 ⟨fun x hx => ?_, ih h2⟩
      obtain ⟨y, hy, k1, k2, _⟩ := mem_raw hx
      have hb := h1 y hy
      unfold lfLt
      rcases edLt_total e.e x.e with c | c | c
      · exact Or.inl (Or.inl c)
      · left; right
        refine ⟨c, ?_⟩
        show e.t < x.fr
        rw [← k2]
        rcases hb with hb | ⟨_, hb⟩
        · exact hb
        · rw [k1, c] at hb; exact absurd hb (edLt_irrefl _)
      · exact Or.inr (Or.inl c)
    · rw [if_neg ha]; exact ih h2

/-- All put in from the right, one behind another. -/
def putAll {α : Type} (lt : α → α → Prop) [DecidableRel lt] (l : List α) : List α := l.foldl (fun o x => putR lt x o) []

theorem putAll_aux {α : Type} {lt : α → α → Prop} [DecidableRel lt] (ht : ∀ {a b c}, lt a b → lt b c → lt a c) : ∀ (l o : List α), o.Pairwise lt → l.Pairwise (fun a b => lt a b ∨ lt b a) → (∀ x ∈ l, ∀ y ∈ o, lt x y ∨ lt y x) →
    (l.foldl (fun o x => putR lt x o) o).Pairwise lt ∧ (l.foldl (fun o x => putR lt x o) o).Perm (o ++ l)
  | [], o, ho, _, _ => ⟨ho, by simp⟩
  | a :: l, o, ho, hl, hx => by
    obtain ⟨h1, h2⟩ := List.pairwise_cons.1 hl
    have hp := putR_perm lt a o
    obtain ⟨k1, k2⟩ := putAll_aux (lt := lt) ht l (putR lt a o) (putR_sorted (lt := lt) ht ho (hx a (by simp))) h2 (fun x hxl y hy => by
      rcases List.mem_cons.1 (hp.subset hy) with rfl | hy
      · exact (h1 x hxl).symm
      · exact hx x (by simp [hxl]) y hy)
    refine ⟨k1, k2.trans ((hp.append_right l).trans ?_)⟩
    simpa using (List.perm_middle (a := a) (l₁ := o) (l₂ := l)).symm
theorem putAll_sorted {α : Type} {lt : α → α → Prop} [DecidableRel lt] (ht : ∀ {a b c}, lt a b → lt b c → lt a c) {l : List α} (hl : l.Pairwise (fun a b => lt a b ∨ lt b a)) : (putAll lt l).Pairwise lt ∧ (putAll lt l).Perm l := by
  have := putAll_aux (lt := lt) ht l [] List.Pairwise.nil hl (fun _ _ y hy => by simp at hy)
  simpa [putAll] using this

/-- A sort of lives that may be is what the document's putting in comes to. -/
theorem sort_lives {l : List Ev} (h : l.Pairwise before) {m : List Lf} (hm : m.Pairwise lfLt) (hp : m.Perm (raw l)) : m = putAll lfLt (raw l) := by
  obtain ⟨h1, h2⟩ := putAll_sorted (lt := lfLt) lfLt_trans (raw_pair h)
  exact sorted_unique lfLt_irrefl lfLt_trans hm h1 (hp.trans h2.symm)

/-- A sorted row, by 'not above', of lives any two of which differ, rises strictly. -/
theorem strict_of {m : List Lf} (hs : m.Pairwise (fun a b => ¬ lfLt b a)) (hd : m.Pairwise (fun a b => lfLt a b ∨ lfLt b a)) : m.Pairwise lfLt := by
  induction m with
  | nil => exact List.Pairwise.nil
  | cons a m ih =>
    obtain ⟨h1, h2⟩ := List.pairwise_cons.1 hs
    obtain ⟨k1, k2⟩ := List.pairwise_cons.1 hd
    refine List.pairwise_cons.2 ⟨fun b hb => ?_, ih h2 k2⟩
    rcases k1 b hb with c | c
    · exact c
    · exact absurd c (h1 b hb)

/-! ### What a check finds -/
theorem chkFrom_ok {n : Int} : ∀ {l : List Ev} {i : Nat} {prev : Option Ev} {there : Ed → Bool}, (chkFrom n i prev there l).2 = 0 → chkFrom n i prev there l = (0, 0)
  | [], _, _, _, _ => rfl
  | e :: l, i, prev, there, h => by
    simp only [chkFrom] at h ⊢
    split at h
    · rename_i hc; rw [if_pos hc]; exact chkFrom_ok h
    · rename_i hc; exact absurd h hc

/-- All events may be. -/
def AllOk (n : Int) : Option Ev → (Ed → Bool) → List Ev → Prop
  | _, _, [] => True
  | prev, there, e :: l => evErr n prev there e = 0 ∧ AllOk n (some e) (turn there e) l
theorem allOk_of {n : Int} : ∀ {l : List Ev} {i : Nat} {prev : Option Ev} {there : Ed → Bool}, (chkFrom n i prev there l).2 = 0 → AllOk n prev there l
  | [], _, _, _, _ => trivial
  | e :: l, i, prev, there, h => by
    simp only [chkFrom] at h
    by_cases hc : evErr n prev there e = 0
    · rw [if_pos hc] at h; exact ⟨hc, allOk_of h⟩
    · rw [if_neg hc] at h; exact absurd h hc

theorem evErr_ok {n : Int} {prev : Option Ev} {there : Ed → Bool} {e : Ev} (h : evErr n prev there e = 0) :
    (0 ≤ e.t ∧ e.t ≤ maxT) ∧ right e.e n ∧ (∀ p, prev = some p → before p e) ∧ there e.e ≠ e.add := by
  unfold evErr at h
  split at h
  · cases h
  · rename_i h1
    split at h
    · cases h
    · rename_i h2
      split at h
      · cases h
      · rename_i h3
        split at h
        · cases h
        · rename_i h4
          refine ⟨by omega, Decidable.of_not_not h2, fun p hp => ?_, h4⟩
          subst hp
          simpa using h3

theorem allOk_before {n : Int} : ∀ {l : List Ev} {prev : Option Ev} {there : Ed → Bool}, AllOk n prev there l → l.Pairwise before ∧ ∀ p, prev = some p → ∀ e ∈ l, before p e
  | [], _, _, _ => ⟨List.Pairwise.nil, fun _ _ e he => by simp at he⟩
  | e :: l, prev, there, h => by
    obtain ⟨h1, h2⟩ := h
    obtain ⟨_, _, h3, _⟩ := evErr_ok h1
    obtain ⟨k1, k2⟩ := allOk_before h2
    refine ⟨List.pairwise_cons.2 ⟨fun x hx => k2 e rfl x hx, k1⟩, fun p hp x hx => ?_⟩
    rcases List.mem_cons.1 hx with rfl | hx
    · exact h3 p hp
    · exact before_trans (h3 p hp) (k2 e rfl x hx)
end Go.Proofs.Ythncgmmfnghliaa
