/- Which lives are there at a time, plainly: just the edges that are. Nothing of the program in it. -/
import Derived.Test.YthncgmmfnghliaaLfN
namespace Go.Proofs.Ythncgmmfnghliaa
set_option linter.unusedVariables false

def isThere (t : Int) (x : Lf) : Bool := decide (x.fr ≤ t) && (decide (x.to < 0) || decide (t < x.to))
def isOpen (x : Lf) : Bool := decide (x.to = -1)
def closeAll (s : List Ev) (x : Lf) : Lf := if x.to = -1 then { x with to := nextT x.e s } else x

theorem nextT_mem (x : Ed) (l : List Ev) : nextT x l = -1 ∨ ∃ y ∈ l, nextT x l = y.t := by
  induction l with
  | nil => left; rfl
  | cons y l ih =>
    by_cases h : y.e = x
    · right; exact ⟨y, by simp, by simp [nextT, h]⟩
    · have e : nextT x (y :: l) = nextT x l := by simp [nextT, h]
      rw [e]
      rcases ih with c | ⟨z, hz, c⟩
      · exact Or.inl c
      · exact Or.inr ⟨z, by simp [hz], c⟩
theorem nextT_append {x : Ed} {p s : List Ev} (h0 : ∀ y ∈ p, 0 ≤ y.t) : nextT x (p ++ s) = if nextT x p = -1 then nextT x s else nextT x p := by
  induction p with
  | nil => simp [nextT]
  | cons y p ih =>
    by_cases hy : y.e = x
    · have h1 := h0 y (by simp)
      have e1 : nextT x (y :: p ++ s) = y.t := by simp [nextT, hy]
      have e2 : nextT x (y :: p) = y.t := by simp [nextT, hy]
      rw [e1, if_neg (by rw [e2]; omega), e2]
    · have e1 : nextT x (y :: p ++ s) = nextT x (p ++ s) := by simp [nextT, hy]
      have e2 : nextT x (y :: p) = nextT x p := by simp [nextT, hy]
      rw [e1, ih (fun z hz => h0 z (by simp [hz]))]
      simp only [e2]
theorem raw_append {p s : List Ev} (h0 : ∀ y ∈ p, 0 ≤ y.t) : raw (p ++ s) = (raw p).map (closeAll s) ++ raw s := by
  induction p with
  | nil => simp [raw]
  | cons y p ih =>
    have h1 : ∀ z ∈ p, 0 ≤ z.t := fun z hz => h0 z (by simp [hz])
    simp only [List.cons_append, raw]
    by_cases hy : y.add = true
    · rw [if_pos hy, if_pos hy, ih h1, nextT_append h1]
      simp only [List.map_cons, List.cons_append]
      congr 1
      unfold closeAll
      by_cases hc : nextT y.e p = -1
      · rw [if_pos hc, if_pos hc]
      · rw [if_neg hc, if_neg hc]
    · rw [if_neg hy, if_neg hy, ih h1]
theorem raw_to {p : List Ev} {x : Lf} (h : x ∈ raw p) : x.to = -1 ∨ ∃ y ∈ p, x.to = y.t := by
  induction p with
  | nil => simp [raw] at h
  | cons e p ih =>
    simp only [raw] at h
    have key : x ∈ raw p → x.to = -1 ∨ ∃ y ∈ e :: p, x.to = y.t := fun hx => by
      rcases ih hx with c | ⟨y, hy, c⟩
      · exact Or.inl c
      · exact Or.inr ⟨y, by simp [hy], c⟩
    by_cases ha : e.add = true
    · rw [if_pos ha] at h
      rcases List.mem_cons.1 h with rfl | h
      · rcases nextT_mem e.e p with c | ⟨y, hy, c⟩
        · exact Or.inl c
        · exact Or.inr ⟨y, by simp [hy], c⟩
      · exact key h
    · rw [if_neg ha] at h; exact key h

/-- Those that are there are those that were open. -/
theorem there_filter {p s : List Ev} {t : Int} (h0 : ∀ y ∈ p, 0 ≤ y.t) (hp : ∀ y ∈ p, y.t ≤ t) (hs : ∀ y ∈ s, t < y.t) (hs0 : ∀ y ∈ s, 0 ≤ y.t) :
    (raw (p ++ s)).filter (isThere t) = ((raw p).filter isOpen).map (closeAll s) := by
  rw [raw_append h0, List.filter_append]
  have e2 : (raw s).filter (isThere t) = [] := List.filter_eq_nil_iff.2 (fun x hx => by
    obtain ⟨y, hy, _, k, _⟩ := mem_raw hx
    have := hs y hy
    unfold isThere; simp; omega)
  rw [e2, List.append_nil, List.filter_map]
  congr 1
  refine List.filter_congr (fun x hx => ?_)
  obtain ⟨y, hy, _, k, _⟩ := mem_raw hx
  have hfr := hp y hy
  show isThere t (closeAll s x) = isOpen x
  unfold isOpen closeAll isThere
  by_cases hc : x.to = -1
  · rw [if_pos hc]
    have : nextT x.e s = -1 ∨ t < nextT x.e s := by
      rcases nextT_mem x.e s with c | ⟨z, hz, c⟩
      · exact Or.inl c
      · exact Or.inr (by rw [c]; exact hs z hz)
    simp only [hc, decide_true, Bool.and_eq_true, Bool.or_eq_true, decide_eq_true_eq]
    omega
  · rw [if_neg hc]
    rcases raw_to hx with c | ⟨z, hz, c⟩
    · exact absurd c hc
    · have h1 := hp z hz
      have h2 := h0 z hz
      simp [hc]
      omega

/-- A history that may be: its prefix is open just as it tells. -/
theorem opn_of {n : Int} : ∀ (l p : List Ev) (at' : Ed → Nat), Opn p at' → (∀ y ∈ p, 0 ≤ y.t) → ∀ prev, AllOk n prev (thereOf p) l → ∃ at2, Opn (p ++ l) at2
  | [], p, at', o, _, _, _ => ⟨at', by simpa using o⟩
  | e :: l, p, at', o, h0, prev, h => by
    obtain ⟨h1, h2⟩ := h
    obtain ⟨⟨t0, _⟩, _, _, hne⟩ := evErr_ok h1
    have h0' : ∀ y ∈ p ++ [e], 0 ≤ y.t := fun y hy => by
      rcases List.mem_append.1 hy with hy | hy
      · exact h0 y hy
      · have : y = e := by simpa using hy
        rw [this]; exact t0
    rw [← thereOf_snoc] at h2
    have hcat : p ++ e :: l = (p ++ [e]) ++ l := by simp
    rw [hcat]
    cases ha : e.add with
    | true =>
      have hn : thereOf p e.e = false := by rw [ha] at hne; simpa using hne
      exact opn_of l (p ++ [e]) _ (o.add h0 ha hn).2 h0' _ h2
    | false =>
      have hn : thereOf p e.e = true := by rw [ha] at hne; simpa using hne
      exact opn_of l (p ++ [e]) _ (o.del h0 t0 ha hn).2 h0' _ h2

theorem now_of {n : Int} : ∀ (l p : List Ev) (now : List Ed), NowOk now (thereOf p) → ∀ prev, AllOk n prev (thereOf p) l → ∃ now2, NowOk now2 (thereOf (p ++ l))
  | [], p, now, o, _, _ => ⟨now, by simpa using o⟩
  | e :: l, p, now, o, prev, h => by
    obtain ⟨h1, h2⟩ := h
    obtain ⟨_, _, _, hne⟩ := evErr_ok h1
    obtain ⟨now', _, o'⟩ := o.some hne
    rw [← thereOf_snoc] at h2 o'
    have hcat : p ++ e :: l = (p ++ [e]) ++ l := by simp
    rw [hcat]
    exact now_of l (p ++ [e]) now' o' _ h2

/-- As many lives are open as edges are there, and they are theirs. -/
theorem open_now {p : List Ev} {at' : Ed → Nat} (o : Opn p at') {now : List Ed} (h : NowOk now (thereOf p)) : (((raw p).filter isOpen).map Lf.e).Perm now := by
  have huniq : ∀ (i j : Nat) (a b : Lf), (raw p)[i]? = some a → (raw p)[j]? = some b → a.to = -1 → b.to = -1 → a.e = b.e → i = j := fun i j a b hi hj ha hb he => by
    cases ht : thereOf p a.e with
    | true =>
      obtain ⟨_, _, h2⟩ := o.yes a.e ht
      exact (h2 i a hi rfl ha).trans (h2 j b hj he.symm hb).symm
    | false => exact absurd ha (o.no a.e ht a (List.mem_of_getElem? hi) rfl)
  have hp : (raw p).Pairwise (fun a b => a.to = -1 → b.to = -1 → a.e ≠ b.e) := List.pairwise_iff_getElem.2 (fun i j hi hj hij ha hb he => by
    have := huniq i j _ _ (List.getElem?_eq_getElem hi) (List.getElem?_eq_getElem hj) ha hb he
    omega)
  have hf : ((raw p).filter isOpen).Pairwise (fun a b => a.e ≠ b.e) :=
    (hp.filter isOpen).imp_of_mem (fun {a b} ha hb h => h (by have := (List.mem_filter.1 ha).2; simpa [isOpen] using this) (by have := (List.mem_filter.1 hb).2; simpa [isOpen] using this))
  have hnd : (((raw p).filter isOpen).map Lf.e).Nodup := List.pairwise_map.2 hf
  have hnd2 : now.Nodup := h.sorted.imp ne_of_edLt
  refine (List.perm_ext_iff_of_nodup hnd hnd2).2 (fun x => ?_)
  rw [h.mem, List.mem_map]
  constructor
  · rintro ⟨l, hl, rfl⟩
    obtain ⟨h1, h2⟩ := List.mem_filter.1 hl
    have hto : l.to = -1 := by simpa [isOpen] using h2
    cases ht : thereOf p l.e with
    | true => rfl
    | false => exact absurd hto (o.no l.e ht l h1 rfl)
  · intro hx
    obtain ⟨fr, h1, _⟩ := o.yes x hx
    exact ⟨⟨x, fr, -1⟩, List.mem_filter.2 ⟨List.mem_of_getElem? h1, by simp [isOpen]⟩, rfl⟩
end Go.Proofs.Ythncgmmfnghliaa
