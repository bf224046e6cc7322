/- The statements' own histories (archipelagoseat.History), plainly: they may be. Nothing of the program in it. -/
import Derived.Test.YthncgmmfnghliaaLfP
namespace Go.Proofs.Ythncgmmfnghliaa
set_option linter.unusedVariables false

def vertsOf (k : Nat) : Int := [8, 5, 2, 4294967296, 300, 12, 1048576, 3].getD (k % 8) 0
theorem vertsOf_bd (k : Nat) : 2 ≤ vertsOf k ∧ vertsOf k ≤ 4294967296 := by
  unfold vertsOf
  have h : k % 8 < 8 := Nat.mod_lt _ (by omega)
  generalize k % 8 = j at h
  match j, h with
  | 0, _ => decide
  | 1, _ => decide
  | 2, _ => decide
  | 3, _ => decide
  | 4, _ => decide
  | 5, _ => decide
  | 6, _ => decide
  | 7, _ => decide

/-- One end of an edge, of a number. -/
def endOf (a n : Int) (far : Bool) : Int := if far then n - 1 - a % min n 9 else a % min n 9
def edgeOf (a b n : Int) : Option Ed :=
  if endOf a n (decide (230 < a)) = endOf b n (decide (240 < b)) then none
  else some ⟨min (endOf a n (decide (230 < a))) (endOf b n (decide (240 < b))), max (endOf a n (decide (230 < a))) (endOf b n (decide (240 < b)))⟩
theorem endOf_bd {a n : Int} (hn : 2 ≤ n) (far : Bool) : 0 ≤ endOf a n far ∧ endOf a n far < n := by
  have h1 : 0 < min n 9 := by omega
  have h2 := Int.emod_nonneg a (show min n 9 ≠ 0 by omega)
  have h3 := Int.emod_lt_of_pos a h1
  have h4 : min n 9 ≤ n := by omega
  unfold endOf
  split <;> omega
theorem edgeOf_right {a b n : Int} (hn : 2 ≤ n) {e : Ed} (h : edgeOf a b n = some e) : right e n ∧ 0 ≤ e.u := by
  unfold edgeOf at h
  split at h
  · cases h
  · rename_i hc
    have := Option.some.inj h
    subst this
    have h1 := endOf_bd (a := a) hn (decide (230 < a))
    have h2 := endOf_bd (a := b) hn (decide (240 < b))
    unfold right
    simp only
    omega

/-- Put in, if it isn't there. -/
def putNew (x : Ev) (l : List Ev) : List Ev := if x ∈ l then l else putR before x l
theorem before_total {a b : Ev} (ha : a.add = b.add) (h : a ≠ b) : before a b ∨ before b a := by
  unfold before
  rcases Int.lt_trichotomy a.t b.t with c | c | c
  · exact Or.inl (Or.inl c)
  · rcases edLt_total a.e b.e with d | d | d
    · exact Or.inl (Or.inr ⟨c, d⟩)
    · exact absurd (by cases a; cases b; simp_all) h
    · exact Or.inr (Or.inr ⟨c.symm, d⟩)
  · exact Or.inr (Or.inl c)
theorem putNew_sorted {x : Ev} {l : List Ev} (h : l.Pairwise before) (ha : ∀ y ∈ l, y.add = x.add) : (putNew x l).Pairwise before := by
  unfold putNew
  split
  · exact h
  · rename_i hx
    exact putR_sorted (lt := before) before_trans h (fun y hy => before_total (ha y hy).symm (fun e => hx (e ▸ hy)))
theorem putNew_mem {x y : Ev} {l : List Ev} (h : y ∈ putNew x l) : y = x ∨ y ∈ l := by
  unfold putNew at h
  split at h
  · exact Or.inr h
  · exact List.mem_cons.1 ((putR_perm before x l).subset h)
theorem putNew_len (x : Ev) (l : List Ev) : (putNew x l).length ≤ l.length + 1 := by
  unfold putNew
  split
  · omega
  · rw [(putR_perm before x l).length_eq]; simp

/-- What History's first loop keeps. -/
structure Times (n top : Int) (l : List Ev) : Prop where
  sorted : l.Pairwise before
  bd : ∀ y ∈ l, 0 ≤ y.t ∧ y.t ≤ top ∧ right y.e n ∧ 0 ≤ y.e.u ∧ y.add = false
theorem Times.nil (n top : Int) : Times n top [] := ⟨List.Pairwise.nil, fun y h => by simp at h⟩
theorem Times.mono {n top top' : Int} {l : List Ev} (h : Times n top l) (ht : top ≤ top') : Times n top' l :=
  ⟨h.sorted, fun y hy => by obtain ⟨a, b, c⟩ := h.bd y hy; exact ⟨a, by omega, c⟩⟩
theorem Times.put {n top : Int} {l : List Ev} (h : Times n top l) {t : Int} {e : Ed} (h0 : 0 ≤ t) (h1 : t ≤ top) (he : right e n ∧ 0 ≤ e.u) : Times n top (putNew ⟨t, e, false⟩ l) :=
  ⟨putNew_sorted h.sorted (fun y hy => (h.bd y hy).2.2.2.2), fun y hy => by
    rcases putNew_mem hy with rfl | hy
    · exact ⟨h0, h1, he.1, he.2, rfl⟩
    · exact h.bd y hy⟩

/-- Each comes, if it isn't there, else it goes. -/
def flag (there : Ed → Bool) : List Ev → List Ev
  | [] => []
  | e :: l => { e with add := !there e.e } :: flag (turn there { e with add := !there e.e }) l
theorem flag_len : ∀ (l : List Ev) (there : Ed → Bool), (flag there l).length = l.length
  | [], _ => rfl
  | e :: l, there => by simp [flag, flag_len l]

theorem evErr_zero {n : Int} {prev : Option Ev} {there : Ed → Bool} {e : Ev} (h0 : 0 ≤ e.t ∧ e.t ≤ maxT) (h1 : right e.e n) (h2 : ∀ p, prev = some p → before p e) (h3 : there e.e ≠ e.add) : evErr n prev there e = 0 := by
  unfold evErr
  rw [if_neg (by omega), if_neg (fun h => h h1), if_neg ?_, if_neg h3]
  cases prev with
  | none => simp
  | some p => simpa using h2 p rfl

theorem flag_ok {n : Int} : ∀ (l : List Ev) (prev : Option Ev) (there : Ed → Bool), l.Pairwise before → (∀ y ∈ l, 0 ≤ y.t ∧ y.t ≤ maxT ∧ right y.e n) → (∀ p, prev = some p → ∀ y ∈ l, before p y) → AllOk n prev there (flag there l)
  | [], _, _, _, _, _ => trivial
  | e :: l, prev, there, hs, hb, hp => by
    obtain ⟨h1, h2⟩ := List.pairwise_cons.1 hs
    obtain ⟨b1, b2, b3⟩ := hb e (by simp)
    refine ⟨evErr_zero ⟨b1, b2⟩ b3 (fun p h => hp p h e (by simp)) (by show there e.e ≠ !there e.e; cases there e.e <;> simp), ?_⟩
    exact flag_ok l _ _ h2 (fun y hy => hb y (by simp [hy])) (fun p h y hy => by
      cases h
      exact h1 y hy)

theorem hist_ok {n top : Int} {l : List Ev} (h : Times n top l) (ht : top ≤ maxT) : AllOk n none (fun _ => false) (flag (fun _ => false) l) :=
  flag_ok l none _ h.sorted (fun y hy => by obtain ⟨a, b, c, _⟩ := h.bd y hy; exact ⟨a, by omega, c⟩) (fun p h => by cases h)

/-- A history that may be: its check finds nothing. -/
theorem chkFrom_allOk {n : Int} : ∀ {l : List Ev} {i : Nat} {prev : Option Ev} {there : Ed → Bool}, AllOk n prev there l → chkFrom n i prev there l = (0, 0)
  | [], _, _, _, _ => rfl
  | e :: l, i, prev, there, h => by
    simp only [chkFrom]
    rw [if_pos h.1]
    exact chkFrom_allOk h.2
end Go.Proofs.Ythncgmmfnghliaa
