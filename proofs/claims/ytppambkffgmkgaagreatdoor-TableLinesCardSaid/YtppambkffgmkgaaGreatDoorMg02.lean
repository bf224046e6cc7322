/- Merged: LfN LfH LfT -/
import Derived.Test.YtppambkffgmkgaaGreatDoorMg01
section
/- The document's edges at a moment, kept as a rising list; and the statements' own histories, plainly. Nothing of the program in it. -/
namespace Go.Proofs.YtppambkffgmkgaaGreatDoor
set_option linter.unusedVariables false

/-- Put in ahead of the first that is not below. -/
def insL (x : Ed) : List Ed → List Ed
  | [] => [x]
  | y :: l => if edLt y x then y :: insL x l else x :: y :: l
/-- Where an edge stands. -/
def fndE (x : Ed) : List Ed → Option Nat
  | [] => none
  | y :: l => if y = x then some 0 else (fndE x l).map (· + 1)
/-- What an event makes of the edges; none: it may not be. -/
def turnL (now : List Ed) (e : Ev) : Option (List Ed) :=
  if e.add = (fndE e.e now).isSome then none else if e.add then some (insL e.e now) else some (now.eraseIdx ((fndE e.e now).getD 0))

theorem fndE_iff {x : Ed} {l : List Ed} : (fndE x l).isSome = true ↔ x ∈ l := by
  induction l with
  | nil => simp [fndE]
  | cons y l ih =>
    simp only [fndE]
    by_cases e : y = x
    · simp [e]
    · rw [if_neg e]; simp only [Option.isSome_map, List.mem_cons]; rw [ih]
      constructor
      · exact Or.inr
      · rintro (h | h)
        · exact absurd h.symm e
        · exact h
theorem fndE_get {x : Ed} {l : List Ed} {k : Nat} (h : fndE x l = some k) : l[k]? = some x ∧ ∀ j, j < k → l[j]? ≠ some x := by
  induction l generalizing k with
  | nil => simp [fndE] at h
  | cons y l ih =>
    simp only [fndE] at h
    by_cases e : y = x
    · rw [if_pos e] at h; cases h; subst e; exact ⟨by simp, fun j hj => by omega⟩
    · rw [if_neg e] at h
      cases hf : fndE x l with
      | none => rw [hf] at h; simp at h
      | some m =>
        rw [hf] at h; simp at h; subst h
        obtain ⟨h1, h2⟩ := ih hf
        refine ⟨by simpa using h1, fun j hj => ?_⟩
        cases j with
        | zero => simpa using e
        | succ j => simpa using h2 j (by omega)

theorem insL_mem {x y : Ed} {l : List Ed} : y ∈ insL x l ↔ y = x ∨ y ∈ l := by
  induction l with
  | nil => simp [insL]
  | cons z l ih =>
    simp only [insL]
    split
    · simp only [List.mem_cons, ih]
      constructor
      · rintro (h | h | h)
        · exact Or.inr (Or.inl h)
        · exact Or.inl h
        · exact Or.inr (Or.inr h)
      · rintro (h | h | h)
        · exact Or.inr (Or.inl h)
        · exact Or.inl h
        · exact Or.inr (Or.inr h)
    · simp only [List.mem_cons]
theorem insL_sorted {x : Ed} {l : List Ed} (h : l.Pairwise edLt) (hx : x ∉ l) : (insL x l).Pairwise edLt := by
  induction l with
  | nil => exact List.pairwise_singleton _ _
  | cons y l ih =>
    obtain ⟨h1, h2⟩ := List.pairwise_cons.1 h
    simp only [insL]
    split
    · rename_i hc
      refine List.pairwise_cons.2 ⟨fun z hz => ?_, ih h2 (fun h => hx (by simp [h]))⟩
      rcases insL_mem.1 hz with rfl | hz
      · exact hc
      · exact h1 z hz
    · rename_i hc
      have hxy : edLt x y := by
        rcases edLt_total x y with c | c | c
        · exact c
        · exact absurd (show x ∈ y :: l by simp [c]) hx
        · exact absurd c hc
      refine List.pairwise_cons.2 ⟨fun z hz => ?_, h⟩
      rcases List.mem_cons.1 hz with rfl | hz
      · exact hxy
      · exact edLt_trans hxy (h1 z hz)

theorem ne_of_edLt {a b : Ed} (h : edLt a b) : a ≠ b := fun e => by subst e; exact edLt_irrefl a h

/-- The list tells what is there. -/
structure NowOk (now : List Ed) (there : Ed → Bool) : Prop where
  sorted : now.Pairwise edLt
  mem : ∀ x, x ∈ now ↔ there x = true

theorem NowOk.nil : NowOk [] (fun _ => false) := ⟨List.Pairwise.nil, by simp⟩
theorem NowOk.find {now : List Ed} {there : Ed → Bool} (h : NowOk now there) (x : Ed) : (fndE x now).isSome = there x := by
  rw [Bool.eq_iff_iff, fndE_iff, h.mem]
theorem NowOk.none {now : List Ed} {there : Ed → Bool} (h : NowOk now there) {e : Ev} (hc : there e.e = e.add) : turnL now e = none := by
  unfold turnL; rw [h.find, if_pos hc.symm]
theorem NowOk.some {now : List Ed} {there : Ed → Bool} (h : NowOk now there) {e : Ev} (hc : there e.e ≠ e.add) : ∃ now', turnL now e = some now' ∧ NowOk now' (turn there e) := by
  unfold turnL
  rw [h.find, if_neg (fun k => hc k.symm)]
  cases ha : e.add with
  | true =>
    have hn : there e.e = false := by rw [ha] at hc; simpa using hc
    have hm : e.e ∉ now := fun k => by rw [h.mem, hn] at k; cases k
    refine ⟨_, rfl, insL_sorted h.sorted hm, fun x => ?_⟩
    rw [insL_mem, h.mem]
    unfold turn
    by_cases hx : x = e.e
    · simp [hx, ha]
    · simp [hx]
  | false =>
    have hn : there e.e = true := by rw [ha] at hc; simpa using hc
    cases hf : fndE e.e now with
    | none => have := h.find e.e; rw [hf, hn] at this; cases this
    | some k =>
      refine ⟨_, by rw [if_neg (by simp)], h.sorted.sublist (List.eraseIdx_sublist _ _), fun x => ?_⟩
      obtain ⟨k1, _⟩ := fndE_get hf
      obtain ⟨k2, k3⟩ := List.getElem?_eq_some_iff.1 k1
      have hnd : now.Pairwise (fun a b => a ≠ b) := h.sorted.imp ne_of_edLt
      simp only [Option.getD_some]
      rw [List.mem_eraseIdx_iff_getElem?]
      unfold turn
      by_cases hx : x = e.e
      · subst hx
        rw [if_pos rfl, ha]
        constructor
        · rintro ⟨i, hi, hit⟩
          obtain ⟨i1, i2⟩ := List.getElem?_eq_some_iff.1 hit
          rcases Nat.lt_or_gt_of_ne hi with c | c
          · exact absurd (i2.trans k3.symm) (List.pairwise_iff_getElem.1 hnd i k i1 k2 c)
          · exact absurd (k3.trans i2.symm) (List.pairwise_iff_getElem.1 hnd k i k2 i1 c)
        · intro h; cases h
      · rw [if_neg hx, ← h.mem]
        constructor
        · rintro ⟨i, _, hit⟩; exact List.mem_of_getElem? hit
        · intro hm
          obtain ⟨i, hit⟩ := List.mem_iff_getElem?.1 hm
          refine ⟨i, fun c => ?_, hit⟩
          subst c
          rw [k1] at hit
          exact hx (Option.some.inj hit).symm
end Go.Proofs.YtppambkffgmkgaaGreatDoor
end

section
/- The statements' own histories (archipelagoseat.History), plainly: they may be. Nothing of the program in it. -/
namespace Go.Proofs.YtppambkffgmkgaaGreatDoor
set_option linter.unusedVariables false

def vertsOf (k : Nat) : Int := [8, 5, 2, 4294967296, 300, 12, 1048576, 3].getD (k % 8) 0
theorem vertsOf_bd (k : Nat) : 2 ≤ vertsOf k ∧ vertsOf k ≤ 4294967296 := by
  unfold vertsOf
  have h : k % 8 < 8 := Nat.mod_lt _ (by omega)
  generalize k % 8 = j at h
  match j, h with
  | 0, _ => decide
  | 1, _ => decide
  | 2, _ => decide
  | 3, _ => decide
  | 4, _ => decide
  | 5, _ => decide
  | 6, _ => decide
  | 7, _ => decide

/-- One end of an edge, of a number. -/
def endOf (a n : Int) (far : Bool) : Int := if far then n - 1 - a % min n 9 else a % min n 9
def edgeOf (a b n : Int) : Option Ed :=
  if endOf a n (decide (230 < a)) = endOf b n (decide (240 < b)) then none
  else some ⟨min (endOf a n (decide (230 < a))) (endOf b n (decide (240 < b))), max (endOf a n (decide (230 < a))) (endOf b n (decide (240 < b)))⟩
theorem endOf_bd {a n : Int} (hn : 2 ≤ n) (far : Bool) : 0 ≤ endOf a n far ∧ endOf a n far < n := by
  have h1 : 0 < min n 9 := by omega
  have h2 := Int.emod_nonneg a (show min n 9 ≠ 0 by omega)
  have h3 := Int.emod_lt_of_pos a h1
  have h4 : min n 9 ≤ n := by omega
  unfold endOf
  split <;> omega
theorem edgeOf_right {a b n : Int} (hn : 2 ≤ n) {e : Ed} (h : edgeOf a b n = some e) : right e n ∧ 0 ≤ e.u := by
  unfold edgeOf at h
  split at h
  · cases h
  · rename_i hc
    have := Option.some.inj h
    subst this
    have h1 := endOf_bd (a := a) hn (decide (230 < a))
    have h2 := endOf_bd (a := b) hn (decide (240 < b))
    unfold right
    simp only
    omega

/-- Put in, if it isn't there. -/
def putNew (x : Ev) (l : List Ev) : List Ev := if x ∈ l then l else putR before x l
theorem before_total {a b : Ev} (ha : a.add = b.add) (h : a ≠ b) : before a b ∨ before b a := by
  unfold before
  rcases Int.lt_trichotomy a.t b.t with c | c | c
  · exact Or.inl (Or.inl c)
  · rcases edLt_total a.e b.e with d | d | d
    · exact Or.inl (Or.inr ⟨c, d⟩)
    · exact absurd (by cases a; cases b; simp_all) h
    · exact Or.inr (Or.inr ⟨c.symm, d⟩)
  · exact Or.inr (Or.inl c)
theorem putNew_sorted {x : Ev} {l : List Ev} (h : l.Pairwise before) (ha : ∀ y ∈ l, y.add = x.add) : (putNew x l).Pairwise before := by
  unfold putNew
  split
  · exact h
  · rename_i hx
    exact putR_sorted (lt := before) before_trans h (fun y hy => before_total (ha y hy).symm (fun e => hx (e ▸ hy)))
theorem putNew_mem {x y : Ev} {l : List Ev} (h : y ∈ putNew x l) : y = x ∨ y ∈ l := by
  unfold putNew at h
  split at h
  · exact Or.inr h
  · exact List.mem_cons.1 ((putR_perm before x l).subset h)
theorem putNew_len (x : Ev) (l : List Ev) : (putNew x l).length ≤ l.length + 1 := by
  unfold putNew
  split
  · omega
  · rw [(putR_perm before x l).length_eq]; simp

/-- What History's first loop keeps. -/
structure Times (n top : Int) (l : List Ev) : Prop where
  sorted : l.Pairwise before
  bd : ∀ y ∈ l, 0 ≤ y.t ∧ y.t ≤ top ∧ right y.e n ∧ 0 ≤ y.e.u ∧ y.add = false
theorem Times.nil (n top : Int) : Times n top [] := ⟨List.Pairwise.nil, fun y h => by simp at h⟩
theorem Times.mono {n top top' : Int} {l : List Ev} (h : Times n top l) (ht : top ≤ top') : Times n top' l :=
  ⟨h.sorted, fun y hy => by obtain ⟨a, b, c⟩ := h.bd y hy; exact ⟨a, by omega, c⟩⟩
theorem Times.put {n top : Int} {l : List Ev} (h : Times n top l) {t : Int} {e : Ed} (h0 : 0 ≤ t) (h1 : t ≤ top) (he : right e n ∧ 0 ≤ e.u) : Times n top (putNew ⟨t, e, false⟩ l) :=
  ⟨putNew_sorted h.sorted (fun y hy => (h.bd y hy).2.2.2.2), fun y hy => by
    rcases putNew_mem hy with rfl | hy
    · exact ⟨h0, h1, he.1, he.2, rfl⟩
    · exact h.bd y hy⟩

/-- Each comes, if it isn't there, else it goes. -/
def flag (there : Ed → Bool) : List Ev → List Ev
  | [] => []
  | e :: l => { e with add := !there e.e } :: flag (turn there { e with add := !there e.e }) l
theorem flag_len : ∀ (l : List Ev) (there : Ed → Bool), (flag there l).length = l.length
  | [], _ => rfl
  | e :: l, there => by simp [flag, flag_len l]

theorem evErr_zero {n : Int} {prev : Option Ev} {there : Ed → Bool} {e : Ev} (h0 : 0 ≤ e.t ∧ e.t ≤ maxT) (h1 : right e.e n) (h2 : ∀ p, prev = some p → before p e) (h3 : there e.e ≠ e.add) : evErr n prev there e = 0 := by
  unfold evErr
  rw [if_neg (by omega), if_neg (fun h => h h1), if_neg ?_, if_neg h3]
  cases prev with
  | none => simp
  | some p => simpa using h2 p rfl

theorem flag_ok {n : Int} : ∀ (l : List Ev) (prev : Option Ev) (there : Ed → Bool), l.Pairwise before → (∀ y ∈ l, 0 ≤ y.t ∧ y.t ≤ maxT ∧ right y.e n) → (∀ p, prev = some p → ∀ y ∈ l, before p y) → AllOk n prev there (flag there l)
  | [], _, _, _, _, _ => trivial
  | e :: l, prev, there, hs, hb, hp => by
    obtain ⟨h1, h2⟩ := List.pairwise_cons.1 hs
    obtain ⟨b1, b2, b3⟩ := hb e (by simp)
    refine ⟨evErr_zero ⟨b1, b2⟩ b3 (fun p h => hp p h e (by simp)) (by show there e.e ≠ !there e.e; cases there e.e <;> simp), ?_⟩
    exact flag_ok l _ _ h2 (fun y hy => hb y (by simp [hy])) (fun p h y hy => by
      cases h
      exact h1 y hy)

theorem hist_ok {n top : Int} {l : List Ev} (h : Times n top l) (ht : top ≤ maxT) : AllOk n none (fun _ => false) (flag (fun _ => false) l) :=
  flag_ok l none _ h.sorted (fun y hy => by obtain ⟨a, b, c, _⟩ := h.bd y hy; exact ⟨a, by omega, c⟩) (fun p h => by cases h)

/-- A history that may be: its check finds nothing. -/
theorem chkFrom_allOk {n : Int} : ∀ {l : List Ev} {i : Nat} {prev : Option Ev} {there : Ed → Bool}, AllOk n prev there l → chkFrom n i prev there l = (0, 0)
  | [], _, _, _, _ => rfl
  | e :: l, i, prev, there, h => by
    simp only [chkFrom]
    rw [if_pos h.1]
    exact chkFrom_allOk h.2
end Go.Proofs.YtppambkffgmkgaaGreatDoor
end

section
/- Which lives are there at a time, plainly: just the edges that are. Nothing of the program in it. -/
namespace Go.Proofs.YtppambkffgmkgaaGreatDoor
set_option linter.unusedVariables false

def isThere (t : Int) (x : Lf) : Bool := decide (x.fr ≤ t) && (decide (x.to < 0) || decide (t < x.to))
def isOpen (x : Lf) : Bool := decide (x.to = -1)
def closeAll (s : List Ev) (x : Lf) : Lf := if x.to = -1 then { x with to := nextT x.e s } else x

theorem nextT_mem (x : Ed) (l : List Ev) : nextT x l = -1 ∨ ∃ y ∈ l, nextT x l = y.t := by
  induction l with
  | nil => left; rfl
  | cons y l ih =>
    by_cases h : y.e = x
    · right; exact ⟨y, by simp, by simp [nextT, h]⟩
    · have e : nextT x (y :: l) = nextT x l := by simp [nextT, h]
      rw [e]
      rcases ih with c | ⟨z, hz, c⟩
      · exact Or.inl c
      · exact Or.inr ⟨z, by simp [hz], c⟩
theorem nextT_append {x : Ed} {p s : List Ev} (h0 : ∀ y ∈ p, 0 ≤ y.t) : nextT x (p ++ s) = if nextT x p = -1 then nextT x s else nextT x p := by
  induction p with
  | nil => simp [nextT]
  | cons y p ih =>
    by_cases hy : y.e = x
    · have h1 := h0 y (by simp)
      have e1 : nextT x (y :: p ++ s) = y.t := by simp [nextT, hy]
      have e2 : nextT x (y :: p) = y.t := by simp [nextT, hy]
      rw [e1, if_neg (by rw [e2]; omega), e2]
    · have e1 : nextT x (y :: p ++ s) = nextT x (p ++ s) := by simp [nextT, hy]
      have e2 : nextT x (y :: p) = nextT x p := by simp [nextT, hy]
      rw [e1, ih (fun z hz => h0 z (by simp [hz]))]
      simp only [e2]
theorem raw_append {p s : List Ev} (h0 : ∀ y ∈ p, 0 ≤ y.t) : raw (p ++ s) = (raw p).map (closeAll s) ++ raw s := by
  induction p with
  | nil => simp [raw]
  | cons y p ih =>
    have h1 : ∀ z ∈ p, 0 ≤ z.t := fun z hz => h0 z (by simp [hz])
    simp only [List.cons_append, raw]
    by_cases hy : y.add = true
    · rw [if_pos hy, if_pos hy, ih h1, nextT_append h1]
      simp only [List.map_cons, List.cons_append]
      congr 1
      unfold closeAll
      by_cases hc : nextT y.e p = -1
      · rw [if_pos hc, if_pos hc]
      · rw [if_neg hc, if_neg hc]
    · rw [if_neg hy, if_neg hy, ih h1]
theorem raw_to {p : List Ev} {x : Lf} (h : x ∈ raw p) : x.to = -1 ∨ ∃ y ∈ p, x.to = y.t := by
  induction p with
  | nil => simp [raw] at h
  | cons e p ih =>
    simp only [raw] at h
    have key : x ∈ raw p → x.to = -1 ∨ ∃ y ∈ e :: p, x.to = y.t := fun hx => by
      rcases ih hx with c | ⟨y, hy, c⟩
      · exact Or.inl c
      · exact Or.inr ⟨y, by simp [hy], c⟩
    by_cases ha : e.add = true
    · rw [if_pos ha] at h
      rcases List.mem_cons.1 h with rfl | h
      · rcases nextT_mem e.e p with c | ⟨y, hy, c⟩
        · exact Or.inl c
        · exact Or.inr ⟨y, by simp [hy], c⟩
      · exact key h
    · rw [if_neg ha] at h; exact key h

/-- Those that are there are those that were open. -/
theorem there_filter {p s : List Ev} {t : Int} (h0 : ∀ y ∈ p, 0 ≤ y.t) (hp : ∀ y ∈ p, y.t ≤ t) (hs : ∀ y ∈ s, t < y.t) (hs0 : ∀ y ∈ s, 0 ≤ y.t) :
    (raw (p ++ s)).filter (isThere t) = ((raw p).filter isOpen).map (closeAll s) := by
  rw [raw_append h0, List.filter_append]
  have e2 : (raw s).filter (isThere t) = [] := List.filter_eq_nil_iff.2 (fun x hx => by
    obtain ⟨y, hy, _, k, _⟩ := mem_raw hx
    have := hs y hy
    unfold isThere; simp; omega)
  rw [e2, List.append_nil, List.filter_map]
  congr 1
  refine List.filter_congr (fun x hx => ?_)
  obtain ⟨y, hy, _, k, _⟩ := mem_raw hx
  have hfr := hp y hy
  show isThere t (closeAll s x) = isOpen x
  unfold isOpen closeAll isThere
  by_cases hc : x.to = -1
  · rw [if_pos hc]
    have : nextT x.e s = -1 ∨ t < nextT x.e s := by
      rcases nextT_mem x.e s with c | ⟨z, hz, c⟩
      · exact Or.inl c
      · exact Or.inr (by rw [c]; exact hs z hz)
    simp only [hc, decide_true, Bool.and_eq_true, Bool.or_eq_true, decide_eq_true_eq]
    omega
  · rw [if_neg hc]
    rcases raw_to hx with c | ⟨z, hz, c⟩
    · exact absurd c hc
    · have h1 := hp z hz
      have h2 := h0 z hz
      simp [hc]
      omega

/-- A history that may be: its prefix is open just as it tells. -/
theorem opn_of {n : Int} : ∀ (l p : List Ev) (at' : Ed → Nat), Opn p at' → (∀ y ∈ p, 0 ≤ y.t) → ∀ prev, AllOk n prev (thereOf p) l → ∃ at2, Opn (p ++ l) at2
  | [], p, at', o, _, _, _ => ⟨at', by simpa using o⟩
  | e :: l, p, at', o, h0, prev, h => by
    obtain ⟨h1, h2⟩ := h
    obtain ⟨⟨t0, _⟩, _, _, hne⟩ := evErr_ok h1
    have h0' : ∀ y ∈ p ++ [e], 0 ≤ y.t := fun y hy => by
      rcases List.mem_append.1 hy with hy | hy
      · exact h0 y hy
      · have : y = e := by simpa using hy
        rw [this]; exact t0
    rw [← thereOf_snoc] at h2
    have hcat : p ++ e :: l = (p ++ [e]) ++ l := by simp
    rw [hcat]
    cases ha : e.add with
    | true =>
      have hn : thereOf p e.e = false := by rw [ha] at hne; simpa using hne
      exact opn_of l (p ++ [e]) _ (o.add h0 ha hn).2 h0' _ h2
    | false =>
      have hn : thereOf p e.e = true := by rw [ha] at hne; simpa using hne
      exact opn_of l (p ++ [e]) _ (o.del h0 t0 ha hn).2 h0' _ h2

theorem now_of {n : Int} : ∀ (l p : List Ev) (now : List Ed), NowOk now (thereOf p) → ∀ prev, AllOk n prev (thereOf p) l → ∃ now2, NowOk now2 (thereOf (p ++ l))
  | [], p, now, o, _, _ => ⟨now, by simpa using o⟩
  | e :: l, p, now, o, prev, h => by
    obtain ⟨h1, h2⟩ := h
    obtain ⟨_, _, _, hne⟩ := evErr_ok h1
    obtain ⟨now', _, o'⟩ := o.some hne
    rw [← thereOf_snoc] at h2 o'
    have hcat : p ++ e :: l = (p ++ [e]) ++ l := by simp
    rw [hcat]
    exact now_of l (p ++ [e]) now' o' _ h2

/-- As many lives are open as edges are there, and they are theirs. -/
theorem open_now {p : List Ev} {at' : Ed → Nat} (o : Opn p at') {now : List Ed} (h : NowOk now (thereOf p)) : (((raw p).filter isOpen).map Lf.e).Perm now := by
  have huniq : ∀ (i j : Nat) (a b : Lf), (raw p)[i]? = some a → (raw p)[j]? = some b → a.to = -1 → b.to = -1 → a.e = b.e → i = j := fun i j a b hi hj ha hb he => by
    cases ht : thereOf p a.e with
    | true =>
      obtain ⟨_, _, h2⟩ := o.yes a.e ht
      exact (h2 i a hi rfl ha).trans (h2 j b hj he.symm hb).symm
    | false => exact absurd ha (o.no a.e ht a (List.mem_of_getElem? hi) rfl)
  have hp : (raw p).Pairwise (fun a b => a.to = -1 → b.to = -1 → a.e ≠ b.e) := List.pairwise_iff_getElem.2 (fun i j hi hj hij ha hb he => by
    have := huniq i j _ _ (List.getElem?_eq_getElem hi) (List.getElem?_eq_getElem hj) ha hb he
    omega)
  have hf : ((raw p).filter isOpen).Pairwise (fun a b => a.e ≠ b.e) :=
    (hp.filter isOpen).imp_of_mem (fun {a b} ha hb h => h (by have := (List.mem_filter.1 ha).2; simpa [isOpen] using this) (by have := (List.mem_filter.1 hb).2; simpa [isOpen] using this))
  have hnd : (((raw p).filter isOpen).map Lf.e).Nodup := List.pairwise_map.2 hf
  have hnd2 : now.Nodup := h.sorted.imp ne_of_edLt
  refine (List.perm_ext_iff_of_nodup hnd hnd2).2 (fun x => ?_)
  rw [h.mem, List.mem_map]
  constructor
  · rintro ⟨l, hl, rfl⟩
    obtain ⟨h1, h2⟩ := List.mem_filter.1 hl
    have hto : l.to = -1 := by simpa [isOpen] using h2
    cases ht : thereOf p l.e with
    | true => rfl
    | false => exact absurd hto (o.no l.e ht l h1 rfl)
  · intro hx
    obtain ⟨fr, h1, _⟩ := o.yes x hx
    exact ⟨⟨x, fr, -1⟩, List.mem_filter.2 ⟨List.mem_of_getElem? h1, by simp [isOpen]⟩, rfl⟩
end Go.Proofs.YtppambkffgmkgaaGreatDoor
end
