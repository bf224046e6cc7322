/- The lives of a history that may be are lives that may be; how many there are. Nothing of the program in it. -/
import Derived.Test.YthncgmmfnghliaaLfQ
import Derived.Test.YthncgmmfnghliaaLfH
namespace Go.Proofs.Ythncgmmfnghliaa
set_option linter.unusedVariables false

theorem before_same {a b : Ev} (h : before a b) (he : a.e = b.e) : a.t < b.t := by
  rcases h with h | ⟨_, h⟩
  · exact h
  · rw [he] at h; exact absurd h (edLt_irrefl _)

/-- While an edge is there it goes ahead of its next coming. -/
theorem next_lt {n : Int} {x : Ed} : ∀ {l : List Ev} {prev : Option Ev} {there : Ed → Bool}, AllOk n prev there l → there x = true → ∀ y ∈ l, y.e = x → y.add = true → 0 ≤ nextT x l ∧ nextT x l < y.t
  | [], _, _, _, _, y, hy, _, _ => by simp at hy
  | e :: l, prev, there, h, hx, y, hy, he, ha => by
    obtain ⟨h1, h2⟩ := h
    obtain ⟨⟨t0, _⟩, _, _, hne⟩ := evErr_ok h1
    by_cases hex : e.e = x
    · have hnx : nextT x (e :: l) = e.t := by simp [nextT, hex]
      have haf : e.add = false := by rw [hex, hx] at hne; cases hq : e.add <;> simp_all
      rcases List.mem_cons.1 hy with rfl | hy
      · rw [haf] at ha; cases ha
      · have := before_same ((allOk_before h2).2 e rfl y hy) (hex.trans he.symm)
        rw [hnx]; exact ⟨t0, this⟩
    · have hnx : nextT x (e :: l) = nextT x l := by simp [nextT, hex]
      rcases List.mem_cons.1 hy with rfl | hy
      · exact absurd he hex
      · rw [hnx]
        refine next_lt h2 ?_ y hy he ha
        show (if x = e.e then e.add else there x) = true
        rw [if_neg (fun c => hex c.symm)]; exact hx

/-- Two lives of an edge, the one that came first ahead. -/
def apart (a b : Lf) : Prop := a.e = b.e → 0 ≤ a.to ∧ a.to < b.fr ∧ a.fr < b.fr
theorem raw_apart {n : Int} : ∀ {l : List Ev} {prev : Option Ev} {there : Ed → Bool}, AllOk n prev there l → (raw l).Pairwise apart
  | [], _, _, _ => by simp [raw]
  | e :: l, prev, there, h => by
    obtain ⟨h1, h2⟩ := h
    have ih := raw_apart h2
    simp only [raw]
    by_cases ha : e.add = true
    · rw [if_pos ha]
      refine List.pairwise_cons.2 ⟨fun b hb he => ?_, ih⟩
      obtain ⟨y, hy, k1, k2, k3⟩ := mem_raw hb
      have hey : y.e = e.e := k1.trans he.symm
      have hn := next_lt h2 (x := e.e) (by show (if e.e = e.e then e.add else there e.e) = true; rw [if_pos rfl]; exact ha) y hy hey k3
      have hb2 := before_same ((allOk_before h2).2 e rfl y hy) hey.symm
      rw [k2] at hn hb2
      exact ⟨hn.1, hn.2, hb2⟩
    · rw [if_neg ha]; exact ih

/-- What each life is. -/
def good (n : Int) (x : Lf) : Prop := 0 ≤ x.fr ∧ x.fr ≤ maxT ∧ x.to ≤ maxT ∧ right x.e n ∧ (0 ≤ x.to → x.fr < x.to)
theorem next_good {n : Int} {x : Ed} : ∀ {l : List Ev} {prev : Option Ev} {there : Ed → Bool}, AllOk n prev there l → nextT x l ≤ maxT ∧ (0 ≤ nextT x l → ∃ y ∈ l, y.e = x ∧ y.t = nextT x l)
  | [], _, _, _ => by simp [nextT, maxT]
  | e :: l, prev, there, h => by
    obtain ⟨h1, h2⟩ := h
    obtain ⟨⟨t0, t1⟩, _, _, _⟩ := evErr_ok h1
    by_cases hex : e.e = x
    · have hnx : nextT x (e :: l) = e.t := by simp [nextT, hex]
      rw [hnx]
      exact ⟨t1, fun _ => ⟨e, by simp, hex, rfl⟩⟩
    · have hnx : nextT x (e :: l) = nextT x l := by simp [nextT, hex]
      rw [hnx]
      obtain ⟨k1, k2⟩ := next_good (x := x) h2
      refine ⟨k1, fun h0 => ?_⟩
      obtain ⟨y, hy, k⟩ := k2 h0
      exact ⟨y, by simp [hy], k⟩
theorem raw_good {n : Int} : ∀ {l : List Ev} {prev : Option Ev} {there : Ed → Bool}, AllOk n prev there l → ∀ x ∈ raw l, good n x
  | [], _, _, _, x, hx => by simp [raw] at hx
  | e :: l, prev, there, h, x, hx => by
    obtain ⟨h1, h2⟩ := h
    obtain ⟨⟨t0, t1⟩, hr, _, _⟩ := evErr_ok h1
    simp only [raw] at hx
    by_cases ha : e.add = true
    · rw [if_pos ha] at hx
      rcases List.mem_cons.1 hx with rfl | hx
      · obtain ⟨k1, k2⟩ := next_good (x := e.e) h2
        refine ⟨t0, t1, k1, hr, fun h0 => ?_⟩
        obtain ⟨y, hy, e1, e2⟩ := k2 h0
        have := before_same ((allOk_before h2).2 e rfl y hy) e1.symm
        show e.t < nextT e.e l
        rw [← e2]; exact this
      · exact raw_good h2 x hx
    · rw [if_neg ha] at hx; exact raw_good h2 x hx

theorem lchk_pair {n : Int} : ∀ {X : List Lf} {prev : Option Lf} {i : Nat}, X.Pairwise follows → (∀ x ∈ X, good n x) → (∀ p, prev = some p → ∀ x ∈ X, follows p x) → lchkFrom n i prev X = (0, 0)
  | [], _, _, _, _, _ => rfl
  | x :: X, prev, i, hp, hg, hf => by
    obtain ⟨h1, h2⟩ := List.pairwise_cons.1 hp
    obtain ⟨g1, g2, g3, g4, g5⟩ := hg x (by simp)
    have h0 : lfErr n prev x = 0 := by
      unfold lfErr
      rw [if_neg (by omega), if_neg (fun c => c g4), if_neg]
      rintro (⟨c1, c2⟩ | c)
      · have := g5 c1; omega
      · cases prev with
        | none => simp at c
        | some p => have := hf p rfl x (by simp); simp [this] at c
    simp only [lchkFrom]
    rw [if_pos h0]
    exact lchk_pair h2 (fun y hy => hg y (by simp [hy])) (fun p hp y hy => by cases hp; exact h1 y hy)

theorem putAll_perm {α : Type} {lt : α → α → Prop} [DecidableRel lt] (l : List α) : (putAll lt l).Perm l := by
  have key : ∀ (l o : List α), (l.foldl (fun o x => putR lt x o) o).Perm (o ++ l) := by
    intro l
    induction l with
    | nil => intro o; simp
    | cons a l ih =>
      intro o
      rw [List.foldl_cons]
      refine (ih (putR lt a o)).trans (((putR_perm lt a o).append_right l).trans ?_)
      simpa using (List.perm_middle (a := a) (l₁ := o) (l₂ := l)).symm
  simpa [putAll] using key l []

theorem evs_count (l : List Lf) : (evs l).length = evCount l := by
  induction l with
  | nil => simp [evs, evCount]
  | cons x l ih =>
    have h1 : evs (x :: l) = evsOf x ++ evs l := by unfold evs; rw [List.flatMap_cons]
    rw [h1, List.length_append, ih]
    unfold evCount evsOf
    by_cases h : 0 ≤ x.to
    · simp [h]; omega
    · simp [h]; omega
theorem raw_adds (l : List Ev) : (raw l).length = (l.filter (fun e => e.add)).length := by
  induction l with
  | nil => simp [raw]
  | cons e l ih =>
    simp only [raw]
    cases ha : e.add with
    | true => simp [ha, ih]
    | false => simp [ha, ih]

/-- The lives of a history that may be: they may be; as many as come; as many end as go. -/
theorem lives_ok {n : Int} {l : List Ev} (h : AllOk n none (fun _ => false) l) (hn : n ≤ maxN) (hl : l.length ≤ 100000) :
    (putAll lfLt (raw l)).Pairwise lfLt ∧ lchk n (putAll lfLt (raw l)) = (0, 0) ∧ (putAll lfLt (raw l)).length = (l.filter (fun e => e.add)).length ∧
      ((putAll lfLt (raw l)).filter (fun x => decide (0 ≤ x.to))).length = (l.filter (fun e => !e.add)).length := by
  have hb := (allOk_before h).1
  obtain ⟨k1, k2⟩ := putAll_sorted (lt := lfLt) lfLt_trans (raw_pair hb)
  have hsym : (putAll lfLt (raw l)).Pairwise (fun a b => apart a b ∨ apart b a) := (k2.pairwise_iff (fun h => h.symm)).2 ((raw_apart h).imp (fun h => Or.inl h))
  have hfol : (putAll lfLt (raw l)).Pairwise follows := by
    refine (k1.and hsym).imp (fun {a b} hh => ?_)
    obtain ⟨h1, h2⟩ := hh
    rcases h1 with h1 | ⟨e1, e2⟩
    · exact Or.inl h1
    · rcases h2 with h2 | h2
      · obtain ⟨q1, q2, _⟩ := h2 e1
        exact Or.inr ⟨e1, q1, q2⟩
      · obtain ⟨_, _, q3⟩ := h2 e1.symm
        omega
  have hlen : (putAll lfLt (raw l)).length = (l.filter (fun e => e.add)).length := by rw [k2.length_eq, raw_adds]
  have hadds : (l.filter (fun e => e.add)).length + (l.filter (fun e => !e.add)).length = l.length := by
    clear h hb k1 k2 hsym hfol hlen hl
    induction l with
    | nil => simp
    | cons e l ih => cases ha : e.add <;> simp [ha] <;> omega
  have hcnt : evCount (putAll lfLt (raw l)) = l.length := by
    rw [← evs_count, (evs_perm k2).length_eq, (evs_raw_all h).length_eq]
  refine ⟨k1, ?_, hlen, ?_⟩
  · unfold lchk
    rw [if_neg (by rw [hcnt]; unfold maxN at *; omega)]
    exact lchk_pair hfol (fun x hx => raw_good h x (k2.subset hx)) (fun p hp => by cases hp)
  · unfold evCount at hcnt
    omega

/-- A history of the statements' own may be. -/
theorem chk_flag {n top : Int} {T : List Ev} (h : Times n top T) (ht : top ≤ maxT) (hn : n ≤ maxN) (hl : T.length ≤ 100000) : chk n (flag (fun _ => false) T) = (0, 0) := by
  unfold chk
  rw [if_neg (by rw [flag_len]; unfold maxN at *; omega)]
  exact chkFrom_allOk (hist_ok h ht)
theorem flag_mem : ∀ {T : List Ev} {there : Ed → Bool} {y : Ev}, y ∈ flag there T → ∃ x ∈ T, y.e = x.e ∧ y.t = x.t
  | [], _, y, h => by simp [flag] at h
  | e :: T, there, y, h => by
    simp only [flag] at h
    rcases List.mem_cons.1 h with rfl | h
    · exact ⟨e, by simp, rfl, rfl⟩
    · obtain ⟨x, hx, k⟩ := flag_mem h
      exact ⟨x, by simp [hx], k⟩
end Go.Proofs.Ythncgmmfnghliaa
