/- Forests, and sequences as lists: what the document's arena answers, plainly. Nothing of the program in it. -/
import Derived.Test.YtlmbkmjjiebpbaaTr
namespace Go.Proofs.Ytlmbkmjjiebpbaa
set_option linter.unusedVariables false

/-- Where a number stands in a list. -/
def pos : List Nat → Int → Option Nat
  | [], _ => none
  | y :: l, x => if (y : Int) = x then some 0 else (pos l x).map (· + 1)
/-- Which list, where in it. -/
def fnd : List (List Nat) → Int → Option (Nat × Nat)
  | [], _ => none
  | l :: L, x => match pos l x with
    | some k => some (0, k)
    | none => (fnd L x).map fun p => (p.1 + 1, p.2)

def lst (L : List (List Nat)) (x : Int) : List Nat := match fnd L x with
  | some p => L.getD p.1 []
  | none => []
def idx (L : List (List Nat)) (x : Int) : Int := match fnd L x with
  | some p => (p.2 : Int)
  | none => -1
def same (L : List (List Nat)) (x y : Int) : Bool := match fnd L x, fnd L y with
  | some p, some q => decide (p.1 = q.1)
  | _, _ => false
def atL (l : List Nat) (i : Int) : Int := if 0 ≤ i ∧ i < l.length then (l.getD i.toNat 0 : Nat) else -1
def jn (L : List (List Nat)) (x y : Int) : Bool × List (List Nat) := match fnd L x, fnd L y with
  | some p, some q => if p.1 = q.1 then (false, L) else (true, (L.set p.1 (L.getD p.1 [] ++ L.getD q.1 [])).eraseIdx q.1)
  | _, _ => (false, L)
def ct (L : List (List Nat)) (x : Int) : Bool × List (List Nat) := match fnd L x with
  | some p => if p.2 < 1 then (false, L) else (true, L.set p.1 ((L.getD p.1 []).take p.2) ++ [(L.getD p.1 []).drop p.2])
  | none => (false, L)

theorem pos_none {l : List Nat} {x : Int} (h : ∀ y ∈ l, (y : Int) ≠ x) : pos l x = none := by
  induction l with
  | nil => rfl
  | cons y l ih => simp only [pos]; rw [if_neg (h y (by simp)), ih (fun z hz => h z (by simp [hz]))]; rfl
theorem pos_at {l : List Nat} {x : Int} {k : Nat} {y : Nat} (hk : l[k]? = some y) (hy : (y : Int) = x) (hb : ∀ j, j < k → ∀ z, l[j]? = some z → (z : Int) ≠ x) : pos l x = some k := by
  induction l generalizing k with
  | nil => simp at hk
  | cons a l ih =>
    cases k with
    | zero => simp at hk; subst hk; simp [pos, hy]
    | succ k =>
      simp only [pos]
      rw [if_neg (hb 0 (by omega) a (by simp)), ih (k := k) (by simpa using hk) (fun j hj z hz => hb (j + 1) (by omega) z (by simpa using hz))]
      rfl
theorem pos_some {l : List Nat} {x : Int} {k : Nat} (h : pos l x = some k) : ∃ y : Nat, l[k]? = some y ∧ (y : Int) = x := by
  induction l generalizing k with
  | nil => simp [pos] at h
  | cons a l ih =>
    simp only [pos] at h
    by_cases e : (a : Int) = x
    · rw [if_pos e] at h; cases h; exact ⟨a, by simp, e⟩
    · rw [if_neg e] at h
      cases hp : pos l x with
      | none => rw [hp] at h; simp at h
      | some j =>
        rw [hp] at h; simp at h; subst h
        obtain ⟨y, h1, h2⟩ := ih hp
        exact ⟨y, by simpa using h1, h2⟩

theorem fnd_none {L : List (List Nat)} {x : Int} (h : ∀ (i : Nat) (l : List Nat), L[i]? = some l → ∀ y ∈ l, (y : Int) ≠ x) : fnd L x = none := by
  induction L with
  | nil => rfl
  | cons l L ih =>
    simp only [fnd]
    rw [pos_none (h 0 l (by simp)), ih (fun i m hm => h (i + 1) m (by simpa using hm))]
    rfl
theorem fnd_at {L : List (List Nat)} {x : Int} {i k y : Nat} {l : List Nat} (hi : L[i]? = some l) (hk : l[k]? = some y) (hy : (y : Int) = x) (hb : ∀ j, j < k → ∀ z, l[j]? = some z → (z : Int) ≠ x)
    (ha : ∀ j, j < i → ∀ m, L[j]? = some m → ∀ z ∈ m, (z : Int) ≠ x) : fnd L x = some (i, k) := by
  induction L generalizing i with
  | nil => simp at hi
  | cons a L ih =>
    cases i with
    | zero => simp at hi; subst hi; simp only [fnd]; rw [pos_at hk hy hb]
    | succ i =>
      simp only [fnd]
      rw [pos_none (ha 0 (by omega) a (by simp)), ih (i := i) (by simpa using hi) (fun j hj m hm => ha (j + 1) (by omega) m (by simpa using hm))]
      rfl
theorem fnd_some {L : List (List Nat)} {x : Int} {i k : Nat} (h : fnd L x = some (i, k)) : ∃ (l : List Nat) (y : Nat), L[i]? = some l ∧ l[k]? = some y ∧ (y : Int) = x := by
  induction L generalizing i with
  | nil => simp [fnd] at h
  | cons a L ih =>
    simp only [fnd] at h
    cases hp : pos a x with
    | some j => rw [hp] at h; simp at h; obtain ⟨rfl, rfl⟩ := h; obtain ⟨y, h1, h2⟩ := pos_some hp; exact ⟨a, y, by simp, h1, h2⟩
    | none =>
      rw [hp] at h
      cases hf : fnd L x with
      | none => rw [hf] at h; simp at h
      | some p =>
        rw [hf] at h; simp at h
        obtain ⟨rfl, rfl⟩ := h
        obtain ⟨l, y, h1, h2, h3⟩ := ih (i := p.1) (by rw [hf])
        exact ⟨l, y, by simpa using h1, h2, h3⟩

/-- A tree of the arena, whole: its root's 'up' is none. -/
structure Whole (f : Nat → Nd) (n : Nat) (t : Tr) : Prop where
  tree : Tree f t
  nd : t.ids.Nodup
  lt : ∀ x ∈ t.ids, x < n
  up : ∀ x : Nat, t.root = x → (f x).up = -1

structure Forest (f : Nat → Nd) (n : Nat) (ts : List Tr) : Prop where
  whole : ∀ (i : Nat) (t : Tr), ts[i]? = some t → Whole f n t
  apart : ∀ (i j : Nat) (a b : Tr), i ≠ j → ts[i]? = some a → ts[j]? = some b → ∀ x ∈ a.ids, x ∉ b.ids
  all : ∀ x, x < n → ∃ (i : Nat) (t : Tr), ts[i]? = some t ∧ x ∈ t.ids

/-- The sequences. -/
def seqs (ts : List Tr) : List (List Nat) := ts.map Tr.ids

theorem seqs_at {ts : List Tr} {i : Nat} {l : List Nat} (h : (seqs ts)[i]? = some l) : ∃ t, ts[i]? = some t ∧ t.ids = l := by
  unfold seqs at h
  rw [List.getElem?_map] at h
  cases ht : ts[i]? with
  | none => rw [ht] at h; simp at h
  | some t => rw [ht] at h; exact ⟨t, rfl, by simpa using h⟩
theorem seqs_of {ts : List Tr} {i : Nat} {t : Tr} (h : ts[i]? = some t) : (seqs ts)[i]? = some t.ids := by
  unfold seqs; rw [List.getElem?_map, h]; rfl

theorem Forest.out {f : Nat → Nd} {n : Nat} {ts : List Tr} (h : Forest f n ts) {x : Int} (hx : ¬ (0 ≤ x ∧ x < n)) : fnd (seqs ts) x = none := by
  refine fnd_none (fun i l hl y hy e => ?_)
  obtain ⟨t, ht, rfl⟩ := seqs_at hl
  have := (h.whole i t ht).lt y hy
  omega
theorem Forest.inn {f : Nat → Nd} {n : Nat} {ts : List Tr} (h : Forest f n ts) {i x : Nat} {t : Tr} (ht : ts[i]? = some t) (hx : x ∈ t.ids) : fnd (seqs ts) x = some (i, t.ids.idxOf x) := by
  have hlt : t.ids.idxOf x < t.ids.length := List.idxOf_lt_length_iff.2 hx
  have hat : t.ids[t.ids.idxOf x]? = some x := by rw [List.getElem?_eq_getElem hlt]; simp
  refine fnd_at (seqs_of ht) hat rfl (fun j hj z hz e => ?_) (fun j hj m hm z hz e => ?_)
  · have hzx : z = x := by omega
    subst hzx
    have hjl : j < t.ids.length := by omega
    have : t.ids.idxOf z ≤ j := by
      rw [List.getElem?_eq_getElem hjl] at hz
      have e1 : t.ids[j] = z := by simpa using hz
      have e2 : t.ids[t.ids.idxOf z]'hlt = z := by simp
      exact Nat.le_of_eq ((List.getElem_inj (h.whole i t ht).nd (h₀ := hlt) (h₁ := hjl)).1 (e2.trans e1.symm))
    omega
  · have hzx : z = x := by omega
    subst hzx
    obtain ⟨a, ha, rfl⟩ := seqs_at hm
    exact h.apart j i a t (by omega) ha ht z hz hx
theorem Forest.one {f : Nat → Nd} {n : Nat} {ts : List Tr} (h : Forest f n ts) {x : Int} (h0 : 0 ≤ x) (h1 : x < n) : ∃ (y i : Nat) (t : Tr), x = y ∧ ts[i]? = some t ∧ y ∈ t.ids ∧ fnd (seqs ts) x = some (i, t.ids.idxOf y) ∧ y < n := by
  obtain ⟨y, rfl⟩ : ∃ y : Nat, x = y := ⟨x.toNat, by omega⟩
  obtain ⟨i, t, ht, hy⟩ := h.all y (by omega)
  exact ⟨y, i, t, rfl, ht, hy, h.inn ht hy, by omega⟩

theorem seqs_get {ts : List Tr} {i : Nat} {t : Tr} (h : ts[i]? = some t) : (seqs ts).getD i [] = t.ids := by
  rw [List.getD_eq_getElem?_getD, seqs_of h]; rfl

/-- Two roots are one just if the trees are. -/
theorem Forest.roots {f : Nat → Nd} {n : Nat} {ts : List Tr} (h : Forest f n ts) {i j : Nat} {a b : Tr} (ha : ts[i]? = some a) (hb : ts[j]? = some b) (hn : a.ids ≠ []) : a.root = b.root ↔ i = j := by
  constructor
  · intro e
    by_cases hij : i = j
    · exact hij
    · cases a with
      | leaf => exact absurd rfl hn
      | node l x r =>
        cases b with
        | leaf => simp only [Tr.root] at e; omega
        | node l2 y r2 =>
          simp only [Tr.root] at e
          have : x = y := by omega
          exact absurd (show x ∈ (Tr.node l2 y r2).ids by simp [Tr.ids, this]) (h.apart i j _ _ hij ha hb x (by simp [Tr.ids]))
  · rintro rfl
    rw [ha] at hb
    cases hb
    rfl

theorem Whole.keep {f f' : Nat → Nd} {n : Nat} {t : Tr} (h : Whole f n t) (he : ∀ y ∈ t.ids, f' y = f y) : Whole f' n t := by
  refine ⟨h.tree.same he h.nd, h.nd, h.lt, fun x hx => ?_⟩
  have hm : x ∈ t.ids := by
    cases t with
    | leaf => simp only [Tr.root] at hx; omega
    | node l y r => simp only [Tr.root] at hx; have : y = x := by omega
                    simp [Tr.ids, this]
  rw [he x hm]; exact h.up x hx

theorem Whole.made {f : Nat → Nd} {n : Nat} {t : Tr} (h : Tree f t) (hd : t.ids.Nodup) (hl : ∀ x ∈ t.ids, x < n) : Whole (setUp f t.root (-1)) n t := by
  refine ⟨h.congr (fun y _ => ?_) (fun y _ hne => ?_) hd, hd, hl, fun x hx => ?_⟩
  · obtain ⟨a, b, c, _⟩ := setUp_in f t.root (-1) y
    exact ⟨a, b, c⟩
  · rw [setUp_up, if_neg hne]
  · rw [setUp_up, if_pos hx.symm]

theorem setUp_other {f : Nat → Nd} {z v : Int} {y : Nat} (h : (y : Int) ≠ z) : setUp f z v y = f y := by unfold setUp; rw [if_neg h]

theorem root_in {t : Tr} {y : Nat} (h : (y : Int) = t.root) : y ∈ t.ids := by
  cases t with
  | leaf => simp only [Tr.root] at h; omega
  | node l x r => simp only [Tr.root] at h; have : y = x := by omega
                  simp [Tr.ids, this]

theorem map_eraseIdx {α β : Type} (f : α → β) : ∀ (l : List α) (k : Nat), (l.eraseIdx k).map f = (l.map f).eraseIdx k
  | [], _ => rfl
  | a :: l, 0 => rfl
  | a :: l, k + 1 => by simp [List.eraseIdx, map_eraseIdx f l k]

theorem Forest.join {f f' : Nat → Nd} {n : Nat} {ts : List Tr} (h : Forest f n ts) {i k : Nat} {A B C : Tr} (hi : ts[i]? = some A) (hk : ts[k]? = some B) (hik : i ≠ k) (hj : Joined f f' A B C) :
    Forest (setUp f' C.root (-1)) n ((ts.set i C).eraseIdx k) ∧ seqs ((ts.set i C).eraseIdx k) = ((seqs ts).set i (A.ids ++ B.ids)).eraseIdx k := by
  have hAB : ∀ x ∈ A.ids, x ∉ B.ids := h.apart i k A B hik hi hk
  have hnd : C.ids.Nodup := by
    rw [hj.ids]
    exact List.nodup_append.2 ⟨(h.whole i A hi).nd, (h.whole k B hk).nd, fun x hx y hy e => hAB x hx (e ▸ hy)⟩
  have hlt : ∀ x ∈ C.ids, x < n := by
    rw [hj.ids]
    intro x hx
    rcases List.mem_append.1 hx with hx | hx
    · exact (h.whole i A hi).lt x hx
    · exact (h.whole k B hk).lt x hx
  have hil : i < ts.length := (List.getElem?_eq_some_iff.1 hi).1
  have hkl : k < ts.length := (List.getElem?_eq_some_iff.1 hk).1
  -- what stands at a place
  have key : ∀ (j : Nat) (t : Tr), ((ts.set i C).eraseIdx k)[j]? = some t → ∃ m, m ≠ k ∧ (m = if j < k then j else j + 1) ∧ ((m = i ∧ t = C) ∨ (m ≠ i ∧ ts[m]? = some t)) := by
    intro j t ht
    rw [List.getElem?_eraseIdx] at ht
    refine ⟨if j < k then j else j + 1, by split <;> omega, rfl, ?_⟩
    have ht2 : (ts.set i C)[if j < k then j else j + 1]? = some t := by
      split at ht <;> rename_i hc
      · rw [if_pos hc]; exact ht
      · rw [if_neg hc]; exact ht
    generalize (if j < k then j else j + 1) = m at ht2
    rw [List.getElem?_set] at ht2
    by_cases e : i = m
    · subst e; rw [if_pos rfl, if_pos hil] at ht2; left; exact ⟨rfl, by simpa using ht2.symm⟩
    · rw [if_neg e] at ht2; right; exact ⟨fun h => e h.symm, ht2⟩
  have hout : ∀ m t, m ≠ i → m ≠ k → ts[m]? = some t → (∀ y ∈ t.ids, setUp f' C.root (-1) y = f y) ∧ ∀ y ∈ t.ids, y ∉ C.ids := by
    intro m t hm1 hm2 ht
    have hno : ∀ y ∈ t.ids, y ∉ C.ids := fun y hy hc => by
      rw [hj.ids] at hc
      rcases List.mem_append.1 hc with hc | hc
      · exact h.apart m i t A hm1 ht hi y hy hc
      · exact h.apart m k t B hm2 ht hk y hy hc
    refine ⟨fun y hy => ?_, hno⟩
    rw [setUp_other (fun e => hno y hy (root_in e))]
    exact hj.kept.out y (by rw [← hj.ids]; exact hno y hy)
  refine ⟨⟨?_, ?_, ?_⟩, ?_⟩
  · intro j t ht
    obtain ⟨m, hm, _, ⟨_, rfl⟩ | ⟨hmi, hts⟩⟩ := key j t ht
    · exact Whole.made hj.tree hnd hlt
    · exact (h.whole m t hts).keep (hout m t hmi hm hts).1
  · intro j1 j2 a b hne ha hb x hxa hxb
    obtain ⟨m1, hm1, e1, c1⟩ := key j1 a ha
    obtain ⟨m2, hm2, e2, c2⟩ := key j2 b hb
    have hmm : m1 ≠ m2 := by
      rw [e1, e2]; split <;> split <;> omega
    rcases c1 with ⟨rfl, rfl⟩ | ⟨n1, t1⟩
    · rcases c2 with ⟨e, _⟩ | ⟨n2, t2⟩
      · exact hmm e.symm
      · exact (hout m2 b n2 hm2 t2).2 x hxb hxa
    · rcases c2 with ⟨e, rfl⟩ | ⟨n2, t2⟩
      · exact (hout m1 a n1 hm1 t1).2 x hxa hxb
      · exact h.apart m1 m2 a b hmm t1 t2 x hxa hxb
  · intro x hx
    obtain ⟨m, t, ht, hxt⟩ := h.all x hx
    have back : ∀ m t, m ≠ k → (ts.set i C)[m]? = some t → ((ts.set i C).eraseIdx k)[if m < k then m else m - 1]? = some t := by
      intro m t hm ht
      rw [List.getElem?_eraseIdx]
      by_cases hc : m < k
      · rw [if_pos hc, if_pos hc]; exact ht
      · rw [if_neg hc, if_neg (by omega), show m - 1 + 1 = m by omega]; exact ht
    by_cases hmi : m = i ∨ m = k
    · refine ⟨_, C, back i C hik (by rw [List.getElem?_set, if_pos rfl, if_pos hil]), ?_⟩
      rw [hj.ids]
      rcases hmi with rfl | rfl
      · rw [hi] at ht; cases ht; simp [hxt]
      · rw [hk] at ht; cases ht; simp [hxt]
    · refine ⟨_, t, back m t (fun e => hmi (Or.inr e)) (by rw [List.getElem?_set, if_neg (fun e => hmi (Or.inl e.symm))]; exact ht), hxt⟩
  · unfold seqs
    rw [map_eraseIdx, List.map_set, hj.ids]

theorem Forest.cut {f f' : Nat → Nd} {n : Nat} {ts : List Tr} (h : Forest f n ts) {i m : Nat} {T A B : Tr} (hi : ts[i]? = some T) (hp : Parted f f' T A B m) :
    Forest (setUp (setUp f' A.root (-1)) B.root (-1)) n (ts.set i A ++ [B]) ∧ seqs (ts.set i A ++ [B]) = (seqs ts).set i (T.ids.take m) ++ [T.ids.drop m] := by
  have hT := h.whole i T hi
  have hil : i < ts.length := (List.getElem?_eq_some_iff.1 hi).1
  have hsA : ∀ y ∈ A.ids, y ∈ T.ids := fun y hy => by rw [hp.lids] at hy; exact List.mem_of_mem_take hy
  have hsB : ∀ y ∈ B.ids, y ∈ T.ids := fun y hy => by rw [hp.rids] at hy; exact List.mem_of_mem_drop hy
  have hAB : ∀ y ∈ A.ids, y ∉ B.ids := fun y hy hb => by
    rw [hp.lids] at hy; rw [hp.rids] at hb
    have := List.take_append_drop m T.ids ▸ hT.nd
    exact (List.nodup_append.1 this).2.2 y hy y hb rfl
  have hnA : A.ids.Nodup := by rw [hp.lids]; exact hT.nd.sublist (List.take_sublist _ _)
  have hnB : B.ids.Nodup := by rw [hp.rids]; exact hT.nd.sublist (List.drop_sublist _ _)
  have wA : Whole (setUp (setUp f' A.root (-1)) B.root (-1)) n A := (Whole.made hp.left hnA (fun x hx => hT.lt x (hsA x hx))).keep (fun y hy => setUp_other (fun e => hAB y hy (root_in e)))
  have tB : Tree (setUp f' A.root (-1)) B := hp.right.same (fun y hy => setUp_other (fun e => hAB y (root_in e) hy)) hnB
  have wB : Whole (setUp (setUp f' A.root (-1)) B.root (-1)) n B := Whole.made tB hnB (fun x hx => hT.lt x (hsB x hx))
  have key : ∀ (j : Nat) (t : Tr), (ts.set i A ++ [B])[j]? = some t → (j = i ∧ t = A) ∨ (j ≠ i ∧ j < ts.length ∧ ts[j]? = some t) ∨ (j = ts.length ∧ t = B) := by
    intro j t ht
    by_cases hj : j < ts.length
    · rw [List.getElem?_append_left (by simpa using hj), List.getElem?_set] at ht
      by_cases e : i = j
      · subst e; rw [if_pos rfl, if_pos hj] at ht; left; exact ⟨rfl, by simpa using ht.symm⟩
      · rw [if_neg e] at ht; right; left; exact ⟨fun h => e h.symm, hj, ht⟩
    · rw [List.getElem?_append_right (by simpa using hj)] at ht
      have : j - (ts.set i A).length = 0 := by
        rcases Nat.eq_zero_or_pos (j - (ts.set i A).length) with e | e
        · exact e
        · rw [List.getElem?_eq_none (by simp at e ⊢; omega)] at ht; cases ht
      rw [this] at ht
      right; right
      simp at this ht
      exact ⟨by omega, ht.symm⟩
  have hout : ∀ j t, j ≠ i → ts[j]? = some t → (∀ y ∈ t.ids, setUp (setUp f' A.root (-1)) B.root (-1) y = f y) ∧ ∀ y ∈ t.ids, y ∉ T.ids := by
    intro j t hj ht
    have hno : ∀ y ∈ t.ids, y ∉ T.ids := fun y hy => h.apart j i t T hj ht hi y hy
    refine ⟨fun y hy => ?_, hno⟩
    rw [setUp_other (fun e => hno y hy (hsB y (root_in e))), setUp_other (fun e => hno y hy (hsA y (root_in e)))]
    exact hp.kept.out y (hno y hy)
  refine ⟨⟨?_, ?_, ?_⟩, ?_⟩
  · intro j t ht
    rcases key j t ht with ⟨_, rfl⟩ | ⟨hj, _, hts⟩ | ⟨_, rfl⟩
    · exact wA
    · exact (h.whole j t hts).keep (hout j t hj hts).1
    · exact wB
  · intro j1 j2 a b hne ha hb x hxa hxb
    rcases key j1 a ha with ⟨e1, rfl⟩ | ⟨n1, _, t1⟩ | ⟨e1, rfl⟩ <;> rcases key j2 b hb with ⟨e2, rfl⟩ | ⟨n2, _, t2⟩ | ⟨e2, rfl⟩
    · omega
    · exact (hout j2 b n2 t2).2 x hxb (hsA x hxa)
    · exact hAB x hxa hxb
    · exact (hout j1 a n1 t1).2 x hxa (hsA x hxb)
    · exact h.apart j1 j2 a b hne t1 t2 x hxa hxb
    · exact (hout j1 a n1 t1).2 x hxa (hsB x hxb)
    · exact hAB x hxb hxa
    · exact (hout j2 b n2 t2).2 x hxb (hsB x hxa)
    · omega
  · intro x hx
    obtain ⟨j, t, ht, hxt⟩ := h.all x hx
    by_cases hj : j = i
    · subst hj
      rw [hi] at ht; cases ht
      rw [← List.take_append_drop m T.ids, ← hp.lids, ← hp.rids] at hxt
      rcases List.mem_append.1 hxt with hx | hx
      · exact ⟨j, A, by rw [List.getElem?_append_left (by simpa using hil), List.getElem?_set, if_pos rfl, if_pos hil], hx⟩
      · exact ⟨ts.length, B, by rw [List.getElem?_append_right (by simp)]; simp, hx⟩
    · have hjl : j < ts.length := (List.getElem?_eq_some_iff.1 ht).1
      exact ⟨j, t, by rw [List.getElem?_append_left (by simpa using hjl), List.getElem?_set, if_neg (fun e => hj e.symm)]; exact ht, hxt⟩
  · unfold seqs
    rw [List.map_append, List.map_set, hp.lids]
    simp [hp.rids]

theorem Forest.node {f f' : Nat → Nd} {n : Nat} {ts : List Tr} (h : Forest f n ts) (ho : ∀ y, y < n → f' y = f y) (hl : (f' n).left = -1) (hr : (f' n).right = -1) (hs : (f' n).size = 1) (hu : (f' n).up = -1) :
    Forest f' (n + 1) (ts ++ [.node .leaf n .leaf]) ∧ seqs (ts ++ [.node .leaf n .leaf]) = seqs ts ++ [[n]] := by
  have key : ∀ (j : Nat) (t : Tr), (ts ++ [Tr.node .leaf n .leaf])[j]? = some t → (j < ts.length ∧ ts[j]? = some t) ∨ (j = ts.length ∧ t = .node .leaf n .leaf) := by
    intro j t ht
    by_cases hj : j < ts.length
    · rw [List.getElem?_append_left hj] at ht; exact Or.inl ⟨hj, ht⟩
    · rw [List.getElem?_append_right (by omega)] at ht
      have : j - ts.length = 0 := by
        rcases Nat.eq_zero_or_pos (j - ts.length) with e | e
        · exact e
        · rw [List.getElem?_eq_none (by simp at e ⊢; omega)] at ht; cases ht
      rw [this] at ht
      simp at ht
      exact Or.inr ⟨by omega, ht.symm⟩
  refine ⟨⟨?_, ?_, ?_⟩, ?_⟩
  · intro j t ht
    rcases key j t ht with ⟨_, hts⟩ | ⟨_, rfl⟩
    · have hw := h.whole j t hts
      have := hw.keep (f' := f') (fun y hy => ho y (hw.lt y hy))
      exact ⟨this.tree, this.nd, fun x hx => by have := hw.lt x hx; omega, this.up⟩
    · refine ⟨⟨hl, hr, by rw [hs]; simp [Tr.ids], trivial, trivial, trivial, trivial⟩, by simp [Tr.ids], by simp [Tr.ids], fun x hx => ?_⟩
      simp only [Tr.root] at hx
      have : n = x := by omega
      rw [← this]; exact hu
  · intro j1 j2 a b hne ha hb x hxa hxb
    rcases key j1 a ha with ⟨l1, t1⟩ | ⟨e1, rfl⟩ <;> rcases key j2 b hb with ⟨l2, t2⟩ | ⟨e2, rfl⟩
    · exact h.apart j1 j2 a b hne t1 t2 x hxa hxb
    · simp [Tr.ids] at hxb; have := (h.whole j1 a t1).lt x hxa; omega
    · simp [Tr.ids] at hxa; have := (h.whole j2 b t2).lt x hxb; omega
    · omega
  · intro x hx
    by_cases e : x = n
    · exact ⟨ts.length, .node .leaf n .leaf, by simp, by simp [Tr.ids, e]⟩
    · obtain ⟨j, t, ht, hxt⟩ := h.all x (by omega)
      have hjl : j < ts.length := (List.getElem?_eq_some_iff.1 ht).1
      exact ⟨j, t, by rw [List.getElem?_append_left hjl]; exact ht, hxt⟩
  · simp [seqs, Tr.ids]

theorem Forest.empty (f : Nat → Nd) : Forest f 0 [] := ⟨fun i t h => by simp at h, fun i j a b _ h => by simp at h, fun x hx => by omega⟩
end Go.Proofs.Ytlmbkmjjiebpbaa
