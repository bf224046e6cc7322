/- Trees of nodes, plainly: what joins, cuts and looks come to. Nothing of the program in it. -/
import Derived.WalkKit
namespace Go.Proofs.Ytlmbkmjjiebpbaa
set_option linter.unusedVariables false

structure Nd where
  up : Int
  left : Int
  right : Int
  size : Int
  rank : Int

inductive Tr where
  | leaf : Tr
  | node : Tr → Nat → Tr → Tr

namespace Tr
def ids : Tr → List Nat
  | .leaf => []
  | .node l x r => l.ids ++ x :: r.ids
def root : Tr → Int
  | .leaf => -1
  | .node _ x _ => x
/-- How far below the root. -/
def depth : Tr → Nat → Nat
  | .leaf, _ => 0
  | .node l y r, x => if x = y then 0 else if x ∈ l.ids then l.depth x + 1 else r.depth x + 1
/-- How many are ahead of what is under x. -/
def off : Tr → Nat → Nat
  | .leaf, _ => 0
  | .node l y r, x => if x = y then 0 else if x ∈ l.ids then l.off x else l.ids.length + 1 + r.off x

theorem root_mem {t : Tr} (h : t ≠ .leaf) : ∃ x : Nat, t.root = x ∧ x ∈ t.ids := by
  cases t with
  | leaf => exact absurd rfl h
  | node l x r => exact ⟨x, rfl, by simp [ids]⟩
theorem root_neg {t : Tr} : t.root = -1 ↔ t = .leaf := by
  cases t with
  | leaf => simp [root]
  | node l x r => simp [root]
theorem root_ge (t : Tr) : -1 ≤ t.root := by
  cases t with
  | leaf => simp [root]
  | node l x r => simp only [root]; omega
theorem ids_nil {t : Tr} : t.ids = [] ↔ t = .leaf := by cases t <;> simp [ids]
end Tr

def UpOf (f : Nat → Nd) (t : Tr) (p : Nat) : Prop := match t with
  | .leaf => True
  | .node _ y _ => (f y).up = (p : Int)

def Tree (f : Nat → Nd) : Tr → Prop
  | .leaf => True
  | .node l x r => (f x).left = l.root ∧ (f x).right = r.root ∧ (f x).size = ((Tr.node l x r).ids.length : Int) ∧ UpOf f l x ∧ UpOf f r x ∧ Tree f l ∧ Tree f r

/-- How many are under a node: what 'size' answers. -/
def sz (f : Nat → Nd) (z : Int) : Int := if z = -1 then 0 else (f z.toNat).size

theorem Tree.sz {f : Nat → Nd} {t : Tr} (h : Tree f t) : sz f t.root = t.ids.length := by
  cases t with
  | leaf => simp [Go.Proofs.Ytlmbkmjjiebpbaa.sz, Tr.root, Tr.ids]
  | node l x r =>
    simp only [Go.Proofs.Ytlmbkmjjiebpbaa.sz, Tr.root, Int.toNat_natCast]
    exact h.2.2.1

theorem UpOf.congr {f f' : Nat → Nd} {t : Tr} {p : Nat} (h : UpOf f t p) (he : ∀ y ∈ t.ids, (f' y).up = (f y).up) : UpOf f' t p := by
  cases t with
  | leaf => trivial
  | node l x r => exact (he x (by simp [Tr.ids])).trans h

/-- A tree looks at its own nodes only, and not at its root's 'up'. -/
theorem Tree.congr {f f' : Nat → Nd} {t : Tr} (h : Tree f t) (he : ∀ y ∈ t.ids, (f' y).left = (f y).left ∧ (f' y).right = (f y).right ∧ (f' y).size = (f y).size)
    (hu : ∀ y ∈ t.ids, (y : Int) ≠ t.root → (f' y).up = (f y).up) (hn : t.ids.Nodup) : Tree f' t := by
  induction t with
  | leaf => trivial
  | node l x r ihl ihr =>
    obtain ⟨h1, h2, h3, h4, h5, h6, h7⟩ := h
    obtain ⟨e1, e2, e3⟩ := he x (by simp [Tr.ids])
    simp only [Tr.ids] at hn
    have hd := List.nodup_append.1 hn
    have hxr := List.nodup_cons.1 hd.2.1
    have hl : ∀ y ∈ l.ids, (f' y).up = (f y).up := fun y hy => hu y (by simp [Tr.ids, hy]) (by
      simp only [Tr.root]; intro e
      exact hd.2.2 y hy x (by simp) (by omega))
    have hr : ∀ y ∈ r.ids, (f' y).up = (f y).up := fun y hy => hu y (by simp [Tr.ids, hy]) (by
      simp only [Tr.root]; intro e
      have : y = x := by omega
      exact hxr.1 (this ▸ hy))
    refine ⟨e1.trans h1, e2.trans h2, e3.trans h3, h4.congr hl, h5.congr hr, ihl h6 (fun y hy => he y (by simp [Tr.ids, hy])) (fun y hy _ => hl y hy) hd.1, ihr h7 (fun y hy => he y (by simp [Tr.ids, hy])) (fun y hy _ => hr y hy) hxr.2⟩

theorem Tree.same {f f' : Nat → Nd} {t : Tr} (h : Tree f t) (he : ∀ y ∈ t.ids, f' y = f y) (hn : t.ids.Nodup) : Tree f' t :=
  h.congr (fun y hy => by rw [he y hy]; exact ⟨rfl, rfl, rfl⟩) (fun y hy _ => by rw [he y hy]) hn

/-! ### What writes come to -/
def setUp (f : Nat → Nd) (x : Int) (v : Int) : Nat → Nd := fun y => if (y : Int) = x then { f y with up := v } else f y
def setIn (f : Nat → Nd) (x : Nat) (l r s : Int) : Nat → Nd := fun y => if y = x then { f y with left := l, right := r, size := s } else f y

/-- What 'set' comes to. -/
def setN (f : Nat → Nd) (x : Nat) (l r : Int) : Nat → Nd := setUp (setUp (setIn f x l r (sz f l + 1 + sz f r)) l x) r x

theorem setUp_in (f : Nat → Nd) (x v : Int) (y : Nat) : (setUp f x v y).left = (f y).left ∧ (setUp f x v y).right = (f y).right ∧ (setUp f x v y).size = (f y).size ∧ (setUp f x v y).rank = (f y).rank := by
  unfold setUp; split <;> simp
theorem setUp_up (f : Nat → Nd) (x v : Int) (y : Nat) : (setUp f x v y).up = if (y : Int) = x then v else (f y).up := by
  unfold setUp; split <;> simp
theorem setUp_neg (f : Nat → Nd) (v : Int) : setUp f (-1) v = f := by
  funext y; unfold setUp; rw [if_neg (by omega)]

structure Kept (f f' : Nat → Nd) (s : List Nat) : Prop where
  out : ∀ y, y ∉ s → f' y = f y
  rank : ∀ y, (f' y).rank = (f y).rank

theorem Kept.refl (f : Nat → Nd) (s : List Nat) : Kept f f s := ⟨fun _ _ => rfl, fun _ => rfl⟩
theorem Kept.trans {f g h : Nat → Nd} {s t u : List Nat} (a : Kept f g s) (b : Kept g h t) (hs : ∀ x ∈ s, x ∈ u) (ht : ∀ x ∈ t, x ∈ u) : Kept f h u :=
  ⟨fun y hy => (b.out y (fun h => hy (ht y h))).trans (a.out y (fun h => hy (hs y h))), fun y => (b.rank y).trans (a.rank y)⟩

theorem set_tree {f : Nat → Nd} {l r : Tr} {x : Nat} (hl : Tree f l) (hr : Tree f r) (hn : (Tr.node l x r).ids.Nodup) :
    Tree (setN f x l.root r.root) (.node l x r) ∧ Kept f (setN f x l.root r.root) (Tr.node l x r).ids ∧ (setN f x l.root r.root x).up = (f x).up := by
  simp only [Tr.ids] at hn
  have hd := List.nodup_append.1 hn
  have hxr := List.nodup_cons.1 hd.2.1
  have hxl : x ∉ l.ids := fun h => hd.2.2 x h x (by simp) rfl
  have hlx : ((x : Nat) : Int) ≠ l.root := by
    cases l with
    | leaf => simp only [Tr.root]; omega
    | node a y b =>
      simp only [Tr.root]; intro e
      have : x = y := by omega
      exact hxl (by simp [Tr.ids, this])
  have hrx : ((x : Nat) : Int) ≠ r.root := by
    cases r with
    | leaf => simp only [Tr.root]; omega
    | node a y b =>
      simp only [Tr.root]; intro e
      have : x = y := by omega
      exact hxr.1 (by simp [Tr.ids, this])
  have hin : ∀ y, y ≠ x → (setN f x l.root r.root y).left = (f y).left ∧ (setN f x l.root r.root y).right = (f y).right ∧ (setN f x l.root r.root y).size = (f y).size := by
    intro y hy
    unfold setN
    obtain ⟨a1, a2, a3, _⟩ := setUp_in (setUp (setIn f x l.root r.root (sz f l.root + 1 + sz f r.root)) l.root x) r.root x y
    obtain ⟨b1, b2, b3, _⟩ := setUp_in (setIn f x l.root r.root (sz f l.root + 1 + sz f r.root)) l.root x y
    have hs : setIn f x l.root r.root (sz f l.root + 1 + sz f r.root) y = f y := by unfold setIn; rw [if_neg hy]
    rw [hs] at b1 b2 b3
    exact ⟨a1.trans b1, a2.trans b2, a3.trans b3⟩
  have hup : ∀ y : Nat, (setN f x l.root r.root y).up = if (y : Int) = r.root then (x : Int) else if (y : Int) = l.root then (x : Int) else (f y).up := by
    intro y
    unfold setN
    rw [setUp_up, setUp_up]
    have : (setIn f x l.root r.root (sz f l.root + 1 + sz f r.root) y).up = (f y).up := by unfold setIn; split <;> simp
    rw [this]
  have hx : (setN f x l.root r.root x).left = l.root ∧ (setN f x l.root r.root x).right = r.root ∧ (setN f x l.root r.root x).size = sz f l.root + 1 + sz f r.root := by
    unfold setN
    obtain ⟨a1, a2, a3, _⟩ := setUp_in (setUp (setIn f x l.root r.root (sz f l.root + 1 + sz f r.root)) l.root x) r.root x x
    obtain ⟨b1, b2, b3, _⟩ := setUp_in (setIn f x l.root r.root (sz f l.root + 1 + sz f r.root)) l.root x x
    have hs : setIn f x l.root r.root (sz f l.root + 1 + sz f r.root) x = { f x with left := l.root, right := r.root, size := sz f l.root + 1 + sz f r.root } := by unfold setIn; rw [if_pos rfl]
    rw [hs] at b1 b2 b3
    exact ⟨a1.trans b1, a2.trans b2, a3.trans b3⟩
  have hlr : ∀ y ∈ l.ids, (y : Int) ≠ l.root → (setN f x l.root r.root y).up = (f y).up := by
    intro y hy hne
    rw [hup, if_neg, if_neg hne]
    intro e
    have : y ∈ r.ids := by
      cases r with
      | leaf => simp only [Tr.root] at e; omega
      | node a z b => simp only [Tr.root] at e; have : y = z := by omega
                      simp [Tr.ids, this]
    exact hd.2.2 y hy y (by simp [this]) rfl
  have hrr : ∀ y ∈ r.ids, (y : Int) ≠ r.root → (setN f x l.root r.root y).up = (f y).up := by
    intro y hy hne
    rw [hup, if_neg hne, if_neg]
    intro e
    have : y ∈ l.ids := by
      cases l with
      | leaf => simp only [Tr.root] at e; omega
      | node a z b => simp only [Tr.root] at e; have : y = z := by omega
                      simp [Tr.ids, this]
    exact hd.2.2 y this y (by simp [hy]) rfl
  refine ⟨⟨hx.1, hx.2.1, ?_, ?_, ?_, hl.congr (fun y hy => hin y (fun e => hxl (e ▸ hy))) hlr hd.1, hr.congr (fun y hy => hin y (fun e => hxr.1 (e ▸ hy))) hrr hxr.2⟩, ⟨?_, ?_⟩, ?_⟩
  · rw [hx.2.2, hl.sz, hr.sz]; simp [Tr.ids]; omega
  · cases l with
    | leaf => trivial
    | node a y b => show (setN f x _ r.root y).up = x; rw [hup]; simp [Tr.root]
  · cases r with
    | leaf => trivial
    | node a y b => show (setN f x l.root _ y).up = x; rw [hup]; simp [Tr.root]
  · intro y hy
    simp only [Tr.ids, List.mem_append, List.mem_cons, not_or] at hy
    have h1 : ¬ (y : Int) = l.root := by
      intro e
      cases l with
      | leaf => simp only [Tr.root] at e; omega
      | node a z b => simp only [Tr.root] at e; have : y = z := by omega
                      exact hy.1 (by simp [Tr.ids, this])
    have h2 : ¬ (y : Int) = r.root := by
      intro e
      cases r with
      | leaf => simp only [Tr.root] at e; omega
      | node a z b => simp only [Tr.root] at e; have : y = z := by omega
                      exact hy.2.2 (by simp [Tr.ids, this])
    unfold setN setUp setIn
    simp [h1, h2, hy.2.1]
  · intro y
    unfold setN
    rw [(setUp_in _ _ _ y).2.2.2, (setUp_in _ _ _ y).2.2.2]
    unfold setIn
    split <;> simp
  · rw [hup, if_neg hrx, if_neg hlx]

/-- One step up. -/
theorem up_step {f : Nat → Nd} {t : Tr} (h : Tree f t) (hn : t.ids.Nodup) {x : Nat} (hx : x ∈ t.ids) (hr : (x : Int) ≠ t.root) :
    ∃ p : Nat, (f x).up = p ∧ p ∈ t.ids ∧ t.depth p < t.depth x ∧ (((f p).right = x ∧ t.off x = t.off p + (sz f (f p).left).toNat + 1 ∧ 0 ≤ sz f (f p).left) ∨ ((f p).right ≠ x ∧ t.off x = t.off p)) := by
  induction t with
  | leaf => simp [Tr.ids] at hx
  | node l y r ihl ihr =>
    obtain ⟨h1, h2, h3, h4, h5, h6, h7⟩ := h
    simp only [Tr.ids] at hn
    have hd := List.nodup_append.1 hn
    have hxr := List.nodup_cons.1 hd.2.1
    have hyl : y ∉ l.ids := fun h => hd.2.2 y h y (by simp) rfl
    simp only [Tr.root] at hr
    have hxy : x ≠ y := by omega
    simp only [Tr.ids, List.mem_append, List.mem_cons] at hx
    by_cases hxl : x ∈ l.ids
    · by_cases hlr : (x : Int) = l.root
      · refine ⟨y, ?_, by simp [Tr.ids], ?_, Or.inr ⟨?_, ?_⟩⟩
        · cases l with
          | leaf => simp [Tr.ids] at hxl
          | node a z b => simp only [Tr.root] at hlr; have : x = z := by omega
                          subst this; exact h4
        · simp [Tr.depth, hxy, hxl]
        · rw [h2]
          intro e
          cases r with
          | leaf => simp only [Tr.root] at e; omega
          | node a z b => simp only [Tr.root] at e; have : x = z := by omega
                          exact hd.2.2 x hxl x (by simp [Tr.ids, this]) rfl
        · simp only [Tr.off, if_neg hxy, if_pos hxl, if_true]
          cases l with
          | leaf => simp [Tr.ids] at hxl
          | node a z b => simp only [Tr.root] at hlr; have : x = z := by omega
                          subst this; simp [Tr.off]
      · obtain ⟨p, e1, e2, e3, e4⟩ := ihl h6 hd.1 hxl hlr
        have hpy : p ≠ y := fun e => hyl (e ▸ e2)
        refine ⟨p, e1, by simp [Tr.ids, e2], ?_, ?_⟩
        · simp only [Tr.depth, if_neg hpy, if_pos e2, if_neg hxy, if_pos hxl]; omega
        · simp only [Tr.off, if_neg hpy, if_pos e2, if_neg hxy, if_pos hxl]; exact e4
    · have hxr' : x ∈ r.ids := by rcases hx with h | h | h
                                  · exact absurd h hxl
                                  · exact absurd h hxy
                                  · exact h
      by_cases hrr : (x : Int) = r.root
      · refine ⟨y, ?_, by simp [Tr.ids], ?_, Or.inl ⟨?_, ?_, ?_⟩⟩
        · cases r with
          | leaf => simp [Tr.ids] at hxr'
          | node a z b => simp only [Tr.root] at hrr; have : x = z := by omega
                          subst this; exact h5
        · simp [Tr.depth, hxy, hxl]
        · rw [h2]; exact hrr.symm
        · rw [h1, h6.sz]
          simp only [Tr.off, if_neg hxy, if_neg hxl, if_true, Int.toNat_natCast]
          cases r with
          | leaf => simp [Tr.ids] at hxr'
          | node a z b => simp only [Tr.root] at hrr; have : x = z := by omega
                          subst this; simp [Tr.off]
        · rw [h1, h6.sz]; omega
      · obtain ⟨p, e1, e2, e3, e4⟩ := ihr h7 hxr.2 hxr' hrr
        have hpy : p ≠ y := fun e => hxr.1 (e ▸ e2)
        have hpl : p ∉ l.ids := fun e => hd.2.2 p e p (by simp [e2]) rfl
        refine ⟨p, e1, by simp [Tr.ids, e2], ?_, ?_⟩
        · simp only [Tr.depth, if_neg hpy, if_neg hpl, if_neg hxy, if_neg hxl]; omega
        · simp only [Tr.off, if_neg hpy, if_neg hpl, if_neg hxy, if_neg hxl]
          rcases e4 with ⟨a, b, c⟩ | ⟨a, b⟩
          · exact Or.inl ⟨a, by omega, c⟩
          · exact Or.inr ⟨a, by omega⟩

theorem off_root {t : Tr} {x : Nat} (h : (x : Int) = t.root) : t.off x = 0 := by
  cases t with
  | leaf => rfl
  | node l y r => simp only [Tr.root] at h; have : x = y := by omega
                  simp [Tr.off, this]

/-- Where a node stands, from what is under it. -/
theorem off_idx {f : Nat → Nd} {t : Tr} (h : Tree f t) (hn : t.ids.Nodup) {x : Nat} (hx : x ∈ t.ids) : (t.ids.idxOf x : Int) = t.off x + sz f (f x).left ∧ 0 ≤ sz f (f x).left := by
  induction t with
  | leaf => simp [Tr.ids] at hx
  | node l y r ihl ihr =>
    obtain ⟨h1, h2, h3, h4, h5, h6, h7⟩ := h
    simp only [Tr.ids] at hn
    have hd := List.nodup_append.1 hn
    have hxr := List.nodup_cons.1 hd.2.1
    simp only [Tr.ids, List.mem_append, List.mem_cons] at hx
    by_cases hxy : x = y
    · subst hxy
      have hxl : x ∉ l.ids := fun h => hd.2.2 x h x (by simp) rfl
      rw [h1, h6.sz]
      simp [Tr.off, Tr.ids, List.idxOf_append, hxl]
    · by_cases hxl : x ∈ l.ids
      · simp only [Tr.off, if_neg hxy, if_pos hxl, Tr.ids, List.idxOf_append]
        exact ihl h6 hd.1 hxl
      · have hxr' : x ∈ r.ids := by rcases hx with h | h | h
                                    · exact absurd h hxl
                                    · exact absurd h hxy
                                    · exact h
        have := ihr h7 hxr.2 hxr'
        simp only [Tr.off, if_neg hxy, if_neg hxl, Tr.ids, List.idxOf_append]
        rw [List.idxOf_cons, cond_eq_ite, if_neg (by simpa using fun e : y = x => hxy e.symm)]
        omega

/-- A join's choice, and a cut's, as trees. -/
theorem nodup3 {a b c : List Nat} (h : (a ++ b ++ c).Nodup) : a.Nodup ∧ b.Nodup ∧ c.Nodup ∧ (b ++ c).Nodup ∧ (∀ x ∈ a, x ∉ b) ∧ (∀ x ∈ a, x ∉ c) ∧ (∀ x ∈ b, x ∉ c) := by
  rw [List.append_assoc] at h
  obtain ⟨h1, h2, h3⟩ := List.nodup_append.1 h
  obtain ⟨h4, h5, h6⟩ := List.nodup_append.1 h2
  exact ⟨h1, h4, h5, h2, fun x hx hb => h3 x hx x (by simp [hb]) rfl, fun x hx hb => h3 x hx x (by simp [hb]) rfl, fun x hx hb => h6 x hx x hb rfl⟩

/-- What a join promises. -/
structure Joined (f f' : Nat → Nd) (a b c : Tr) : Prop where
  tree : Tree f' c
  ids : c.ids = a.ids ++ b.ids
  kept : Kept f f' (a.ids ++ b.ids)

/-- What a cut promises. -/
structure Parted (f f' : Nat → Nd) (t a b : Tr) (n : Nat) : Prop where
  left : Tree f' a
  right : Tree f' b
  lids : a.ids = t.ids.take n
  rids : b.ids = t.ids.drop n
  kept : Kept f f' t.ids

theorem joined_right {f f' : Nat → Nd} {l r b c : Tr} {x : Nat} (h : Tree f (.node l x r)) (hn : ((Tr.node l x r).ids ++ b.ids).Nodup) (hj : Joined f f' r b c) :
    Joined f (setN f' x l.root c.root) (.node l x r) b (.node l x c) ∧ (f' x).left = (f x).left := by
  obtain ⟨h1, h2, h3, h4, h5, h6, h7⟩ := h
  simp only [Tr.ids] at hn
  have hn' : (l.ids ++ x :: (r.ids ++ b.ids)).Nodup := by simpa using hn
  obtain ⟨d1, d2, d3⟩ := List.nodup_append.1 hn'
  obtain ⟨d4, d5⟩ := List.nodup_cons.1 d2
  have hl : Tree f' l := h6.same (fun y hy => hj.kept.out y (fun h => d3 y hy y (by simp only [List.mem_cons]; exact Or.inr h) rfl)) d1
  have hnc : (Tr.node l x c).ids.Nodup := by simp only [Tr.ids, hj.ids]; exact hn'
  obtain ⟨s1, s2, s3⟩ := set_tree hl hj.tree hnc
  refine ⟨⟨s1, by simp [Tr.ids, hj.ids], hj.kept.trans s2 ?_ ?_⟩, by rw [hj.kept.out x d4]⟩
  · intro y hy
    simp only [Tr.ids, List.mem_append, List.mem_cons] at hy ⊢
    rcases hy with h | h <;> simp [h]
  · intro y hy
    simp only [Tr.ids, hj.ids, List.mem_append, List.mem_cons] at hy ⊢
    rcases hy with h | h | h | h <;> simp [h]

theorem joined_left {f f' : Nat → Nd} {l r a c : Tr} {x : Nat} (h : Tree f (.node l x r)) (hn : (a.ids ++ (Tr.node l x r).ids).Nodup) (hj : Joined f f' a l c) :
    Joined f (setN f' x c.root r.root) a (.node l x r) (.node c x r) ∧ (f' x).right = (f x).right := by
  obtain ⟨h1, h2, h3, h4, h5, h6, h7⟩ := h
  simp only [Tr.ids] at hn
  have hn' : ((a.ids ++ l.ids) ++ x :: r.ids).Nodup := by simpa using hn
  obtain ⟨d1, d2, d3⟩ := List.nodup_append.1 hn'
  obtain ⟨d4, d5⟩ := List.nodup_cons.1 d2
  have hr : Tree f' r := h7.same (fun y hy => hj.kept.out y (fun h => d3 y h y (by simp [hy]) rfl)) d5
  have hnc : (Tr.node c x r).ids.Nodup := by simp only [Tr.ids, hj.ids]; exact hn'
  obtain ⟨s1, s2, s3⟩ := set_tree hj.tree hr hnc
  refine ⟨⟨s1, by simp [Tr.ids, hj.ids], hj.kept.trans s2 ?_ ?_⟩, by rw [hj.kept.out x (fun h => d3 x h x (by simp) rfl)]⟩
  · intro y hy
    simp only [Tr.ids, List.mem_append, List.mem_cons] at hy ⊢
    rcases hy with h | h <;> simp [h]
  · intro y hy
    simp only [Tr.ids, hj.ids, List.mem_append, List.mem_cons] at hy ⊢
    rcases hy with (h | h) | h | h <;> simp [h]

theorem parted_right {f f' : Nat → Nd} {l r a b : Tr} {x n : Nat} (h : Tree f (.node l x r)) (hn : (Tr.node l x r).ids.Nodup) (hk : l.ids.length < n) (hp : Parted f f' r a b (n - l.ids.length - 1)) :
    Parted f (setN f' x l.root a.root) (.node l x r) (.node l x a) b n := by
  obtain ⟨h1, h2, h3, h4, h5, h6, h7⟩ := h
  simp only [Tr.ids] at hn
  obtain ⟨d1, d2, d3⟩ := List.nodup_append.1 hn
  obtain ⟨d4, d5⟩ := List.nodup_cons.1 d2
  have hsa : ∀ y ∈ a.ids, y ∈ r.ids := fun y hy => by rw [hp.lids] at hy; exact List.mem_of_mem_take hy
  have hsb : ∀ y ∈ b.ids, y ∈ r.ids := fun y hy => by rw [hp.rids] at hy; exact List.mem_of_mem_drop hy
  have hab : ∀ y ∈ a.ids, y ∉ b.ids := fun y hy hb => by
    rw [hp.lids] at hy; rw [hp.rids] at hb
    have := List.take_append_drop (n - l.ids.length - 1) r.ids ▸ d5
    exact (List.nodup_append.1 this).2.2 y hy y hb rfl
  have hl : Tree f' l := h6.same (fun y hy => hp.kept.out y (fun h => d3 y hy y (by simp [h]) rfl)) d1
  have hna : a.ids.Nodup := by rw [hp.lids]; exact d5.sublist (List.take_sublist _ _)
  have hnb : b.ids.Nodup := by rw [hp.rids]; exact d5.sublist (List.drop_sublist _ _)
  have hnc : (Tr.node l x a).ids.Nodup := by
    simp only [Tr.ids]
    refine List.nodup_append.2 ⟨d1, List.nodup_cons.2 ⟨fun h => d4 (hsa x h), hna⟩, fun y hy z hz => ?_⟩
    rcases List.mem_cons.1 hz with rfl | hz
    · exact d3 y hy z (by simp)
    · exact d3 y hy z (by simp [hsa z hz])
  obtain ⟨s1, s2, s3⟩ := set_tree hl hp.left hnc
  refine ⟨s1, hp.right.same (fun y hy => s2.out y ?_) hnb, ?_, ?_, hp.kept.trans s2 ?_ ?_⟩
  · simp only [Tr.ids, List.mem_append, List.mem_cons, not_or]
    refine ⟨fun h => d3 y h y (by simp [hsb y hy]) rfl, fun e => d4 (e ▸ hsb y hy), fun h => hab y h hy⟩
  · simp only [Tr.ids, hp.lids]
    rw [List.take_append, List.take_of_length_le (l := l.ids) (by omega)]
    obtain ⟨m, hm⟩ : ∃ m, n - l.ids.length = m + 1 := ⟨n - l.ids.length - 1, by omega⟩
    simp [hm]
  · simp only [Tr.ids, hp.rids]
    rw [List.drop_append, List.drop_of_length_le (l := l.ids) (by omega)]
    obtain ⟨m, hm⟩ : ∃ m, n - l.ids.length = m + 1 := ⟨n - l.ids.length - 1, by omega⟩
    simp [hm]
  · intro y hy; simp [Tr.ids, hy]
  · intro y hy
    simp only [Tr.ids, List.mem_append, List.mem_cons] at hy ⊢
    rcases hy with h | h | h
    · simp [h]
    · simp [h]
    · simp [hsa y h]

theorem parted_left {f f' : Nat → Nd} {l r a b : Tr} {x n : Nat} (h : Tree f (.node l x r)) (hn : (Tr.node l x r).ids.Nodup) (hk : n ≤ l.ids.length) (hp : Parted f f' l a b n) :
    Parted f (setN f' x b.root r.root) (.node l x r) a (.node b x r) n := by
  obtain ⟨h1, h2, h3, h4, h5, h6, h7⟩ := h
  simp only [Tr.ids] at hn
  obtain ⟨d1, d2, d3⟩ := List.nodup_append.1 hn
  obtain ⟨d4, d5⟩ := List.nodup_cons.1 d2
  have hsa : ∀ y ∈ a.ids, y ∈ l.ids := fun y hy => by rw [hp.lids] at hy; exact List.mem_of_mem_take hy
  have hsb : ∀ y ∈ b.ids, y ∈ l.ids := fun y hy => by rw [hp.rids] at hy; exact List.mem_of_mem_drop hy
  have hab : ∀ y ∈ a.ids, y ∉ b.ids := fun y hy hb => by
    rw [hp.lids] at hy; rw [hp.rids] at hb
    have := List.take_append_drop n l.ids ▸ d1
    exact (List.nodup_append.1 this).2.2 y hy y hb rfl
  have hr : Tree f' r := h7.same (fun y hy => hp.kept.out y (fun h => d3 y h y (by simp [hy]) rfl)) d5
  have hna : a.ids.Nodup := by rw [hp.lids]; exact d1.sublist (List.take_sublist _ _)
  have hnb : b.ids.Nodup := by rw [hp.rids]; exact d1.sublist (List.drop_sublist _ _)
  have hnc : (Tr.node b x r).ids.Nodup := by
    simp only [Tr.ids]
    exact List.nodup_append.2 ⟨hnb, d2, fun y hy z hz => d3 y (hsb y hy) z hz⟩
  obtain ⟨s1, s2, s3⟩ := set_tree hp.right hr hnc
  refine ⟨hp.left.same (fun y hy => s2.out y ?_) hna, s1, ?_, ?_, hp.kept.trans s2 ?_ ?_⟩
  · simp only [Tr.ids, List.mem_append, List.mem_cons, not_or]
    exact ⟨hab y hy, fun e => d3 y (hsa y hy) x (by simp) e, fun h => d3 y (hsa y hy) y (by simp [h]) rfl⟩
  · simp only [Tr.ids, hp.lids]
    rw [List.take_append_of_le_length hk]
  · simp only [Tr.ids, hp.rids]
    rw [List.drop_append_of_le_length hk]
  · intro y hy; simp [Tr.ids, hy]
  · intro y hy
    simp only [Tr.ids, List.mem_append, List.mem_cons] at hy ⊢
    rcases hy with h | h | h
    · simp [hsb y h]
    · simp [h]
    · simp [h]

theorem parted_leaf (f : Nat → Nd) (n : Nat) : Parted f f .leaf .leaf .leaf n := ⟨trivial, trivial, by simp [Tr.ids], by simp [Tr.ids], Kept.refl _ _⟩
theorem joined_leafl (f : Nat → Nd) {b : Tr} (h : Tree f b) : Joined f f .leaf b b := ⟨h, by simp [Tr.ids], Kept.refl _ _⟩
theorem joined_leafr (f : Nat → Nd) {a : Tr} (h : Tree f a) : Joined f f a .leaf a := ⟨h, by simp [Tr.ids], Kept.refl _ _⟩
end Go.Proofs.Ytlmbkmjjiebpbaa
