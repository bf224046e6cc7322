/- The contracts of package treap: join and split. -/
import Derived.Test.YtlmbkmjjiebpbaaTrA
namespace Go.Proofs.Ytlmbkmjjiebpbaa
open Go.RowKit
set_option linter.unusedVariables false

theorem nodup_len : ∀ (n : Nat) (l : List Nat), l.Nodup → (∀ x ∈ l, x < n) → l.length ≤ n
  | 0, l, _, hl => by
    cases l with
    | nil => simp
    | cons a l => exact absurd (hl a (by simp)) (by omega)
  | n + 1, l, hn, hl => by
    have h1 : (l.erase n).length ≤ n := nodup_len n (l.erase n) (hn.erase n) (fun x hx => by
      have h2 := (hn.mem_erase_iff.1 hx)
      have := hl x h2.2
      omega)
    have := List.length_erase (a := n) (l := l)
    split at this <;> omega

theorem Ok.root {n : Nat} {t : Tr} (h : ∀ x ∈ t.ids, x < n) : Ok n t.root := by
  cases t with
  | leaf => exact Or.inl rfl
  | node l x r => exact Or.inr ⟨x, rfl, h x (by simp [Tr.ids])⟩

theorem tree_szb {f : Nat → Nd} {t : Tr} (h : Tree f t) {n : Nat} (hn : t.ids.Nodup) (hl : ∀ x ∈ t.ids, x < n) (ht : n ≤ 1048576) : 0 ≤ sz f t.root ∧ sz f t.root ≤ 1048576 := by
  rw [h.sz]
  have := nodup_len n _ hn hl
  omega

/-- What 'join' leaves. -/
def JoinPost (w w' : World) (g b n cap : Nat) (f : Nat → Nd) (A B C : Tr) : Prop := ∃ f', SetPost w w' g b n cap f' ∧ Joined f f' A B C

/-- What stands ahead of a join. -/
structure Pre (w : World) (g b n cap : Nat) (f : Nat → Nd) (A B : Tr) : Prop where
  inn : In w g b n cap f
  ta : Tree f A
  tb : Tree f B
  nd : (A.ids ++ B.ids).Nodup
  lt : ∀ x ∈ A.ids ++ B.ids, x < n

theorem SetPost.trans {w w1 w2 : World} {g b n cap : Nat} {f f' : Nat → Nd} (h : SetPost w w1 g b n cap f) (k : SetPost w1 w2 g b n cap f') : SetPost w w2 g b n cap f' :=
  ⟨k.inn, h.mod.trans k.mod (fun _ _ h => h), k.size.trans h.size⟩
theorem SetPost.drewL {w w1 : World} {g b n cap : Nat} {f : Nat → Nd} {k : Nat} (h : SetPost (w.drewN k) w1 g b n cap f) : SetPost w w1 g b n cap f :=
  ⟨h.inn, ⟨h.mod.os, h.mod.tape, h.mod.output, h.mod.size, h.mod.block⟩, h.size⟩
theorem SetPost.drewL1 {w w1 : World} {g b n cap : Nat} {f : Nat → Nd} (h : SetPost w.drew w1 g b n cap f) : SetPost w w1 g b n cap f :=
  ⟨h.inn, ⟨h.mod.os, h.mod.tape, h.mod.output, h.mod.size, h.mod.block⟩, h.size⟩

theorem Pre.drew {w : World} {g b n cap : Nat} {f : Nat → Nd} {A B : Tr} (h : Pre w g b n cap f A B) : Pre w.drew g b n cap f A B := ⟨h.inn.drew, h.ta, h.tb, h.nd, h.lt⟩
theorem Pre.right {w : World} {g b n cap : Nat} {f : Nat → Nd} {l r B : Tr} {x : Nat} (h : Pre w g b n cap f (.node l x r) B) : Pre w g b n cap f r B := by
  obtain ⟨h1, h2, h3, h4, h5⟩ := h
  refine ⟨h1, h2.2.2.2.2.2.2, h3, ?_, fun z hz => h5 z ?_⟩
  · simp only [Tr.ids, List.append_assoc, List.cons_append] at h4
    exact (List.nodup_cons.1 (List.nodup_append.1 h4).2.1).2
  · simp only [Tr.ids, List.mem_append, List.mem_cons] at hz ⊢
    rcases hz with h | h <;> simp [h]
theorem Pre.left {w : World} {g b n cap : Nat} {f : Nat → Nd} {l r A : Tr} {y : Nat} (h : Pre w g b n cap f A (.node l y r)) : Pre w g b n cap f A l := by
  obtain ⟨h1, h2, h3, h4, h5⟩ := h
  refine ⟨h1, h2, h3.2.2.2.2.2.1, ?_, fun z hz => h5 z ?_⟩
  · simp only [Tr.ids, ← List.append_assoc] at h4
    exact (List.nodup_append.1 h4).1
  · simp only [Tr.ids, List.mem_append, List.mem_cons] at hz ⊢
    rcases hz with h | h <;> simp [h]

/-- What the call of 'set' behind the inner join needs, and comes to. -/
theorem mid_right {w w1 : World} {g b n cap : Nat} {f : Nat → Nd} {l r B C : Tr} {x : Nat} (h : Pre w g b n cap f (.node l x r) B) (hj : JoinPost w w1 g b n cap f r B C) :
    ∃ f1, In w1 g b n cap f1 ∧ (f1 x).left = l.root ∧ Ok n l.root ∧ Ok n C.root ∧ (0 ≤ sz f1 l.root ∧ sz f1 l.root ≤ 1048576) ∧ (0 ≤ sz f1 C.root ∧ sz f1 C.root ≤ 1048576) ∧
      ∀ w2, SetPost w1 w2 g b n cap (setN f1 x l.root C.root) → JoinPost w w2 g b n cap f (.node l x r) B (.node l x C) := by
  obtain ⟨f1, s1, j1⟩ := hj
  obtain ⟨h1, h2, h3, h4, h5⟩ := h
  obtain ⟨k1, k2⟩ := joined_right h2 h4 j1
  have hlt : ∀ z ∈ (Tr.node l x C).ids, z < n := fun z hz => h5 z (by rw [k1.ids] at hz; exact hz)
  have hnd : (Tr.node l x C).ids.Nodup := by rw [k1.ids]; exact h4
  simp only [Tr.ids] at hnd
  obtain ⟨d1, d2, d3⟩ := List.nodup_append.1 hnd
  have hl : ∀ z ∈ l.ids, z < n := fun z hz => hlt z (by simp [Tr.ids, hz])
  have hC : ∀ z ∈ C.ids, z < n := fun z hz => hlt z (by simp [Tr.ids, hz])
  have tl : Tree f1 l := h2.2.2.2.2.2.1.same (fun y hy => j1.kept.out y (fun hc => d3 y hy y (by rw [j1.ids]; exact List.mem_cons_of_mem _ hc) rfl)) d1
  refine ⟨f1, s1.inn, k2.trans h2.1, Ok.root hl, Ok.root hC, tree_szb tl d1 hl h1.top, tree_szb j1.tree (List.nodup_cons.1 d2).2 hC h1.top, fun w2 h => ⟨_, s1.trans h, k1⟩⟩
theorem mid_left {w w1 : World} {g b n cap : Nat} {f : Nat → Nd} {l r A C : Tr} {y : Nat} (h : Pre w g b n cap f A (.node l y r)) (hj : JoinPost w w1 g b n cap f A l C) :
    ∃ f1, In w1 g b n cap f1 ∧ (f1 y).right = r.root ∧ Ok n C.root ∧ Ok n r.root ∧ (0 ≤ sz f1 C.root ∧ sz f1 C.root ≤ 1048576) ∧ (0 ≤ sz f1 r.root ∧ sz f1 r.root ≤ 1048576) ∧
      ∀ w2, SetPost w1 w2 g b n cap (setN f1 y C.root r.root) → JoinPost w w2 g b n cap f A (.node l y r) (.node C y r) := by
  obtain ⟨f1, s1, j1⟩ := hj
  obtain ⟨h1, h2, h3, h4, h5⟩ := h
  obtain ⟨k1, k2⟩ := joined_left h3 h4 j1
  have hlt : ∀ z ∈ (Tr.node C y r).ids, z < n := fun z hz => h5 z (by rw [k1.ids] at hz; exact hz)
  have hnd : (Tr.node C y r).ids.Nodup := by rw [k1.ids]; exact h4
  simp only [Tr.ids] at hnd
  obtain ⟨d1, d2, d3⟩ := List.nodup_append.1 hnd
  have hr : ∀ z ∈ r.ids, z < n := fun z hz => hlt z (by simp [Tr.ids, hz])
  have hC : ∀ z ∈ C.ids, z < n := fun z hz => hlt z (by simp [Tr.ids, hz])
  have tr : Tree f1 r := h3.2.2.2.2.2.2.same (fun z hz => j1.kept.out z (fun hc => d3 z (by rw [j1.ids]; exact hc) z (by simp [hz]) rfl)) (List.nodup_cons.1 d2).2
  refine ⟨f1, s1.inn, k2.trans h3.2.1, Ok.root hC, Ok.root hr, tree_szb j1.tree d1 hC h1.top, tree_szb tr (List.nodup_cons.1 d2).2 hr h1.top, fun w2 h => ⟨_, s1.trans h, k1⟩⟩

theorem join_leafl (w : World) (g : Nat) (z : Int) : Calls Try.prog 28 #[.pointer (some ⟨g, 0, none⟩), .int .i64 (-1), .int .i64 z] w fun e w' => e = .returned (.int .i64 z) ∧ w = w' := by
  go_enter Try.func28, Try.ntmps28
  go_wp2_with fail
  go_ret
  exact ⟨rfl, rfl⟩
theorem join_leafr (w : World) (g : Nat) (x : Nat) : Calls Try.prog 28 #[.pointer (some ⟨g, 0, none⟩), .int .i64 x, .int .i64 (-1)] w fun e w' => e = .returned (.int .i64 x) ∧ w = w' := by
  have hne : ((x : Int) == -1) = false := by simp
  go_enter Try.func28, Try.ntmps28
  go_wp2_with fail
  go_ret
  exact ⟨rfl, rfl⟩

/-- 'join' does what it promises on trees of up to k nodes. -/
def JoinsTo (g b n cap k : Nat) : Prop := ∀ (A B : Tr), A.ids.length + B.ids.length ≤ k → ∀ (w : World) (f : Nat → Nd), Pre w g b n cap f A B →
    Calls Try.prog 28 #[.pointer (some ⟨g, 0, none⟩), .int .i64 A.root, .int .i64 B.root] w fun e w' => ∃ C, e = .returned (.int .i64 C.root) ∧ JoinPost w w' g b n cap f A B C

/-- What 'split' leaves. -/
def SplitPost (w w' : World) (g b n cap : Nat) (f : Nat → Nd) (T A B : Tr) (m : Nat) : Prop := ∃ f', SetPost w w' g b n cap f' ∧ Parted f f' T A B m

structure Pre1 (w : World) (g b n cap : Nat) (f : Nat → Nd) (T : Tr) : Prop where
  inn : In w g b n cap f
  ta : Tree f T
  nd : T.ids.Nodup
  lt : ∀ x ∈ T.ids, x < n

theorem Pre1.drew {w : World} {g b n cap : Nat} {f : Nat → Nd} {T : Tr} (h : Pre1 w g b n cap f T) : Pre1 w.drew g b n cap f T := ⟨h.inn.drew, h.ta, h.nd, h.lt⟩
theorem Pre1.left {w : World} {g b n cap : Nat} {f : Nat → Nd} {l r : Tr} {x : Nat} (h : Pre1 w g b n cap f (.node l x r)) : Pre1 w g b n cap f l := by
  obtain ⟨h1, h2, h3, h4⟩ := h
  simp only [Tr.ids] at h3
  exact ⟨h1, h2.2.2.2.2.2.1, (List.nodup_append.1 h3).1, fun z hz => h4 z (by simp [Tr.ids, hz])⟩
theorem Pre1.right {w : World} {g b n cap : Nat} {f : Nat → Nd} {l r : Tr} {x : Nat} (h : Pre1 w g b n cap f (.node l x r)) : Pre1 w g b n cap f r := by
  obtain ⟨h1, h2, h3, h4⟩ := h
  simp only [Tr.ids] at h3
  exact ⟨h1, h2.2.2.2.2.2.2, (List.nodup_cons.1 (List.nodup_append.1 h3).2.1).2, fun z hz => h4 z (by simp [Tr.ids, hz])⟩

theorem smid_right {w w1 : World} {g b n cap : Nat} {f : Nat → Nd} {l r A B : Tr} {x m : Nat} (h : Pre1 w g b n cap f (.node l x r)) (hm : l.ids.length < m) (hj : SplitPost w w1 g b n cap f r A B (m - l.ids.length - 1)) :
    ∃ f1, In w1 g b n cap f1 ∧ Ok n l.root ∧ Ok n A.root ∧ (0 ≤ sz f1 l.root ∧ sz f1 l.root ≤ 1048576) ∧ (0 ≤ sz f1 A.root ∧ sz f1 A.root ≤ 1048576) ∧
      ∀ w2, SetPost w1 w2 g b n cap (setN f1 x l.root A.root) → SplitPost w w2 g b n cap f (.node l x r) (.node l x A) B m := by
  obtain ⟨f1, s1, j1⟩ := hj
  obtain ⟨h1, h2, h3, h4⟩ := h
  have k1 := parted_right h2 h3 hm j1
  simp only [Tr.ids] at h3
  obtain ⟨d1, d2, d3⟩ := List.nodup_append.1 h3
  have hl : ∀ z ∈ l.ids, z < n := fun z hz => h4 z (by simp [Tr.ids, hz])
  have hA : ∀ z ∈ A.ids, z < n := fun z hz => h4 z (by rw [j1.lids] at hz; have := List.mem_of_mem_take hz; simp [Tr.ids, this])
  have tl : Tree f1 l := h2.2.2.2.2.2.1.same (fun y hy => j1.kept.out y (fun hc => d3 y hy y (List.mem_cons_of_mem _ hc) rfl)) d1
  have hA2 : A.ids.Nodup := by rw [j1.lids]; exact (List.nodup_cons.1 d2).2.sublist (List.take_sublist _ _)
  exact ⟨f1, s1.inn, Ok.root hl, Ok.root hA, tree_szb tl d1 hl h1.top, tree_szb j1.left hA2 hA h1.top, fun w2 h => ⟨_, s1.trans h, k1⟩⟩
theorem smid_left {w w1 : World} {g b n cap : Nat} {f : Nat → Nd} {l r A B : Tr} {x m : Nat} (h : Pre1 w g b n cap f (.node l x r)) (hm : m ≤ l.ids.length) (hj : SplitPost w w1 g b n cap f l A B m) :
    ∃ f1, In w1 g b n cap f1 ∧ Ok n B.root ∧ Ok n r.root ∧ (0 ≤ sz f1 B.root ∧ sz f1 B.root ≤ 1048576) ∧ (0 ≤ sz f1 r.root ∧ sz f1 r.root ≤ 1048576) ∧
      ∀ w2, SetPost w1 w2 g b n cap (setN f1 x B.root r.root) → SplitPost w w2 g b n cap f (.node l x r) A (.node B x r) m := by
  obtain ⟨f1, s1, j1⟩ := hj
  obtain ⟨h1, h2, h3, h4⟩ := h
  have k1 := parted_left h2 h3 hm j1
  simp only [Tr.ids] at h3
  obtain ⟨d1, d2, d3⟩ := List.nodup_append.1 h3
  have hr : ∀ z ∈ r.ids, z < n := fun z hz => h4 z (by simp [Tr.ids, hz])
  have hB : ∀ z ∈ B.ids, z < n := fun z hz => h4 z (by rw [j1.rids] at hz; have := List.mem_of_mem_drop hz; simp [Tr.ids, this])
  have tr : Tree f1 r := h2.2.2.2.2.2.2.same (fun y hy => j1.kept.out y (fun hc => d3 y hc y (by simp [hy]) rfl)) (List.nodup_cons.1 d2).2
  have hB2 : B.ids.Nodup := by rw [j1.rids]; exact d1.sublist (List.drop_sublist _ _)
  exact ⟨f1, s1.inn, Ok.root hB, Ok.root hr, tree_szb j1.right hB2 hB h1.top, tree_szb tr (List.nodup_cons.1 d2).2 hr h1.top, fun w2 h => ⟨_, s1.trans h, k1⟩⟩
end Go.Proofs.Ytlmbkmjjiebpbaa
