/- The contract of walk: the nodes under one, in order. -/
import Derived.Test.YtlmbkmjjiebpbaaTrB
import Derived.Deep.RegionHeld3
import Derived.Deep.AppendLies
namespace Go.Proofs.Ytlmbkmjjiebpbaa
open Go.RowKit
set_option linter.unusedVariables false

theorem mixed : Try.prog.follows .mixedOrders = true := by kernel_rfl
theorem info_int : (Try.prog.info? 3).map (fun i => (i.zero, i.size, i.bytes)) = some (some (.int .i64 0), 1, 8) := by kernel_rfl

/-- Numbers as cells. -/
def nums (l : List Nat) : List Value := l.map fun x : Nat => Value.int .i64 (x : Int)

/-- A row of the caller's own: its slice, what is in it. -/
def OutRow (w : World) (v : Value) (l : List Nat) : Prop := w.ownsRow 0 3 1 v l.length (nums l)

/-- What 'walk' leaves: the row, behind it what was under the node; nothing else has changed. -/
structure WalkPost (w w' : World) (v v' : Value) (l : List Nat) : Prop where
  row : OutRow w' v' l
  mod : Mod w w' (fun k => v.ownBlock = some k)
  own : ∀ k, v'.ownBlock = some k → v.ownBlock = some k ∨ w.heap.size ≤ k

theorem walk_leaf (w : World) (g : Nat) (a : Option Addr) (m c : Nat) : Calls Try.prog 32 #[.pointer (some ⟨g, 0, none⟩), .int .i64 (-1), .slice a m c] w fun e w' => e = .returned (.slice a m c) ∧ w = w' := by
  go_enter Try.func32, Try.ntmps32
  go_wp2_with fail
  go_ret
  exact ⟨rfl, rfl⟩

theorem outrow_form {w : World} {v : Value} {l : List Nat} (h : OutRow w v l) : ∃ a c, v = .slice a l.length c := row_form h

/-- Behind an append of one number. -/
theorem WalkPost.push {w w1 w2 : World} {o : Obj} {v v1 : Value} {l : List Nat} {x g1 cap1 n : Nat} (hn : l.length = n) (h : WalkPost w w1 v v1 l)
    (hown : w2.ownsRow 0 3 1 (.slice (some ⟨g1, 0, none⟩) (n + 1) cap1) (n + 1) (nums l ++ [.int .i64 (x : Int)])) (hg : (w1.alloc o).grownBy w2 v1.ownBlock) (hat : v1.ownBlock = some g1 ∨ g1 = w1.heap.size + 1) :
    WalkPost w w2 v (.slice (some ⟨g1, 0, none⟩) (n + 1) cap1) (l ++ [x]) := by
  subst hn
  refine ⟨?_, ?_, ?_⟩
  · unfold OutRow
    rw [show (l ++ [x]).length = l.length + 1 by simp, show nums (l ++ [x]) = nums l ++ [.int .i64 (x : Int)] by simp [nums]]
    exact hown
  · refine (h.mod.alloc o).grown hg (fun k hk hlt => ?_)
    rcases h.own k hk with e | e
    · exact e
    · omega
  · intro k hk
    simp [Value.ownBlock] at hk
    subst hk
    rcases hat with e | e
    · exact h.own _ e
    · right; have := h.mod.size; omega

theorem WalkPost.trans {w w1 w2 : World} {v v1 v2 : Value} {l m : List Nat} (h : WalkPost w w1 v v1 l) (k : WalkPost w1 w2 v1 v2 m) : WalkPost w w2 v v2 m := by
  refine ⟨k.row, h.mod.trans k.mod (fun i hi hk => ?_), fun i hi => ?_⟩
  · rcases h.own i hk with e | e
    · exact e
    · omega
  · rcases k.own i hi with e | e
    · exact h.own i e
    · right; have := h.mod.size; omega

theorem WalkPost.inn {w w' : World} {v v' : Value} {l : List Nat} {g b n cap : Nat} {f : Nat → Nd} (h : WalkPost w w' v v' l) (hI : In w g b n cap f) (hg : v.ownBlock ≠ some g) (hb : v.ownBlock ≠ some b) : In w' g b n cap f := hI.mod h.mod hg hb

/-- Behind an append of one number that lay ready ahead of the walk. -/
theorem WalkPost.push2 {w w1 w2 : World} {o : Obj} {v v1 : Value} {l : List Nat} {x g1 cap1 n : Nat} (hn : l.length = n) (h : WalkPost (w.alloc o) w1 v v1 l)
    (hown : w2.ownsRow 0 3 1 (.slice (some ⟨g1, 0, none⟩) (n + 1) cap1) (n + 1) (nums l ++ [.int .i64 (x : Int)])) (hg : w1.grownBy w2 v1.ownBlock) (hat : v1.ownBlock = some g1 ∨ g1 = w1.heap.size) :
    WalkPost w w2 v (.slice (some ⟨g1, 0, none⟩) (n + 1) cap1) (l ++ [x]) := by
  have hsz : (w.alloc o).heap.size = w.heap.size + 1 := by simp
  have hm1 := ((Mod.refl w (fun k => v.ownBlock = some k)).alloc o).trans h.mod (fun _ _ h => h)
  subst hn
  refine ⟨?_, ?_, ?_⟩
  · unfold OutRow
    rw [show (l ++ [x]).length = l.length + 1 by simp, show nums (l ++ [x]) = nums l ++ [.int .i64 (x : Int)] by simp [nums]]
    exact hown
  · refine hm1.grown hg (fun k hk hlt => ?_)
    rcases h.own k hk with e | e
    · exact e
    · omega
  · intro k hk
    simp [Value.ownBlock] at hk
    subst hk
    rcases hat with e | e
    · rcases h.own _ e with e | e
      · exact Or.inl e
      · right; omega
    · right; have := hm1.size; omega

theorem WalkPost.drewL {w w1 : World} {v v1 : Value} {l : List Nat} (h : WalkPost w.drew w1 v v1 l) : WalkPost w w1 v v1 l := ⟨h.row, ⟨h.mod.os, h.mod.tape, h.mod.output, h.mod.size, h.mod.block⟩, h.own⟩
theorem OutRow.drew {w : World} {v : Value} {l : List Nat} (h : OutRow w v l) : OutRow w.drew v l := h
theorem OutRow.alloc {w : World} {v : Value} {l : List Nat} (h : OutRow w v l) (o : Obj) : OutRow (w.alloc o) v l := World.ownsRow.alloc h o
theorem Pre1.alloc {w : World} {g b n cap : Nat} {f : Nat → Nd} {T : Tr} (h : Pre1 w g b n cap f T) (o : Obj) : Pre1 (w.alloc o) g b n cap f T := ⟨h.inn.alloc o, h.ta, h.nd, h.lt⟩
theorem Pre1.post {w w' : World} {v v' : Value} {l : List Nat} {g b n cap : Nat} {f : Nat → Nd} {T : Tr} (h : Pre1 w g b n cap f T) (k : WalkPost w w' v v' l) (hv : v.ownBlock ≠ some g ∧ v.ownBlock ≠ some b) :
    Pre1 w' g b n cap f T ∧ v'.ownBlock ≠ some g ∧ v'.ownBlock ≠ some b := by
  refine ⟨⟨k.inn h.inn hv.1 hv.2, h.ta, h.nd, h.lt⟩, fun e => ?_, fun e => ?_⟩
  · rcases k.own _ e with e | e
    · exact hv.1 e
    · have := h.inn.gl; omega
  · rcases k.own _ e with e | e
    · exact hv.2 e
    · have := h.inn.bl; omega
theorem OutRow.fresh {w : World} {v : Value} {l : List Nat} (h : OutRow w v l) : v.ownBlock ≠ some w.heap.size := fun e => by
  have := (World.ownsRow.lt h _ e).2
  omega

theorem OutRow.at {w : World} {v : Value} {l : List Nat} {n : Nat} (h : OutRow w v l) (hn : l.length = n) : w.ownsRow 0 3 1 v n (nums l) := by
  subst hn; exact h

theorem kept_new {w w5 : World} {o : Obj} {v : Value} (h : Mod (w.alloc o) w5 (fun k => v.ownBlock = some k)) (hF : v.ownBlock ≠ some w.heap.size) (j : Nat) : w5.cell? ((⟨w.heap.size, 0, none⟩ : Addr).add j) = (w.alloc o).cell? ((⟨w.heap.size, 0, none⟩ : Addr).add j) := by
  have hadd : (⟨w.heap.size, 0, none⟩ : Addr).add j = ⟨w.heap.size, j, none⟩ := by unfold Addr.add; split <;> simp_all
  rw [hadd]
  exact h.cell (by simp) hF

theorem In.trio {w : World} {g b n cap : Nat} {f : Nat → Nd} (h : In w g b n cap f) {x : Nat} (hx : x < n) {p q : Int} (he : (f x).left = p ∧ (f x).right = q) :
    w.cell? ⟨g, 0, none⟩ = some (.slice (some ⟨b, 0, none⟩) n cap) ∧ w.cell? ⟨b, x * 5 + 1, none⟩ = some (.int .i64 p) ∧ w.cell? ⟨b, x * 5 + 2, none⟩ = some (.int .i64 q) := by
  obtain ⟨_, c1, c2, _⟩ := h.cell hx
  rw [he.1] at c1
  rw [he.2] at c2
  exact ⟨h.c0, c1, c2⟩

set_option maxHeartbeats 4000000 in
theorem walk_any (g b n cap : Nat) : ∀ (T : Tr) (w : World) (f : Nat → Nd) (v : Value) (l : List Nat), Pre1 w g b n cap f T → OutRow w v l → l.length + T.ids.length ≤ 1048576 → (v.ownBlock ≠ some g ∧ v.ownBlock ≠ some b) →
    Calls Try.prog 32 #[.pointer (some ⟨g, 0, none⟩), .int .i64 T.root, v] w fun e w' => ∃ v', e = .returned v' ∧ WalkPost w w' v v' (l ++ T.ids) := by
  intro T
  induction T with
  | leaf =>
    intro w f v l hP hO hl hv
    obtain ⟨a, c, rfl⟩ := outrow_form hO
    refine (walk_leaf w g a _ c).mono ?_
    rintro e w1 ⟨rfl, rfl⟩
    exact ⟨_, rfl, by simpa [Tr.ids] using hO, Mod.refl _ _, fun k hk => Or.inl hk⟩
  | node tl x tr ihl ihr =>
    intro w f v l hP hO hl hv
    show Calls Try.prog 32 #[.pointer (some ⟨g, 0, none⟩), .int .i64 (x : Int), _] w _
    have hx : x < n := hP.lt x (by simp [Tr.ids])
    have hxi : (x : Int) < n := by omega
    obtain ⟨_, cx1, cx2, _, _⟩ := hP.inn.cell hx
    have ex1 := hP.ta.1
    have ex2 := hP.ta.2.1
    rw [ex1] at cx1
    rw [ex2] at cx2
    have cg := hP.inn.c0
    have hg := hP.inn.gl
    have hb := hP.inn.bl
    have htop := hP.inn.top
    have hcap := hP.inn.capb (by omega)
    unfold maxLen at hcap
    have hnx : ((x : Int) == -1) = false := by simp
    have hlen : l.length + tl.ids.length + 1 + tr.ids.length ≤ 1048576 := by simp [Tr.ids] at hl; omega
    have HP := Lib.hid hP
    have HL := Lib.hid ihl
    have HR := Lib.hid ihr
    have HO := Lib.hid hO
    have HV := Lib.hid hv
    have HF := Lib.hid hO.fresh
    have hL1 : (l ++ tl.ids).length = l.length + tl.ids.length := by simp
    have hB1 : l.length + tl.ids.length + 1 ≤ maxLen := by unfold maxLen; omega
    have hB2 : (l.length + tl.ids.length + 1) * 8 ≤ 140737488355328 := by omega
    have hone : ∀ u ∈ [Value.int .i64 (x : Int)], u.oneCell' = true := by simp [Value.oneCell']
    have hl1 : l.length + tl.ids.length ≤ 1048576 := by omega
    have hl2 : ((l ++ tl.ids) ++ [x]).length + tr.ids.length ≤ 1048576 := by simp; omega
    have HE := Lib.hid (And.intro ex1 ex2)
    obtain ⟨i0, hi, hz0, hz1, hz2⟩ := info_parts info_int
    obtain ⟨o, ho⟩ : ∃ o : Obj, o = .cells #[.int .i64 (x : Int)] 3 := ⟨_, rfl⟩
    have hnewB : ∀ j u, [Value.int .i64 (x : Int)][j]? = some u → (w.alloc o).cell? ((⟨w.heap.size, 0, none⟩ : Addr).add j) = some u := by rw [ho]; exact cell_one_new _ _ _
    clear ex1 ex2 hP ihl ihr hl hO hv
    go_enter Try.func32, Try.ntmps32
    go_wp2_with fail
    go_region_held3 (fun u => u.cell? ⟨g, 0, none⟩ = some (.slice (some ⟨b, 0, none⟩) n cap) ∧ u.cell? ⟨b, x * 5 + 1, none⟩ = some (.int .i64 tl.root) ∧ u.cell? ⟨b, x * 5 + 2, none⟩ = some (.int .i64 tr.root))
      (first | exact ⟨cg, cx1, cx2⟩ | exact H7.out.1 | exact H6.out.1 | exact (H5.out.2.2.1.inn.alloc _).trio hx HE.out | exact H5b.out.1 | exact H5.out.1 | exact (HP.out.inn.alloc _).trio hx HE.out)
      (first
      | (go_at_call_of 32 (tl.root)
         refine (HL.out _ f _ l ?_ ?_ hl1 HV.out).mono ?_
         exact HP.out.left.drew
         exact HO.out.drew
         rintro e w5 ⟨v1, rfl, h5⟩
         have q5 := h5.drewL
         obtain ⟨p5, n5⟩ := HP.out.right.post q5 HV.out
         have H5 := Lib.hid (And.intro (p5.inn.trio hx HE.out) (And.intro q5 (And.intro p5 n5)))
         clear h5 q5 p5 n5)
      | (go_at_call_of 32 (tl.root)
         rw [← ho]
         refine (HL.out _ f _ l ?_ ?_ hl1 HV.out).mono ?_
         exact (HP.out.left.alloc o).drew
         exact (HO.out.alloc o).drew
         rintro e w5 ⟨v1, rfl, h5⟩
         have q5 : WalkPost (w.alloc o) w5 v v1 (l ++ tl.ids) := WalkPost.drewL h5
         have H5b := Lib.hid (And.intro (((HP.out.right.alloc o).post q5 HV.out).1.inn.trio hx HE.out) (And.intro q5 (fun j u (hj : [Value.int .i64 (x : Int)][j]? = some u) => (kept_new q5.mod HF.out j).trans (hnewB j u hj))))
         clear h5 q5)
      | (go_at_call_of 32 (tr.root)
         refine (HR.out _ f _ _ H6.out.2.2.1 H6.out.2.1.row hl2 H6.out.2.2.2).mono ?_
         rintro e w7 ⟨v7, rfl, h7⟩
         have H7 := Lib.hid (And.intro ((H6.out.2.2.1.post h7 H6.out.2.2.2).1.inn.trio hx HE.out) (H6.out.2.1.trans h7))
         clear h7)
      | (refine step_append_lies _ rfl _ _ 37 rfl 0 3 i0 (.int .i64 0) 1 8 Try.underlying37 hi hz0 hz1 hz2 rfl (by decide) v1 (l.length + tl.ids.length) _ rfl (OutRow.at (H5.out.2.1.row.alloc _) hL1) ⟨w5.heap.size, 0, none⟩ 1 1 [.int .i64 (x : Int)] rfl rfl (cell_one_new _ _ _) hone (by decide) hB1 hB2 (Nat.zero_le _) (w5.heap.size + 1) (by simp) ?_
         intro g1 cap1 w6 hown hgrow hat hlt
         have q6 := H5.out.2.1.push hL1 hown hgrow hat
         obtain ⟨p6, n6⟩ := HP.out.right.post q6 HV.out
         have H6 := Lib.hid (And.intro (p6.inn.trio hx HE.out) (And.intro q6 (And.intro p6 n6)))
         clear hown hgrow hat hlt q6 p6 n6)
      | (refine step_append_lies _ rfl _ _ 37 rfl 0 3 i0 (.int .i64 0) 1 8 Try.underlying37 hi hz0 hz1 hz2 rfl (by decide) v1 (l.length + tl.ids.length) _ rfl (OutRow.at H5b.out.2.1.row hL1) ⟨w.heap.size, 0, none⟩ 1 1 [.int .i64 (x : Int)] rfl rfl H5b.out.2.2 hone (by decide) hB1 hB2 (Nat.zero_le _) w5.heap.size rfl ?_
         intro g1 cap1 w6 hown hgrow hat hlt
         have q6 := H5b.out.2.1.push2 hL1 hown hgrow hat
         obtain ⟨p6, n6⟩ := HP.out.right.post q6 HV.out
         have H6 := Lib.hid (And.intro (p6.inn.trio hx HE.out) (And.intro q6 (And.intro p6 n6)))
         clear hown hgrow hat hlt q6 p6 n6))
    all_goals
      go_wp2_with fail
      go_ret
      refine ⟨_, rfl, ?_⟩
      have := H7.out.2
      simpa [Tr.ids] using this
end Go.Proofs.Ytlmbkmjjiebpbaa
