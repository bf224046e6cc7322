/- The arena as sequences; the contracts of Same, Len, List. -/
import Derived.Test.YtlmbkmjjiebpbaaTrW
import Derived.Test.YtlmbkmjjiebpbaaTrC
import Derived.Test.YtlmbkmjjiebpbaaTrS
namespace Go.Proofs.Ytlmbkmjjiebpbaa
open Go.RowKit
set_option linter.unusedVariables false

/-- The arena at block g, within S: n nodes, the sequences L. -/
def Ar (w : World) (g : Nat) (S : Nat → Prop) (n : Nat) (L : List (List Nat)) : Prop :=
  ∃ (f : Nat → Nd) (ts : List Tr) (sd : Int) (v : Value), w.cell? ⟨g, 0, none⟩ = some v ∧ w.cell? ⟨g, 1, none⟩ = some (.int .u64 sd) ∧ w.frozen? ⟨g, 0, none⟩ = false ∧ w.frozen? ⟨g, 1, none⟩ = false ∧
    w.ownsRow 0 51 5 v n (rowOf f n) ∧ Forest f n ts ∧ L = seqs ts ∧ n ≤ 1048576 ∧ S g ∧ (∀ k, v.ownBlock = some k → S k ∧ k ≠ g)

theorem Ar.drew {w : World} {g : Nat} {S : Nat → Prop} {n : Nat} {L : List (List Nat)} (h : Ar w g S n L) : Ar w.drew g S n L := h
theorem Ar.drewN {w : World} {g : Nat} {S : Nat → Prop} {n : Nat} {L : List (List Nat)} (h : Ar w g S n L) (k : Nat) : Ar (w.drewN k) g S n L := h
theorem Ar.mod {w w' : World} {g : Nat} {S T : Nat → Prop} {n : Nat} {L : List (List Nat)} (h : Ar w g S n L) (hm : Mod w w' T) (hT : ∀ k, S k → ¬ T k) : Ar w' g S n L := by
  obtain ⟨f, ts, sd, v, c0, c1, f0, f1, hr, hF, hL, hn, hg, hv⟩ := h
  have hgl := World.block_lt_of_cell? _ _ c0
  refine ⟨f, ts, sd, v, (hm.cell hgl (hT g hg)).trans c0, (hm.cell (p := ⟨g, 1, none⟩) hgl (hT g hg)).trans c1, (hm.frozen hgl (hT g hg)).trans f0, (hm.frozen (p := ⟨g, 1, none⟩) hgl (hT g hg)).trans f1, hm.row hr (fun k hk => hT k (hv k hk).1), hF, hL, hn, hg, hv⟩
theorem Ar.mono {w : World} {g : Nat} {S T : Nat → Prop} {n : Nat} {L : List (List Nat)} (h : Ar w g S n L) (hT : ∀ k, S k → T k) : Ar w g T n L := by
  obtain ⟨f, ts, sd, v, c0, c1, f0, f1, hr, hF, hL, hn, hg, hv⟩ := h
  exact ⟨f, ts, sd, v, c0, c1, f0, f1, hr, hF, hL, hn, hT g hg, fun k hk => ⟨hT k (hv k hk).1, (hv k hk).2⟩⟩
theorem Ar.head {w : World} {g : Nat} {S : Nat → Prop} {n : Nat} {L : List (List Nat)} (h : Ar w g S n L) : ∃ a cap, w.cell? ⟨g, 0, none⟩ = some (.slice a n cap) := by
  obtain ⟨f, ts, sd, v, c0, c1, f0, f1, hr, _⟩ := h
  obtain ⟨a, cap, rfl⟩ := row_form hr
  exact ⟨a, cap, c0⟩
theorem Ar.out {w : World} {g : Nat} {S : Nat → Prop} {n : Nat} {L : List (List Nat)} (h : Ar w g S n L) {x : Int} (hx : ¬ (0 ≤ x ∧ x < n)) : fnd L x = none := by
  obtain ⟨f, ts, sd, v, c0, c1, f0, f1, hr, hF, rfl, _⟩ := h
  exact hF.out hx

/-- What an arena with nodes is, and how it is made again. -/
structure Opened (w : World) (g : Nat) (S : Nat → Prop) (n : Nat) (L : List (List Nat)) (b cap : Nat) (f : Nat → Nd) (ts : List Tr) : Prop where
  inn : In w g b n cap f
  forest : Forest f n ts
  seq : L = seqs ts
  sg : S g
  sb : S b
  again : ∀ (w' : World) (f' : Nat → Nd) (ts' : List Tr) (T : Nat → Prop), In w' g b n cap f' → Mod w w' (OneB b) → Forest f' n ts' → T g → T b → Ar w' g T n (seqs ts')

theorem Ar.open {w : World} {g : Nat} {S : Nat → Prop} {n : Nat} {L : List (List Nat)} (h : Ar w g S n L) (hn : 0 < n) : ∃ b cap f ts, Opened w g S n L b cap f ts := by
  obtain ⟨f, ts, sd, v, c0, c1, f0, f1, hr, hF, hL, htop, hg, hv⟩ := h
  obtain ⟨b, cap, rfl, _⟩ := row_open hr hn
  have hb := hv b rfl
  have hgl := World.block_lt_of_cell? _ _ c0
  refine ⟨b, cap, f, ts, ⟨c0, hr, hb.2, htop⟩, hF, hL, hg, hb.1, fun w' f' ts' T hI hm hF' hTg hTb => ?_⟩
  have hgb : ¬ OneB b g := fun e => hb.2 e.symm
  exact ⟨f', ts', sd, _, hI.c0, (hm.cell (p := ⟨g, 1, none⟩) hgl hgb).trans c1, (hm.frozen hgl hgb).trans f0, (hm.frozen (p := ⟨g, 1, none⟩) hgl hgb).trans f1, hI.row, hF', rfl, htop, hTg, fun k hk => by
    simp [Value.ownBlock] at hk; subst hk; exact ⟨hTb, hb.2⟩⟩

theorem has_in {w : World} {g n cap : Nat} {a : Option Addr} {z : Int} (c0 : w.cell? ⟨g, 0, none⟩ = some (.slice a n cap)) (h0 : 0 ≤ z) (h1 : z < n) :
    Calls Try.prog 25 #[.pointer (some ⟨g, 0, none⟩), .int .i64 z] w fun e w' => e = .returned (.bool true) ∧ w = w' := by
  have := has_any w g n cap a z c0
  rwa [show decide (0 ≤ z ∧ z < n) = true by simp [h0, h1]] at this
theorem has_out {w : World} {g n cap : Nat} {a : Option Addr} {z : Int} (c0 : w.cell? ⟨g, 0, none⟩ = some (.slice a n cap)) (h0 : ¬ (0 ≤ z ∧ z < n)) :
    Calls Try.prog 25 #[.pointer (some ⟨g, 0, none⟩), .int .i64 z] w fun e w' => e = .returned (.bool false) ∧ w = w' := by
  have := has_any w g n cap a z c0
  rwa [show decide (0 ≤ z ∧ z < n) = false by simp only [decide_eq_false_iff_not]; exact h0] at this

theorem same_any (w : World) (g : Nat) (S : Nat → Prop) (n : Nat) (L : List (List Nat)) (x y : Int) (hA : Ar w g S n L) :
    Calls Try.prog 15 #[.pointer (some ⟨g, 0, none⟩), .int .i64 x, .int .i64 y] w fun e w' => e = .returned (.bool (same L x y)) ∧ w = w' := by
  obtain ⟨a, cap, c0⟩ := hA.head
  by_cases hx : 0 ≤ x ∧ x < n
  · by_cases hy : 0 ≤ y ∧ y < n
    · obtain ⟨b, cap, f, ts, hO⟩ := hA.open (by omega)
      obtain ⟨x', i, t, rfl, ht, hxt, hfx, hxn⟩ := hO.forest.one hx.1 hx.2
      obtain ⟨y', j, u, rfl, hu, hyu, hfy, hyn⟩ := hO.forest.one hy.1 hy.2
      have hwt := hO.forest.whole i t ht
      have hwu := hO.forest.whole j u hu
      have hrt := hO.forest.roots ht hu (fun e => by rw [e] at hxt; simp at hxt)
      have hI := Lib.hid hO.inn
      have HT := Lib.hid (And.intro hwt hxt)
      have HU := Lib.hid (And.intro hwu hyu)
      have hres : same L x' y' = (t.root == u.root) := by
        rw [hO.seq]; unfold same; rw [hfx, hfy]
        by_cases e : i = j
        · simp [e, hrt.2 e]
        · simp [e, mt hrt.1 e]
      rw [hres]
      clear hres hrt hwt hwu hxt hyu hfx hfy ht hu hO
      go_enter Try.func15, Try.ntmps15
      go_wp2_with fail
      refine (has_in c0 hx.1 hx.2).mono ?_
      rintro e w1 ⟨rfl, rfl⟩
      go_wp2_with fail
      refine (has_in c0 hy.1 hy.2).mono ?_
      rintro e w1 ⟨rfl, rfl⟩
      go_wp2_with fail
      refine (root_any _ _ _ _ _ _ _ _ hI.out HT.out.1 HT.out.2).mono ?_
      rintro e w1 ⟨rfl, rfl⟩
      go_wp2_with fail
      refine (root_any _ _ _ _ _ _ _ _ hI.out HU.out.1 HU.out.2).mono ?_
      rintro e w1 ⟨rfl, rfl⟩
      go_wp2_with fail
      go_ret
      exact ⟨rfl, rfl⟩
    · have hres : same L x y = false := by
        unfold same; rw [hA.out hy]; cases fnd L x <;> rfl
      rw [hres]
      clear hres hA
      go_enter Try.func15, Try.ntmps15
      go_wp2_with fail
      refine (has_in c0 hx.1 hx.2).mono ?_
      rintro e w1 ⟨rfl, rfl⟩
      go_wp2_with fail
      refine (has_out c0 hy).mono ?_
      rintro e w1 ⟨rfl, rfl⟩
      go_wp2_with fail
      go_ret
      exact ⟨rfl, rfl⟩
  · have hres : same L x y = false := by
      unfold same; rw [hA.out hx]
    rw [hres]
    clear hres hA
    go_enter Try.func15, Try.ntmps15
    go_wp2_with fail
    refine (has_out c0 hx).mono ?_
    rintro e w1 ⟨rfl, rfl⟩
    go_wp2_with fail
    go_ret
    exact ⟨rfl, rfl⟩

theorem len_any (w : World) (g : Nat) (S : Nat → Prop) (n : Nat) (L : List (List Nat)) (x : Int) (hA : Ar w g S n L) :
    Calls Try.prog 19 #[.pointer (some ⟨g, 0, none⟩), .int .i64 x] w fun e w' => e = .returned (.int .i64 (lst L x).length) ∧ w = w' := by
  obtain ⟨a, cap, c0⟩ := hA.head
  by_cases hx : 0 ≤ x ∧ x < n
  · obtain ⟨b, cap, f, ts, hO⟩ := hA.open (by omega)
    obtain ⟨x', i, t, rfl, ht, hxt, hfx, hxn⟩ := hO.forest.one hx.1 hx.2
    have hwt := hO.forest.whole i t ht
    have hI := Lib.hid hO.inn
    have HT := Lib.hid (And.intro hwt hxt)
    have hres : ((lst L x').length : Int) = sz f t.root := by
      rw [hO.seq]; unfold lst; rw [hfx]; simp only [seqs_get ht]; exact hwt.tree.sz.symm
    have hok := Lib.hid (Ok.root hwt.lt)
    rw [hres]
    clear hres hwt hxt hfx ht hO
    go_enter Try.func19, Try.ntmps19
    go_wp2_with fail
    refine (has_in c0 hx.1 hx.2).mono ?_
    rintro e w1 ⟨rfl, rfl⟩
    go_wp2_with fail
    refine (root_any _ _ _ _ _ _ _ _ hI.out HT.out.1 HT.out.2).mono ?_
    rintro e w1 ⟨rfl, rfl⟩
    go_wp2_with fail
    refine (size_any _ _ _ _ _ _ _ hI.out hok.out).mono ?_
    rintro e w1 ⟨rfl, rfl⟩
    go_wp2_with fail
    go_ret
    exact ⟨rfl, rfl⟩
  · have hres : lst L x = [] := by unfold lst; rw [hA.out hx]
    rw [hres]
    clear hres hA
    go_enter Try.func19, Try.ntmps19
    go_wp2_with fail
    refine (has_out c0 hx).mono ?_
    rintro e w1 ⟨rfl, rfl⟩
    go_wp2_with fail
    go_ret
    exact ⟨rfl, rfl⟩

/-- A list that came out: a new row, nothing else changed. -/
def ListPost (w w' : World) (v : Value) (l : List Nat) : Prop := WalkPost w w' (.slice none 0 0) v l

theorem list_any (w : World) (g : Nat) (S : Nat → Prop) (n : Nat) (L : List (List Nat)) (x : Int) (hA : Ar w g S n L) :
    Calls Try.prog 22 #[.pointer (some ⟨g, 0, none⟩), .int .i64 x] w fun e w' => ∃ v, e = .returned v ∧ ListPost w w' v (lst L x) := by
  obtain ⟨a, cap, c0⟩ := hA.head
  by_cases hx : 0 ≤ x ∧ x < n
  · obtain ⟨b, cap, f, ts, hO⟩ := hA.open (by omega)
    obtain ⟨x', i, t, rfl, ht, hxt, hfx, hxn⟩ := hO.forest.one hx.1 hx.2
    have hwt := hO.forest.whole i t ht
    have hI := Lib.hid hO.inn
    have HT := Lib.hid (And.intro hwt hxt)
    have hres : lst L x' = [] ++ t.ids := by
      rw [hO.seq]; unfold lst; rw [hfx]; simp only [seqs_get ht]; simp
    have hlen : ([] : List Nat).length + t.ids.length ≤ 1048576 := by
      have := nodup_len n _ hwt.nd hwt.lt; have := hO.inn.top; simp; omega
    rw [hres]
    clear hres hwt hxt hfx ht hO
    go_enter Try.func22, Try.ntmps22
    go_wp2_with fail
    refine (has_in c0 hx.1 hx.2).mono ?_
    rintro e w1 ⟨rfl, rfl⟩
    go_wp2_with fail
    refine (root_any _ _ _ _ _ _ _ _ hI.out HT.out.1 HT.out.2).mono ?_
    rintro e w1 ⟨rfl, rfl⟩
    go_wp2_with fail
    refine (walk_any g b n cap t _ f (.slice none 0 0) [] ⟨hI.out, HT.out.1.tree, HT.out.1.nd, HT.out.1.lt⟩ (World.ownsRow_nil _ _ _ _) hlen ⟨by simp [Value.ownBlock], by simp [Value.ownBlock]⟩).mono ?_
    rintro e w1 ⟨v, rfl, h1⟩
    have H1 := Lib.hid h1
    clear h1
    go_wp2_with fail
    go_ret
    exact ⟨_, rfl, H1.out⟩
  · have hres : lst L x = [] := by unfold lst; rw [hA.out hx]
    rw [hres]
    clear hres hA
    go_enter Try.func22, Try.ntmps22
    go_wp2_with fail
    refine (has_out c0 hx).mono ?_
    rintro e w1 ⟨rfl, rfl⟩
    go_wp2_with fail
    go_ret
    exact ⟨_, rfl, World.ownsRow_nil _ _ _ _, Mod.refl _ _, fun k hk => Or.inl hk⟩
end Go.Proofs.Ytlmbkmjjiebpbaa
