/- The contracts of New and Node. -/
import Derived.Test.YtlmbkmjjiebpbaaTrG
import Derived.Test.YtlmbkmjjiebpbaaArgs
import Derived.Deep.DeepCutAuto
import Derived.Deep.CutBlock
import Derived.Laws.Small
import Derived.Deep.RegionLaw
namespace Go.Proofs.Ytlmbkmjjiebpbaa
open Go.RowKit
set_option linter.unusedVariables false

theorem tnew_any (w : World) (s : Int) :
    Calls Try.prog 8 #[.int .u64 s] w fun e w' => e = .returned (.pointer (some ⟨w.heap.size, 0, none⟩)) ∧ Ar w' w.heap.size (OneB w.heap.size) 0 [] ∧ Mod w w' NoB ∧ w'.heap.size = w.heap.size + 1 := by
  go_enter Try.func8, Try.ntmps8
  go_wp2_with fail
  all_goals
    go_ret
    refine ⟨rfl, ⟨fun _ => ⟨0, 0, 0, 0, 0⟩, [], _, _, World.cell?_alloc_at _ _ _ _ rfl, World.cell?_alloc_at _ _ _ _ rfl, by simp, by simp, World.ownsRow_nil _ _ _ _, Forest.empty _, rfl, by omega, rfl, by simp [Value.ownBlock]⟩, (Mod.refl _ _).alloc _, by simp⟩

theorem info_node : (Try.prog.info? 51).map (fun i => (i.zero, i.size, i.bytes)) = some (some (.agg #[.int .i64 0, .int .i64 0, .int .i64 0, .int .i64 0, .int .u64 0]), 5, 40) := by kernel_rfl

/-- The arena ahead of its growing: the seed alone changes. -/
structure Mid (w w' : World) (g n : Nat) (a : Option Addr) (cap : Nat) (f : Nat → Nd) (s : Int) : Prop where
  c0 : w'.cell? ⟨g, 0, none⟩ = some (.slice a n cap)
  c1 : w'.cell? ⟨g, 1, none⟩ = some (.int .u64 s)
  f0 : w'.frozen? ⟨g, 0, none⟩ = false
  f1 : w'.frozen? ⟨g, 1, none⟩ = false
  row : w'.ownsRow 0 51 5 (.slice a n cap) n (rowOf f n)
  mod : Mod w w' (OneB g)

theorem Mid.set {w w' : World} {g n : Nat} {a : Option Addr} {cap : Nat} {f : Nat → Nd} {s : Int} (h : Mid w w' g n a cap f s) (hne : ∀ k, (Value.slice a n cap).ownBlock = some k → k ≠ g) (s' : Int) :
    Mid w (w'.setCell ⟨g, 1, none⟩ (.int .u64 s')) g n a cap f s' := by
  refine ⟨?_, World.cell?_setCell_same _ _ _ h.c1, ?_, ?_, ?_, h.mod.setG _⟩
  · rw [World.cell?_setCell_other _ _ _ _ (by simp)]; exact h.c0
  · rw [World.frozen?_setCell]; exact h.f0
  · rw [World.frozen?_setCell]; exact h.f1
  · exact (Mod.set1 w' g 1 _).row h.row (fun k hk e => hne k hk e)
theorem Mid.drew {w w' : World} {g n : Nat} {a : Option Addr} {cap : Nat} {f : Nat → Nd} {s : Int} (h : Mid w w' g n a cap f s) : Mid w w'.drew g n a cap f s := ⟨h.c0, h.c1, h.f0, h.f1, h.row, h.mod.drew⟩

/-- The nodes behind a new one. -/
def addN (f : Nat → Nd) (n : Nat) (s : Int) : Nat → Nd := fun y => if y = n then ⟨-1, -1, -1, 1, s⟩ else f y
theorem rowOf_add (f : Nat → Nd) (n : Nat) (s : Int) : rowOf (addN f n s) (n + 1) = rowOf f n ++ [.int .i64 (-1), .int .i64 (-1), .int .i64 (-1), .int .i64 1, .int .u64 s] := by
  simp only [rowOf]
  rw [rowOf_congr (f := f) (f' := addN f n s) (fun x hx => by unfold addN; rw [if_neg (by omega)])]
  simp [addN, ndCells]

/-- The five cells of a new node. -/
def fresh5 (s : Int) : List Value := [.int .i64 (-1), .int .i64 (-1), .int .i64 (-1), .int .i64 1, .int .u64 s]

/-- Behind the append. -/
structure Grew (w w1 w2 : World) (g n : Nat) (a : Option Addr) (cap g1 cap1 : Nat) (f : Nat → Nd) (s : Int) : Prop where
  c0 : w2.cell? ⟨g, 0, none⟩ = some (.slice a n cap)
  f0 : w2.frozen? ⟨g, 0, none⟩ = false
  c1 : w2.cell? ⟨g, 1, none⟩ = some (.int .u64 s)
  f1 : w2.frozen? ⟨g, 1, none⟩ = false
  row : w2.ownsRow 0 51 5 (.slice (some ⟨g1, 0, none⟩) (n + 1) cap1) (n + 1) (rowOf (addN f n s) (n + 1))
  gr : (Value.slice a n cap).ownBlock = some g1 ∨ w.heap.size ≤ g1
  mod : Mod w w2 (fun k => k = g ∨ (Value.slice a n cap).ownBlock = some k)
  lt : g1 < w2.heap.size

theorem Mid.grew {w w1 w2 : World} {g n : Nat} {a : Option Addr} {cap g1 cap1 : Nat} {f : Nat → Nd} {s : Int} {o : Obj} (h : Mid w w1 g n a cap f s) (hne : ∀ k, (Value.slice a n cap).ownBlock = some k → k ≠ g) (hgl : g < w.heap.size)
    (hown : w2.ownsRow 0 51 5 (.slice (some ⟨g1, 0, none⟩) (n + 1) cap1) (n + 1) (rowOf f n ++ fresh5 s)) (hg0 : (w1.alloc o).drew.grownBy w2 (Value.slice a n cap).ownBlock) (hat : (Value.slice a n cap).ownBlock = some g1 ∨ g1 = (w1.alloc o).heap.size) (hlt : g1 < w2.heap.size) :
    Grew w w1 w2 g n a cap g1 cap1 f s := by
  have hsz := h.mod.size
  have hg : (w1.alloc o).grownBy w2 (Value.slice a n cap).ownBlock := ⟨hg0.os, hg0.tape, hg0.output, hg0.size, hg0.block⟩
  have hblk : w2.heap[g]? = w1.heap[g]? := by
    rw [hg.block g (by simp; omega) (fun e => hne g e.symm rfl)]
    exact Below.heap_alloc w1 o g (by omega)
  refine ⟨(World.cell?_of_block (w := w1) hblk).trans h.c0, (World.frozen?_of_block (w := w1) hblk).trans h.f0, (World.cell?_of_block (w := w1) hblk).trans h.c1, (World.frozen?_of_block (w := w1) hblk).trans h.f1, by rw [rowOf_add]; exact hown, ?_, ?_, hlt⟩
  · rcases hat with e | e
    · exact Or.inl e
    · right; simp at e; omega
  · exact ((h.mod.mono (fun k _ hk => Or.inl hk)).alloc o).grown hg (fun k hk _ => Or.inr hk)

theorem Grew.post {w w1 w2 : World} {g n : Nat} {a : Option Addr} {cap g1 cap1 : Nat} {f : Nat → Nd} {s : Int} {S : Nat → Prop} {ts : List Tr} (h : Grew w w1 w2 g n a cap g1 cap1 f s) (hv : ∀ k, (Value.slice a n cap).ownBlock = some k → S k ∧ k ≠ g) (hsg : S g) (hF : Forest f n ts) (hn : n < 1048576) (hgl : g < w.heap.size) :
    ArPost w (w2.setCell ⟨g, 0, none⟩ (.slice (some ⟨g1, 0, none⟩) (n + 1) cap1)) g S (n + 1) (seqs ts ++ [[n]]) := by
  obtain ⟨hF', hS⟩ := hF.node (f' := addN f n s) (fun y hy => by unfold addN; rw [if_neg (by omega)]) (by simp [addN]) (by simp [addN]) (by simp [addN]) (by simp [addN])
  have hne : g1 ≠ g := by
    rcases h.gr with e | e
    · exact (hv _ e).2
    · omega
  have hm : Mod w2 (w2.setCell ⟨g, 0, none⟩ (.slice (some ⟨g1, 0, none⟩) (n + 1) cap1)) (OneB g) := Mod.set1 _ _ _ _
  have hm2 := h.mod.trans hm (fun k _ hk => Or.inl hk)
  rw [← hS]
  refine ⟨⟨addN f n s, _, s, _, World.cell?_setCell_same _ _ _ h.c0, ?_, ?_, ?_, hm.row h.row (fun k hk e => ?_), hF', rfl, by omega, Or.inl hsg, fun k hk => ?_⟩, hm2.mono (fun k _ hk => ?_)⟩
  · rw [World.cell?_setCell_other _ _ _ _ (by simp)]; exact h.c1
  · rw [World.frozen?_setCell]; exact h.f0
  · rw [World.frozen?_setCell]; exact h.f1
  · simp [Value.ownBlock] at hk; subst hk; exact hne e
  · simp [Value.ownBlock] at hk
    subst hk
    refine ⟨?_, hne⟩
    rcases h.gr with e | e
    · exact Or.inl (hv _ e).1
    · exact Or.inr ⟨e, by have := h.lt; simpa [World.setCell] using this⟩
  · rcases hk with rfl | hk
    · exact hsg
    · exact (hv _ hk).1

set_option maxHeartbeats 2000000 in
theorem tnode_any (w : World) (g : Nat) (S : Nat → Prop) (n : Nat) (L : List (List Nat)) (hA : Ar w g S n L) (hn : n < 1048576) :
    Calls Try.prog 9 #[.pointer (some ⟨g, 0, none⟩)] w fun e w' => e = .returned (.int .i64 n) ∧ ArPost w w' g S (n + 1) (L ++ [[n]]) := by
  obtain ⟨f, ts, sd, v, c0, c1, f0, f1, hr, hF, hL, htop, hsg, hv⟩ := hA
  have hg : g < w.heap.size := World.block_lt_of_cell? _ _ c0
  obtain ⟨a, cap, rfl⟩ := row_form hr
  obtain ⟨i0, hi, hz0, hz1, hz2⟩ := info_parts info_node
  have hd : decide ((1048576 : Int) ≤ (n : Int)) = false := by simp; omega
  have hB1 : n + 1 ≤ maxLen := by unfold maxLen; omega
  have hB2 : (n + 1) * 40 ≤ 140737488355328 := by omega
  have HF := Lib.hid hF
  have HL := Lib.hid hL
  have HM := Lib.hid (Mid.mk c0 c1 f0 f1 hr (Mod.refl w (OneB g)))
  have HN := Lib.hid (show ∀ k, (Value.slice a n cap).ownBlock = some k → k ≠ g from fun k hk => (hv k hk).2)
  have HV := Lib.hid hv
  clear hF hL hr hv
  go_enter Try.func9, Try.ntmps9
  go_upto_region 3 with (fail)
  go_cut [0] (fun v wc => v = .pointer (some ⟨g, 0, none⟩) ∧ ∃ s, Hid (Mid w wc g n a cap f s))
  case first =>
    go_wp2_with fail
    go_region
    go_wp2_with fail
    go_meet
    case rel => exact ⟨rfl, _, (HM.out.set HN.out _).drew⟩
  case rest =>
    obtain ⟨rfl, s1, H1⟩ := hcut
    clear c0 c1 f0 f1
    obtain ⟨c0, c1, f0, f1, _, _⟩ := id H1.out
    go_upto_region 4 with (fail)
    go_cut [0] (fun v wc => v = .pointer (some ⟨g, 0, none⟩) ∧ ∃ s, Hid (Mid w wc g n a cap f s))
    case first =>
      go_wp2_with fail
      go_region
      go_wp2_with fail
      go_meet
      case rel => exact ⟨rfl, _, (H1.out.set HN.out _).drew⟩
    case rest =>
      obtain ⟨rfl, s2, H2⟩ := hcut
      clear c0 c1 f0 f1
      obtain ⟨c0, c1, f0, f1, _, _⟩ := id H2.out
      go_upto_region 5 with (fail)
      go_cut [0] (fun v wc => v = .pointer (some ⟨g, 0, none⟩) ∧ ∃ s, Hid (Mid w wc g n a cap f s))
      case first =>
        go_wp2_with fail
        go_region
        go_wp2_with fail
        go_meet
        case rel => exact ⟨rfl, _, (H2.out.set HN.out _).drew⟩
      case rest =>
        obtain ⟨rfl, s3, H3⟩ := hcut
        clear c0 c1 f0 f1 H1 H2 HM
        obtain ⟨c0, c1, f0, f1, _, _⟩ := id H3.out
        have hg3 := World.block_lt_of_cell? _ _ c0
        have hone : ∀ u ∈ fresh5 s3, u.oneCell' = true := by simp [fresh5, Value.oneCell']
        go_upto_region 6 with (fail)
        go_region_law (refine step_append_lies _ rfl _ _ 46 rfl 0 51 i0 _ 5 40 Try.underlying46 hi hz0 hz1 hz2 rfl (by decide) (.slice a n cap) n _ rfl (H3.out.row.alloc _) ⟨_, 0, none⟩ 1 1 (fresh5 s3) rfl rfl (World.news_of_block (MapKept.heap_alloc _ _).1) hone (by decide) hB1 hB2 (Nat.zero_le _) _ rfl ?_; intro g1 cap1 w1 hown1 hgrow1 hat1 hlt1; have hG := H3.out.grew HN.out hg hown1 hgrow1 hat1 hlt1; have d0 := hG.c0; have d1 := hG.f0; have HG := Lib.hid hG; clear hown1 hgrow1 hat1 hlt1 hG)
        all_goals
          go_wp2_with fail
          go_ret
          exact ⟨rfl, by rw [HL.out]; exact HG.out.post HV.out hsg HF.out hn hg⟩
end Go.Proofs.Ytlmbkmjjiebpbaa
