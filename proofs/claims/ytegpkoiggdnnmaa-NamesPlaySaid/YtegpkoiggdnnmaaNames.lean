/- The contracts of package names. -/
import Derived.Test.YtegpkoiggdnnmaaProg
import Derived.Test.YtegpkoiggdnnmaaMem
import Derived.WalkSpells
import Derived.Outline
import Derived.Deep.QuietTactic
import Derived.BigQuiet
import Derived.Deep.RegionLaw
import Derived.Deep.RegionHeld3
namespace Go.Proofs.Ytegpkoiggdnnmaa
open Go.RowKit Go.Maps Go.ChangeMaps

theorem mixed : Try.prog.follows .mixedOrders = true := by kernel_rfl
theorem info_u32 : (Try.prog.info? 29).map (fun i => (i.zero, i.size, i.bytes)) = some (some (.int .u32 0), 1, 4) := by kernel_rfl
theorem key_u32 : Keyed Try.prog 29 := int_keyed Try.underlying29
theorem zero_int (w : World) : (zeroValue 3).run Try.prog w = .ok (.int .i64 0) w := by kernel_rfl

/-- The number of a name, as the map has it. -/
def fidx (l : List Int) : Value → Option Value
  | .int .u32 a => if a ∈ l then some (.int .i64 (l.idxOf a)) else none
  | _ => none

/-- Names at block g, within S: the list l. -/
def NRep (w : World) (g : Nat) (S : Nat → Prop) (l : List Int) : Prop :=
  ∃ bm v, w.cell? ⟨g, 0, none⟩ = some (.map (some bm)) ∧ w.cell? ⟨g, 1, none⟩ = some v ∧ w.frozen? ⟨g, 0, none⟩ = false ∧ w.frozen? ⟨g, 1, none⟩ = false ∧
    w.ownsRow 0 29 1 v l.length (l.map (Value.int .u32)) ∧ MapOf Try.prog 29 w bm l.length (fidx l) ∧
    S g ∧ S bm ∧ (∀ k, v.ownBlock = some k → S k) ∧ bm ≠ g ∧ (∀ k, v.ownBlock = some k → k ≠ g ∧ k ≠ bm)

theorem new_any (w : World) : Calls Try.prog 7 #[] w fun e w' => e = .returned (.pointer (some ⟨w.heap.size + 1, 0, none⟩)) ∧ NRep w' (w.heap.size + 1) (Fresh NoB w w') [] ∧ Mod w w' NoB := by
  have hmm := @run_makeMap Try.prog
  go_enter Try.func7, Try.ntmps7
  go_wp2
  go_ret
  refine ⟨rfl, ⟨w.heap.size, .slice none 0 0, ?_⟩, ((Mod.refl _ _).alloc _).alloc _⟩
  refine ⟨by simp, by simp, by simp, by simp, World.ownsRow_nil _ _ _ _, ?_, Or.inr ⟨by simp, by simp⟩, Or.inr ⟨by simp, Nat.lt_of_lt_of_eq (Nat.lt_add_of_pos_right (k := 2) (by omega)) (by simp)⟩, by simp [Value.ownBlock], by simp, by simp [Value.ownBlock]⟩
  exact ((MapOf.made w Try.prog 29).mod ((Mod.refl _ NoB).alloc _) (by simp [NoB])).ext (fun x => by cases x <;> first | rfl | (rename_i k _; cases k <;> simp [fidx]))

/-- What Find tells. -/
def fres (l : List Int) (v : Int) : Value := .tuple #[.int .i64 (if v ∈ l then (l.idxOf v : Int) else 0), .bool (decide (v ∈ l))]
theorem fres_in {l : List Int} {v : Int} {k : Nat} (h : v ∈ l) (hk : l.idxOf v = k) : fres l v = .tuple #[.int .i64 k, .bool true] := by simp [fres, h, hk]
theorem fres_out {l : List Int} {v : Int} (h : v ∉ l) : fres l v = .tuple #[.int .i64 0, .bool false] := by simp [fres, h]

theorem find_any (w : World) (g : Nat) (S : Nat → Prop) (l : List Int) (v : Int) (h : NRep w g S l) (hv : (Lit.int .u32 v).wf = true) :
    Calls Try.prog 11 #[.pointer (some ⟨g, 0, none⟩), .int .u32 v] w fun e w' => e = .returned (fres l v) ∧ w = w' := by
  obtain ⟨bm, sv, c0, c1, f0, f1, hrow, hmap, _⟩ := h
  have hrun := hmap.look key_u32 Try.underlying40 (zero_int w) (keyOf_int_mk Try.underlying29 hv) true
  by_cases hin : v ∈ l
  · have hf : fidx l (.int .u32 v) = some (.int .i64 (l.idxOf v)) := by simp [fidx, hin]
    rw [hf] at hrun
    simp only [if_true, Option.getD_some, Option.isSome_some] at hrun
    clear hrow hmap
    go_enter Try.func11, Try.ntmps11
    go_wp2
    go_ret2
    exact ⟨(fres_in hin rfl ▸ rfl), rfl⟩
  · have hf : fidx l (.int .u32 v) = none := by simp [fidx, hin]
    rw [hf] at hrun
    simp only [if_true, Option.getD_none, Option.isSome_none] at hrun
    clear hrow hmap
    go_enter Try.func11, Try.ntmps11
    go_wp2
    go_ret2
    exact ⟨(fres_out hin ▸ rfl), rfl⟩

theorem len_any (w : World) (g : Nat) (S : Nat → Prop) (l : List Int) (h : NRep w g S l) :
    Calls Try.prog 10 #[.pointer (some ⟨g, 0, none⟩)] w fun e w' => e = .returned (.int .i64 l.length) ∧ w = w' := by
  obtain ⟨bm, sv, c0, c1, f0, f1, hrow, hmap, _⟩ := h
  obtain ⟨a0, cap, rfl⟩ : ∃ a cap, sv = .slice a l.length cap := by
    rcases hrow.2 with ⟨rfl, h0⟩ | ⟨gg, cap, cur, rfl, _⟩
    · exact ⟨none, 0, by rw [h0]⟩
    · exact ⟨_, _, rfl⟩
  clear hrow hmap
  go_enter Try.func10, Try.ntmps10
  go_wp2
  go_ret
  exact ⟨rfl, rfl⟩

theorem of_old (w : World) (g : Nat) (S : Nat → Prop) (l : List Int) (v : Int) (h : NRep w g S l) (hv : (Lit.int .u32 v).wf = true) (hin : v ∈ l) :
    Calls Try.prog 8 #[.pointer (some ⟨g, 0, none⟩), .int .u32 v] w fun e w' => e = .returned (.int .i64 (l.idxOf v)) ∧ w = w' := by
  obtain ⟨bm, sv, c0, c1, f0, f1, hrow, hmap, _⟩ := h
  have hrun := hmap.look key_u32 Try.underlying40 (zero_int w) (keyOf_int_mk Try.underlying29 hv) true
  have hf : fidx l (.int .u32 v) = some (.int .i64 (l.idxOf v)) := by simp [fidx, hin]
  rw [hf] at hrun
  simp only [if_true, Option.getD_some, Option.isSome_some] at hrun
  clear hrow hmap
  go_enter Try.func8, Try.ntmps8
  go_wp2
  go_ret
  exact ⟨rfl, rfl⟩


/-- Behind the append of 'n.of[v], n.l = i, append(n.l, v)': what the entry's finding and its store come to. -/
theorem of_after (w w1 : World) (g bm : Nat) (S : Nat → Prop) (l : List Int) (v : Int) (a0 : Option Addr) (cap : Nat) (g1 cap1 : Nat) (x : Value) (hv : (Lit.int .u32 v).wf = true) (hin : v ∉ l) (hS : ∀ k, S k → k < w.heap.size)
    (c0 : w.cell? ⟨g, 0, none⟩ = some (.map (some bm))) (c1 : w.cell? ⟨g, 1, none⟩ = some x) (f0 : w.frozen? ⟨g, 0, none⟩ = false) (f1 : w.frozen? ⟨g, 1, none⟩ = false)
    (hmap : MapOf Try.prog 29 w bm l.length (fidx l)) (hSg : S g) (hSb : S bm) (hSv : ∀ k, (Value.slice a0 l.length cap).ownBlock = some k → S k) (hbg : bm ≠ g) (hdis : ∀ k, (Value.slice a0 l.length cap).ownBlock = some k → k ≠ g ∧ k ≠ bm) (o : Obj)
    (hown : w1.ownsRow 0 29 1 (.slice (some ⟨g1, 0, none⟩) (l.length + 1) cap1) (l.length + 1) (l.map (Value.int .u32) ++ [.int .u32 v]))
    (hgrow : (w.alloc o).drew.grownBy w1 (Value.slice a0 l.length cap).ownBlock) (hat : (Value.slice a0 l.length cap).ownBlock = some g1 ∨ g1 = w.heap.size + 1) (hlt : g1 < w1.heap.size) :
    w1.cell? ⟨g, 0, none⟩ = some (.map (some bm)) ∧ ∃ (st : Nat) (w2 w3 : World), (Instr.mapEntry 40 (.map (some bm)) (.int .u32 v)).run Try.prog w1 = .ok (.tuple #[.int .i64 0, .int .i64 st]) w2 ∧
      (Instr.entryStore 40 (.map (some bm)) (.int .i64 st) (.int .i64 l.length)).run Try.prog w2 = .ok () w3 ∧
      w3.cell? ⟨g, 1, none⟩ = some x ∧ w3.frozen? ⟨g, 1, none⟩ = false ∧
      Hid (NRep (w3.setCell ⟨g, 1, none⟩ (.slice (some ⟨g1, 0, none⟩) (l.length + 1) cap1)) g (Fresh S w (w3.setCell ⟨g, 1, none⟩ (.slice (some ⟨g1, 0, none⟩) (l.length + 1) cap1))) (l ++ [v]) ∧
      Mod w (w3.setCell ⟨g, 1, none⟩ (.slice (some ⟨g1, 0, none⟩) (l.length + 1) cap1)) S) := by
  have hgl := hS g hSg
  have hM1 : Mod w w1 S := (((Mod.refl w S).alloc o).drew).grown hgrow (fun k hk _ => hSv k hk)
  have key : ∀ b, b < w.heap.size → (∀ k, (Value.slice a0 l.length cap).ownBlock = some k → k ≠ b) → w1.heap[b]? = w.heap[b]? := fun b hb hn => by
    have h1 := hgrow.block b (by simp; omega) (fun e => hn b e.symm rfl)
    rw [h1]; exact Below.heap_alloc w o b hb
  have hg1g : g1 ≠ g := by
    rcases hat with h | h
    · exact (hdis _ h).1
    · omega
  have hbl := hS bm hSb
  have hg1b : g1 ≠ bm := by
    rcases hat with h | h
    · exact (hdis _ h).2
    · omega
  have hblk : w1.heap[g]? = w.heap[g]? := key g hgl (fun k hk => (hdis k hk).1)
  have hm1 : MapOf Try.prog 29 w1 bm l.length (fidx l) := hmap.of_block (key bm hbl (fun k hk => (hdis k hk).2))
  have hf : fidx l (.int .u32 v) = none := by simp [fidx, hin]
  obtain ⟨st, es1, ck1, hr1, hrest⟩ := hm1.entry key_u32 Try.underlying40 zero_int (keyOf_int_mk Try.underlying29 hv)
  rw [hf] at hr1
  obtain ⟨w3, hr2, hm3, es2, ck2, rfl⟩ := hrest (setBlock w1 bm (.map es1 ck1)) (.int .i64 l.length) (heap_setBlock_same hm1.choose_spec.choose_spec.1 _)
  have hb2 : ∀ b, b ≠ bm → (setBlock (setBlock w1 bm (.map es1 ck1)) bm (.map es2 ck2)).heap[b]? = w1.heap[b]? := fun b hne => by
    simp only [setBlock, Array.getElem?_setIfInBounds, if_neg (fun e : bm = b => hne e.symm)]
  have hM3 : Mod w (setBlock (setBlock w1 bm (.map es1 ck1)) bm (.map es2 ck2)) S := (hM1.setBlock (fun _ => hSb) _).setBlock (fun _ => hSb) _
  have hgb : (setBlock (setBlock w1 bm (.map es1 ck1)) bm (.map es2 ck2)).heap[g]? = w.heap[g]? := (hb2 g hbg.symm).trans hblk
  have hc3 : (setBlock (setBlock w1 bm (.map es1 ck1)) bm (.map es2 ck2)).cell? ⟨g, 1, none⟩ = some x := (World.cell?_of_block (w := w) hgb).trans c1
  refine ⟨(World.cell?_of_block (w := w) hblk).trans c0, st, _, _, hr1, hr2, hc3, (World.frozen?_of_block (w := w) hgb).trans f1, ⟨bm, _, ?_, World.cell?_setCell_same _ _ _ hc3, ?_, ?_, ?_, ?_, Or.inl hSg, Or.inl hSb, ?_, hbg, ?_⟩, hM3.setCell (fun _ => hSg) _⟩
  · rw [World.cell?_setCell_other _ _ _ _ (by simp)]; exact (World.cell?_of_block (w := w) hgb).trans c0
  · rw [World.frozen?_setCell]; exact (World.frozen?_of_block (w := w) hgb).trans f0
  · rw [World.frozen?_setCell]; exact (World.frozen?_of_block (w := w) hgb).trans f1
  · have h2 : World.ownsRow (setBlock (setBlock w1 bm (.map es1 ck1)) bm (.map es2 ck2)) 0 29 1 (.slice (some ⟨g1, 0, none⟩) (l.length + 1) cap1) (l.length + 1) (l.map (Value.int .u32) ++ [.int .u32 v]) :=
      (((Mod.refl w1 (OneB bm)).setBlock (fun _ => rfl) _).setBlock (fun _ => rfl) _).row hown (fun k hk => by simp [Value.ownBlock] at hk; subst hk; exact hg1b)
    have h3 := ((Mod.refl _ (OneB g)).setCell (p := ⟨g, 1, none⟩) (fun _ => rfl) (.slice (some ⟨g1, 0, none⟩) (l.length + 1) cap1)).row h2 (fun k hk => by simp [Value.ownBlock] at hk; subst hk; exact hg1g)
    simpa using h3
  · have h4 := hm3.of_block (w' := World.setCell (setBlock (setBlock w1 bm (.map es1 ck1)) bm (.map es2 ck2)) ⟨g, 1, none⟩ (.slice (some ⟨g1, 0, none⟩) (l.length + 1) cap1)) (Below.heap_setCell _ _ _ _ (by exact hbg))
    rw [List.length_append, List.length_singleton]
    refine h4.ext (fun y => ?_)
    unfold MapOf.put
    by_cases e : y = .int .u32 v
    · subst e
      simp [fidx, List.idxOf_append, hin]
    · rw [if_neg e]
      cases y <;> try rfl
      rename_i q a
      cases q <;> try rfl
      have ha : a ≠ v := fun h => e (by rw [h])
      by_cases hal : a ∈ l <;> simp [fidx, hal, ha, List.idxOf_append]
  · intro k hk
    simp [Value.ownBlock] at hk
    subst hk
    rcases hat with h | h
    · exact Or.inl (hSv _ h)
    · refine Or.inr ⟨by omega, ?_⟩
      simpa [World.setCell, setBlock] using hlt
  · intro k hk
    simp [Value.ownBlock] at hk
    subst hk
    exact ⟨hg1g, hg1b⟩

set_option maxHeartbeats 4000000 in
theorem of_new (w : World) (g : Nat) (S : Nat → Prop) (l : List Int) (v : Int) (h : NRep w g S l) (hv : (Lit.int .u32 v).wf = true) (hin : v ∉ l) (hl : l.length < 1000000) (hS : ∀ k, S k → k < w.heap.size) :
    Calls Try.prog 8 #[.pointer (some ⟨g, 0, none⟩), .int .u32 v] w fun e w' => e = .returned (.int .i64 l.length) ∧ NRep w' g (Fresh S w w') (l ++ [v]) ∧ Mod w w' S := by
  obtain ⟨bm, sv, c0, c1, f0, f1, hrow, hmap, hSg, hSb, hSv, hbg, hdis⟩ := h
  have hkey := keyOf_int_mk Try.underlying29 hv
  have hrun := hmap.look key_u32 Try.underlying40 (zero_int w) hkey true
  have hf : fidx l (.int .u32 v) = none := by simp [fidx, hin]
  rw [hf] at hrun
  simp only [if_true, Option.getD_none, Option.isSome_none] at hrun
  obtain ⟨i0, hi, hz0, hz1, hz2⟩ := info_parts info_u32
  obtain ⟨a0, cap, rfl⟩ : ∃ a cap, sv = .slice a l.length cap := by
    rcases hrow.2 with ⟨rfl, h0⟩ | ⟨gg, cap, cur, rfl, _⟩
    · exact ⟨none, 0, by rw [h0]⟩
    · exact ⟨_, _, rfl⟩
  have ca0 : (w.alloc (.cells #[.int .u32 v] 29)).cell? ⟨g, 0, none⟩ = some (.map (some bm)) := (World.cell?_of_block (w := w) (Below.heap_alloc w _ g (hS g hSg))).trans c0
  have ca1 : (w.alloc (.cells #[.int .u32 v] 29)).cell? ⟨g, 1, none⟩ = some (.slice a0 l.length cap) := (World.cell?_of_block (w := w) (Below.heap_alloc w _ g (hS g hSg))).trans c1
  go_enter Try.func8, Try.ntmps8
  go_wp2
  go_region_law (refine step_append_lies _ rfl _ _ 22 rfl 0 29 i0 (.int .u32 0) 1 4 Try.underlying22 hi hz0 hz1 hz2 rfl (by decide) (.slice a0 l.length cap) _ _ rfl (hrow.alloc _) ⟨w.heap.size, 0, none⟩ 1 1 [.int .u32 v] rfl rfl (cell_one_new _ _ _) (by simp [Value.oneCell']) (by decide) (by unfold maxLen; omega) (by omega) (Nat.zero_le _) (w.heap.size + 1) (by simp) ?_; intro g1 cap1 w1 hown1 hgrow1 hat1 hlt1; obtain ⟨hc0, st, w2, w3, hr1, hr2, hc3, hf3, hN⟩ := of_after w w1 g bm S l v a0 cap g1 cap1 _ hv hin hS c0 c1 f0 f1 hmap hSg hSb hSv hbg hdis _ hown1 hgrow1 hat1 hlt1; clear hown1 hgrow1 hat1 hlt1 ca0 ca1)
  all_goals
    go_wp2
    go_ret
    exact ⟨rfl, hN.out⟩

end Go.Proofs.Ytegpkoiggdnnmaa
