/- The reference's Of; what the laws of package names come to. -/
import Derived.Test.YtegpkoiggdnnmaaNamesB
namespace Go.Proofs.Ytegpkoiggdnnmaa
open Go.RowKit Go.Maps Go.ChangeMaps

structure RPost (w w' : World) (g : Nat) (S S' : Nat → Prop) (l : List Int) : Prop where
  rep : RRep w' g S' l
  mod : Mod w w' S
  lt : ∀ k, S' k → k < w'.heap.size
  apart : ∀ k, S' k → S k ∨ w.heap.size ≤ k

theorem RRep.mod {w w' : World} {g : Nat} {S T : Nat → Prop} {l : List Int} (h : RRep w g S l) (hm : Mod w w' T) (hS : ∀ k, S k → k < w.heap.size) (hd : ∀ k, S k → ¬ T k) : RRep w' g S l := by
  obtain ⟨v, c0, f0, hrow, hg, hv, hn⟩ := h
  exact ⟨v, (hm.cell (p := ⟨g, 0, none⟩) (hS _ hg) (hd _ hg)).trans c0, (hm.frozen (p := ⟨g, 0, none⟩) (hS _ hg) (hd _ hg)).trans f0, hm.row hrow (fun k hk => hd k (hv k hk)), hg, hv, hn⟩

theorem NRep.mod {w w' : World} {g : Nat} {S T : Nat → Prop} {l : List Int} (h : NRep w g S l) (hm : Mod w w' T) (hS : ∀ k, S k → k < w.heap.size) (hd : ∀ k, S k → ¬ T k) : NRep w' g S l := by
  obtain ⟨bm, v, c0, c1, f0, f1, hrow, hmap, hg, hb, hv, hn⟩ := h
  exact ⟨bm, v, (hm.cell (p := ⟨g, 0, none⟩) (hS _ hg) (hd _ hg)).trans c0, (hm.cell (p := ⟨g, 1, none⟩) (hS _ hg) (hd _ hg)).trans c1, (hm.frozen (p := ⟨g, 0, none⟩) (hS _ hg) (hd _ hg)).trans f0, (hm.frozen (p := ⟨g, 1, none⟩) (hS _ hg) (hd _ hg)).trans f1,
    hm.row hrow (fun k hk => hd k (hv k hk)), hmap.mod hm (hd _ hb), hg, hb, hv, hn⟩

theorem rof_after (w w1 : World) (g : Nat) (S : Nat → Prop) (l : List Int) (v : Int) (a0 : Option Addr) (cap g1 cap1 : Nat) (hS : ∀ k, S k → k < w.heap.size)
    (c0 : w.cell? ⟨g, 0, none⟩ = some (.slice a0 l.length cap)) (f0 : w.frozen? ⟨g, 0, none⟩ = false) (hSg : S g) (hSv : ∀ k, (Value.slice a0 l.length cap).ownBlock = some k → S k) (hdis : ∀ k, (Value.slice a0 l.length cap).ownBlock = some k → k ≠ g) (o : Obj)
    (hown : w1.ownsRow 0 29 1 (.slice (some ⟨g1, 0, none⟩) (l.length + 1) cap1) (l.length + 1) (l.map (Value.int .u32) ++ [.int .u32 v]))
    (hgrow : (w.alloc o).grownBy w1 (Value.slice a0 l.length cap).ownBlock) (hat : (Value.slice a0 l.length cap).ownBlock = some g1 ∨ g1 = w.heap.size + 1) (hlt : g1 < w1.heap.size) :
    w1.cell? ⟨g, 0, none⟩ = some (.slice a0 l.length cap) ∧ w1.frozen? ⟨g, 0, none⟩ = false ∧
      Hid (RPost w (w1.setCell ⟨g, 0, none⟩ (.slice (some ⟨g1, 0, none⟩) (l.length + 1) cap1)) g S (Fresh S w (w1.setCell ⟨g, 0, none⟩ (.slice (some ⟨g1, 0, none⟩) (l.length + 1) cap1))) (l ++ [v])) := by
  have hgl := hS g hSg
  have hM1 : Mod w w1 S := ((Mod.refl w S).alloc o).grown hgrow (fun k hk _ => hSv k hk)
  have hblk : w1.heap[g]? = w.heap[g]? := by
    rw [hgrow.block g (by simp; omega) (fun e => hdis g e.symm rfl)]; exact Below.heap_alloc w o g hgl
  have hg1g : g1 ≠ g := by
    rcases hat with h | h
    · exact hdis _ h
    · omega
  have hc := (World.cell?_of_block (w := w) (w' := w1) (a := ⟨g, 0, none⟩) hblk).trans c0
  have hf := (World.frozen?_of_block (w := w) (w' := w1) (a := ⟨g, 0, none⟩) hblk).trans f0
  have hM := hM1.setCell (p := ⟨g, 0, none⟩) (fun _ => hSg) (.slice (some ⟨g1, 0, none⟩) (l.length + 1) cap1)
  refine ⟨hc, hf, ⟨_, World.cell?_setCell_same _ _ _ hc, ?_, ?_, Or.inl hSg, ?_, ?_⟩, hM, Fresh.lt hS hM.size, fun k hk => hk.imp id (·.1)⟩
  · rw [World.frozen?_setCell]; exact hf
  · have h3 := ((Mod.refl _ (OneB g)).setCell (p := ⟨g, 0, none⟩) (fun _ => rfl) (.slice (some ⟨g1, 0, none⟩) (l.length + 1) cap1)).row hown (fun k hk => by simp [Value.ownBlock] at hk; subst hk; exact hg1g)
    simpa using h3
  · intro k hk
    simp [Value.ownBlock] at hk
    subst hk
    rcases hat with h | h
    · exact Or.inl (hSv _ h)
    · exact Or.inr ⟨by omega, by simpa [World.setCell] using hlt⟩
  · intro k hk
    simp [Value.ownBlock] at hk
    subst hk
    exact hg1g

set_option maxHeartbeats 1000000 in
theorem rof_any (w : World) (g : Nat) (S : Nat → Prop) (l : List Int) (v : Int) (h : RRep w g S l) (hS : ∀ k, S k → k < w.heap.size) (hl : l.length < 1000000) :
    Calls Try.prog 9 #[.pointer (some ⟨g, 0, none⟩), .int .u32 v] w fun e w' => e = .returned (.int .i64 ((ofl l v).idxOf v)) ∧ RPost w w' g S (Fresh S w w') (ofl l v) := by
  by_cases hin : v ∈ l
  · rw [ofl_old hin]
    go_enter Try.func9, Try.ntmps9
    go_wp2_with fail
    refine (rfind_any _ _ _ _ _ h hl).mono ?_
    rintro e w1 ⟨rfl, rfl⟩
    rw [fres_in hin rfl]
    go_wp2_with fail
    go_ret
    have hF : ∀ k, Fresh S w w k → S k := by
      rintro k (hk | ⟨h1, h2⟩)
      · exact hk
      · omega
    have hE : Fresh S w w = S := funext fun k => propext ⟨hF k, Or.inl⟩
    rw [hE]
    exact ⟨rfl, h, Mod.refl _ _, hS, fun k hk => Or.inl hk⟩
  · rw [ofl_new hin, idx_new hin]
    obtain ⟨sv, c0, f0, hrow, hSg, hSv, hdis⟩ := id h
    obtain ⟨a0, cap, rfl⟩ := row_form hrow
    obtain ⟨i0, hi, hz0, hz1, hz2⟩ := info_parts info_u32
    have HS := Lib.hid hS
    have HR := Lib.hid hrow
    have HV := Lib.hid hSv
    have HD := Lib.hid hdis
    have HH := Lib.hid h
    clear hS hrow hSv hdis h
    go_enter Try.func9, Try.ntmps9
    go_wp2_with fail
    refine (rfind_any _ _ _ _ _ HH.out hl).mono ?_
    rintro e w1 ⟨rfl, rfl⟩
    rw [fres_out hin]
    have ca0 : (w.alloc (.cells #[.int .u32 v] 29)).cell? ⟨g, 0, none⟩ = some (.slice a0 l.length cap) := (World.cell?_of_block (w := w) (Below.heap_alloc w _ g (HS.out g hSg))).trans c0
    go_wp2_with (at_builtin; refine wpList_append_lies _ rfl _ _ 22 rfl 0 29 i0 (.int .u32 0) 1 4 Try.underlying22 hi hz0 hz1 hz2 rfl (by decide) (.slice a0 l.length cap) _ _ rfl (HR.out.alloc _) ⟨w.heap.size, 0, none⟩ 1 1 [.int .u32 v] rfl rfl (cell_one_new _ _ _) (by simp [Value.oneCell']) (by decide) (by unfold maxLen; omega) (by omega) (Nat.zero_le _) (w.heap.size + 1) (by simp) ?_; intro g1 cap1 w1 hown1 hgrow1 hat1 hlt1; obtain ⟨hc0, hf0, hN⟩ := rof_after w w1 g S l v a0 cap g1 cap1 HS.out c0 f0 hSg HV.out HD.out _ hown1 hgrow1 hat1 hlt1; have hc1 := World.cell?_setCell_same w1 ⟨g, 0, none⟩ (Value.slice (some ⟨g1, 0, none⟩) (l.length + 1) cap1) hc0; clear hown1 hgrow1 hat1 hlt1 ca0)
    go_ret
    exact ⟨by simp, hN.out⟩
end Go.Proofs.Ytegpkoiggdnnmaa
