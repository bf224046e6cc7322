/- Maps whose keys are edges. -/
import Derived.Test.YthncgmmfnghliaaLfI
import Derived.DeepKeys4
namespace Go.Proofs.Ythncgmmfnghliaa
open Go.RowKit Go.Maps Go.ChangeMaps
set_option linter.unusedVariables false

theorem laid_out : laidOutB Try.prog = true := by kernel_rfl
theorem edge_row : (54 : TypeId) < Try.prog.types.size := of_decide_eq_true (by kernel_rfl)
theorem edge_deep : Try.prog.keyTypeAt 2 54 = true := by kernel_rfl
theorem key_edge : Keyed Try.prog 54 := by
  refine Keyed.of_law (deep_law_laid (m := 2) laid_out (by omega) edge_row edge_deep ?_)
  rw [Try.underlying54]
theorem types_pos : 0 < Try.prog.types.size := Nat.lt_of_le_of_lt (Nat.zero_le _) edge_row
theorem edge_key : Try.prog.keyType 54 = true := by kernel_rfl
theorem edge_cells : Try.prog.cellsOf 54 = 2 := by kernel_rfl
theorem u32_cells : Try.prog.cellsOf 52 = 1 := by kernel_rfl

/-- An edge whose ends are numbers of 32 bits. -/
def EdB (x : Ed) : Prop := (0 ≤ x.u ∧ x.u ≤ 4294967295) ∧ 0 ≤ x.v ∧ x.v ≤ 4294967295
theorem wf_u32 {u : Int} (h : 0 ≤ u ∧ u ≤ 4294967295) : (Lit.int .u32 u).wf = true := by
  simp [Lit.wf, IntKind.min, IntKind.max, IntKind.signed, IntKind.bits]; omega
theorem lits_edge {d : Nat} {u v : Int} (hu : (Lit.int .u32 u).wf = true) (hv : (Lit.int .u32 v).wf = true) : Try.prog.keyLits (d + 2) 54 [.int .u32 u, .int .u32 v] = some [.int .u32 u, .int .u32 v] := by
  unfold Program.keyLits
  rw [Try.underlying54]
  simp [edge_cells, u32_cells, Program.keyLits, Try.underlying52, hu, hv]
theorem keyOf_edge {x : Ed} (h : EdB x) : ∃ l, keyOf Try.prog 54 (encE x) = some l := by
  have hu := wf_u32 h.1
  have hv := wf_u32 h.2
  have hs : ∃ d, Try.prog.types.size + 1 = d + 2 := ⟨Try.prog.types.size - 1, by have := types_pos; omega⟩
  obtain ⟨d, hd⟩ := hs
  refine ⟨.string (keyBytes [.int .u32 x.u, .int .u32 x.v]), ?_⟩
  unfold keyOf
  rw [Try.underlying54]
  simp only [edge_key, Value.formed, Try.underlying54, edge_cells, encE, Value.cells, hd]
  rw [lits_edge hu hv]
  simp

theorem encE_inj {x y : Ed} (h : encE x = encE y) : x = y := by
  unfold encE at h
  simp at h
  exact Ed.ext' h.1 h.2

/-- Block m is a map from edges: what it tells of each. -/
def EMap (w : World) (m : Nat) (z : Value) (g : Ed → Value) : Prop := ∃ n f, MapOf Try.prog 54 w m n f ∧ ∀ x : Ed, (f (encE x)).getD z = g x

namespace EMap
variable {w : World} {m : Nat} {z : Value} {g : Ed → Value}
theorem made (w : World) (z : Value) : EMap (w.alloc (.map #[] 0)) w.heap.size z (fun _ => z) := ⟨0, _, MapOf.made w _ _, fun x => rfl⟩
theorem mod {w' : World} {S : Nat → Prop} (h : EMap w m z g) (hm : Mod w w' S) (hn : ¬ S m) : EMap w' m z g := by
  obtain ⟨n, f, h1, h2⟩ := h
  exact ⟨n, f, h1.mod hm hn, h2⟩
theorem lt (h : EMap w m z g) : m < w.heap.size := by
  obtain ⟨n, f, h1, h2⟩ := h
  exact h1.lt
theorem look (h : EMap w m z g) {t e : TypeId} (ht : Try.prog.underlying t = some (.map 54 e)) (hz : (zeroValue e).run Try.prog w = .ok z w) {u v : Int} (hb : EdB ⟨u, v⟩) :
    (Instr.lookup t (.map (some m)) (.agg #[.int .u32 u, .int .u32 v]) false).run Try.prog w = .ok (g ⟨u, v⟩) w := by
  obtain ⟨n, f, h1, h2⟩ := h
  obtain ⟨l, hl⟩ := keyOf_edge hb
  have := h1.look key_edge ht hz hl false
  rw [if_neg (by simp), h2] at this
  exact this
theorem store (h : EMap w m z g) {t e : TypeId} (ht : Try.prog.underlying t = some (.map 54 e)) {u v : Int} (hb : EdB ⟨u, v⟩) (val : Value) :
    ∃ w', (Instr.mapUpdate t (.map (some m)) (.agg #[.int .u32 u, .int .u32 v]) val).run Try.prog w = .ok () w' ∧ EMap w' m z (fun x => if x = ⟨u, v⟩ then val else g x) ∧ Mod w w' (OneB m) := by
  obtain ⟨n, f, h1, h2⟩ := h
  obtain ⟨l, hl⟩ := keyOf_edge hb
  obtain ⟨w', k1, k2, es, ck, k3⟩ := h1.store key_edge ht hl val
  refine ⟨w', k1, ⟨n + 1, _, k2, fun x => ?_⟩, by rw [k3]; exact (Mod.refl w (OneB m)).setBlock (fun _ => (rfl : m = m)) _⟩
  show (MapOf.put f (encE ⟨u, v⟩) val (encE x)).getD z = if x = ⟨u, v⟩ then val else g x
  unfold MapOf.put
  by_cases hx : x = ⟨u, v⟩
  · rw [if_pos hx, if_pos (by rw [hx])]; rfl
  · rw [if_neg hx, if_neg (fun e => hx (encE_inj e))]
    exact h2 x
end EMap
end Go.Proofs.Ythncgmmfnghliaa
