/- The reference's arena: sequences as lists. Its representation; the contracts of find, Same, Index, List, At. -/
import Derived.Test.YtlmbkmjjiebpbaaTrI
namespace Go.Proofs.Ytlmbkmjjiebpbaa
open Go.RowKit
set_option linter.unusedVariables false

/-- One list of the reference, in a block of its own kind: never empty, never written again. -/
def Inn (w : World) (T : Nat → Prop) (h : Nat) (v : Value) (u : Value) (l : List Nat) : Prop :=
  l ≠ [] ∧ ∃ b cap, u = .slice (some ⟨b, 0, none⟩) l.length cap ∧ T b ∧ b ≠ h ∧ v.ownBlock ≠ some b ∧ l.length ≤ cap ∧ cap ≤ maxLen ∧ ∀ j, j < l.length → w.cell? ⟨b, j, none⟩ = some (.int .i64 ((l.getD j 0 : Nat) : Int))

/-- The reference's arena at block h, within T: n nodes, the lists L. -/
def RA (h n : Nat) (L : List (List Nat)) : World → (Nat → Prop) → Prop := fun w T =>
  ∃ (v : Value) (us : List Value), w.cell? ⟨h, 0, none⟩ = some (.int .i64 n) ∧ w.cell? ⟨h, 1, none⟩ = some v ∧ w.frozen? ⟨h, 0, none⟩ = false ∧ w.frozen? ⟨h, 1, none⟩ = false ∧
    w.ownsRow 0 37 1 v L.length us ∧ us.length = L.length ∧ (∀ (i : Nat) (l : List Nat), L[i]? = some l → ∃ u, us[i]? = some u ∧ Inn w T h v u l) ∧ T h ∧ (∀ k, v.ownBlock = some k → T k ∧ k ≠ h) ∧
    n ≤ 1048576 ∧ L.length ≤ 1048576 ∧ (∀ l ∈ L, l.length ≤ 1048576)

theorem Inn.mod {w w' : World} {T U : Nat → Prop} {h : Nat} {v u : Value} {l : List Nat} (hi : Inn w T h v u l) (hm : Mod w w' U) (hs : ∀ k, T k → ¬ U k) : Inn w' T h v u l := by
  obtain ⟨h0, b, cap, rfl, h1, h2, h3, h4, h5, hc⟩ := hi
  refine ⟨h0, b, cap, rfl, h1, h2, h3, h4, h5, fun j hj => ?_⟩
  exact (hm.cell (World.block_lt_of_cell? _ _ (hc j hj)) (hs b h1)).trans (hc j hj)
theorem RA.framed (h n : Nat) (L : List (List Nat)) : Framed (RA h n L) := by
  rintro w w' T U ⟨v, us, c0, c1, f0, f1, hr, hl, hi, ht, hv, hn⟩ hm hs
  have hh := World.block_lt_of_cell? _ _ c0
  refine ⟨v, us, (hm.cell (p := ⟨h, 0, none⟩) hh (hs h ht)).trans c0, (hm.cell (p := ⟨h, 1, none⟩) hh (hs h ht)).trans c1, (hm.frozen (p := ⟨h, 0, none⟩) hh (hs h ht)).trans f0, (hm.frozen (p := ⟨h, 1, none⟩) hh (hs h ht)).trans f1, hm.row hr (fun k hk => hs k (hv k hk).1), hl, fun i l hil => ?_, ht, hv, hn⟩
  obtain ⟨u, h1, h2⟩ := hi i l hil
  exact ⟨u, h1, h2.mod hm hs⟩

/-- What find tells. -/
def fres (L : List (List Nat)) (x : Int) : Value := match fnd L x with
  | some p => .tuple #[.int .i64 p.1, .int .i64 p.2]
  | none => .tuple #[.int .i64 (-1), .int .i64 (-1)]

/-- The cells that find reads. -/
theorem RA.head {w : World} {T : Nat → Prop} {h n : Nat} {L : List (List Nat)} (hR : RA h n L w T) :
    ∃ a cap, w.cell? ⟨h, 1, none⟩ = some (.slice a L.length cap) ∧ h < w.heap.size ∧ L.length ≤ 1048576 ∧
      ∀ (i : Nat) (l : List Nat), L[i]? = some l → ∃ ob b icap, a = some ⟨ob, 0, none⟩ ∧ L.length ≤ cap ∧ cap ≤ 2 ^ 63 - 1 ∧ ob < w.heap.size ∧ w.cell? ⟨ob, i, none⟩ = some (.slice (some ⟨b, 0, none⟩) l.length icap) ∧ l.length ≤ icap ∧ icap ≤ 2 ^ 63 - 1 ∧ l.length ≤ 1048576 ∧ b < w.heap.size ∧ T b ∧
        ∀ j, j < l.length → w.cell? ⟨b, j, none⟩ = some (.int .i64 ((l.getD j 0 : Nat) : Int)) := by
  obtain ⟨v, us, c0, c1, f0, f1, hr, hl, hi, ht, hv, hn, hL, hll⟩ := hR
  obtain ⟨a, cap, rfl⟩ := row_form hr
  refine ⟨a, cap, c1, World.block_lt_of_cell? _ _ c1, hL, fun i l hil => ?_⟩
  have hil' : i < L.length := (List.getElem?_eq_some_iff.1 hil).1
  obtain ⟨u, hu, h0, b, icap, rfl, h1, h2, h3, h4, h5, hc⟩ := hi i l hil
  obtain ⟨ob, cap', e, hcs, _, e1, e2⟩ := row_open hr (by omega)
  simp only [Value.slice.injEq, true_and] at e
  obtain ⟨rfl, rfl⟩ := e
  have hpos : 0 < l.length := List.length_pos_iff.2 h0
  have hcell := hcs i _ hu
  exact ⟨ob, b, icap, rfl, e1, by unfold maxLen at e2; exact e2, World.block_lt_of_cell? _ _ hcell, hcell, h4, by unfold maxLen at h5; exact h5, hll l (List.mem_of_getElem? hil), World.block_lt_of_cell? _ _ (hc 0 hpos), h1, hc⟩

set_option maxHeartbeats 2000000 in
theorem find_any (w : World) (T : Nat → Prop) (h n : Nat) (L : List (List Nat)) (x : Int) (hR : RA h n L w T) :
    Calls Try.prog 29 #[.pointer (some ⟨h, 0, none⟩), .int .i64 x] w fun e w' => e = .returned (fres L x) ∧ w = w' := by
  obtain ⟨a, cap, c1, hh, hLl, hrows⟩ := hR.head
  have HR := Lib.hid hrows
  clear hrows hR
  obtain ⟨wo, rfl⟩ : ∃ wo, wo = w := ⟨_, rfl⟩
  go_enter Try.func29, Try.ntmps29
  go_wp2_with fail
  go_loopw [6] (fun i wr => ∃ k : Nat, k ≤ L.length ∧ i = .int .i64 k ∧ wr = wo ∧ Hid (∀ (j : Nat), j < k → ∀ m, L[j]? = some m → ∀ z ∈ m, (z : Int) ≠ x)) (fun i _ => L.length - (intOf i).toNat)
  case atStart => exact ⟨0, Nat.zero_le _, rfl, rfl, fun j hj => absurd hj (by omega)⟩
  case round =>
    obtain ⟨k, hk, rfl, rfl, HA⟩ := hrel
    by_cases hlt : k < L.length
    · obtain ⟨l, hl⟩ : ∃ l, L[k]? = some l := ⟨L[k], List.getElem?_eq_getElem hlt⟩
      obtain ⟨ob, b, icap, rfl, q1, q2, q3, q4, q5, q6, q7, q8, _, q9⟩ := HR.out k l hl
      have HL := Lib.hid hl
      have HC := Lib.hid q9
      have hki : (k : Int) < L.length := by omega
      clear hl q9
      go_wp2_with fail
      go_loopw [7] (fun i wx => ∃ m : Nat, m ≤ l.length ∧ i = .int .i64 m ∧ wx = wr ∧ Hid (∀ (j : Nat), j < m → ∀ z, l[j]? = some z → (z : Int) ≠ x)) (fun i _ => l.length - (intOf i).toNat)
      case atStart => exact ⟨0, Nat.zero_le _, rfl, by first | rfl | trivial, fun j hj => absurd hj (by omega)⟩
      case round =>
        obtain ⟨m, hm, rfl, rfl, HB⟩ := hrel
        by_cases hlt2 : m < l.length
        · have cm := HC.out m hlt2
          obtain ⟨y, hy⟩ : ∃ y : Nat, l[m]? = some y := ⟨l[m], List.getElem?_eq_getElem hlt2⟩
          rw [List.getD_eq_getElem?_getD, hy] at cm
          simp only [Option.getD_some] at cm
          have HY := Lib.hid hy
          clear hy
          have hmi : (m : Int) < l.length := by omega
          by_cases he : (y : Int) = x
          · have hres : fres L x = .tuple #[.int .i64 k, .int .i64 m] := by
              unfold fres; rw [fnd_at HL.out HY.out he HB.out HA.out]
            have hb : ((y : Int) == x) = true := by simp [he]
            have HRS := Lib.hid hres
            clear hres he
            go_wp2_with fail
            go_ret2
            exact ⟨by rw [HRS.out]; rfl, rfl⟩
          · have hb : ((y : Int) == x) = false := by simp [he]
            have HE := Lib.hid he
            clear he
            go_wp2_with fail
            go_roundw
            case rel => exact ⟨m + 1, by omega, by go_num, by first | rfl | trivial, fun j hj z hz => by
              by_cases e : j = m
              · subst e; rw [HY.out] at hz; cases hz; exact HE.out
              · exact HB.out j (by omega) z hz⟩
            case measure => simp [intOf]; omega
        · have hml : m = l.length := by omega
          have HX : Hid (∀ z ∈ l, (z : Int) ≠ x) := fun z hz => by
            obtain ⟨j, hj⟩ := List.mem_iff_getElem?.1 hz
            exact HB.out j (by have := (List.getElem?_eq_some_iff.1 hj).1; omega) z hj
          clear hml
          go_wp2_with fail
          go_roundw
          case rel => exact ⟨k + 1, by omega, by go_num, by first | rfl | trivial, fun j hj m' hm' z hz => by
            by_cases e : j = k
            · subst e; rw [HL.out] at hm'; cases hm'; exact HX.out z hz
            · exact HA.out j (by omega) m' hm' z hz⟩
          case measure => simp [intOf]; omega
    · have hres : fres L x = .tuple #[.int .i64 (-1), .int .i64 (-1)] := by
        unfold fres; rw [fnd_none (fun i l hl y hy => HA.out i (by have := (List.getElem?_eq_some_iff.1 hl).1; omega) l hl y hy)]
      have HRS := Lib.hid hres
      clear hres
      go_wp2_with fail
      go_ret2
      exact ⟨by rw [HRS.out]; rfl, rfl⟩
end Go.Proofs.Ytlmbkmjjiebpbaa
