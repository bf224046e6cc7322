/- The contracts of package names, more, and of the reference. -/
import Derived.Test.YtegpkoiggdnnmaaNames
import Derived.Lib.Hide
namespace Go.Proofs.Ytegpkoiggdnnmaa
open Go.RowKit Go.Maps Go.ChangeMaps

theorem at_in (w : World) (g : Nat) (S : Nat → Prop) (l : List Int) (i : Nat) (h : NRep w g S l) (hi : i < l.length) :
    Calls Try.prog 13 #[.pointer (some ⟨g, 0, none⟩), .int .i64 i] w fun e w' => e = .returned (.tuple #[.int .u32 (l.getD i 0), .bool true]) ∧ w = w' := by
  obtain ⟨bm, sv, c0, c1, f0, f1, hrow, hmap, _⟩ := h
  obtain ⟨sb, cap, rfl, hcs, _, hlc, hcm⟩ := row_open hrow (by omega)
  have hm := hrow.1
  have hc := hcs i (.int .u32 (l.getD i 0)) (by simp [hi])
  generalize l.getD i 0 = y at *
  unfold maxLen at hcm
  have hlen : (l.length : Int) ≤ 9223372036854775807 := by omega
  have hi' : (i : Int) < l.length := by omega
  clear hrow hmap hcs hm
  go_enter Try.func13, Try.ntmps13
  go_wp2
  go_ret2
  exact ⟨rfl, rfl⟩

theorem at_out (w : World) (g : Nat) (S : Nat → Prop) (l : List Int) (i : Int) (h : NRep w g S l) (hl : l.length < 1000000) (hi : i < 0 ∨ (l.length : Int) ≤ i) :
    Calls Try.prog 13 #[.pointer (some ⟨g, 0, none⟩), .int .i64 i] w fun e w' => e = .returned (.tuple #[.int .u32 0, .bool false]) ∧ w = w' := by
  obtain ⟨bm, sv, c0, c1, f0, f1, hrow, hmap, _⟩ := h
  obtain ⟨a0, cap, rfl⟩ := row_form hrow
  clear hrow hmap
  rcases hi with hi | hi
  · go_enter Try.func13, Try.ntmps13
    go_wp2
    go_ret2
    exact ⟨rfl, rfl⟩
  · have hi0 : ¬ i < 0 := by omega
    go_enter Try.func13, Try.ntmps13
    go_wp2
    go_ret2
    exact ⟨rfl, rfl⟩

/-- The reference's names at block g, within S: the list l. -/
def RRep (w : World) (g : Nat) (S : Nat → Prop) (l : List Int) : Prop :=
  ∃ v, w.cell? ⟨g, 0, none⟩ = some v ∧ w.frozen? ⟨g, 0, none⟩ = false ∧ w.ownsRow 0 29 1 v l.length (l.map (Value.int .u32)) ∧
    S g ∧ (∀ k, v.ownBlock = some k → S k) ∧ (∀ k, v.ownBlock = some k → k ≠ g)

theorem idx_step (l : List Int) (v : Int) (k : Nat) (hk : k < l.length) (hno : ∀ j, j < k → l.getD j 0 ≠ v) (h : l.getD k 0 = v) : v ∈ l ∧ l.idxOf v = k := by
  have hv : l[k] = v := by simpa [hk] using h
  refine ⟨hv ▸ List.getElem_mem hk, ?_⟩
  have h1 : l.idxOf v < l.length := List.idxOf_lt_length_of_mem (hv ▸ List.getElem_mem hk)
  have h2 : l[l.idxOf v] = v := List.getElem_idxOf h1
  rcases Nat.lt_trichotomy (l.idxOf v) k with h3 | h3 | h3
  · exact absurd (by simp [h1]) (hno _ h3)
  · exact h3
  · have := List.not_of_lt_findIdx (p := (· == v)) (xs := l) (i := k) (by simpa [List.idxOf] using h3)
    simp [hv] at this

theorem idx_none (l : List Int) (v : Int) (hno : ∀ j, j < l.length → l.getD j 0 ≠ v) : v ∉ l := by
  intro hv
  obtain ⟨j, hj, he⟩ := List.getElem_of_mem hv
  exact hno j hj (by simpa [hj] using he)

theorem rfind_any (w : World) (g : Nat) (S : Nat → Prop) (l : List Int) (v : Int) (h : RRep w g S l) (hl : l.length < 1000000) :
    Calls Try.prog 12 #[.pointer (some ⟨g, 0, none⟩), .int .u32 v] w fun e w' => e = .returned (fres l v) ∧ w = w' := by
  obtain ⟨sv, c0, f0, hrow, _⟩ := h
  by_cases h0 : l.length = 0
  · obtain ⟨a0, cap, rfl⟩ := row_form hrow
    obtain rfl : l = [] := List.length_eq_zero_iff.1 h0
    clear hrow
    go_enter Try.func12, Try.ntmps12
    go_wp2
    go_loop [6] (fun i => i = .int .i64 0) (fun _ => 0)
    case atStart => rfl
    case round =>
      subst hrel
      go_wp2
      go_ret2
      exact ⟨(fres_out (l := []) (v := v) (by simp) ▸ rfl), rfl⟩
  · obtain ⟨sb, cap, rfl, hcs, _, hlc, hcm⟩ := row_open hrow (by omega)
    clear hrow
    go_enter Try.func12, Try.ntmps12
    go_wp2
    go_loop [6] (fun i => ∃ k : Nat, k ≤ l.length ∧ i = .int .i64 k ∧ Hid (∀ j, j < k → l.getD j 0 ≠ v)) (fun i => l.length - (intOf i).toNat)
    case atStart => exact ⟨0, Nat.zero_le _, rfl, fun j hj => by omega⟩
    case round =>
      obtain ⟨k, hk, rfl, hno⟩ := hrel
      have hlen : (l.length : Int) ≤ 9223372036854775807 := by omega
      by_cases hlt : k < l.length
      · have hc := hcs k (.int .u32 (l.getD k 0)) (by simp [hlt])
        obtain ⟨y, hy⟩ : ∃ y, y = l.getD k 0 := ⟨_, rfl⟩
        rw [← hy] at hc
        have HY := Lib.hid hy
        clear hy
        by_cases hyv : y = v
        · have hfin := idx_step l v k hlt hno.out (by rw [← HY.out]; exact hyv)
          subst hyv
          have H2 := Lib.hid hfin
          clear hfin hno hcs
          go_wp2
          go_ret2
          exact ⟨(fres_in H2.out.1 H2.out.2 ▸ rfl), rfl⟩
        · have hb : (y == v) = false := by simpa using hyv
          clear hcs
          go_wp2
          go_round
          case rel => exact ⟨k + 1, by omega, by go_num, fun j hj => by
            rcases Nat.lt_succ_iff_lt_or_eq.1 hj with h | h
            · exact hno.out j h
            · subst h; rw [← HY.out]; exact hyv⟩
          case measure => simp [intOf]; omega
      · have hfin := idx_none l v (fun j hj => hno.out j (by omega))
        have H2 := Lib.hid hfin
        clear hfin hno hcs
        go_wp2
        go_ret2
        exact ⟨(fres_out H2.out ▸ rfl), rfl⟩

/-! ### One contract for Of -/
def ofl (l : List Int) (v : Int) : List Int := if v ∈ l then l else l ++ [v]
theorem ofl_old {l : List Int} {v : Int} (h : v ∈ l) : ofl l v = l := if_pos h
theorem ofl_new {l : List Int} {v : Int} (h : v ∉ l) : ofl l v = l ++ [v] := if_neg h
theorem ofl_len (l : List Int) (v : Int) : (ofl l v).length ≤ l.length + 1 := by unfold ofl; split <;> simp
theorem idx_new {l : List Int} {v : Int} (h : v ∉ l) : (l ++ [v]).idxOf v = l.length := by rw [List.idxOf_append, if_neg h]; simp

/-- What holds of names behind a call from w to w'. -/
structure NPost (w w' : World) (g : Nat) (S S' : Nat → Prop) (l : List Int) : Prop where
  rep : NRep w' g S' l
  mod : Mod w w' S
  lt : ∀ k, S' k → k < w'.heap.size
  apart : ∀ k, S' k → S k ∨ w.heap.size ≤ k

theorem of_any (w : World) (g : Nat) (S : Nat → Prop) (l : List Int) (v : Int) (h : NRep w g S l) (hS : ∀ k, S k → k < w.heap.size) (hv : (Lit.int .u32 v).wf = true) (hl : l.length < 1000000) :
    Calls Try.prog 8 #[.pointer (some ⟨g, 0, none⟩), .int .u32 v] w fun e w' => e = .returned (.int .i64 ((ofl l v).idxOf v)) ∧ NPost w w' g S (Fresh S w w') (ofl l v) := by
  by_cases hin : v ∈ l
  · refine (of_old w g S l v h hv hin).mono ?_
    rintro e w' ⟨rfl, rfl⟩
    rw [ofl_old hin]
    have hF : ∀ k, Fresh S w w k → S k := by
      rintro k (hk | ⟨h1, h2⟩)
      · exact hk
      · omega
    have hE : Fresh S w w = S := funext fun k => propext ⟨hF k, Or.inl⟩
    rw [hE]
    exact ⟨rfl, h, Mod.refl _ _, hS, fun k hk => Or.inl hk⟩
  · refine (of_new w g S l v h hv hin hl hS).mono ?_
    rintro e w' ⟨rfl, hN, hM⟩
    rw [ofl_new hin, idx_new hin]
    exact ⟨rfl, hN, hM, Fresh.lt hS hM.size, fun k hk => hk.imp id (·.1)⟩

theorem new_post (w : World) : Calls Try.prog 7 #[] w fun e w' => e = .returned (.pointer (some ⟨w.heap.size + 1, 0, none⟩)) ∧ NPost w w' (w.heap.size + 1) NoB (Fresh NoB w w') [] := by
  refine (new_any w).mono ?_
  rintro e w' ⟨rfl, hN, hM⟩
  exact ⟨rfl, hN, hM, Fresh.lt (by simp [NoB]) hM.size, fun k hk => hk.imp id (·.1)⟩

/-- .. with what it comes to written out. -/
theorem of_is (l' : List Int) (i : Nat) (w : World) (g : Nat) (S : Nat → Prop) (l : List Int) (v : Int) (hl' : ofl l v = l') (hi : l'.idxOf v = i) (h : NRep w g S l) (hS : ∀ k, S k → k < w.heap.size) (hv : (Lit.int .u32 v).wf = true) (hl : l.length < 1000000) :
    Calls Try.prog 8 #[.pointer (some ⟨g, 0, none⟩), .int .u32 v] w fun e w' => e = .returned (.int .i64 i) ∧ NPost w w' g S (Fresh S w w') l' := by
  subst hl' hi
  exact of_any w g S l v h hS hv hl

theorem NPost.trans {a b c : World} {g : Nat} {S T U : Nat → Prop} {l l' : List Int} (h : NPost a b g S T l) (k : NPost b c g T U l') : NPost a c g S U l' :=
  ⟨k.rep, h.mod.trans k.mod (fun i hi hT => (h.apart i hT).elim id (fun h => by omega)), k.lt, fun i hi => (k.apart i hi).elim (h.apart i) (fun hh => Or.inr (Nat.le_trans h.mod.size hh))⟩
theorem NPost.same {a b : World} {g : Nat} {S T : Nat → Prop} {l l' : List Int} (h : NPost a b g S T l) (e : l = l') : NPost a b g S T l' := e ▸ h

theorem known_any (w : World) : Calls Try.prog 6 #[] w fun e w' => e = .returned (.bool true) ∧ Mod w w' NoB := by
  go_enter Try.func6, Try.ntmps6
  go_wp2_with fail
  refine (new_post _).mono ?_
  rintro e w1 ⟨rfl, h1⟩
  go_wp2_with fail
  refine (of_is [9] 0 _ _ _ _ _ (by decide) (by decide) h1.rep h1.lt (by decide) (by decide)).mono ?_
  rintro e w2 ⟨rfl, h2⟩
  go_wp2_with fail
  refine (of_is [9, 7] 1 _ _ _ _ _ (by decide) (by decide) h2.rep h2.lt (by decide) (by decide)).mono ?_
  rintro e w3 ⟨rfl, h3⟩
  go_wp2_with fail
  refine (of_is [9, 7] 0 _ _ _ _ _ (by decide) (by decide) h3.rep h3.lt (by decide) (by decide)).mono ?_
  rintro e w4 ⟨rfl, h4⟩
  have H := Lib.hid (((h1.trans h2).trans h3).trans h4)
  have r4 := h4.rep
  have l4 := h4.lt
  clear h1 h2 h3 h4
  go_wp2_with fail
  refine (find_any _ _ _ _ _ r4 (by decide)).mono ?_
  rintro e w5 ⟨rfl, rfl⟩
  rw [fres_in (l := [9, 7]) (v := 7) (k := 1) (by decide) (by decide)]
  go_wp2_with fail
  refine (find_any _ _ _ _ _ r4 (by decide)).mono ?_
  rintro e w5 ⟨rfl, rfl⟩
  rw [fres_out (l := [9, 7]) (v := 8) (by decide)]
  go_wp2_with fail
  refine (at_in _ _ _ [9, 7] 1 r4 (by decide)).mono ?_
  rintro e w5 ⟨rfl, rfl⟩
  go_wp2_with fail
  refine (at_out _ _ _ [9, 7] 2 r4 (by decide) (by decide)).mono ?_
  rintro e w5 ⟨rfl, rfl⟩
  go_wp2_with fail
  refine (len_any _ _ _ _ r4).mono ?_
  rintro e w5 ⟨rfl, rfl⟩
  go_wp2_with fail
  go_ret
  exact ⟨rfl, H.out.mod⟩
end Go.Proofs.Ytegpkoiggdnnmaa
