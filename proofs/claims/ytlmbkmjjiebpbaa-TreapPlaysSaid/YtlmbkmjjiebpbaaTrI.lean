/- Two things side by side; a list that can be read; the contract of Ints. -/
import Derived.Test.YtlmbkmjjiebpbaaTrH
namespace Go.Proofs.Ytlmbkmjjiebpbaa
open Go.RowKit
set_option linter.unusedVariables false

/-- A thing lives in its blocks alone. -/
def Framed (P : World → (Nat → Prop) → Prop) : Prop := ∀ (w w' : World) (S U : Nat → Prop), P w S → Mod w w' U → (∀ k, S k → ¬ U k) → P w' S

/-- P and Q live side by side in w, in blocks that are younger than w0; nothing of w0 has changed. -/
def Duo (w0 w : World) (P Q : World → (Nat → Prop) → Prop) : Prop :=
  ∃ S T : Nat → Prop, P w S ∧ Q w T ∧ Mod w0 w NoB ∧ (∀ k, S k → w0.heap.size ≤ k ∧ k < w.heap.size) ∧ (∀ k, T k → w0.heap.size ≤ k ∧ k < w.heap.size) ∧ (∀ k, S k → ¬ T k)

/-- Nothing beside. -/
def Nil : World → (Nat → Prop) → Prop := fun _ _ => True
theorem Nil.framed : Framed Nil := fun _ _ _ _ _ _ _ => trivial

namespace Duo
variable {w0 w w' : World} {P P' Q : World → (Nat → Prop) → Prop}

theorem swap (h : Duo w0 w P Q) : Duo w0 w Q P := by
  obtain ⟨S, T, h1, h2, h3, h4, h5, h6⟩ := h
  exact ⟨T, S, h2, h1, h3, h5, h4, fun k hk hs => h6 k hs hk⟩
theorem left (h : Duo w0 w P Q) : ∃ S, P w S := ⟨_, h.choose_spec.choose_spec.1⟩
theorem mod (h : Duo w0 w P Q) : Mod w0 w NoB := by
  obtain ⟨S, T, h1, h2, h3, _⟩ := h
  exact h3
theorem quiet (h : Duo w0 w P Q) (hP : Framed P) (hQ : Framed Q) (hm : Mod w w' NoB) : Duo w0 w' P Q := by
  obtain ⟨S, T, h1, h2, h3, h4, h5, h6⟩ := h
  exact ⟨S, T, hP _ _ _ _ h1 hm (by simp [NoB]), hQ _ _ _ _ h2 hm (by simp [NoB]), h3.trans hm (fun _ _ h => h), fun k hk => ⟨(h4 k hk).1, Nat.lt_of_lt_of_le (h4 k hk).2 hm.size⟩, fun k hk => ⟨(h5 k hk).1, Nat.lt_of_lt_of_le (h5 k hk).2 hm.size⟩, h6⟩
theorem call {P0 : Program} {f : FuncId} {args : Array Value} {R : Ending → World → Prop} (h : Duo w0 w P Q) (hQ : Framed Q)
    (hc : ∀ S, P w S → Calls P0 f args w fun e w' => R e w' ∧ P' w' (Fresh S w w') ∧ Mod w w' S) : Calls P0 f args w fun e w' => R e w' ∧ Duo w0 w' P' Q := by
  obtain ⟨S, T, h1, h2, h3, h4, h5, h6⟩ := h
  refine (hc S h1).mono ?_
  rintro e w' ⟨hr, hp, hm⟩
  refine ⟨hr, Fresh S w w', T, hp, hQ _ _ _ _ h2 hm (fun k hk hs => h6 k hs hk), h3.trans hm (fun k hk hs => by have := (h4 k hs).1; omega), fun k hk => ?_, fun k hk => ⟨(h5 k hk).1, Nat.lt_of_lt_of_le (h5 k hk).2 hm.size⟩, fun k hk ht => ?_⟩
  · rcases hk with hk | ⟨h, h'⟩
    · exact ⟨(h4 k hk).1, Nat.lt_of_lt_of_le (h4 k hk).2 hm.size⟩
    · exact ⟨by have := h3.size; omega, h'⟩
  · rcases hk with hk | ⟨h, _⟩
    · exact h6 k hk ht
    · have := (h5 k ht).2; omega
/-- Something new beside what is there. -/
theorem beside (h : Duo w0 w P Nil) (hP : Framed P) {T : Nat → Prop} (hm : Mod w w' NoB) (hq : Q w' T) (hT : ∀ k, T k → w.heap.size ≤ k ∧ k < w'.heap.size) : Duo w0 w' P Q := by
  obtain ⟨S, T', h1, h2, h3, h4, h5, h6⟩ := h
  refine ⟨S, T, hP _ _ _ _ h1 hm (by simp [NoB]), hq, h3.trans hm (fun _ _ h => h), fun k hk => ⟨(h4 k hk).1, Nat.lt_of_lt_of_le (h4 k hk).2 hm.size⟩, fun k hk => ⟨by have := (hT k hk).1; have := h3.size; omega, (hT k hk).2⟩, fun k hk ht => ?_⟩
  have := (h4 k hk).2; have := (hT k ht).1; omega
theorem start (hm : Mod w0 w NoB) {S : Nat → Prop} (hp : P w S) (hS : ∀ k, S k → w0.heap.size ≤ k ∧ k < w.heap.size) : Duo w0 w P Nil :=
  ⟨S, NoB, hp, trivial, hm, hS, by simp [NoB], by simp [NoB]⟩
theorem drop (h : Duo w0 w P Q) : Duo w0 w P Nil := by
  obtain ⟨S, T, h1, h2, h3, h4, h5, h6⟩ := h
  exact ⟨S, NoB, h1, trivial, h3, h4, by simp [NoB], by simp [NoB]⟩
end Duo

/-- The arena as such a thing. -/
def ArT (g n : Nat) (L : List (List Nat)) : World → (Nat → Prop) → Prop := fun w S => Ar w g S n L
theorem ArT.framed (g n : Nat) (L : List (List Nat)) : Framed (ArT g n L) := fun _ _ _ _ h hm hs => Ar.mod h hm hs

section
variable {w0 w : World} {g n : Nat} {L : List (List Nat)} {Q : World → (Nat → Prop) → Prop}

theorem d_join (h : Duo w0 w (ArT g n L) Q) (hQ : Framed Q) (x y : Int) :
    Calls Try.prog 11 #[.pointer (some ⟨g, 0, none⟩), .int .i64 x, .int .i64 y] w fun e w' => e = .returned (.bool (jn L x y).1) ∧ Duo w0 w' (ArT g n (jn L x y).2) Q :=
  h.call (R := fun e _ => e = .returned (.bool (jn L x y).1)) hQ (fun S hS => (tjoin_any w g S n L x y hS).mono (fun e w' hh => ⟨hh.1, hh.2.ar, hh.2.mod⟩))
theorem d_cut (h : Duo w0 w (ArT g n L) Q) (hQ : Framed Q) (x : Int) :
    Calls Try.prog 13 #[.pointer (some ⟨g, 0, none⟩), .int .i64 x] w fun e w' => e = .returned (.bool (ct L x).1) ∧ Duo w0 w' (ArT g n (ct L x).2) Q :=
  h.call (R := fun e _ => e = .returned (.bool (ct L x).1)) hQ (fun S hS => (tcut_any w g S n L x hS).mono (fun e w' hh => ⟨hh.1, hh.2.ar, hh.2.mod⟩))
theorem d_node (h : Duo w0 w (ArT g n L) Q) (hQ : Framed Q) (hn : n < 1048576) :
    Calls Try.prog 9 #[.pointer (some ⟨g, 0, none⟩)] w fun e w' => e = .returned (.int .i64 n) ∧ Duo w0 w' (ArT g (n + 1) (L ++ [[n]])) Q :=
  h.call (R := fun e _ => e = .returned (.int .i64 n)) hQ (fun S hS => (tnode_any w g S n L hS hn).mono (fun e w' hh => ⟨hh.1, hh.2.ar, hh.2.mod⟩))
theorem d_same (h : Duo w0 w (ArT g n L) Q) (x y : Int) :
    Calls Try.prog 15 #[.pointer (some ⟨g, 0, none⟩), .int .i64 x, .int .i64 y] w fun e w' => e = .returned (.bool (same L x y)) ∧ w = w' := by
  obtain ⟨S, hS⟩ := h.left
  exact same_any w g S n L x y hS
theorem d_len (h : Duo w0 w (ArT g n L) Q) (x : Int) :
    Calls Try.prog 19 #[.pointer (some ⟨g, 0, none⟩), .int .i64 x] w fun e w' => e = .returned (.int .i64 (lst L x).length) ∧ w = w' := by
  obtain ⟨S, hS⟩ := h.left
  exact len_any w g S n L x hS
theorem d_index (h : Duo w0 w (ArT g n L) Q) (x : Int) :
    Calls Try.prog 17 #[.pointer (some ⟨g, 0, none⟩), .int .i64 x] w fun e w' => e = .returned (.int .i64 (idx L x)) ∧ ∃ k, w' = w.drewN k := by
  obtain ⟨S, hS⟩ := h.left
  exact index_any w g S n L x hS
theorem d_at (h : Duo w0 w (ArT g n L) Q) (x i : Int) :
    Calls Try.prog 23 #[.pointer (some ⟨g, 0, none⟩), .int .i64 x, .int .i64 i] w fun e w' => e = .returned (.int .i64 (atL (lst L x) i)) ∧ w = w' := by
  obtain ⟨S, hS⟩ := h.left
  exact at_any w g S n L x i hS
end

/-- A slice that can be read: these numbers; it lies in blocks of U. -/
def Rd (w : World) (U : Nat → Prop) (v : Value) (l : List Nat) : Prop :=
  ∃ a cap, v = .slice a l.length cap ∧ l.length ≤ 1048576 ∧ (l = [] ∨ ∃ b, a = some ⟨b, 0, none⟩ ∧ U b ∧ l.length ≤ cap ∧ cap ≤ maxLen ∧ ∀ j, j < l.length → w.cell? ⟨b, j, none⟩ = some (.int .i64 ((l.getD j 0 : Nat) : Int)))

theorem Rd.mod {w w' : World} {U V : Nat → Prop} {v : Value} {l : List Nat} (h : Rd w U v l) (hm : Mod w w' V) (hn : ∀ k, U k → ¬ V k) : Rd w' U v l := by
  obtain ⟨a, cap, rfl, hl, h⟩ := h
  refine ⟨a, cap, rfl, hl, ?_⟩
  rcases h with h | ⟨b, rfl, hU, h1, h2, hc⟩
  · exact Or.inl h
  · by_cases h0 : l.length = 0
    · exact Or.inl (List.length_eq_zero_iff.1 h0)
    · exact Or.inr ⟨b, rfl, hU, h1, h2, fun j hj => (hm.cell (World.block_lt_of_cell? _ _ (hc j hj)) (hn b hU)).trans (hc j hj)⟩
theorem Rd.drewN {w : World} {U : Nat → Prop} {v : Value} {l : List Nat} (h : Rd w U v l) (k : Nat) : Rd (w.drewN k) U v l := h
theorem Rd.drew {w : World} {U : Nat → Prop} {v : Value} {l : List Nat} (h : Rd w U v l) : Rd w.drew U v l := h
theorem Rd.mono {w : World} {U V : Nat → Prop} {v : Value} {l : List Nat} (h : Rd w U v l) (hU : ∀ k, U k → V k) : Rd w V v l := by
  obtain ⟨a, cap, rfl, hl, h⟩ := h
  refine ⟨a, cap, rfl, hl, ?_⟩
  rcases h with h | ⟨b, rfl, hb, h⟩
  · exact Or.inl h
  · exact Or.inr ⟨b, rfl, hU b hb, h⟩

theorem OutRow.rd {w : World} {v : Value} {l : List Nat} (h : OutRow w v l) (hl : l.length ≤ 1048576) : Rd w (fun k => v.ownBlock = some k) v l := by
  obtain ⟨a, cap, rfl⟩ := outrow_form h
  refine ⟨a, cap, rfl, hl, ?_⟩
  by_cases h0 : l = []
  · exact Or.inl h0
  · right
    have hpos : 0 < l.length := List.length_pos_iff.2 h0
    obtain ⟨b, cap', e, hc, _, h1, h2⟩ := row_open h hpos
    simp only [Value.slice.injEq, true_and] at e
    obtain ⟨rfl, rfl⟩ := e
    refine ⟨b, rfl, rfl, h1, h2, fun j hj => hc j _ ?_⟩
    simp [nums, hj]

/-- A literal of numbers, laid down. -/
theorem Rd.lit (w : World) (l : List Nat) (cs : Array Value) (t : TypeId) (hcs : cs.toList = nums l) (hl : l.length ≤ 1048576) : Rd (w.alloc (.cells cs t)) (OneB w.heap.size) (.slice (some ⟨w.heap.size, 0, none⟩) l.length l.length) l := by
  refine ⟨_, _, rfl, hl, Or.inr ⟨_, rfl, rfl, Nat.le_refl _, by unfold maxLen; omega, fun j hj => (World.cell?_alloc_at _ _ _ _ rfl).trans ?_⟩⟩
  rw [← Array.getElem?_toList, hcs]
  simp [nums, hj]

theorem ints_eq (w : World) (U V : Nat → Prop) (v u : Value) (l : List Nat) (hv : Rd w U v l) (hu : Rd w V u l) :
    Calls Try.prog 21 #[v, u] w fun e w' => e = .returned (.bool true) ∧ ∃ k, w' = w.drewN k := by
  obtain ⟨a, cap, rfl, hl, h1⟩ := hv
  obtain ⟨a2, cap2, rfl, _, h2⟩ := hu
  have hb : ((l.length : Int) != (l.length : Int)) = false := by simp
  have H1 := Lib.hid h1
  have H2 := Lib.hid h2
  clear h1 h2
  go_enter Try.func21, Try.ntmps21
  go_wp2_with fail
  go_loopw [5] (fun i wr => ∃ k j : Nat, k ≤ l.length ∧ i = .int .i64 k ∧ wr = w.drewN j) (fun i _ => l.length - (intOf i).toNat)
  case atStart => exact ⟨0, 0, Nat.zero_le _, rfl, rfl⟩
  case round =>
    obtain ⟨k, j, hk, rfl, rfl⟩ := hrel
    by_cases hlt : k < l.length
    · obtain ⟨b, rfl, c1, c2, c3⟩ : ∃ b, a = some ⟨b, 0, none⟩ ∧ l.length ≤ cap ∧ cap ≤ maxLen ∧ w.cell? ⟨b, k, none⟩ = some (.int .i64 ((l.getD k 0 : Nat) : Int)) := by
        rcases H1.out with h | ⟨b, hb, _, h3, h4, hc⟩
        · rw [h] at hlt; simp at hlt
        · exact ⟨b, hb, h3, h4, hc k hlt⟩
      obtain ⟨b2, rfl, e1, e2, e3⟩ : ∃ b, a2 = some ⟨b, 0, none⟩ ∧ l.length ≤ cap2 ∧ cap2 ≤ maxLen ∧ w.cell? ⟨b, k, none⟩ = some (.int .i64 ((l.getD k 0 : Nat) : Int)) := by
        rcases H2.out with h | ⟨b, hb, _, h3, h4, hc⟩
        · rw [h] at hlt; simp at hlt
        · exact ⟨b, hb, h3, h4, hc k hlt⟩
      generalize (((l.getD k 0 : Nat)) : Int) = z at *
      unfold maxLen at c2 e2
      have hz : (z != z) = false := by simp
      go_wp2_with fail
      go_region
      go_wp2_with fail
      go_roundw
      case rel => exact ⟨k + 1, j + 1, by omega, by go_num, by first | rfl | simp⟩
      case measure => simp [intOf]; omega
    · have hke : k = l.length := by omega
      subst hke
      clear hlt
      go_wp2_with fail
      go_ret
      exact ⟨rfl, j, rfl⟩

theorem Ar.lst_le {w : World} {g : Nat} {S : Nat → Prop} {n : Nat} {L : List (List Nat)} (h : Ar w g S n L) (x : Int) : (lst L x).length ≤ 1048576 := by
  by_cases hx : 0 ≤ x ∧ x < n
  · obtain ⟨f, ts, sd, v, c0, c1, f0, f1, hr, hF, rfl, htop, _⟩ := h
    obtain ⟨x', i, t, rfl, ht, hxt, hfx, hxn⟩ := hF.one hx.1 hx.2
    have hw := hF.whole i t ht
    unfold lst; rw [hfx]; simp only [seqs_get ht]
    exact Nat.le_trans (nodup_len n _ hw.nd hw.lt) htop
  · unfold lst; rw [h.out hx]; simp

/-- A list that came out, beside all that is there. -/
theorem d_list {w0 w : World} {g n : Nat} {L : List (List Nat)} {Q : World → (Nat → Prop) → Prop} (h : Duo w0 w (ArT g n L) Q) (hQ : Framed Q) (x : Int) :
    Calls Try.prog 22 #[.pointer (some ⟨g, 0, none⟩), .int .i64 x] w fun e w' => ∃ v, e = .returned v ∧ Duo w0 w' (ArT g n L) Q ∧ Rd w' (fun k => w.heap.size ≤ k ∧ k < w'.heap.size) v (lst L x) ∧ Mod w w' NoB := by
  obtain ⟨S, hS⟩ := h.left
  have hl := hS.lst_le x
  refine (list_any w g S n L x hS).mono ?_
  rintro e w' ⟨v, rfl, hp⟩
  have hm : Mod w w' NoB := hp.mod.mono (fun k _ hk => by simp [Value.ownBlock] at hk)
  refine ⟨v, rfl, h.quiet (ArT.framed _ _ _) hQ hm, ?_, hm⟩
  refine (OutRow.rd (l := lst L x) hp.row hl).mono (fun k hk => ?_)
  refine ⟨?_, (World.ownsRow.lt hp.row k hk).2⟩
  rcases hp.own k hk with e | e
  · simp [Value.ownBlock] at e
  · exact e

/-- A list that can be read, as a thing that lives beside others. -/
def RdT (v : Value) (l : List Nat) : World → (Nat → Prop) → Prop := fun w T => Rd w T v l
theorem RdT.framed (v : Value) (l : List Nat) : Framed (RdT v l) := fun _ _ _ _ h hm hs => Rd.mod h hm hs
end Go.Proofs.Ytlmbkmjjiebpbaa
