/- Merged: LfD LfE LfI -/
import Derived.Test.YtppambkffgmkgaaGreatDoorMg03
section
/- The contract of edge.Before. -/
namespace Go.Proofs.YtppambkffgmkgaaGreatDoor
open Go.RowKit
set_option linter.unusedVariables false

theorem cmp_before (t u v s x y : Int) (a b : Bool) : orI (cmpI t s) (orI (cmpI u x) (cmpI v y)) < 0 ↔ before ⟨t, ⟨u, v⟩, a⟩ ⟨s, ⟨x, y⟩, b⟩ := by
  have h := cmp_edLt u v x y
  unfold before
  simp only
  rw [← h]
  generalize orI (cmpI u x) (cmpI v y) = z
  unfold orI cmpI
  by_cases h1 : t < s
  · simp [h1]
  · by_cases h2 : s < t
    · simp [h1, h2]; omega
    · have h3 : t = s := by omega
      subst h3
      simp

set_option maxRecDepth 100000 in
set_option maxHeartbeats 2000000 in
theorem before_grw (w : World) (t u v s x y : Int) (a b : Bool) : Calls Tryz.prog 56 #[.agg #[.int .i64 t, .int .u32 u, .int .u32 v, .bool a], .agg #[.int .i64 s, .int .u32 x, .int .u32 y, .bool b]] w
    fun e w' => e = .returned (.bool (decide (before ⟨t, ⟨u, v⟩, a⟩ ⟨s, ⟨x, y⟩, b⟩))) ∧ Grw w w' := by
  have hb : decide (orI (cmpI t s) (orI (cmpI u x) (cmpI v y)) < 0) = decide (before ⟨t, ⟨u, v⟩, a⟩ ⟨s, ⟨x, y⟩, b⟩) := decide_eq_decide.2 (cmp_before t u v s x y a b)
  rw [← hb]
  clear hb
  go_enter Tryz.func56, Tryz.ntmps56
  go_wp2_with fail
  obtain ⟨p, hp⟩ : ∃ p, p = w.heap.size := ⟨_, rfl⟩
  obtain ⟨W, hW⟩ : ∃ W, W = (w.alloc (.cells #[.int .i64 t, .int .u32 u, .int .u32 v, .bool a] 62)).alloc (.cells #[.int .i64 s, .int .u32 x, .int .u32 y, .bool b] 62) := ⟨_, rfl⟩
  have HM : Hid (Grw w W) := by rw [hW]; exact ((Grw.refl _).alloc _).alloc _
  have hs1 : (w.alloc (.cells #[.int .i64 t, .int .u32 u, .int .u32 v, .bool a] 62)).heap.size = w.heap.size + 1 := by simp
  have lt1 : w.heap.size < (w.alloc (.cells #[.int .i64 t, .int .u32 u, .int .u32 v, .bool a] 62)).heap.size := by rw [hs1]; omega
  have hD : (W.cell? ⟨p, 0, none⟩ = some (.int .i64 t) ∧ W.cell? ⟨p, 1, none⟩ = some (.int .u32 u) ∧ W.cell? ⟨p, 2, none⟩ = some (.int .u32 v)) ∧
      W.cell? ⟨p + 1, 0, none⟩ = some (.int .i64 s) ∧ W.cell? ⟨p + 1, 1, none⟩ = some (.int .u32 x) ∧ W.cell? ⟨p + 1, 2, none⟩ = some (.int .u32 y) := by
    rw [hW, hp]
    exact ⟨⟨(World.cell?_alloc_lt _ _ _ lt1).trans (World.cell?_alloc_at _ _ _ _ rfl), (World.cell?_alloc_lt _ _ _ lt1).trans (World.cell?_alloc_at _ _ _ _ rfl), (World.cell?_alloc_lt _ _ _ lt1).trans (World.cell?_alloc_at _ _ _ _ rfl)⟩,
      World.cell?_alloc_at _ _ _ _ hs1.symm, World.cell?_alloc_at _ _ _ _ hs1.symm, World.cell?_alloc_at _ _ _ _ hs1.symm⟩
  rw [← hW, ← hp]
  clear hW hs1 hp lt1
  obtain ⟨⟨c0, c1, c2⟩, d0, d1, d2⟩ := hD
  have HC : Hid ((W.drew.cell? ⟨p, 0, none⟩ = some (.int .i64 t) ∧ W.drew.cell? ⟨p, 1, none⟩ = some (.int .u32 u) ∧ W.drew.cell? ⟨p, 2, none⟩ = some (.int .u32 v)) ∧
      W.drew.cell? ⟨p + 1, 0, none⟩ = some (.int .i64 s) ∧ W.drew.cell? ⟨p + 1, 1, none⟩ = some (.int .u32 x) ∧ W.drew.cell? ⟨p + 1, 2, none⟩ = some (.int .u32 y)) := ⟨⟨c0, c1, c2⟩, d0, d1, d2⟩
  go_region_held3 (fun z => (z.cell? ⟨p, 0, none⟩ = some (.int .i64 t) ∧ z.cell? ⟨p, 1, none⟩ = some (.int .u32 u) ∧ z.cell? ⟨p, 2, none⟩ = some (.int .u32 v)) ∧
      z.cell? ⟨p + 1, 0, none⟩ = some (.int .i64 s) ∧ z.cell? ⟨p + 1, 1, none⟩ = some (.int .u32 x) ∧ z.cell? ⟨p + 1, 2, none⟩ = some (.int .u32 y))
    (first | exact ⟨⟨c0, c1, c2⟩, d0, d1, d2⟩ | exact H5.out.1 | exact ⟨⟨keepc H5.out.1.1.1 ((Mod.refl _ NoB).alloc _), keepc H5.out.1.1.2.1 ((Mod.refl _ NoB).alloc _), keepc H5.out.1.1.2.2 ((Mod.refl _ NoB).alloc _)⟩, keepc H5.out.1.2.1 ((Mod.refl _ NoB).alloc _), keepc H5.out.1.2.2.1 ((Mod.refl _ NoB).alloc _), keepc H5.out.1.2.2.2 ((Mod.refl _ NoB).alloc _)⟩)
    (first
    | (go_at_call 62; refine (cmp64_any _ _ _).mono ?_; rintro e w2 ⟨rfl, rfl⟩)
    | (go_at_call 79; refine (compare_grw _ _ _ _ _).mono ?_; rintro e w5 ⟨rfl, hm5⟩; have H5 := Lib.hid (And.intro (And.intro (And.intro (keepc HC.out.1.1 hm5.mod) (And.intro (keepc HC.out.1.2.1 hm5.mod) (keepc HC.out.1.2.2 hm5.mod))) (And.intro (keepc HC.out.2.1 hm5.mod) (And.intro (keepc HC.out.2.2.1 hm5.mod) (keepc HC.out.2.2.2 hm5.mod)))) hm5); clear hm5)
    | (go_at_call 61; refine (or2_any _ _ (cmpI t s) (orI (cmpI u x) (cmpI v y)) (World.cell?_alloc_at _ _ _ _ rfl) (World.cell?_alloc_at _ _ _ _ rfl)).mono ?_; rintro e w2 ⟨rfl, rfl⟩))
  all_goals
    go_wp2_with fail
    go_ret
    exact ⟨rfl, (HM.out.drew.trans H5.out.2).alloc _⟩
theorem before_any (w : World) (t u v s x y : Int) (a b : Bool) : Calls Tryz.prog 56 #[.agg #[.int .i64 t, .int .u32 u, .int .u32 v, .bool a], .agg #[.int .i64 s, .int .u32 x, .int .u32 y, .bool b]] w
    fun e w' => e = .returned (.bool (decide (before ⟨t, ⟨u, v⟩, a⟩ ⟨s, ⟨x, y⟩, b⟩))) ∧ Mod w w' NoB :=
  (before_grw w t u v s x y a b).mono fun _ _ h => ⟨h.1, h.2.mod⟩
end Go.Proofs.YtppambkffgmkgaaGreatDoor
end

section
/- Rows of lives; the contract of life's events. -/
namespace Go.Proofs.YtppambkffgmkgaaGreatDoor
open Go.RowKit
set_option linter.unusedVariables false

/-- A life, at a place. -/
def LfAt (w : World) (b o : Nat) (x : Lf) : Prop := w.cell? ⟨b, o, none⟩ = some (.int .u32 x.e.u) ∧ w.cell? ⟨b, o + 1, none⟩ = some (.int .u32 x.e.v) ∧ w.cell? ⟨b, o + 2, none⟩ = some (.int .i64 x.fr) ∧ w.cell? ⟨b, o + 3, none⟩ = some (.int .i64 x.to)
/-- A slice of lives. -/
def Lvs (w : World) (a : Option Addr) (l : List Lf) : Prop := l = [] ∨ ∃ b off, a = some ⟨b, off, none⟩ ∧ b < w.heap.size ∧ ∀ (i : Nat) (x : Lf), l[i]? = some x → LfAt w b (off + i * 4) x
theorem LfAt.mod {w w' : World} {b o : Nat} {x : Lf} (h : LfAt w b o x) (hm : Mod w w' NoB) : LfAt w' b o x := ⟨keepc h.1 hm, keepc h.2.1 hm, keepc h.2.2.1 hm, keepc h.2.2.2 hm⟩
theorem Lvs.mod {w w' : World} {a : Option Addr} {l : List Lf} (h : Lvs w a l) (hm : Mod w w' NoB) : Lvs w' a l := by
  rcases h with h | ⟨b, off, rfl, hb, h⟩
  · exact Or.inl h
  · exact Or.inr ⟨b, off, rfl, Nat.lt_of_lt_of_le hb hm.size, fun i x hx => (h i x hx).mod hm⟩

/-- How many of the first k end. -/
def ends (l : List Lf) (k : Nat) : Nat := ((l.take k).filter (fun x => decide (0 ≤ x.to))).length
theorem ends_succ {l : List Lf} {k : Nat} {x : Lf} (h : l[k]? = some x) : ends l (k + 1) = ends l k + (if 0 ≤ x.to then 1 else 0) := by
  unfold ends
  obtain ⟨h1, h2⟩ := List.getElem?_eq_some_iff.1 h
  rw [List.take_succ_eq_append_getElem h1, h2, List.filter_append, List.length_append]
  congr 1
  split <;> simp_all
theorem ends_le (l : List Lf) (k : Nat) : ends l k ≤ l.length := by
  unfold ends
  exact Nat.le_trans (List.length_filter_le _ _) (by simp; omega)

set_option maxRecDepth 100000 in
set_option maxHeartbeats 2000000 in
theorem events_any (w : World) (a : Option Addr) (cap : Nat) (l : List Lf) (hL : Lvs w a l) (hl : l.length ≤ 1000000) :
    Calls Tryz.prog 69 #[.slice a l.length cap] w fun e w' => e = .returned (.int .i64 (evCount l : Nat)) ∧ Mod w w' NoB := by
  have HL := Lib.hid hL
  clear hL
  go_enter Tryz.func69, Tryz.ntmps69
  go_wp2_with fail
  go_loopw [3, 10] (fun v i wr => ∃ (k : Nat) (c : Int), k ≤ l.length ∧ v = .int .i64 c ∧ i = .int .i64 k ∧ Hid (c = ((l.length + ends l k : Nat) : Int) ∧ Mod w wr NoB)) (fun _ i _ => l.length - (intOf i).toNat)
  case atStart => exact ⟨0, _, Nat.zero_le _, rfl, rfl, by simp [ends], Mod.refl _ _⟩
  case round =>
    obtain ⟨k, c, hk, rfl, rfl, HR⟩ := hrel
    have hc0 : 0 ≤ c ∧ c ≤ 2000000 := by have := HR.out.1; have := ends_le l k; omega
    by_cases hlt : k < l.length
    · obtain ⟨x, hx⟩ : ∃ x, l[k]? = some x := ⟨l[k], List.getElem?_eq_getElem hlt⟩
      obtain ⟨b, off, rfl, hb, h⟩ : ∃ b off, a = some ⟨b, off, none⟩ ∧ b < wr.heap.size ∧ LfAt wr b (off + k * 4) x := by
        rcases HL.out.mod HR.out.2 with h | ⟨b, off, h1, h2, h3⟩
        · rw [h] at hlt; simp at hlt
        · exact ⟨b, off, h1, h2, h3 k x hx⟩
      obtain ⟨c0, c1, c2, c3⟩ := h
      have hE := ends_succ hx
      have hki : (k : Int) < l.length := by omega
      by_cases ht : 0 ≤ x.to
      · rw [if_pos ht] at hE
        have HE := Lib.hid hE
        clear hE hx
        go_wp2_with fail
        go_roundw
        case rel => exact ⟨k + 1, _, by omega, rfl, by go_num, by have := HR.out.1; rw [HE.out]; omega, HR.out.2.alloc _⟩
        case measure => simp [intOf]; omega
      · rw [if_neg ht] at hE
        have HE := Lib.hid hE
        clear hE hx
        go_wp2_with fail
        go_roundw
        case rel => exact ⟨k + 1, _, by omega, rfl, by go_num, by have := HR.out.1; rw [HE.out]; omega, HR.out.2.alloc _⟩
        case measure => simp [intOf]; omega
    · have hkl : k = l.length := by omega
      have HE : Hid (c = (evCount l : Nat)) := by
        have h1 := HR.out.1
        have h2 : ends l k = (l.filter (fun x => decide (0 ≤ x.to))).length := by unfold ends; rw [hkl, List.take_length]
        show c = _
        unfold evCount
        rw [h1, h2]
      clear hkl
      go_wp2_with fail
      go_ret
      exact ⟨by rw [← HE.out]; rfl, HR.out.2⟩
end Go.Proofs.YtppambkffgmkgaaGreatDoor
end

section
/- Rows of events; rows of structs that a call owns, as slices. -/
namespace Go.Proofs.YtppambkffgmkgaaGreatDoor
open Go.RowKit
set_option linter.unusedVariables false

def encE (x : Ed) : Value := .agg #[.int .u32 x.u, .int .u32 x.v]
def encL (x : Lf) : List Value := [.int .u32 x.e.u, .int .u32 x.e.v, .int .i64 x.fr, .int .i64 x.to]
def encV (x : Ev) : List Value := [.int .i64 x.t, .int .u32 x.e.u, .int .u32 x.e.v, .bool x.add]

/-- An event, at a place. -/
def EvAt (w : World) (b o : Nat) (x : Ev) : Prop := w.cell? ⟨b, o, none⟩ = some (.int .i64 x.t) ∧ w.cell? ⟨b, o + 1, none⟩ = some (.int .u32 x.e.u) ∧ w.cell? ⟨b, o + 2, none⟩ = some (.int .u32 x.e.v) ∧ w.cell? ⟨b, o + 3, none⟩ = some (.bool x.add)
/-- A slice of events. -/
def Evs (w : World) (a : Option Addr) (l : List Ev) : Prop := l = [] ∨ ∃ b off, a = some ⟨b, off, none⟩ ∧ b < w.heap.size ∧ ∀ (i : Nat) (x : Ev), l[i]? = some x → EvAt w b (off + i * 4) x
theorem EvAt.mod {w w' : World} {b o : Nat} {x : Ev} (h : EvAt w b o x) (hm : Mod w w' NoB) : EvAt w' b o x := ⟨keepc h.1 hm, keepc h.2.1 hm, keepc h.2.2.1 hm, keepc h.2.2.2 hm⟩
theorem Evs.mod {w w' : World} {a : Option Addr} {l : List Ev} (h : Evs w a l) (hm : Mod w w' NoB) : Evs w' a l := by
  rcases h with h | ⟨b, off, rfl, hb, h⟩
  · exact Or.inl h
  · exact Or.inr ⟨b, off, rfl, Nat.lt_of_lt_of_le hb hm.size, fun i x hx => (h i x hx).mod hm⟩
theorem keepS {S : Nat → Prop} {w w' : World} {p : Addr} {v : Value} (c : w.cell? p = some v) (m : Mod w w' S) (hs : ¬ S p.block) : w'.cell? p = some v := (m.cell (World.block_lt_of_cell? _ _ c) hs).trans c
/-- Beside changes in S. -/
theorem Evs.modS {S : Nat → Prop} {w w' : World} {a : Option Addr} {l : List Ev} (h : Evs w a l) (hm : Mod w w' S) (hs : ∀ b, b < w.heap.size → (∃ p, a = some p ∧ p.block = b) → ¬ S b) : Evs w' a l := by
  rcases h with h | ⟨b, off, rfl, hb, h⟩
  · exact Or.inl h
  · have hn := hs b hb ⟨_, rfl, rfl⟩
    exact Or.inr ⟨b, off, rfl, Nat.lt_of_lt_of_le hb hm.size, fun i x hx => by
      obtain ⟨h1, h2, h3, h4⟩ := h i x hx
      exact ⟨keepS h1 hm hn, keepS h2 hm hn, keepS h3 hm hn, keepS h4 hm hn⟩⟩
theorem Lvs.modS {S : Nat → Prop} {w w' : World} {a : Option Addr} {l : List Lf} (h : Lvs w a l) (hm : Mod w w' S) (hs : ∀ b, b < w.heap.size → (∃ p, a = some p ∧ p.block = b) → ¬ S b) : Lvs w' a l := by
  rcases h with h | ⟨b, off, rfl, hb, h⟩
  · exact Or.inl h
  · have hn := hs b hb ⟨_, rfl, rfl⟩
    exact Or.inr ⟨b, off, rfl, Nat.lt_of_lt_of_le hb hm.size, fun i x hx => by
      obtain ⟨h1, h2, h3, h4⟩ := h i x hx
      exact ⟨keepS h1 hm hn, keepS h2 hm hn, keepS h3 hm hn, keepS h4 hm hn⟩⟩

theorem enc4_get {α : Type} {enc : α → List Value} (hk : ∀ x, (enc x).length = 4) : ∀ (l : List α) (i : Nat) (x : α) (j : Nat), l[i]? = some x → j < 4 → (l.flatMap enc)[i * 4 + j]? = (enc x)[j]?
  | [], i, x, j, h, _ => by simp at h
  | y :: l, 0, x, j, h, hj => by
    cases h
    rw [List.flatMap_cons, Nat.zero_mul, Nat.zero_add, List.getElem?_append_left (by rw [hk]; exact hj)]
  | y :: l, i + 1, x, j, h, hj => by
    rw [List.flatMap_cons, List.getElem?_append_right (by rw [hk]; omega), hk, show (i + 1) * 4 + j - 4 = i * 4 + j by omega]
    exact enc4_get hk l i x j (by simpa using h) hj
theorem encL_len (x : Lf) : (encL x).length = 4 := rfl
theorem encV_len (x : Ev) : (encV x).length = 4 := rfl
theorem enc4_len {α : Type} {enc : α → List Value} (hk : ∀ x, (enc x).length = 4) : ∀ l : List α, (l.flatMap enc).length = l.length * 4
  | [] => by simp
  | x :: l => by rw [List.flatMap_cons, List.length_append, enc4_len hk l, hk, List.length_cons]; omega

/-- A row that a call owns is a slice of lives. -/
theorem lvs_of_row {w : World} {base n cap : Nat} {e : TypeId} {a : Option Addr} {l : List Lf} (hl : l.length = n) (h : w.ownsRow base e 4 (.slice a n cap) n (l.flatMap encL)) : Lvs w a l := by
  rcases Nat.eq_zero_or_pos n with c | c
  · left; exact List.length_eq_zero_iff.1 (by omega)
  · right
    obtain ⟨g, cap', hv, h1, _⟩ := row_open h c
    cases hv
    have hb : g < w.heap.size := by
      have h0 : (l.flatMap encL)[0]? = some ((l.flatMap encL)[0]'(by rw [enc4_len encL_len]; omega)) := List.getElem?_eq_getElem _
      exact World.block_lt_of_cell? _ _ (h1 0 _ h0)
    refine ⟨g, 0, rfl, hb, fun i x hx => ?_⟩
    rw [Nat.zero_add]
    have g0 := enc4_get encL_len l i x 0 hx (by omega)
    have g1 := enc4_get encL_len l i x 1 hx (by omega)
    have g2 := enc4_get encL_len l i x 2 hx (by omega)
    have g3 := enc4_get encL_len l i x 3 hx (by omega)
    exact ⟨h1 _ _ g0, h1 _ _ g1, h1 _ _ g2, h1 _ _ g3⟩
theorem evs_of_row {w : World} {base n cap : Nat} {e : TypeId} {a : Option Addr} {l : List Ev} (hl : l.length = n) (h : w.ownsRow base e 4 (.slice a n cap) n (l.flatMap encV)) : Evs w a l := by
  rcases Nat.eq_zero_or_pos n with c | c
  · left; exact List.length_eq_zero_iff.1 (by omega)
  · right
    obtain ⟨g, cap', hv, h1, _⟩ := row_open h c
    cases hv
    have hb : g < w.heap.size := by
      have h0 : (l.flatMap encV)[0]? = some ((l.flatMap encV)[0]'(by rw [enc4_len encV_len]; omega)) := List.getElem?_eq_getElem _
      exact World.block_lt_of_cell? _ _ (h1 0 _ h0)
    refine ⟨g, 0, rfl, hb, fun i x hx => ?_⟩
    rw [Nat.zero_add]
    have g0 := enc4_get encV_len l i x 0 hx (by omega)
    have g1 := enc4_get encV_len l i x 1 hx (by omega)
    have g2 := enc4_get encV_len l i x 2 hx (by omega)
    have g3 := enc4_get encV_len l i x 3 hx (by omega)
    exact ⟨h1 _ _ g0, h1 _ _ g1, h1 _ _ g2, h1 _ _ g3⟩
/-- A place in a slice. -/
theorem Lvs.at {w : World} {a : Option Addr} {l : List Lf} (h : Lvs w a l) {k : Nat} (hk : k < l.length) : ∃ b off x, a = some ⟨b, off, none⟩ ∧ b < w.heap.size ∧ l[k]? = some x ∧ LfAt w b (off + k * 4) x := by
  rcases h with h | ⟨b, off, h1, h2, h3⟩
  · rw [h] at hk; simp at hk
  · exact ⟨b, off, l[k], h1, h2, List.getElem?_eq_getElem hk, h3 k _ (List.getElem?_eq_getElem hk)⟩
theorem Evs.at {w : World} {a : Option Addr} {l : List Ev} (h : Evs w a l) {k : Nat} (hk : k < l.length) : ∃ b off x, a = some ⟨b, off, none⟩ ∧ b < w.heap.size ∧ l[k]? = some x ∧ EvAt w b (off + k * 4) x := by
  rcases h with h | ⟨b, off, h1, h2, h3⟩
  · rw [h] at hk; simp at hk
  · exact ⟨b, off, l[k], h1, h2, List.getElem?_eq_getElem hk, h3 k _ (List.getElem?_eq_getElem hk)⟩
/-- One cell of a row that a call owns is set. -/
theorem row_set {w : World} {base g n cap size : Nat} {e : TypeId} {xs : List Value} (j : Nat) (v : Value) (h : w.ownsRow base e size (.slice (some ⟨g, 0, none⟩) n cap) n xs) :
    (w.setCell ⟨g, j, none⟩ v).ownsRow base e size (.slice (some ⟨g, 0, none⟩) n cap) n (xs.set j v) := by
  obtain ⟨h0, h2⟩ := h
  rcases h2 with ⟨hv, _⟩ | ⟨g', cap', cur, hv, hb, hg, h1, h2, h3, h4⟩
  · cases hv
  · cases hv
    refine ⟨by rw [List.length_set]; exact h0, Or.inr ⟨g, cap, cur.setIfInBounds j v, rfl, hb, ?_, h1, h2, by simpa using h3, ?_⟩⟩
    · unfold World.setCell
      simp [Array.getElem?_modify, hg]
    · rw [Array.toList_setIfInBounds, List.take_set, h4]
theorem flat_set : ∀ (l : List Lf) (i : Nat) (x : Lf) (t : Int), l[i]? = some x → (l.flatMap encL).set (i * 4 + 3) (.int .i64 t) = (l.set i ⟨x.e, x.fr, t⟩).flatMap encL
  | [], i, x, t, h => by simp at h
  | y :: l, 0, x, t, h => by
    cases h
    rfl
  | y :: l, i + 1, x, t, h => by
    have ih := flat_set l i x t (by simpa using h)
    rw [List.set_cons_succ, List.flatMap_cons, List.flatMap_cons, ← ih]
    rw [List.set_append_right _ _ (by show 4 ≤ _; omega)]
    congr 2
    show (i + 1) * 4 + 3 - 4 = _
    omega
end Go.Proofs.YtppambkffgmkgaaGreatDoor
end
