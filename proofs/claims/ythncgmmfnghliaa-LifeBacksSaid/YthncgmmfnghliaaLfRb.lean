/- The reference: rows of edges; Right, Find, Has, Rising. -/
import Derived.Test.YthncgmmfnghliaaLfRa
namespace Go.Proofs.Ythncgmmfnghliaa
open Go.RowKit
set_option linter.unusedVariables false

def encD (x : Ed) : List Value := [.int .u32 x.u, .int .u32 x.v]
theorem encD_len (x : Ed) : (encD x).length = 2 := rfl
/-- An edge, at a place. -/
def EdAt (w : World) (b o : Nat) (x : Ed) : Prop := w.cell? ⟨b, o, none⟩ = some (.int .u32 x.u) ∧ w.cell? ⟨b, o + 1, none⟩ = some (.int .u32 x.v)
/-- A slice of edges. -/
def Eds (w : World) (a : Option Addr) (l : List Ed) : Prop := l = [] ∨ ∃ b off, a = some ⟨b, off, none⟩ ∧ b < w.heap.size ∧ ∀ (i : Nat) (x : Ed), l[i]? = some x → EdAt w b (off + i * 2) x
theorem EdAt.mod {w w' : World} {b o : Nat} {x : Ed} (h : EdAt w b o x) (hm : Mod w w' NoB) : EdAt w' b o x := ⟨keepc h.1 hm, keepc h.2 hm⟩
theorem Eds.mod {w w' : World} {a : Option Addr} {l : List Ed} (h : Eds w a l) (hm : Mod w w' NoB) : Eds w' a l := by
  rcases h with h | ⟨b, off, rfl, hb, h⟩
  · exact Or.inl h
  · exact Or.inr ⟨b, off, rfl, Nat.lt_of_lt_of_le hb hm.size, fun i x hx => (h i x hx).mod hm⟩
theorem Eds.at {w : World} {a : Option Addr} {l : List Ed} (h : Eds w a l) {k : Nat} (hk : k < l.length) : ∃ b off x, a = some ⟨b, off, none⟩ ∧ b < w.heap.size ∧ l[k]? = some x ∧ EdAt w b (off + k * 2) x := by
  rcases h with h | ⟨b, off, h1, h2, h3⟩
  · rw [h] at hk; simp at hk
  · exact ⟨b, off, l[k], h1, h2, List.getElem?_eq_getElem hk, h3 k _ (List.getElem?_eq_getElem hk)⟩
theorem enc2_len : ∀ l : List Ed, (l.flatMap encD).length = l.length * 2
  | [] => by simp
  | x :: l => by rw [List.flatMap_cons, List.length_append, enc2_len l, encD_len, List.length_cons]; omega
theorem enc2_get : ∀ (l : List Ed) (i : Nat) (x : Ed) (j : Nat), l[i]? = some x → j < 2 → (l.flatMap encD)[i * 2 + j]? = (encD x)[j]?
  | [], i, x, j, h, _ => by simp at h
  | y :: l, 0, x, j, h, hj => by
    cases h
    rw [List.flatMap_cons, Nat.zero_mul, Nat.zero_add, List.getElem?_append_left (by rw [encD_len]; exact hj)]
  | y :: l, i + 1, x, j, h, hj => by
    rw [List.flatMap_cons, List.getElem?_append_right (by rw [encD_len]; omega), encD_len, show (i + 1) * 2 + j - 2 = i * 2 + j by omega]
    exact enc2_get l i x j (by simpa using h) hj
theorem eds_of_row {w : World} {base n cap : Nat} {e : TypeId} {a : Option Addr} {l : List Ed} (hl : l.length = n) (h : w.ownsRow base e 2 (.slice a n cap) n (l.flatMap encD)) : Eds w a l := by
  rcases Nat.eq_zero_or_pos n with c | c
  · left; exact List.length_eq_zero_iff.1 (by omega)
  · right
    obtain ⟨g, cap', hv, h1, _⟩ := row_open h c
    cases hv
    have hb : g < w.heap.size := by
      have h0 : (l.flatMap encD)[0]? = some ((l.flatMap encD)[0]'(by rw [enc2_len]; omega)) := List.getElem?_eq_getElem _
      exact World.block_lt_of_cell? _ _ (h1 0 _ h0)
    refine ⟨g, 0, rfl, hb, fun i x hx => ?_⟩
    rw [Nat.zero_add]
    have g0 := enc2_get l i x 0 hx (by omega)
    have g1 := enc2_get l i x 1 hx (by omega)
    exact ⟨h1 _ _ g0, h1 _ _ g1⟩

theorem rright_any (w : World) (u v n : Int) (hv : 0 ≤ v ∧ v ≤ 4294967295) : Calls Try.prog 40 #[.agg #[.int .u32 u, .int .u32 v], .int .u64 n] w fun e w' => e = .returned (.bool (decide (right ⟨u, v⟩ n))) ∧ Mod w w' NoB := by
  unfold right
  have hwr : IntKind.u64.wrap v = v := IntWalk.u64_in _ (by omega)
  by_cases h1 : u < v
  · by_cases h2 : v < n
    · rw [show decide (u < v ∧ v < n) = true by simp [h1, h2]]
      go_enter Try.func40, Try.ntmps40
      go_wp2_with fail
      go_ret
      exact ⟨rfl, (Mod.refl _ _).alloc _⟩
    · rw [show decide (u < v ∧ v < n) = false by simp [h2]]
      go_enter Try.func40, Try.ntmps40
      go_wp2_with fail
      go_ret
      exact ⟨rfl, (Mod.refl _ _).alloc _⟩
  · rw [show decide (u < v ∧ v < n) = false by simp [h1]]
    go_enter Try.func40, Try.ntmps40
    go_wp2_with fail
    go_ret
    exact ⟨rfl, (Mod.refl _ _).alloc _⟩

/-- Where an edge stands, as the reference tells it. -/
def fndI (x : Ed) (l : List Ed) : Int := match fndE x l with | none => -1 | some k => k
theorem fndE_first {x : Ed} : ∀ {l : List Ed} {k : Nat}, l[k]? = some x → (∀ j, j < k → l[j]? ≠ some x) → fndE x l = some k
  | [], k, h, _ => by simp at h
  | y :: l, 0, h, _ => by
    have : y = x := by simpa using h
    simp [fndE, this]
  | y :: l, k + 1, h, hn => by
    have h0 : y ≠ x := fun e => hn 0 (by omega) (by simp [e])
    have ih := fndE_first (l := l) (k := k) (by simpa using h) (fun j hj => by simpa using hn (j + 1) (by omega))
    simp [fndE, h0, ih]
theorem fndE_out {x : Ed} : ∀ {l : List Ed}, (∀ j : Nat, l[j]? ≠ some x) → fndE x l = none
  | [], _ => rfl
  | y :: l, hn => by
    have h0 : y ≠ x := fun e => hn 0 (by simp [e])
    have ih := fndE_out (l := l) (fun j => by simpa using hn (j + 1))
    simp [fndE, h0, ih]

set_option maxHeartbeats 2000000 in
theorem find_any (w : World) (a : Option Addr) (cap : Nat) (l : List Ed) (x : Ed) (hL : Eds w a l) (hl : l.length ≤ 100000) :
    Calls Try.prog 49 #[.slice a l.length cap, .agg #[.int .u32 x.u, .int .u32 x.v]] w fun e w' => e = .returned (.int .i64 (fndI x l)) ∧ Mod w w' NoB := by
  have HL := Lib.hid hL
  clear hL
  have hmx := mixed
  obtain ⟨h0, hh0⟩ : ∃ h0, h0 = w.heap.size := ⟨_, rfl⟩
  obtain ⟨W, hW⟩ : ∃ W, W = w.alloc (.cells #[.int .u32 x.u, .int .u32 x.v] 54) := ⟨_, rfl⟩
  have HW : Hid (Mod w W NoB ∧ EdAt W h0 0 x) := by
    show _ ∧ _
    rw [hW, hh0]; exact ⟨(Mod.refl _ _).alloc _, World.cell?_alloc_at _ _ _ _ rfl, World.cell?_alloc_at _ _ _ _ rfl⟩
  obtain ⟨R, hR⟩ : ∃ R, fndI x l = R := ⟨_, rfl⟩
  rw [hR]
  have HR := Lib.hid hR
  clear hR
  go_enter Try.func49, Try.ntmps49
  go_wp2_with fail
  rw [← hW, ← hh0]
  clear hW hh0
  go_loopw [5] (fun i wr => ∃ k : Nat, k ≤ l.length ∧ i = .int .i64 k ∧ Hid (Mod w wr NoB ∧ EdAt wr h0 0 x ∧ ∀ j, j < k → l[j]? ≠ some x)) (fun i _ => l.length - (intOf i).toNat)
  case atStart => exact ⟨0, Nat.zero_le _, rfl, HW.out.1, HW.out.2, fun j hj => by omega⟩
  case round =>
    obtain ⟨k, hk, rfl, HI⟩ := hrel
    by_cases hlt : k < l.length
    · obtain ⟨b, off, y, rfl, hbw, hy, hC⟩ := (HL.out.mod HI.out.1).at hlt
      have hki : (k : Int) < l.length := by omega
      obtain ⟨c0, c1⟩ := hC
      obtain ⟨e0, e1⟩ := HI.out.2.1
      have l0 := World.block_lt_of_cell? _ _ e0
      have e1' : wr.cell? ⟨h0, 1, none⟩ = some (.int .u32 x.v) := e1
      have HY := Lib.hid hy
      clear hy e1
      by_cases hu : y.u = x.u
      · by_cases hv : y.v = x.v
        · have hyx : y = x := Ed.ext' hu hv
          have hRk : R = k := by
            have h1 := HY.out
            rw [hyx] at h1
            rw [← HR.out]; unfold fndI; rw [fndE_first h1 HI.out.2.2]
          subst hyx
          clear hu hv
          subst hRk
          go_upto_region 4 with (fail)
          go_quiet (fail)
          go_wp2_with fail
          go_ret
          exact ⟨rfl, HI.out.1.drewN _⟩
        · have hn : Hid (∀ j, j < k + 1 → l[j]? ≠ some x) := fun j hj => by
            rcases Nat.lt_succ_iff_lt_or_eq.1 hj with h | h
            · exact HI.out.2.2 j h
            · subst h; rw [HY.out]; intro c; exact hv (by rw [Option.some.inj c])
          have hvb : (y.v == x.v) = false := by simp [hv]
          clear hv
          rw [hu] at c0
          go_upto_region 4 with (fail)
          go_quiet (fail)
          go_wp2_with fail
          go_roundw
          case rel => exact ⟨k + 1, by omega, by go_num, HI.out.1.drewN _, HI.out.2.1.mod ((Mod.refl _ _).drewN _), hn.out⟩
          case measure => simp [intOf]; omega
      · have hn : Hid (∀ j, j < k + 1 → l[j]? ≠ some x) := fun j hj => by
          rcases Nat.lt_succ_iff_lt_or_eq.1 hj with h | h
          · exact HI.out.2.2 j h
          · subst h; rw [HY.out]; intro c; exact hu (by rw [Option.some.inj c])
        have hub : (y.u == x.u) = false := by simp [hu]
        clear hu
        go_upto_region 4 with (fail)
        go_quiet (fail)
        go_wp2_with fail
        go_roundw
        case rel => exact ⟨k + 1, by omega, by go_num, HI.out.1.drewN _, HI.out.2.1.mod ((Mod.refl _ _).drewN _), hn.out⟩
        case measure => simp [intOf]; omega
    · have hkl : k = l.length := by omega
      have hRk : R = -1 := by
        rw [← HR.out]; unfold fndI; rw [fndE_out (fun j => by
          rcases Nat.lt_or_ge j l.length with h | h
          · exact HI.out.2.2 j (by omega)
          · rw [List.getElem?_eq_none h]; simp)]
      clear hkl
      subst hRk
      go_wp2_with fail
      go_ret
      exact ⟨rfl, HI.out.1⟩

theorem fndI_sign (x : Ed) (l : List Ed) : (0 ≤ fndI x l) ↔ (fndE x l).isSome = true := by
  unfold fndI
  cases fndE x l with
  | none => simp
  | some k => simp
theorem has_any (w : World) (a : Option Addr) (cap : Nat) (l : List Ed) (x : Ed) (hL : Eds w a l) (hl : l.length ≤ 100000) :
    Calls Try.prog 23 #[.slice a l.length cap, .agg #[.int .u32 x.u, .int .u32 x.v]] w fun e w' => e = .returned (.bool (fndE x l).isSome) ∧ Mod w w' NoB := by
  have hb : decide (0 ≤ fndI x l) = (fndE x l).isSome := by rw [Bool.eq_iff_iff, ← fndI_sign]; simp
  rw [← hb]
  clear hb
  have HL := Lib.hid hL
  clear hL
  obtain ⟨W, hW⟩ : ∃ W, W = w.alloc (.cells #[.int .u32 x.u, .int .u32 x.v] 54) := ⟨_, rfl⟩
  have HW : Hid (Mod w W NoB) := by
    rw [hW]; exact (Mod.refl _ _).alloc _
  go_enter Try.func23, Try.ntmps23
  go_wp2_with fail
  rw [← hW]
  clear hW
  refine (find_any _ a cap l x (HL.out.mod HW.out) hl).mono ?_
  rintro e w1 ⟨rfl, hm⟩
  have HM : Hid (Mod w w1 NoB) := HW.out.trans hm (fun _ _ h => h)
  clear hm
  go_wp2_with fail
  go_ret
  exact ⟨rfl, HM.out⟩

set_option maxHeartbeats 2000000 in
theorem rising_any (w : World) (a : Option Addr) (cap : Nat) (l : List Ed) (hL : Eds w a l) (hl : l.length ≤ 100000) (hs : l.Pairwise edLt) :
    Calls Try.prog 51 #[.slice a l.length cap] w fun e w' => e = .returned (.bool true) ∧ Mod w w' NoB := by
  have HL := Lib.hid hL
  have HS := Lib.hid hs
  clear hL hs
  have hmx := mixed
  go_enter Try.func51, Try.ntmps51
  go_wp2_with fail
  go_loopw [3] (fun i wr => ∃ j : Nat, j ≤ l.length ∧ i = .int .i64 ((j : Int) + 1) ∧ Hid (Mod w wr NoB)) (fun i _ => l.length + 1 - (intOf i).toNat)
  case atStart => exact ⟨0, Nat.zero_le _, rfl, Mod.refl _ _⟩
  case round =>
    obtain ⟨j, hj, rfl, HI⟩ := hrel
    by_cases hlt : j + 1 < l.length
    · obtain ⟨b, off, y, rfl, hbw, hy, hC⟩ := (HL.out.mod HI.out).at (show j < l.length by omega)
      obtain ⟨b', off', x, hab, _, hx, hD⟩ := (HL.out.mod HI.out).at hlt
      cases hab
      have hji : (j : Int) < l.length := by omega
      have hki : (j : Int) + 1 < l.length := by omega
      have hkp : (0 : Int) ≤ (j : Int) + 1 := by omega
      have htn : ((j : Int) + 1).toNat = j + 1 := by omega
      have hw1 : IntKind.i64.wrap ((j : Int) + 1 - 1) = (j : Int) := by rw [IntWalk.i64_in _ (by omega)]; omega
      have hw2 : IntKind.i64.wrap (j : Int) = (j : Int) := IntWalk.i64_in _ (by omega)
      obtain ⟨c0, c1⟩ := hC
      obtain ⟨d0, d1⟩ := hD
      have g0 := cg c0
      have g1 := cg c1
      have f0 := cg d0
      have f1 := cg d1
      have hlt2 : edLt y x := by
        obtain ⟨p1, p2⟩ := List.getElem?_eq_some_iff.1 hy
        obtain ⟨q1, q2⟩ := List.getElem?_eq_some_iff.1 hx
        have := List.pairwise_iff_getElem.1 HS.out j (j + 1) p1 q1 (by omega)
        rwa [p2, q2] at this
      have HB : Hid (∀ z, Calls Try.prog 41 #[.agg #[.int .u32 y.u, .int .u32 y.v], .agg #[.int .u32 x.u, .int .u32 x.v]] z fun e w' => e = .returned (.bool true) ∧ Grw z w') := fun z => by
        have := rless_grw z y.u y.v x.u x.v
        rwa [show decide (edLt ⟨y.u, y.v⟩ ⟨x.u, x.v⟩) = true by simpa using hlt2] at this
      clear hlt2 hy hx hbw
      go_upto_region 4 with (fail)
      go_quiet_grown ((go_at_call 41; exact Calls.byGrw (HB.out _)))
      go_wp2_with fail
      go_roundw
      case rel => exact ⟨j + 1, by omega, by go_num, HI.out.trans (Grw.grown wr nq osq).mod (fun _ _ h => h)⟩
      case measure => simp [intOf]; omega
    · have hki : decide ((j : Int) + 1 < l.length) = false := decide_eq_false (by omega)
      go_wp2_with fail
      go_ret
      exact ⟨rfl, HI.out⟩
end Go.Proofs.Ythncgmmfnghliaa
