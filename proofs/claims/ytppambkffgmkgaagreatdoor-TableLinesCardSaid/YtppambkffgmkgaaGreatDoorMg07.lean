/- Merged: LfRa LfRb LfRc -/
import Derived.Test.YtppambkffgmkgaaGreatDoorMg06
import Derived.Test.YtppambkffgmkgaaGreatDoorMg02
import Derived.OwnWalk
import Derived.Deep.RegionLaw
section
/- The reference's orders: Less, Before, LifeLess, Right; rows of edges; Find, Has, Rising. -/
namespace Go.Proofs.YtppambkffgmkgaaGreatDoor
open Go.RowKit
set_option linter.unusedVariables false

set_option maxRecDepth 100000 in
set_option maxHeartbeats 1000000 in
theorem rless_grw (w : World) (u v x y : Int) : Calls Tryz.prog 54 #[.agg #[.int .u32 u, .int .u32 v], .agg #[.int .u32 x, .int .u32 y]] w fun e w' => e = .returned (.bool (decide (edLt ⟨u, v⟩ ⟨x, y⟩))) ∧ Grw w w' := by
  unfold edLt
  by_cases h1 : u < x
  · rw [show decide (u < x ∨ u = x ∧ v < y) = true by simp [h1]]
    go_enter Tryz.func54, Tryz.ntmps54
    go_wp2_with fail
    go_ret
    exact ⟨rfl, ((Grw.refl _).alloc _).alloc _⟩
  · have d1 : decide (u < x) = false := decide_eq_false h1
    by_cases h2 : u = x
    · subst h2
      by_cases h3 : v < y
      · rw [show decide (u < u ∨ u = u ∧ v < y) = true by simp [h3]]
        go_enter Tryz.func54, Tryz.ntmps54
        go_wp2_with fail
        go_ret
        exact ⟨rfl, ((Grw.refl _).alloc _).alloc _⟩
      · rw [show decide (u < u ∨ u = u ∧ v < y) = false by simp [h3]]
        have d3 : decide (v < y) = false := decide_eq_false h3
        go_enter Tryz.func54, Tryz.ntmps54
        go_wp2_with fail
        go_ret
        exact ⟨rfl, ((Grw.refl _).alloc _).alloc _⟩
    · rw [show decide (u < x ∨ u = x ∧ v < y) = false by simp [h1, h2]]
      have d2 : (u == x) = false := by simpa using h2
      go_enter Tryz.func54, Tryz.ntmps54
      go_wp2_with fail
      go_ret
      exact ⟨rfl, ((Grw.refl _).alloc _).alloc _⟩

set_option maxRecDepth 100000 in
set_option maxHeartbeats 2000000 in
theorem rbefore_grw (w : World) (t u v s x y : Int) (a b : Bool) : Calls Tryz.prog 51 #[.agg #[.int .i64 t, .int .u32 u, .int .u32 v, .bool a], .agg #[.int .i64 s, .int .u32 x, .int .u32 y, .bool b]] w
    fun e w' => e = .returned (.bool (decide (before ⟨t, ⟨u, v⟩, a⟩ ⟨s, ⟨x, y⟩, b⟩))) ∧ Grw w w' := by
  unfold before
  by_cases h1 : t < s
  · rw [show decide (t < s ∨ t = s ∧ edLt ⟨u, v⟩ ⟨x, y⟩) = true by simp [h1]]
    go_enter Tryz.func51, Tryz.ntmps51
    go_wp2_with fail
    go_ret
    exact ⟨rfl, ((Grw.refl _).alloc _).alloc _⟩
  · have d1 : decide (t < s) = false := decide_eq_false h1
    by_cases h2 : t = s
    · subst h2
      have hb : decide (t < t ∨ t = t ∧ edLt ⟨u, v⟩ ⟨x, y⟩) = decide (edLt ⟨u, v⟩ ⟨x, y⟩) := decide_eq_decide.2 (by simp)
      show Calls _ _ _ _ fun e w' => e = .returned (.bool (decide (t < t ∨ t = t ∧ edLt ⟨u, v⟩ ⟨x, y⟩))) ∧ Grw w w'
      rw [hb]
      obtain ⟨r, hr⟩ : ∃ r, decide (edLt ⟨u, v⟩ ⟨x, y⟩) = r := ⟨_, rfl⟩
      have HL : Hid (∀ z, Calls Tryz.prog 54 #[.agg #[.int .u32 u, .int .u32 v], .agg #[.int .u32 x, .int .u32 y]] z fun e w' => e = .returned (.bool r) ∧ Grw z w') := fun z => by rw [← hr]; exact rless_grw z u v x y
      rw [hr]
      clear hb hr
      go_enter Tryz.func51, Tryz.ntmps51
      go_wp2_with fail
      refine (HL.out _).mono ?_
      rintro e w1 ⟨rfl, hm⟩
      have HM : Hid (Grw w w1) := (((Grw.refl _).alloc _).alloc _).trans hm
      clear hm
      go_wp2_with fail
      go_ret
      exact ⟨rfl, HM.out⟩
    · rw [show decide (t < s ∨ t = s ∧ edLt ⟨u, v⟩ ⟨x, y⟩) = false by simp [h1, h2]]
      have d2 : (t == s) = false := by simpa using h2
      go_enter Tryz.func51, Tryz.ntmps51
      go_wp2_with fail
      go_ret
      exact ⟨rfl, ((Grw.refl _).alloc _).alloc _⟩

set_option maxRecDepth 100000 in
set_option maxHeartbeats 2000000 in
theorem lfless_grw (w : World) (u v f1 t1 x y f2 t2 : Int) : Calls Tryz.prog 50 #[.agg #[.int .u32 u, .int .u32 v, .int .i64 f1, .int .i64 t1], .agg #[.int .u32 x, .int .u32 y, .int .i64 f2, .int .i64 t2]] w
    fun e w' => e = .returned (.bool (decide (lfLt ⟨⟨u, v⟩, f1, t1⟩ ⟨⟨x, y⟩, f2, t2⟩))) ∧ Grw w w' := by
  obtain ⟨q, hq⟩ : ∃ q, q = w.heap.size := ⟨_, rfl⟩
  obtain ⟨W, hW⟩ : ∃ W, W = (w.alloc (.cells #[.int .u32 u, .int .u32 v, .int .i64 f1, .int .i64 t1] 81)).alloc (.cells #[.int .u32 x, .int .u32 y, .int .i64 f2, .int .i64 t2] 81) := ⟨_, rfl⟩
  have HM : Hid (Grw w W) := by rw [hW]; exact ((Grw.refl _).alloc _).alloc _
  have hs1 : (w.alloc (.cells #[.int .u32 u, .int .u32 v, .int .i64 f1, .int .i64 t1] 81)).heap.size = w.heap.size + 1 := by simp
  have lt1 : w.heap.size < (w.alloc (.cells #[.int .u32 u, .int .u32 v, .int .i64 f1, .int .i64 t1] 81)).heap.size := by rw [hs1]; omega
  have HC : Hid (LfAt W q 0 ⟨⟨u, v⟩, f1, t1⟩ ∧ LfAt W (q + 1) 0 ⟨⟨x, y⟩, f2, t2⟩) := by
    rw [hW, hq]
    exact ⟨⟨(World.cell?_alloc_lt _ _ _ lt1).trans (World.cell?_alloc_at _ _ _ _ rfl), (World.cell?_alloc_lt _ _ _ lt1).trans (World.cell?_alloc_at _ _ _ _ rfl), (World.cell?_alloc_lt _ _ _ lt1).trans (World.cell?_alloc_at _ _ _ _ rfl), (World.cell?_alloc_lt _ _ _ lt1).trans (World.cell?_alloc_at _ _ _ _ rfl)⟩,
      World.cell?_alloc_at _ _ _ _ hs1.symm, World.cell?_alloc_at _ _ _ _ hs1.symm, World.cell?_alloc_at _ _ _ _ hs1.symm, World.cell?_alloc_at _ _ _ _ hs1.symm⟩
  unfold lfLt
  simp only
  by_cases h1 : edLt ⟨u, v⟩ ⟨x, y⟩
  · have HL : Hid (∀ z, Calls Tryz.prog 54 #[.agg #[.int .u32 u, .int .u32 v], .agg #[.int .u32 x, .int .u32 y]] z fun e w' => e = .returned (.bool true) ∧ Grw z w') := fun z => by
      have := rless_grw z u v x y
      rwa [show decide (edLt ⟨u, v⟩ ⟨x, y⟩) = true by simp [h1]] at this
    rw [show decide (edLt ⟨u, v⟩ ⟨x, y⟩ ∨ (⟨u, v⟩ : Ed) = ⟨x, y⟩ ∧ f1 < f2) = true by simp [h1]]
    clear h1
    go_enter Tryz.func50, Tryz.ntmps50
    go_wp2_with fail
    rw [← hW, ← hq]
    clear hW hs1 hq lt1
    refine (HL.out _).mono ?_
    rintro e w1 ⟨rfl, hm⟩
    have HN : Hid (Grw w w1) := HM.out.trans hm
    clear hm
    go_wp2_with fail
    go_ret
    exact ⟨rfl, HN.out⟩
  · have HL : Hid (∀ z, Calls Tryz.prog 54 #[.agg #[.int .u32 u, .int .u32 v], .agg #[.int .u32 x, .int .u32 y]] z fun e w' => e = .returned (.bool false) ∧ Grw z w') := fun z => by
      have := rless_grw z u v x y
      rwa [show decide (edLt ⟨u, v⟩ ⟨x, y⟩) = false by simp [h1]] at this
    obtain ⟨r, hr⟩ : ∃ r, decide (edLt ⟨u, v⟩ ⟨x, y⟩ ∨ (⟨u, v⟩ : Ed) = ⟨x, y⟩ ∧ f1 < f2) = r := ⟨_, rfl⟩
    rw [hr]
    have HR := Lib.hid hr
    have H1 := Lib.hid h1
    clear h1 hr
    go_enter Tryz.func50, Tryz.ntmps50
    go_wp2_with fail
    rw [← hW, ← hq]
    clear hW hs1 hq lt1
    refine (HL.out _).mono ?_
    rintro e w1 ⟨rfl, hm⟩
    have HN : Hid (Grw w w1) := HM.out.trans hm
    obtain ⟨a0, a1, a2, a3⟩ := HC.out.1.mod hm.mod
    obtain ⟨b0, b1, b2, b3⟩ := HC.out.2.mod hm.mod
    simp only [Nat.zero_add] at a1 a2 a3 b1 b2 b3
    clear hm HM HC
    by_cases hu : u = x
    · by_cases hv : v = y
      · subst hu hv
        by_cases hf : f1 < f2
        · have hr : r = true := by rw [← HR.out]; simp [hf]
          subst hr
          go_wp2_with fail
          go_ret
          exact ⟨rfl, HN.out⟩
        · have hr : r = false := by rw [← HR.out]; simp [hf, edLt_irrefl]
          have hfb : decide (f1 < f2) = false := decide_eq_false hf
          subst hr
          go_wp2_with fail
          go_ret
          exact ⟨rfl, HN.out⟩
      · have hr : r = false := by rw [← HR.out]; simp [H1.out, hv]
        have hvb : (v == y) = false := by simp [hv]
        subst hr hu
        clear hv
        go_wp2_with fail
        go_ret
        exact ⟨rfl, HN.out⟩
    · have hr : r = false := by rw [← HR.out]; simp [H1.out, hu]
      have hub : (u == x) = false := by simp [hu]
      subst hr
      clear hu
      go_wp2_with fail
      go_ret
      exact ⟨rfl, HN.out⟩
end Go.Proofs.YtppambkffgmkgaaGreatDoor
end

section
/- The reference: rows of edges; Right, Find, Has, Rising. -/
namespace Go.Proofs.YtppambkffgmkgaaGreatDoor
open Go.RowKit
set_option linter.unusedVariables false

def encD (x : Ed) : List Value := [.int .u32 x.u, .int .u32 x.v]
theorem encD_len (x : Ed) : (encD x).length = 2 := rfl
/-- An edge, at a place. -/
def EdAt (w : World) (b o : Nat) (x : Ed) : Prop := w.cell? ⟨b, o, none⟩ = some (.int .u32 x.u) ∧ w.cell? ⟨b, o + 1, none⟩ = some (.int .u32 x.v)
/-- A slice of edges. -/
def Eds (w : World) (a : Option Addr) (l : List Ed) : Prop := l = [] ∨ ∃ b off, a = some ⟨b, off, none⟩ ∧ b < w.heap.size ∧ ∀ (i : Nat) (x : Ed), l[i]? = some x → EdAt w b (off + i * 2) x
theorem EdAt.mod {w w' : World} {b o : Nat} {x : Ed} (h : EdAt w b o x) (hm : Mod w w' NoB) : EdAt w' b o x := ⟨keepc h.1 hm, keepc h.2 hm⟩
theorem Eds.mod {w w' : World} {a : Option Addr} {l : List Ed} (h : Eds w a l) (hm : Mod w w' NoB) : Eds w' a l := by
  rcases h with h | ⟨b, off, rfl, hb, h⟩
  · exact Or.inl h
  · exact Or.inr ⟨b, off, rfl, Nat.lt_of_lt_of_le hb hm.size, fun i x hx => (h i x hx).mod hm⟩
theorem Eds.at {w : World} {a : Option Addr} {l : List Ed} (h : Eds w a l) {k : Nat} (hk : k < l.length) : ∃ b off x, a = some ⟨b, off, none⟩ ∧ b < w.heap.size ∧ l[k]? = some x ∧ EdAt w b (off + k * 2) x := by
  rcases h with h | ⟨b, off, h1, h2, h3⟩
  · rw [h] at hk; simp at hk
  · exact ⟨b, off, l[k], h1, h2, List.getElem?_eq_getElem hk, h3 k _ (List.getElem?_eq_getElem hk)⟩
theorem enc2_len : ∀ l : List Ed, (l.flatMap encD).length = l.length * 2
  | [] => by simp
  | x :: l => by rw [List.flatMap_cons, List.length_append, enc2_len l, encD_len, List.length_cons]; omega
theorem enc2_get : ∀ (l : List Ed) (i : Nat) (x : Ed) (j : Nat), l[i]? = some x → j < 2 → (l.flatMap encD)[i * 2 + j]? = (encD x)[j]?
  | [], i, x, j, h, _ => by simp at h
  | y :: l, 0, x, j, h, hj => by
    cases h
    rw [List.flatMap_cons, Nat.zero_mul, Nat.zero_add, List.getElem?_append_left (by rw [encD_len]; exact hj)]
  | y :: l, i + 1, x, j, h, hj => by
    rw [List.flatMap_cons, List.getElem?_append_right (by rw [encD_len]; omega), encD_len, show (i + 1) * 2 + j - 2 = i * 2 + j by omega]
    exact enc2_get l i x j (by simpa using h) hj
theorem eds_of_row {w : World} {base n cap : Nat} {e : TypeId} {a : Option Addr} {l : List Ed} (hl : l.length = n) (h : w.ownsRow base e 2 (.slice a n cap) n (l.flatMap encD)) : Eds w a l := by
  rcases Nat.eq_zero_or_pos n with c | c
  · left; exact List.length_eq_zero_iff.1 (by omega)
  · right
    obtain ⟨g, cap', hv, h1, _⟩ := row_open h c
    cases hv
    have hb : g < w.heap.size := by
      have h0 : (l.flatMap encD)[0]? = some ((l.flatMap encD)[0]'(by rw [enc2_len]; omega)) := List.getElem?_eq_getElem _
      exact World.block_lt_of_cell? _ _ (h1 0 _ h0)
    refine ⟨g, 0, rfl, hb, fun i x hx => ?_⟩
    rw [Nat.zero_add]
    have g0 := enc2_get l i x 0 hx (by omega)
    have g1 := enc2_get l i x 1 hx (by omega)
    exact ⟨h1 _ _ g0, h1 _ _ g1⟩

theorem rright_any (w : World) (u v n : Int) (hv : 0 ≤ v ∧ v ≤ 4294967295) : Calls Tryz.prog 78 #[.agg #[.int .u32 u, .int .u32 v], .int .u64 n] w fun e w' => e = .returned (.bool (decide (right ⟨u, v⟩ n))) ∧ Mod w w' NoB := by
  unfold right
  have hwr : IntKind.u64.wrap v = v := IntWalk.u64_in _ (by omega)
  by_cases h1 : u < v
  · by_cases h2 : v < n
    · rw [show decide (u < v ∧ v < n) = true by simp [h1, h2]]
      go_enter Tryz.func78, Tryz.ntmps78
      go_wp2_with fail
      go_ret
      exact ⟨rfl, (Mod.refl _ _).alloc _⟩
    · rw [show decide (u < v ∧ v < n) = false by simp [h2]]
      go_enter Tryz.func78, Tryz.ntmps78
      go_wp2_with fail
      go_ret
      exact ⟨rfl, (Mod.refl _ _).alloc _⟩
  · rw [show decide (u < v ∧ v < n) = false by simp [h1]]
    go_enter Tryz.func78, Tryz.ntmps78
    go_wp2_with fail
    go_ret
    exact ⟨rfl, (Mod.refl _ _).alloc _⟩

/-- Where an edge stands, as the reference tells it. -/
def fndI (x : Ed) (l : List Ed) : Int := match fndE x l with | none => -1 | some k => k
theorem fndE_first {x : Ed} : ∀ {l : List Ed} {k : Nat}, l[k]? = some x → (∀ j, j < k → l[j]? ≠ some x) → fndE x l = some k
  | [], k, h, _ => by simp at h
  | y :: l, 0, h, _ => by
    have : y = x := by simpa using h
    simp [fndE, this]
  | y :: l, k + 1, h, hn => by
    have h0 : y ≠ x := fun e => hn 0 (by omega) (by simp [e])
    have ih := fndE_first (l := l) (k := k) (by simpa using h) (fun j hj => by simpa using hn (j + 1) (by omega))
    simp [fndE, h0, ih]
theorem fndE_out {x : Ed} : ∀ {l : List Ed}, (∀ j : Nat, l[j]? ≠ some x) → fndE x l = none
  | [], _ => rfl
  | y :: l, hn => by
    have h0 : y ≠ x := fun e => hn 0 (by simp [e])
    have ih := fndE_out (l := l) (fun j => by simpa using hn (j + 1))
    simp [fndE, h0, ih]

set_option maxRecDepth 100000 in
set_option maxHeartbeats 2000000 in
theorem find_any (w : World) (a : Option Addr) (cap : Nat) (l : List Ed) (x : Ed) (hL : Eds w a l) (hl : l.length ≤ 100000) :
    Calls Tryz.prog 52 #[.slice a l.length cap, .agg #[.int .u32 x.u, .int .u32 x.v]] w fun e w' => e = .returned (.int .i64 (fndI x l)) ∧ Mod w w' NoB := by
  have HL := Lib.hid hL
  clear hL
  have hmx := mixed
  obtain ⟨h0, hh0⟩ : ∃ h0, h0 = w.heap.size := ⟨_, rfl⟩
  obtain ⟨W, hW⟩ : ∃ W, W = w.alloc (.cells #[.int .u32 x.u, .int .u32 x.v] 57) := ⟨_, rfl⟩
  have HW : Hid (Mod w W NoB ∧ EdAt W h0 0 x) := by
    show _ ∧ _
    rw [hW, hh0]; exact ⟨(Mod.refl _ _).alloc _, World.cell?_alloc_at _ _ _ _ rfl, World.cell?_alloc_at _ _ _ _ rfl⟩
  obtain ⟨R, hR⟩ : ∃ R, fndI x l = R := ⟨_, rfl⟩
  rw [hR]
  have HR := Lib.hid hR
  clear hR
  go_enter Tryz.func52, Tryz.ntmps52
  go_wp2_with fail
  rw [← hW, ← hh0]
  clear hW hh0
  go_loopw [5] (fun i wr => ∃ k : Nat, k ≤ l.length ∧ i = .int .i64 k ∧ Hid (Mod w wr NoB ∧ EdAt wr h0 0 x ∧ ∀ j, j < k → l[j]? ≠ some x)) (fun i _ => l.length - (intOf i).toNat)
  case atStart => exact ⟨0, Nat.zero_le _, rfl, HW.out.1, HW.out.2, fun j hj => by omega⟩
  case round =>
    obtain ⟨k, hk, rfl, HI⟩ := hrel
    by_cases hlt : k < l.length
    · obtain ⟨b, off, y, rfl, hbw, hy, hC⟩ := (HL.out.mod HI.out.1).at hlt
      have hki : (k : Int) < l.length := by omega
      obtain ⟨c0, c1⟩ := hC
      obtain ⟨e0, e1⟩ := HI.out.2.1
      have l0 := World.block_lt_of_cell? _ _ e0
      have e1' : wr.cell? ⟨h0, 1, none⟩ = some (.int .u32 x.v) := e1
      have HY := Lib.hid hy
      clear hy e1
      by_cases hu : y.u = x.u
      · by_cases hv : y.v = x.v
        · have hyx : y = x := Ed.ext' hu hv
          have hRk : R = k := by
            have h1 := HY.out
            rw [hyx] at h1
            rw [← HR.out]; unfold fndI; rw [fndE_first h1 HI.out.2.2]
          subst hyx
          clear hu hv
          subst hRk
          go_upto_region 4 with (fail)
          go_quiet (fail)
          go_wp2_with fail
          go_ret
          exact ⟨rfl, HI.out.1.drewN _⟩
        · have hn : Hid (∀ j, j < k + 1 → l[j]? ≠ some x) := fun j hj => by
            rcases Nat.lt_succ_iff_lt_or_eq.1 hj with h | h
            · exact HI.out.2.2 j h
            · subst h; rw [HY.out]; intro c; exact hv (by rw [Option.some.inj c])
          have hvb : (y.v == x.v) = false := by simp [hv]
          clear hv
          rw [hu] at c0
          go_upto_region 4 with (fail)
          go_quiet (fail)
          go_wp2_with fail
          go_roundw
          case rel => exact ⟨k + 1, by omega, by go_num, HI.out.1.drewN _, HI.out.2.1.mod ((Mod.refl _ _).drewN _), hn.out⟩
          case measure => simp [intOf]; omega
      · have hn : Hid (∀ j, j < k + 1 → l[j]? ≠ some x) := fun j hj => by
          rcases Nat.lt_succ_iff_lt_or_eq.1 hj with h | h
          · exact HI.out.2.2 j h
          · subst h; rw [HY.out]; intro c; exact hu (by rw [Option.some.inj c])
        have hub : (y.u == x.u) = false := by simp [hu]
        clear hu
        go_upto_region 4 with (fail)
        go_quiet (fail)
        go_wp2_with fail
        go_roundw
        case rel => exact ⟨k + 1, by omega, by go_num, HI.out.1.drewN _, HI.out.2.1.mod ((Mod.refl _ _).drewN _), hn.out⟩
        case measure => simp [intOf]; omega
    · have hkl : k = l.length := by omega
      have hRk : R = -1 := by
        rw [← HR.out]; unfold fndI; rw [fndE_out (fun j => by
          rcases Nat.lt_or_ge j l.length with h | h
          · exact HI.out.2.2 j (by omega)
          · rw [List.getElem?_eq_none h]; simp)]
      clear hkl
      subst hRk
      go_wp2_with fail
      go_ret
      exact ⟨rfl, HI.out.1⟩

theorem fndI_sign (x : Ed) (l : List Ed) : (0 ≤ fndI x l) ↔ (fndE x l).isSome = true := by
  unfold fndI
  cases fndE x l with
  | none => simp
  | some k => simp
theorem has_any (w : World) (a : Option Addr) (cap : Nat) (l : List Ed) (x : Ed) (hL : Eds w a l) (hl : l.length ≤ 100000) :
    Calls Tryz.prog 21 #[.slice a l.length cap, .agg #[.int .u32 x.u, .int .u32 x.v]] w fun e w' => e = .returned (.bool (fndE x l).isSome) ∧ Mod w w' NoB := by
  have hb : decide (0 ≤ fndI x l) = (fndE x l).isSome := by rw [Bool.eq_iff_iff, ← fndI_sign]; simp
  rw [← hb]
  clear hb
  have HL := Lib.hid hL
  clear hL
  obtain ⟨W, hW⟩ : ∃ W, W = w.alloc (.cells #[.int .u32 x.u, .int .u32 x.v] 57) := ⟨_, rfl⟩
  have HW : Hid (Mod w W NoB) := by
    rw [hW]; exact (Mod.refl _ _).alloc _
  go_enter Tryz.func21, Tryz.ntmps21
  go_wp2_with fail
  rw [← hW]
  clear hW
  refine (find_any _ a cap l x (HL.out.mod HW.out) hl).mono ?_
  rintro e w1 ⟨rfl, hm⟩
  have HM : Hid (Mod w w1 NoB) := HW.out.trans hm (fun _ _ h => h)
  clear hm
  go_wp2_with fail
  go_ret
  exact ⟨rfl, HM.out⟩

set_option maxRecDepth 100000 in
set_option maxHeartbeats 2000000 in
theorem rising_any (w : World) (a : Option Addr) (cap : Nat) (l : List Ed) (hL : Eds w a l) (hl : l.length ≤ 100000) (hs : l.Pairwise edLt) :
    Calls Tryz.prog 53 #[.slice a l.length cap] w fun e w' => e = .returned (.bool true) ∧ Mod w w' NoB := by
  have HL := Lib.hid hL
  have HS := Lib.hid hs
  clear hL hs
  have hmx := mixed
  go_enter Tryz.func53, Tryz.ntmps53
  go_wp2_with fail
  go_loopw [3] (fun i wr => ∃ j : Nat, j ≤ l.length ∧ i = .int .i64 ((j : Int) + 1) ∧ Hid (Mod w wr NoB)) (fun i _ => l.length + 1 - (intOf i).toNat)
  case atStart => exact ⟨0, Nat.zero_le _, rfl, Mod.refl _ _⟩
  case round =>
    obtain ⟨j, hj, rfl, HI⟩ := hrel
    by_cases hlt : j + 1 < l.length
    · obtain ⟨b, off, y, rfl, hbw, hy, hC⟩ := (HL.out.mod HI.out).at (show j < l.length by omega)
      obtain ⟨b', off', x, hab, _, hx, hD⟩ := (HL.out.mod HI.out).at hlt
      cases hab
      have hji : (j : Int) < l.length := by omega
      have hki : (j : Int) + 1 < l.length := by omega
      have hkp : (0 : Int) ≤ (j : Int) + 1 := by omega
      have htn : ((j : Int) + 1).toNat = j + 1 := by omega
      have hw1 : IntKind.i64.wrap ((j : Int) + 1 - 1) = (j : Int) := by rw [IntWalk.i64_in _ (by omega)]; omega
      have hw2 : IntKind.i64.wrap (j : Int) = (j : Int) := IntWalk.i64_in _ (by omega)
      obtain ⟨c0, c1⟩ := hC
      obtain ⟨d0, d1⟩ := hD
      have g0 := cg c0
      have g1 := cg c1
      have f0 := cg d0
      have f1 := cg d1
      have hlt2 : edLt y x := by
        obtain ⟨p1, p2⟩ := List.getElem?_eq_some_iff.1 hy
        obtain ⟨q1, q2⟩ := List.getElem?_eq_some_iff.1 hx
        have := List.pairwise_iff_getElem.1 HS.out j (j + 1) p1 q1 (by omega)
        rwa [p2, q2] at this
      have HB : Hid (∀ z, Calls Tryz.prog 54 #[.agg #[.int .u32 y.u, .int .u32 y.v], .agg #[.int .u32 x.u, .int .u32 x.v]] z fun e w' => e = .returned (.bool true) ∧ Grw z w') := fun z => by
        have := rless_grw z y.u y.v x.u x.v
        rwa [show decide (edLt ⟨y.u, y.v⟩ ⟨x.u, x.v⟩) = true by simpa using hlt2] at this
      clear hlt2 hy hx hbw
      go_upto_region 4 with (fail)
      go_quiet_grown ((go_at_call 54; exact Calls.byGrw (HB.out _)))
      go_wp2_with fail
      go_roundw
      case rel => exact ⟨j + 1, by omega, by go_num, HI.out.trans (Grw.grown wr nq osq).mod (fun _ _ h => h)⟩
      case measure => simp [intOf]; omega
    · have hki : decide ((j : Int) + 1 < l.length) = false := decide_eq_false (by omega)
      go_wp2_with fail
      go_ret
      exact ⟨rfl, HI.out⟩
end Go.Proofs.YtppambkffgmkgaaGreatDoor
end

section
/- The reference: Turn. -/
namespace Go.Proofs.YtppambkffgmkgaaGreatDoor
open Go.RowKit
set_option linter.unusedVariables false

theorem info_edge : (Tryz.prog.info? 57).map (fun i => (i.zero, i.size, i.bytes)) = some (some (.agg #[.int .u32 0, .int .u32 0]), 2, 8) := by kernel_rfl

/-- The cells of a part of a row of edges. -/
theorem eds_news {w : World} {b off o' p m : Nat} {l : List Ed} (h : ∀ (i : Nat) (x : Ed), l[i]? = some x → EdAt w b (off + i * 2) x) (ho : o' = off + p * 2) :
    ∀ (j : Nat) (u : Value), (((l.drop p).take m).flatMap encD)[j]? = some u → ∃ ad, (some ⟨b, o', none⟩ : Option Addr) = some ad ∧ w.cell? (ad.add j) = some u := by
  intro j u hu
  obtain ⟨h1, h2⟩ := List.getElem?_eq_some_iff.1 hu
  have hj2 : j / 2 < ((l.drop p).take m).length := by rw [enc2_len] at h1; omega
  obtain ⟨x, hx⟩ : ∃ x, ((l.drop p).take m)[j / 2]? = some x := ⟨_, List.getElem?_eq_getElem hj2⟩
  have hx' : l[p + j / 2]? = some x := by
    rw [List.getElem?_take] at hx
    split at hx
    · rw [List.getElem?_drop] at hx; exact hx
    · cases hx
  have hg := enc2_get _ (j / 2) x (j % 2) hx (Nat.mod_lt _ (by omega))
  rw [show j / 2 * 2 + j % 2 = j by omega, hu] at hg
  obtain ⟨e0, e1⟩ := h _ _ hx'
  refine ⟨_, rfl, ?_⟩
  have hadd : (⟨b, o', none⟩ : Addr).add j = ⟨b, o' + j, none⟩ := by unfold Addr.add; split <;> simp_all
  rw [hadd]
  have hm : j % 2 < 2 := Nat.mod_lt _ (by omega)
  rcases Nat.lt_or_ge (j % 2) 1 with c | c
  · have hr : j % 2 = 0 := by omega
    rw [hr] at hg
    have hu' : u = .int .u32 x.u := by simpa [encD] using hg
    rw [hu', show o' + j = off + (p + j / 2) * 2 by omega]; exact e0
  · have hr : j % 2 = 1 := by omega
    rw [hr] at hg
    have hu' : u = .int .u32 x.v := by simpa [encD] using hg
    rw [hu', show o' + j = off + (p + j / 2) * 2 + 1 by omega]; exact e1
theorem no_news {α : Type} {P : Nat → α → Prop} {l : List α} (h : l = []) : ∀ (j : Nat) (u : α), l[j]? = some u → P j u := by
  intro j u hu; rw [h] at hu; simp at hu
/-- What an append to nothing has made. -/
structure New (w w' : World) (e : TypeId) (size : Nat) (v : Value) (n : Nat) (xs : List Value) : Prop where
  row : w'.ownsRow 0 e size v n xs
  mod : Mod w w' NoB
  young : ∀ q, v.ownBlock = some q → w.heap.size ≤ q
theorem New.first {w w' : World} {e : TypeId} {size n : Nat} {v : Value} {xs : List Value} (hown : w'.ownsRow 0 e size v (0 + n) ([] ++ xs)) (hgrow : w.grownBy w' (Value.slice none 0 0).ownBlock) (hat : v.ownBlock = (Value.slice none 0 0).ownBlock ∨ v.ownBlock = some w.heap.size) : New w w' e size v n xs := by
  refine ⟨by simpa using hown, ⟨hgrow.os, hgrow.tape, hgrow.output, hgrow.size, fun q hq _ => hgrow.block q hq (by simp [Value.ownBlock])⟩, fun q hq => ?_⟩
  rcases hat with c | c
  · rw [hq] at c; simp [Value.ownBlock] at c
  · rw [hq] at c
    have : q = w.heap.size := by simpa using c
    omega
theorem New.more {w w1 w' : World} {e : TypeId} {size n m : Nat} {v v' : Value} {xs ys : List Value} (h : New w w1 e size v n xs) (hown : w'.ownsRow 0 e size v' (n + m) (xs ++ ys)) (hgrow : w1.grownBy w' v.ownBlock) (hat : v'.ownBlock = v.ownBlock ∨ v'.ownBlock = some w1.heap.size) : New w w' e size v' (n + m) (xs ++ ys) := by
  refine ⟨hown, h.mod.grown hgrow (fun q hq hlt => by have := h.young q hq; omega), fun q hq => ?_⟩
  rcases hat with c | c
  · exact h.young q (by rw [← c]; exact hq)
  · rw [hq] at c
    have : q = w1.heap.size := by simpa using c
    have := h.mod.size
    omega
theorem New.from {w w0 w' : World} {e : TypeId} {size n : Nat} {v : Value} {xs : List Value} (h : New w w' e size v n xs) (hm : Mod w0 w NoB) : New w0 w' e size v n xs := ⟨h.row, hm.trans h.mod (fun _ _ c => c), fun q hq => Nat.le_trans hm.size (h.young q hq)⟩
/-- A new row, with more blocks about. -/
theorem New.alloc {w w' : World} {e : TypeId} {size n : Nat} {v : Value} {xs : List Value} (h : New w w' e size v n xs) (o : Obj) : New w (w'.alloc o) e size v n xs := ⟨h.row.alloc o, h.mod.alloc o, h.young⟩
/-- An address with no spot. -/
def Plain (a : Option Addr) : Prop := a = none ∨ ∃ b off, a = some ⟨b, off, none⟩
theorem row_plain {w : World} {base n m cap size : Nat} {e : TypeId} {a : Option Addr} {xs : List Value} (h : w.ownsRow base e size (.slice a n cap) m xs) : Plain a := by
  rcases h.2 with ⟨hv, _⟩ | ⟨g, c, cur, hv, _⟩
  · cases hv; exact Or.inl rfl
  · cases hv; exact Or.inr ⟨g, 0, rfl⟩
/-- An address of a young block. -/
def Yg (w : World) (a : Option Addr) : Prop := ∀ p, a = some p → w.heap.size ≤ p.block
theorem Yg.mono {w w' : World} {a : Option Addr} (h : Yg w' a) (hs : w.heap.size ≤ w'.heap.size) : Yg w a := fun p hp => Nat.le_trans hs (h p hp)
theorem New.yg {w w' : World} {e : TypeId} {size n m cap : Nat} {a : Option Addr} {xs : List Value} (h : New w w' e size (.slice a n cap) m xs) : Yg w a := fun p hp => h.young p.block (by rw [hp]; rfl)
theorem New.edges {w w' : World} {n : Nat} {v : Value} {l : List Ed} (h : New w w' 57 2 v n (l.flatMap encD)) (hn : n = l.length) : ∃ a' cap', v = .slice a' l.length cap' ∧ Eds w' a' l ∧ (Plain a' ∧ Yg w a') ∧ l.length ≤ cap' := by
  subst hn
  obtain ⟨a', cap', rfl⟩ := row_form h.row
  refine ⟨a', cap', rfl, eds_of_row rfl h.row, ⟨row_plain h.row, h.yg⟩, ?_⟩
  rcases h.row.2 with ⟨hv, h0⟩ | ⟨g, c, cur, hv, _, _, h1, _⟩
  · rw [h0]; exact Nat.zero_le _
  · cases hv; exact h1
theorem encD_one (l : List Ed) : ∀ u ∈ l.flatMap encD, u.oneCell' = true := by
  intro u hu
  obtain ⟨x, _, hx⟩ := List.mem_flatMap.1 hu
  simp [encD] at hx
  rcases hx with rfl | rfl <;> rfl

set_option maxRecDepth 100000 in
set_option maxHeartbeats 4000000 in
theorem turn_del (w : World) (a : Option Addr) (cap : Nat) (l : List Ed) (e : Ev) (k : Nat) (hL : Eds w a l) (hl : l.length ≤ 100000) (hcap : l.length ≤ cap) (hs : l.Pairwise edLt) (hf : fndE e.e l = some k) (ha : e.add = false) :
    Calls Tryz.prog 22 #[.slice a l.length cap, .agg #[.int .i64 e.t, .int .u32 e.e.u, .int .u32 e.e.v, .bool e.add]] w fun r w' => ∃ a' cap', r = .returned (.tuple #[.slice a' (l.eraseIdx k).length cap', .bool true]) ∧ Eds w' a' (l.eraseIdx k) ∧ (Plain a' ∧ Yg w a') ∧ (l.eraseIdx k).length ≤ cap' ∧ Mod w w' NoB := by
  have HL := Lib.hid hL
  have HS := Lib.hid hs
  have hkl := (List.getElem?_eq_some_iff.1 (fndE_get hf).1).1
  have hI : fndI e.e l = k := by unfold fndI; rw [hf]
  have HF : Hid (∀ z, Eds z a l → Calls Tryz.prog 52 #[.slice a l.length cap, .agg #[.int .u32 e.e.u, .int .u32 e.e.v]] z fun r w' => r = .returned (.int .i64 k) ∧ Mod z w' NoB) := fun z hz => by rw [← hI]; exact find_any z a cap l e.e hz hl
  clear hL hs hI
  rw [ha]
  obtain ⟨i0, hi, hz0, hz1, hz2⟩ := info_parts info_edge
  obtain ⟨h0, hh0⟩ : ∃ h0, h0 = w.heap.size := ⟨_, rfl⟩
  obtain ⟨W, hW⟩ : ∃ W, W = w.alloc (.cells #[.int .i64 e.t, .int .u32 e.e.u, .int .u32 e.e.v, .bool false] 62) := ⟨_, rfl⟩
  have HW : Hid (Mod w W NoB ∧ EvAt W h0 0 ⟨e.t, e.e, false⟩) := by
    show _ ∧ _
    rw [hW, hh0]; exact ⟨(Mod.refl _ _).alloc _, World.cell?_alloc_at _ _ _ _ rfl, World.cell?_alloc_at _ _ _ _ rfl, World.cell?_alloc_at _ _ _ _ rfl, World.cell?_alloc_at _ _ _ _ rfl⟩
  obtain ⟨q0, q1, q2, q3⟩ := HW.out.2
  simp only [Nat.zero_add] at q1 q2 q3
  go_enter Tryz.func22, Tryz.ntmps22
  go_wp2_with fail
  rw [← hW, ← hh0]
  clear hW hh0
  refine (HF.out _ (HL.out.mod HW.out.1)).mono ?_
  rintro r w1 ⟨rfl, hm⟩
  have H1 : Hid (Mod w w1 NoB) := HW.out.1.trans hm (fun _ _ h => h)
  have r1 := keepc q1 hm
  have r2 := keepc q2 hm
  have r3 := keepc q3 hm
  clear hm q0 q1 q2 q3 HW
  go_wp2_with fail
  refine (rising_any _ a cap l (HL.out.mod H1.out) hl HS.out).mono ?_
  rintro r w2 ⟨rfl, hm⟩
  have H2 : Hid (Mod w w2 NoB) := H1.out.trans hm (fun _ _ h => h)
  have s1 := keepc r1 hm
  have s2 := keepc r2 hm
  have s3 := keepc r3 hm
  clear hm r1 r2 r3 H1
  have hk0 : (0 : Int) ≤ (k : Int) := by omega
  go_upto_region 5 with (fail)
  obtain ⟨b, off, x, rfl, hbw, hx, _⟩ := (HL.out.mod H2.out).at hkl
  have HE : Hid (∀ z, Mod w2 z NoB → ∀ (i : Nat) (x : Ed), l[i]? = some x → EdAt z b (off + i * 2) x) := fun z hz i x hx => by
    rcases (HL.out.mod H2.out).mod hz with h | ⟨b', off', hab, _, h⟩
    · rw [h] at hkl; simp at hkl
    · cases hab; exact h i x hx
  have HER : Hid (l.take k ++ l.drop (k + 1) = l.eraseIdx k ∧ k + (l.length - (k + 1)) = (l.eraseIdx k).length) := by
    refine ⟨(List.eraseIdx_eq_take_drop_succ l k).symm, ?_⟩
    rw [List.length_eraseIdx_of_lt hkl]; omega
  have HB : Hid (0 + k ≤ maxLen ∧ (0 + k) * 8 ≤ 140737488355328 ∧ k + (l.length - (k + 1)) ≤ maxLen ∧ (k + (l.length - (k + 1))) * 8 ≤ 140737488355328) := by
    unfold maxLen; exact ⟨by omega, by omega, by omega, by omega⟩
  have hkc : k ≤ cap := by omega
  have hkci : (k : Int) ≤ cap := by omega
  have hk1 : k + 1 ≤ l.length := hkl
  have hk1i : (k : Int) + 1 ≤ l.length := by omega
  have hk01 : (0 : Int) ≤ (k : Int) + 1 := by omega
  have htn : ((k : Int) + 1).toNat = k + 1 := by omega
  have hwr : IntKind.i64.wrap ((k : Int) + 1) = (k : Int) + 1 := IntWalk.i64_in _ (by omega)
  have hlc : (l.length : Int) ≤ cap := by omega
  clear hf hx hbw
  by_cases hce : cap = k + 1
  · have HN : Hid (((l.take k).flatMap encD).length = k * 2 ∧ (∀ z, Mod w2 z NoB → ∀ (j : Nat) (u : Value), ((l.take k).flatMap encD)[j]? = some u → ∃ ad, (some ⟨b, off, none⟩ : Option Addr) = some ad ∧ z.cell? (ad.add j) = some u) ∧
        ((l.drop (k + 1)).flatMap encD).length = (l.length - (k + 1)) * 2 ∧ (∀ z, Mod w2 z NoB → ∀ (j : Nat) (u : Value), ((l.drop (k + 1)).flatMap encD)[j]? = some u → ∃ ad, (some ⟨b, off, none⟩ : Option Addr) = some ad ∧ z.cell? (ad.add j) = some u)) := by
      refine ⟨by rw [enc2_len]; simp; omega, fun z hz => eds_news (p := 0) (HE.out z hz) (by omega), by rw [enc2_len]; simp, fun z hz => no_news (by rw [List.drop_eq_nil_of_le (by omega)]; rfl)⟩
    subst hce
    have hkk1 : (k : Int) ≤ (k : Int) + 1 := by omega
    have hlk : l.length = k + 1 := by omega
    have HB0 : Hid (k + 0 ≤ maxLen ∧ (k + 0) * 8 ≤ 140737488355328 ∧ (l.take k).flatMap encD ++ [] = (l.eraseIdx k).flatMap encD ∧ k + 0 = (l.eraseIdx k).length) := by
      refine ⟨by unfold maxLen; omega, by omega, ?_, by rw [← HER.out.2]; omega⟩
      rw [← HER.out.1, List.drop_eq_nil_of_le (by omega), List.append_nil, List.append_nil]
    clear hlk
    go_region_held3 (fun _ => True) (trivial) (first
      | (refine step_append_row _ rfl _ _ 63 rfl 57 i0 (.agg #[.int .u32 0, .int .u32 0]) 2 8 Tryz.underlying63 hi hz0 hz1 hz2 rfl (by decide) (.slice none 0 0) 0 [] rfl (World.ownsRow_nil _ _ _ _) _ k _ ((l.take k).flatMap encD) rfl HN.out.1 (HN.out.2.1 _ (Mod.drew (Mod.refl _ _))) (encD_one _) HB.out.1 HB.out.2.1 ?_
         intro v6 w6 hown6 hgrow6 hat6
         have H6 := Lib.hid ((New.first hown6 hgrow6 hat6).from (Mod.drew (Mod.refl w2 NoB)))
         clear hown6 hgrow6 hat6)
      | (refine step_append_row _ rfl _ _ 63 rfl 57 i0 (.agg #[.int .u32 0, .int .u32 0]) 2 8 Tryz.underlying63 hi hz0 hz1 hz2 rfl (by decide) v6 k _ rfl H6.out.row _ 0 _ [] rfl rfl (no_news rfl) (fun u hu => by cases hu) HB0.out.1 HB0.out.2.1 ?_
         intro v7 w7 hown7 hgrow7 hat7
         have H7 := Lib.hid (H6.out.more hown7 hgrow7 hat7)
         clear hown7 hgrow7 hat7))
    all_goals
      rw [HB0.out.2.2.1] at H7
      obtain ⟨a', cap', rfl, k1, k2, k3⟩ := H7.out.edges HB0.out.2.2.2
      have HF7 := Lib.hid (And.intro k1 (And.intro k2 (And.intro k3 H7.out.mod)))
      clear k1 k2 k3
      go_wp2_with fail
      go_ret2
      exact ⟨a', cap', rfl, HF7.out.1, ⟨HF7.out.2.1.1, HF7.out.2.1.2.mono H2.out.size⟩, HF7.out.2.2.1, H2.out.trans HF7.out.2.2.2 (fun _ _ h => h)⟩
  · have HN : Hid (((l.take k).flatMap encD).length = k * 2 ∧ (∀ z, Mod w2 z NoB → ∀ (j : Nat) (u : Value), ((l.take k).flatMap encD)[j]? = some u → ∃ ad, (some ⟨b, off, none⟩ : Option Addr) = some ad ∧ z.cell? (ad.add j) = some u) ∧
        ((l.drop (k + 1)).flatMap encD).length = (l.length - (k + 1)) * 2 ∧ (∀ z, Mod w2 z NoB → ∀ (j : Nat) (u : Value), ((l.drop (k + 1)).flatMap encD)[j]? = some u → ∃ ad, (some ⟨b, off + (k + 1) * 2, none⟩ : Option Addr) = some ad ∧ z.cell? (ad.add j) = some u)) := by
      refine ⟨by rw [enc2_len]; simp; omega, fun z hz => eds_news (p := 0) (HE.out z hz) (by omega), by rw [enc2_len]; simp, fun z hz j u hu => ?_⟩
      have := eds_news (p := k + 1) (m := l.length) (HE.out z hz) rfl j u
      rw [List.take_of_length_le (by simp)] at this
      exact this hu
    have hce2 : ¬ cap - (k + 1) = 0 := by omega
    go_region_held3 (fun _ => True) (trivial) (first
      | (refine step_append_row _ rfl _ _ 63 rfl 57 i0 (.agg #[.int .u32 0, .int .u32 0]) 2 8 Tryz.underlying63 hi hz0 hz1 hz2 rfl (by decide) (.slice none 0 0) 0 [] rfl (World.ownsRow_nil _ _ _ _) _ k _ ((l.take k).flatMap encD) rfl HN.out.1 (HN.out.2.1 _ (Mod.drew (Mod.refl _ _))) (encD_one _) HB.out.1 HB.out.2.1 ?_
         intro v6 w6 hown6 hgrow6 hat6
         have H6 := Lib.hid ((New.first hown6 hgrow6 hat6).from (Mod.drew (Mod.refl w2 NoB)))
         clear hown6 hgrow6 hat6)
      | (refine step_append_row _ rfl _ _ 63 rfl 57 i0 (.agg #[.int .u32 0, .int .u32 0]) 2 8 Tryz.underlying63 hi hz0 hz1 hz2 rfl (by decide) v6 k _ rfl H6.out.row _ (l.length - (k + 1)) _ ((l.drop (k + 1)).flatMap encD) rfl HN.out.2.2.1 (HN.out.2.2.2 _ H6.out.mod) (encD_one _) HB.out.2.2.1 HB.out.2.2.2 ?_
         intro v7 w7 hown7 hgrow7 hat7
         have H7 := Lib.hid (H6.out.more hown7 hgrow7 hat7)
         clear hown7 hgrow7 hat7))
    all_goals
      rw [← List.flatMap_append] at H7
      rw [HER.out.1] at H7
      obtain ⟨a', cap', rfl, k1, k2, k3⟩ := H7.out.edges HER.out.2
      have HF7 := Lib.hid (And.intro k1 (And.intro k2 (And.intro k3 H7.out.mod)))
      clear k1 k2 k3
      go_wp2_with fail
      go_ret2
      exact ⟨a', cap', rfl, HF7.out.1, ⟨HF7.out.2.1.1, HF7.out.2.1.2.mono H2.out.size⟩, HF7.out.2.2.1, H2.out.trans HF7.out.2.2.2 (fun _ _ h => h)⟩
end Go.Proofs.YtppambkffgmkgaaGreatDoor
end
