/- Merged: LfLk LfSe LfLi -/
import Derived.Test.YtggnkefhegnokaaDoorMg11
section
/- Rows of lives: parts of a row, and a row that is appended to. -/
namespace Go.Proofs.YtggnkefhegnokaaDoor
open Go.RowKit
set_option linter.unusedVariables false

/-- The cells of a part of a row of lives. -/
theorem lvs_news {w : World} {b off o' p m : Nat} {l : List Lf} (h : ∀ (i : Nat) (x : Lf), l[i]? = some x → LfAt w b (off + i * 4) x) (ho : o' = off + p * 4) :
    ∀ (j : Nat) (u : Value), (((l.drop p).take m).flatMap encL)[j]? = some u → ∃ ad, (some ⟨b, o', none⟩ : Option Addr) = some ad ∧ w.cell? (ad.add j) = some u := by
  intro j u hu
  obtain ⟨h1, h2⟩ := List.getElem?_eq_some_iff.1 hu
  have hj2 : j / 4 < ((l.drop p).take m).length := by rw [enc4_len encL_len] at h1; omega
  obtain ⟨x, hx⟩ : ∃ x, ((l.drop p).take m)[j / 4]? = some x := ⟨_, List.getElem?_eq_getElem hj2⟩
  have hx' : l[p + j / 4]? = some x := by
    rw [List.getElem?_take] at hx
    split at hx
    · rw [List.getElem?_drop] at hx; exact hx
    · cases hx
  have hg := enc4_get encL_len _ (j / 4) x (j % 4) hx (Nat.mod_lt _ (by omega))
  rw [show j / 4 * 4 + j % 4 = j by omega, hu] at hg
  obtain ⟨e0, e1, e2, e3⟩ := h _ _ hx'
  refine ⟨_, rfl, ?_⟩
  have hadd : (⟨b, o', none⟩ : Addr).add j = ⟨b, o' + j, none⟩ := by unfold Addr.add; split <;> simp_all
  rw [hadd]
  have hm : j % 4 < 4 := Nat.mod_lt _ (by omega)
  have hc : j % 4 = 0 ∨ j % 4 = 1 ∨ j % 4 = 2 ∨ j % 4 = 3 := by omega
  rcases hc with hr | hr | hr | hr
  · rw [hr] at hg
    have hu' : u = .int .u32 x.e.u := by simpa [encL] using hg
    rw [hu', show o' + j = off + (p + j / 4) * 4 by omega]; exact e0
  · rw [hr] at hg
    have hu' : u = .int .u32 x.e.v := by simpa [encL] using hg
    rw [hu', show o' + j = off + (p + j / 4) * 4 + 1 by omega]; exact e1
  · rw [hr] at hg
    have hu' : u = .int .i64 x.fr := by simpa [encL] using hg
    rw [hu', show o' + j = off + (p + j / 4) * 4 + 2 by omega]; exact e2
  · rw [hr] at hg
    have hu' : u = .int .i64 x.to := by simpa [encL] using hg
    rw [hu', show o' + j = off + (p + j / 4) * 4 + 3 by omega]; exact e3
theorem encL_one (l : List Lf) : ∀ u ∈ l.flatMap encL, u.oneCell' = true := by
  intro u hu
  obtain ⟨x, _, hx⟩ := List.mem_flatMap.1 hu
  simp [encL] at hx
  rcases hx with rfl | rfl | rfl | rfl <;> rfl
end Go.Proofs.YtggnkefhegnokaaDoor
end

section
/- The reference: SameLives, SameEvents, Same, of what is the same. -/
namespace Go.Proofs.YtggnkefhegnokaaDoor
open Go.RowKit
set_option linter.unusedVariables false

set_option maxRecDepth 100000 in
set_option maxHeartbeats 4000000 in
theorem sameevents_any (w : World) (a b : Option Addr) (ca cb : Nat) (X : List Ev) (hA : Evs w a X) (hB : Evs w b X) (hl : X.length ≤ 100000) :
    Calls Tryd.prog 43 #[.slice a X.length ca, .slice b X.length cb] w fun e w' => e = .returned (.bool true) ∧ Mod w w' NoB := by
  have HA := Lib.hid hA
  have HB := Lib.hid hB
  have hmx := mixed
  clear hA hB
  go_enter Tryd.func43, Tryd.ntmps43
  go_wp2_with fail
  go_loopw [5] (fun v5 wr => ∃ k : Nat, k ≤ X.length ∧ v5 = .int .i64 k ∧ Hid (Mod w wr NoB)) (fun v5 _ => X.length - (intOf v5).toNat)
  case atStart => exact ⟨0, Nat.zero_le _, rfl, Mod.refl _ _⟩
  case round =>
    obtain ⟨k, hk, rfl, HI⟩ := hrel
    by_cases hlt : k < X.length
    · obtain ⟨b1, off1, x, rfl, hbw1, hx, hC1⟩ := (HA.out.mod HI.out).at hlt
      obtain ⟨b2, off2, y, rfl, hbw2, hy, hC2⟩ := (HB.out.mod HI.out).at hlt
      have hyx : y = x := by rw [hx] at hy; exact (Option.some.inj hy).symm
      subst hyx
      have hki : (k : Int) < X.length := by omega
      obtain ⟨c0, c1, c2, c3⟩ := hC1
      obtain ⟨e0, e1, e2, e3⟩ := hC2
      clear hx hy
      go_upto_region 6 with (fail)
      go_quiet (fail)
      go_wp2_with fail
      go_roundw
      case rel => exact ⟨k + 1, by omega, by go_num, HI.out.drewN _⟩
      case measure => simp [intOf]; omega
    · have hkl : k = X.length := by omega
      clear hkl
      go_wp2_with fail
      go_ret
      exact ⟨rfl, HI.out⟩

set_option maxRecDepth 100000 in
set_option maxHeartbeats 4000000 in
theorem same_any (w : World) (n : Int) (a b : Option Addr) (ca cb : Nat) (X : List Ev) (hA : Evs w a X) (hB : Evs w b X) (hl : X.length ≤ 100000) :
    Calls Tryd.prog 15 #[.agg #[.int .u64 n, .slice a X.length ca], .agg #[.int .u64 n, .slice b X.length cb]] w fun e w' => e = .returned (.bool true) ∧ Mod w w' NoB := by
  have hm : Mod w ((w.alloc (.cells #[.int .u64 n, .slice a X.length ca] 25)).alloc (.cells #[.int .u64 n, .slice b X.length cb] 25)) NoB := ((Mod.refl _ _).alloc _).alloc _
  have HS : Hid (Calls Tryd.prog 43 #[.slice a X.length ca, .slice b X.length cb] ((w.alloc (.cells #[.int .u64 n, .slice a X.length ca] 25)).alloc (.cells #[.int .u64 n, .slice b X.length cb] 25))
      fun e w' => e = .returned (.bool true) ∧ Mod w w' NoB) :=
    (sameevents_any _ a b ca cb X (hA.mod hm) (hB.mod hm) hl).mono fun _ _ h => ⟨h.1, hm.trans h.2 (fun _ _ c => c)⟩
  have hmx := mixed
  clear hA hB hm
  go_enter Tryd.func15, Tryd.ntmps15
  go_wp2_with fail
  refine HS.out.mono ?_
  rintro r w1 ⟨rfl, hm⟩
  have HM := Lib.hid hm
  clear hm
  go_wp2_with fail
  go_ret
  exact ⟨rfl, HM.out⟩
end Go.Proofs.YtggnkefhegnokaaDoor
end

section
/- The reference: Lives of a history. -/
namespace Go.Proofs.YtggnkefhegnokaaDoor
open Go.RowKit
set_option linter.unusedVariables false

/-- The lives that the first i events begin. -/
def rawI : List Ev → Nat → List Lf
  | [], _ => []
  | _, 0 => []
  | y :: l, i + 1 => (if y.add = true then [⟨y.e, y.t, nextT y.e l⟩] else []) ++ rawI l i
theorem rawI_zero : ∀ l : List Ev, rawI l 0 = []
  | [] => rfl
  | _ :: _ => rfl
theorem rawI_all : ∀ l : List Ev, rawI l l.length = raw l
  | [] => rfl
  | y :: l => by
    simp only [List.length_cons, rawI, raw, rawI_all l]
    split <;> simp
theorem rawI_succ : ∀ {l : List Ev} {i : Nat} {x : Ev}, l[i]? = some x → rawI l (i + 1) = rawI l i ++ (if x.add = true then [⟨x.e, x.t, nextT x.e (l.drop (i + 1))⟩] else [])
  | [], i, x, h => by simp at h
  | y :: l, 0, x, h => by
    cases h
    simp only [rawI, rawI_zero, List.append_nil, List.nil_append, Nat.zero_add, List.drop_succ_cons, List.drop_zero]
  | y :: l, i + 1, x, h => by
    have ih := rawI_succ (l := l) (i := i) (x := x) (by simpa using h)
    show (if y.add = true then [⟨y.e, y.t, nextT y.e l⟩] else []) ++ rawI l (i + 1) = ((if y.add = true then [⟨y.e, y.t, nextT y.e l⟩] else []) ++ rawI l i) ++ _
    rw [ih, List.append_assoc, List.drop_succ_cons]
theorem rawI_len : ∀ (l : List Ev) (i : Nat), (rawI l i).length ≤ i
  | [], i => by simp [rawI]
  | _ :: _, 0 => by simp [rawI]
  | y :: l, i + 1 => by
    have := rawI_len l i
    simp only [rawI, List.length_append]
    split <;> simp <;> omega
/-- The time at which an edge is told of next, found so far. -/
theorem nextT_skip {x : Ed} {y : Ev} {l : List Ev} (h : y.e ≠ x) : nextT x (y :: l) = nextT x l := by simp [nextT, h]
theorem nextT_hit {x : Ed} {y : Ev} {l : List Ev} (h : y.e = x) : nextT x (y :: l) = y.t := by simp [nextT, h]

/-- Lives, kept beside a change of a young block. -/
theorem Lvs.young {w w' : World} {S : Nat → Prop} {a : Option Addr} {l : List Lf} (h : Lvs w a l) (hm : Mod w w' S) (hs : ∀ q, S q → w.heap.size ≤ q) : Lvs w' a l := by
  rcases h with h | ⟨b, off, rfl, hb, h⟩
  · exact Or.inl h
  · have hn : ¬ S b := fun c => Nat.not_lt.2 (hs b c) hb
    exact Or.inr ⟨b, off, rfl, Nat.lt_of_lt_of_le hb hm.size, fun i x hx => ⟨keepS (h i x hx).1 hm hn, keepS (h i x hx).2.1 hm hn, keepS (h i x hx).2.2.1 hm hn, keepS (h i x hx).2.2.2 hm hn⟩⟩
theorem HAt.young {w wr w' : World} {S : Nat → Prop} {h0 len cap : Nat} {n : Int} {a : Option Addr} {l : List Ev} (h : HAt w wr h0 n a len cap l) (hm : Mod wr w' S) (hs : ∀ q, S q → wr.heap.size ≤ q) : HAt w w' h0 n a len cap l := by
  have l0 := World.block_lt_of_cell? _ _ h.c0
  have hn : ¬ S h0 := fun c => Nat.not_lt.2 (hs h0 c) l0
  exact ⟨h.mod.trans hm (fun i hi c => absurd (Nat.lt_of_lt_of_le hi h.mod.size) (Nat.not_lt.2 (hs i c))), keepS h.c0 hm hn, keepS h.c1 hm hn, h.evs.young hm hs⟩
/-- What stands at the start of a round. -/
structure OSt2 (w wr : World) (h0 : Nat) (n : Int) (a : Option Addr) (len cap : Nat) (l : List Ev) (oa : Option Addr) (oc : Nat) (X : List Lf) : Prop where
  h : HAt w wr h0 n a len cap l
  lvs : Lvs wr oa X
  plain : Plain oa
  cap : X.length ≤ oc
theorem OSt2.young {w wr w' : World} {S : Nat → Prop} {h0 len cap oc : Nat} {n : Int} {a oa : Option Addr} {l : List Ev} {X : List Lf} (h : OSt2 w wr h0 n a len cap l oa oc X) (hm : Mod wr w' S) (hs : ∀ q, S q → wr.heap.size ≤ q) : OSt2 w w' h0 n a len cap l oa oc X :=
  ⟨h.h.young hm hs, h.lvs.young hm hs, h.plain, h.cap⟩
/-- The life that is looked for, in a block of its own. -/
structure JSt (V wr : World) (g8 g9 : Nat) (x : Ev) (t : Int) : Prop where
  mod : Mod V wr (OneB g9)
  young : V.heap.size ≤ g9
  e : EvAt wr g8 0 x
  y : LfAt wr g9 0 ⟨x.e, x.t, t⟩
  fz : wr.frozen? ⟨g9, 3, none⟩ = false
  ne : g8 ≠ g9
theorem JSt.quiet {V wr w' : World} {g8 g9 : Nat} {x : Ev} {t : Int} (h : JSt V wr g8 g9 x t) (hm : Mod wr w' NoB) : JSt V w' g8 g9 x t :=
  ⟨h.mod.trans hm (fun _ _ c => c.elim), h.young, h.e.mod hm, h.y.mod hm, (hm.frozen (p := ⟨g9, 3, none⟩) (World.block_lt_of_cell? _ _ h.y.2.2.2) (by simp [NoB])).trans h.fz, h.ne⟩
theorem JSt.set {V wr : World} {g8 g9 : Nat} {x : Ev} {t : Int} (h : JSt V wr g8 g9 x t) (t' : Int) : JSt V (wr.setCell ⟨g9, 3, none⟩ (.int .i64 t')) g8 g9 x t' := by
  have hm : Mod wr (wr.setCell ⟨g9, 3, none⟩ (.int .i64 t')) (OneB g9) := Mod.set1 wr g9 3 _
  have nx : ¬ OneB g9 g8 := fun c => h.ne c
  refine ⟨h.mod.trans hm (fun _ _ c => c), h.young, ⟨keepS h.e.1 hm nx, keepS h.e.2.1 hm nx, keepS h.e.2.2.1 hm nx, keepS h.e.2.2.2 hm nx⟩, ⟨?_, ?_, ?_, ?_⟩, by rw [World.frozen?_setCell]; exact h.fz, h.ne⟩
  · rw [World.cell?_setCell_other _ _ _ _ (by simp)]; exact h.y.1
  · rw [World.cell?_setCell_other _ _ _ _ (by simp)]; exact h.y.2.1
  · rw [World.cell?_setCell_other _ _ _ _ (by simp)]; exact h.y.2.2.1
  · exact World.cell?_setCell_same _ _ _ h.y.2.2.2

theorem putAll_app {α : Type} {lt : α → α → Prop} [DecidableRel lt] (l : List α) (x : α) : putAll lt (l ++ [x]) = putR lt x (putAll lt l) := by
  unfold putAll
  rw [List.foldl_append]
  rfl
end Go.Proofs.YtggnkefhegnokaaDoor
end
