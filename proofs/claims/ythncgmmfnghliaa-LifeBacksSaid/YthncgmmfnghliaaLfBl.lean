/- The statements' bent lives. -/
import Derived.Test.YthncgmmfnghliaaLfBx
import Derived.Test.YthncgmmfnghliaaLfLk
import Derived.Deep.DeepCutAuto
import Derived.OpenShut
namespace Go.Proofs.Ythncgmmfnghliaa
open Go.RowKit
set_option linter.unusedVariables false

/-- Behind the switch. -/
def BlE (w W : World) (k : Nat) (a : Option Addr) (cap : Nat) (l : List Lf) : Prop := Lvs W a l ∧ (∀ x ∈ l, EdB x.e) ∧ l.length ≤ k ∧ Mod w W NoB
theorem bl_set {α : Type} {P : α → Prop} {l : List α} {i : Nat} {y : α} (h : ∀ x ∈ l, P x) (hy : P y) : ∀ x ∈ l.set i y, P x := fun x hx => by
  rcases List.mem_or_eq_of_mem_set hx with c | rfl
  · exact h x c
  · exact hy
theorem BlE.own {w Z : World} {g cap k m : Nat} {l : List Lf} (hO : Own4 encL 56 w Z g k cap l) (hb : ∀ x ∈ l, EdB x.e) (hk : k ≤ m) : BlE w Z m (some ⟨g, 0, none⟩) cap l := by
  have hl := hO.len
  subst hl
  exact ⟨lvs_of_row rfl hO.row, hb, hk, hO.mod⟩
theorem BlE.one {w Z : World} {g cap : Nat} {l : List Lf} {i c : Nat} {x y : Lf} {v : Value} (hO : Own4 encL 56 w Z g l.length cap l) (hb : ∀ x ∈ l, EdB x.e) (hx : l[i]? = some x) (hc : c < 4) (hy : (encL x).set c v = encL y) (hyB : EdB y.e) : BlE w (Z.setCell ⟨g, i * 4 + c, none⟩ v) (l.length + 1) (some ⟨g, 0, none⟩) cap (l.set i y) :=
  BlE.own (hO.set encL_len y c v hx hc hy) (bl_set hb hyB) (Nat.le_succ _)
/-- A whole element is put. -/
theorem Own4.putL {e : TypeId} {w0 Z : World} {g n cap : Nat} {l : List Lf} (h : Own4 encL e w0 Z g n cap l) {i : Nat} {x : Lf} (hx : l[i]? = some x) (y : Lf) :
    Own4 encL e w0 ((((Z.setCell ⟨g, i * 4 + 0, none⟩ (.int .u32 y.e.u)).setCell ⟨g, i * 4 + 1, none⟩ (.int .u32 y.e.v)).setCell ⟨g, i * 4 + 2, none⟩ (.int .i64 y.fr)).setCell ⟨g, i * 4 + 3, none⟩ (.int .i64 y.to)) g n cap (l.set i y) := by
  have hil := (List.getElem?_eq_some_iff.1 hx).1
  have h1 := h.set encL_len ⟨⟨y.e.u, x.e.v⟩, x.fr, x.to⟩ 0 (.int .u32 y.e.u) hx (by omega) rfl
  have h2 := h1.set encL_len ⟨y.e, x.fr, x.to⟩ 1 (.int .u32 y.e.v) (List.getElem?_set_self hil) (by omega) rfl
  rw [List.set_set] at h2
  have h3 := h2.set encL_len ⟨y.e, y.fr, x.to⟩ 2 (.int .i64 y.fr) (List.getElem?_set_self hil) (by omega) rfl
  rw [List.set_set] at h3
  have h4 := h3.set encL_len y 3 (.int .i64 y.to) (List.getElem?_set_self hil) (by omega) rfl
  rwa [List.set_set] at h4
theorem BlE.swap {w Z : World} {g cap : Nat} {l : List Lf} {i : Nat} {x y : Lf} (hO : Own4 encL 56 w Z g l.length cap l) (hb : ∀ x ∈ l, EdB x.e) (hx : l[i]? = some x) (hy : l[0]? = some y) :
    BlE w ((((((((Z.setCell ⟨g, i * 4, none⟩ (.int .u32 y.e.u)).setCell ⟨g, i * 4 + 1, none⟩ (.int .u32 y.e.v)).setCell ⟨g, i * 4 + 2, none⟩ (.int .i64 y.fr)).setCell ⟨g, i * 4 + 3, none⟩ (.int .i64 y.to)).setCell ⟨g, 0, none⟩ (.int .u32 x.e.u)).setCell ⟨g, 1, none⟩ (.int .u32 x.e.v)).setCell ⟨g, 2, none⟩ (.int .i64 x.fr)).setCell ⟨g, 3, none⟩ (.int .i64 x.to)).drew (l.length + 1) (some ⟨g, 0, none⟩) cap ((l.set i y).set 0 x) := by
  have h1 := hO.putL hx y
  have hy2 : ∃ y2, (l.set i y)[0]? = some y2 := ⟨(l.set i y)[0]'(by rw [List.length_set]; exact (List.getElem?_eq_some_iff.1 hy).1), List.getElem?_eq_getElem _⟩
  obtain ⟨y2, hy2⟩ := hy2
  have h2 := (h1.putL hy2 x).mod' (Mod.drew (Mod.refl _ NoB))
  simp only [Nat.zero_mul, Nat.zero_add, Nat.add_zero] at h2
  exact BlE.own h2 (bl_set (bl_set hb (hb y (List.mem_of_getElem? hy))) (hb x (List.mem_of_getElem? hx))) (Nat.le_succ _)

theorem lvs_alloc1 (w : World) (x : Lf) : Lvs (w.alloc (.cells #[.int .u32 x.e.u, .int .u32 x.e.v, .int .i64 x.fr, .int .i64 x.to] 56)) (some ⟨w.heap.size, 0, none⟩) [x] := by
  refine Or.inr ⟨w.heap.size, 0, rfl, by simp, fun i y hy => ?_⟩
  have hi : i = 0 := by have := (List.getElem?_eq_some_iff.1 hy).1; simp at this; omega
  subst hi
  cases hy
  exact ⟨World.cell?_alloc_at _ _ _ _ rfl, World.cell?_alloc_at _ _ _ _ rfl, World.cell?_alloc_at _ _ _ _ rfl, World.cell?_alloc_at _ _ _ _ rfl⟩

set_option maxRecDepth 100000 in
set_option maxHeartbeats 8000000 in
theorem bentL_any (w : World) (a : Option Addr) (cap : Nat) (l : List Lf) (what ath v : Int) (hE : Lvs w a l) (hl : l.length ≤ 40000) (hb : ∀ x ∈ l, EdB x.e) (h1 : 0 ≤ what ∧ what ≤ 255) (h2 : 0 ≤ ath ∧ ath ≤ 255) :
    Calls Try.prog 14 #[.slice a l.length cap, .int .u8 what, .int .u8 ath, .int .i64 v] w fun e w' => ∃ a' cap' l', e = .returned (.slice a' l'.length cap') ∧ Lvs w' a' l' ∧ (∀ x ∈ l', EdB x.e) ∧ l'.length ≤ l.length + 1 ∧ Mod w w' NoB := by
  have hmx := mixed
  obtain ⟨i0, hi0, hz0, hz1, hz2⟩ := info_parts info_life2
  have B1 : 0 + l.length ≤ maxLen := by unfold maxLen; omega
  have B2 : (0 + l.length) * 24 ≤ 140737488355328 := by omega
  rcases Nat.eq_zero_or_pos l.length with hl0 | hl0
  · have hnil : l = [] := List.length_eq_zero_iff.1 hl0
    subst hnil
    go_enter Try.func14, Try.ntmps14
    go_upto_region 2 with (at_builtin; refine wpList_append_row _ rfl _ _ 31 rfl 56 i0 (.agg #[.int .u32 0, .int .u32 0, .int .i64 0, .int .i64 0]) 4 24 Try.underlying31 hi0 hz0 hz1 hz2 rfl (by decide) (.slice none 0 0) 0 [] rfl (World.ownsRow_nil _ _ _ _) a 0 cap [] rfl rfl (no_news rfl) (fun u hu => by cases hu) B1 B2 ?_; intro v6 w6 hown6 hgrow6 hat6; obtain ⟨a6, c6, rfl⟩ := row_form hown6; have H6 := Lib.hid (New.first hown6 hgrow6 hat6); clear hown6 hgrow6 hat6)
    go_wp2_with fail
    go_ret
    exact ⟨_, 1, [⟨⟨what, ath⟩, v, wrap64 (v + 1)⟩], rfl, lvs_alloc1 _ _, fun x hx => by
      have := List.mem_singleton.1 hx
      subst this
      exact ⟨⟨h1.1, Int.le_trans h1.2 (by decide)⟩, h2.1, Int.le_trans h2.2 (by decide)⟩, Nat.le_refl _, H6.out.mod.alloc _⟩
  · go_enter Try.func14, Try.ntmps14
    have HNW : Hid (∀ (V : World), Mod w V NoB → ∀ (j : Nat) (u : Value), (l.flatMap encL)[j]? = some u → ∃ ad, a = some ad ∧ V.cell? (ad.add j) = some u) := by
      intro V hV
      rcases hE.mod hV with h | ⟨b, off, rfl, hbl, h⟩
      · rw [h] at hl0; simp at hl0
      · have := lvs_news (o' := off) (p := 0) (m := l.length) h (by omega)
        rwa [List.drop_zero, List.take_length] at this
    have hln : (l.flatMap encL).length = l.length * 4 := enc4_len encL_len l
    have hone := encL_one l
    have hlp : (0 : Int) < l.length := by omega
    go_upto_region 2 with (at_builtin; refine wpList_append_row _ rfl _ _ 31 rfl 56 i0 (.agg #[.int .u32 0, .int .u32 0, .int .i64 0, .int .i64 0]) 4 24 Try.underlying31 hi0 hz0 hz1 hz2 rfl (by decide) (.slice none 0 0) 0 [] rfl (World.ownsRow_nil _ _ _ _) a l.length cap (l.flatMap encL) rfl hln (HNW.out _ (Mod.refl _ _)) hone B1 B2 ?_; intro v6 Z hown6 hgrow6 hat6; obtain ⟨a6, c6, rfl⟩ := row_form hown6; have H7 := Lib.hid (New.first hown6 hgrow6 hat6); clear hown6 hgrow6 hat6)
    obtain ⟨g, c7, hv, _, _, hc7, _⟩ := row_open H7.out.row hl0
    have ha6 : a6 = some ⟨g, 0, none⟩ := by injection hv
    have hc6 : c6 = c7 := by injection hv
    subst ha6 hc6
    clear hv
    rw [Nat.zero_add] at H7
    have HO := Lib.hid (Own4.mk (enc := encL) (w0 := w) rfl H7.out.row H7.out.mod (H7.out.young g rfl))
    have hml : what % 7 = 0 ∨ what % 7 = 1 ∨ what % 7 = 2 ∨ what % 7 = 3 ∨ what % 7 = 4 ∨ what % 7 = 5 ∨ what % 7 = 6 := by omega
    obtain ⟨i, hi, hil⟩ : ∃ i : Nat, ath % (l.length : Int) = (i : Int) ∧ i < l.length := by
      have e1 := Int.emod_nonneg ath (show (l.length : Int) ≠ 0 by omega)
      have e2 := Int.emod_lt_of_pos ath hlp
      exact ⟨(ath % (l.length : Int)).toNat, by omega, by omega⟩
    go_upto_block 0 with (fail)
    rw [hi]
    have hili : (i : Int) < l.length := by omega
    obtain ⟨x, hx⟩ : ∃ x, l[i]? = some x := ⟨l[i], List.getElem?_eq_getElem hil⟩
    obtain ⟨y, hy⟩ : ∃ y, l[0]? = some y := ⟨l[0], List.getElem?_eq_getElem hl0⟩
    have u0 := HO.out.cell encL_len 0 hx (by omega) rfl
    have u1 := HO.out.cell encL_len 1 hx (by omega) rfl
    have u2 := HO.out.cell encL_len 2 hx (by omega) rfl
    have u3 := HO.out.cell encL_len 3 hx (by omega) rfl
    have r0 := HO.out.frozen (i * 4 + 0)
    have r1 := HO.out.frozen (i * 4 + 1)
    have r2 := HO.out.frozen (i * 4 + 2)
    have r3 := HO.out.frozen (i * 4 + 3)
    rw [Nat.add_zero] at u0 r0
    have hxB : EdB x.e := hb x (List.mem_of_getElem? hx)
    have HX := Lib.hid (And.intro hx hxB)
    have HY := Lib.hid (And.intro hy (And.intro (HO.out.cell encL_len 0 hy (by omega) rfl) (And.intro (HO.out.cell encL_len 1 hy (by omega) rfl) (And.intro (HO.out.cell encL_len 2 hy (by omega) rfl) (HO.out.cell encL_len 3 hy (by omega) rfl)))))
    have HBD := Lib.hid hb
    clear hE hx hxB hy hb hln hone HNW H7
    obtain ⟨m, hm⟩ : ∃ m, what % 7 = m := ⟨_, rfl⟩
    rw [hm] at hml ⊢
    clear hm
    go_cut [9] (fun v9 wc => ∃ (a' : Option Addr) (c' : Nat) (l' : List Lf), v9 = .slice a' l'.length c' ∧ Hid (BlE w wc (l.length + 1) a' c' l'))
    case first =>
      rcases hml with rfl | rfl | rfl | rfl | rfl | rfl | rfl
      · go_wp2_with fail
        go_meet
        exact ⟨_, _, l.set i ⟨x.e, v, x.to⟩, by rw [List.length_set], BlE.one (c := 2) HO.out HBD.out HX.out.1 (by omega) rfl HX.out.2⟩
      · go_wp2_with fail
        go_meet
        exact ⟨_, _, l.set i ⟨x.e, x.fr, v⟩, by rw [List.length_set], BlE.one (c := 3) HO.out HBD.out HX.out.1 (by omega) rfl HX.out.2⟩
      · go_wp2_with fail
        go_meet
        exact ⟨_, _, l.set i ⟨⟨IntKind.u32.wrap v, x.e.v⟩, x.fr, x.to⟩, by rw [List.length_set], BlE.one (c := 0) HO.out HBD.out HX.out.1 (by omega) rfl ⟨bounds_u32 (wf_wrap .u32 v), HX.out.2.2⟩⟩
      · go_wp2_with fail
        go_meet
        exact ⟨_, _, l.set i ⟨⟨x.e.u, IntKind.u32.wrap v⟩, x.fr, x.to⟩, by rw [List.length_set], BlE.one (c := 1) HO.out HBD.out HX.out.1 (by omega) rfl ⟨HX.out.2.1, bounds_u32 (wf_wrap .u32 v)⟩⟩
      · obtain ⟨hy, t0, t1, t2, t3⟩ := HY.out
        have p0 := HO.out.frozen 0
        have p1 := HO.out.frozen 1
        have p2 := HO.out.frozen 2
        have p3 := HO.out.frozen 3
        simp only [Nat.zero_mul, Nat.zero_add] at t0 t1 t2 t3
        clear hy
        by_cases hi0 : i = 0
        · subst hi0
          simp only [Nat.zero_mul, Nat.zero_add] at u0 u1 u2 u3 r0 r1 r2 r3
          go_wp2_with fail
          go_region
          go_wp2_with fail
          go_meet
          have hxy : x = y := Option.some.inj (HX.out.1.symm.trans HY.out.1)
          subst hxy
          have := BlE.swap HO.out HBD.out HX.out.1 HY.out.1
          simp only [Nat.zero_mul, Nat.zero_add] at this
          exact ⟨_, _, _, by rw [List.length_set, List.length_set], this⟩
        · go_wp2_with fail
          go_region
          go_wp2_with fail
          go_meet
          exact ⟨_, _, _, by rw [List.length_set, List.length_set], BlE.swap HO.out HBD.out HX.out.1 HY.out.1⟩
      · have HB : Hid (l.length + 1 ≤ maxLen ∧ (l.length + 1) * 24 ≤ 140737488355328) := by
          unfold maxLen; exact ⟨by omega, by omega⟩
        have hone : ∀ u ∈ encL x, u.oneCell' = true := by simp [encL, Value.oneCell']
        go_wp2_with (at_builtin; refine wpList_append_row _ rfl _ _ 31 rfl 56 i0 (.agg #[.int .u32 0, .int .u32 0, .int .i64 0, .int .i64 0]) 4 24 Try.underlying31 hi0 hz0 hz1 hz2 rfl (by decide) (.slice (some ⟨g, 0, none⟩) l.length c6) l.length _ rfl (HO.out.row.alloc _) _ 1 _ (encL x) rfl rfl (fun j u hu => ⟨_, rfl, World.news_of_block (MapKept.heap_alloc _ _).1 j u hu⟩) hone HB.out.1 HB.out.2 ?_; intro v8 w8 hown8 hgrow8 hat8; obtain ⟨a8, c8, rfl⟩ := row_form hown8; have H8 := Lib.hid (And.intro hown8 hgrow8); clear hown8 hgrow8 hat8)
        go_meet
        have hr : w8.ownsRow 0 56 4 (.slice a8 (l.length + 1) c8) (l.length + 1) ((l ++ [x]).flatMap encL) := by
          have := H8.out.1
          rw [List.flatMap_append]
          simpa using this
        have hl1 : (l ++ [x]).length = l.length + 1 := by simp
        refine ⟨a8, c8, l ++ [x], by rw [hl1], lvs_of_row hl1 hr, ?_, by omega, (HO.out.mod.alloc _).grown H8.out.2 (fun k hk hlt => ?_)⟩
        · intro z hz
          rcases List.mem_append.1 hz with c | c
          · exact HBD.out z c
          · rw [List.mem_singleton.1 c]; exact HX.out.2
        · have e1 : g = k := Option.some.inj hk
          have := HO.out.young
          omega
      · go_wp2_with fail
        go_meet
        exact ⟨_, _, l.set i ⟨x.e, x.fr, x.fr⟩, by rw [List.length_set], BlE.one (c := 3) HO.out HBD.out HX.out.1 (by omega) rfl HX.out.2⟩
    case rest =>
      obtain ⟨a', c', l', rfl, HF⟩ := hcut
      go_wp2_with fail
      go_ret
      exact ⟨a', c', l', rfl, HF.out.1, HF.out.2.1, HF.out.2.2.1, HF.out.2.2.2⟩
end Go.Proofs.Ythncgmmfnghliaa
