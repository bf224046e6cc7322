/- The reference: Turn. -/
import Derived.Test.YthncgmmfnghliaaLfRb
import Derived.Test.YthncgmmfnghliaaLfAp
import Derived.OwnWalk
import Derived.Deep.RegionLaw
namespace Go.Proofs.Ythncgmmfnghliaa
open Go.RowKit
set_option linter.unusedVariables false

theorem info_edge : (Try.prog.info? 54).map (fun i => (i.zero, i.size, i.bytes)) = some (some (.agg #[.int .u32 0, .int .u32 0]), 2, 8) := by kernel_rfl

/-- The cells of a part of a row of edges. -/
theorem eds_news {w : World} {b off o' p m : Nat} {l : List Ed} (h : ∀ (i : Nat) (x : Ed), l[i]? = some x → EdAt w b (off + i * 2) x) (ho : o' = off + p * 2) :
    ∀ (j : Nat) (u : Value), (((l.drop p).take m).flatMap encD)[j]? = some u → ∃ ad, (some ⟨b, o', none⟩ : Option Addr) = some ad ∧ w.cell? (ad.add j) = some u := by
  intro j u hu
  obtain ⟨h1, h2⟩ := List.getElem?_eq_some_iff.1 hu
  have hj2 : j / 2 < ((l.drop p).take m).length := by rw [enc2_len] at h1; omega
  obtain ⟨x, hx⟩ : ∃ x, ((l.drop p).take m)[j / 2]? = some x := ⟨_, List.getElem?_eq_getElem hj2⟩
  have hx' : l[p + j / 2]? = some x := by
    rw [List.getElem?_take] at hx
    split at hx
    · rw [List.getElem?_drop] at hx; exact hx
    · cases hx
  have hg := enc2_get _ (j / 2) x (j % 2) hx (Nat.mod_lt _ (by omega))
  rw [show j / 2 * 2 + j % 2 = j by omega, hu] at hg
  obtain ⟨e0, e1⟩ := h _ _ hx'
  refine ⟨_, rfl, ?_⟩
  have hadd : (⟨b, o', none⟩ : Addr).add j = ⟨b, o' + j, none⟩ := by unfold Addr.add; split <;> simp_all
  rw [hadd]
  have hm : j % 2 < 2 := Nat.mod_lt _ (by omega)
  rcases Nat.lt_or_ge (j % 2) 1 with c | c
  · have hr : j % 2 = 0 := by omega
    rw [hr] at hg
    have hu' : u = .int .u32 x.u := by simpa [encD] using hg
    rw [hu', show o' + j = off + (p + j / 2) * 2 by omega]; exact e0
  · have hr : j % 2 = 1 := by omega
    rw [hr] at hg
    have hu' : u = .int .u32 x.v := by simpa [encD] using hg
    rw [hu', show o' + j = off + (p + j / 2) * 2 + 1 by omega]; exact e1
theorem no_news {α : Type} {P : Nat → α → Prop} {l : List α} (h : l = []) : ∀ (j : Nat) (u : α), l[j]? = some u → P j u := by
  intro j u hu; rw [h] at hu; simp at hu
/-- What an append to nothing has made. -/
structure New (w w' : World) (e : TypeId) (size : Nat) (v : Value) (n : Nat) (xs : List Value) : Prop where
  row : w'.ownsRow 0 e size v n xs
  mod : Mod w w' NoB
  young : ∀ q, v.ownBlock = some q → w.heap.size ≤ q
theorem New.first {w w' : World} {e : TypeId} {size n : Nat} {v : Value} {xs : List Value} (hown : w'.ownsRow 0 e size v (0 + n) ([] ++ xs)) (hgrow : w.grownBy w' (Value.slice none 0 0).ownBlock) (hat : v.ownBlock = (Value.slice none 0 0).ownBlock ∨ v.ownBlock = some w.heap.size) : New w w' e size v n xs := by
  refine ⟨by simpa using hown, ⟨hgrow.os, hgrow.tape, hgrow.output, hgrow.size, fun q hq _ => hgrow.block q hq (by simp [Value.ownBlock])⟩, fun q hq => ?_⟩
  rcases hat with c | c
  · rw [hq] at c; simp [Value.ownBlock] at c
  · rw [hq] at c
    have : q = w.heap.size := by simpa using c
    omega
theorem New.more {w w1 w' : World} {e : TypeId} {size n m : Nat} {v v' : Value} {xs ys : List Value} (h : New w w1 e size v n xs) (hown : w'.ownsRow 0 e size v' (n + m) (xs ++ ys)) (hgrow : w1.grownBy w' v.ownBlock) (hat : v'.ownBlock = v.ownBlock ∨ v'.ownBlock = some w1.heap.size) : New w w' e size v' (n + m) (xs ++ ys) := by
  refine ⟨hown, h.mod.grown hgrow (fun q hq hlt => by have := h.young q hq; omega), fun q hq => ?_⟩
  rcases hat with c | c
  · exact h.young q (by rw [← c]; exact hq)
  · rw [hq] at c
    have : q = w1.heap.size := by simpa using c
    have := h.mod.size
    omega
theorem New.from {w w0 w' : World} {e : TypeId} {size n : Nat} {v : Value} {xs : List Value} (h : New w w' e size v n xs) (hm : Mod w0 w NoB) : New w0 w' e size v n xs := ⟨h.row, hm.trans h.mod (fun _ _ c => c), fun q hq => Nat.le_trans hm.size (h.young q hq)⟩
/-- A new row, with more blocks about. -/
theorem New.alloc {w w' : World} {e : TypeId} {size n : Nat} {v : Value} {xs : List Value} (h : New w w' e size v n xs) (o : Obj) : New w (w'.alloc o) e size v n xs := ⟨h.row.alloc o, h.mod.alloc o, h.young⟩
/-- An address with no spot. -/
def Plain (a : Option Addr) : Prop := a = none ∨ ∃ b off, a = some ⟨b, off, none⟩
theorem row_plain {w : World} {base n m cap size : Nat} {e : TypeId} {a : Option Addr} {xs : List Value} (h : w.ownsRow base e size (.slice a n cap) m xs) : Plain a := by
  rcases h.2 with ⟨hv, _⟩ | ⟨g, c, cur, hv, _⟩
  · cases hv; exact Or.inl rfl
  · cases hv; exact Or.inr ⟨g, 0, rfl⟩
/-- An address of a young block. -/
def Yg (w : World) (a : Option Addr) : Prop := ∀ p, a = some p → w.heap.size ≤ p.block
theorem Yg.mono {w w' : World} {a : Option Addr} (h : Yg w' a) (hs : w.heap.size ≤ w'.heap.size) : Yg w a := fun p hp => Nat.le_trans hs (h p hp)
theorem New.yg {w w' : World} {e : TypeId} {size n m cap : Nat} {a : Option Addr} {xs : List Value} (h : New w w' e size (.slice a n cap) m xs) : Yg w a := fun p hp => h.young p.block (by rw [hp]; rfl)
theorem New.edges {w w' : World} {n : Nat} {v : Value} {l : List Ed} (h : New w w' 54 2 v n (l.flatMap encD)) (hn : n = l.length) : ∃ a' cap', v = .slice a' l.length cap' ∧ Eds w' a' l ∧ (Plain a' ∧ Yg w a') ∧ l.length ≤ cap' := by
  subst hn
  obtain ⟨a', cap', rfl⟩ := row_form h.row
  refine ⟨a', cap', rfl, eds_of_row rfl h.row, ⟨row_plain h.row, h.yg⟩, ?_⟩
  rcases h.row.2 with ⟨hv, h0⟩ | ⟨g, c, cur, hv, _, _, h1, _⟩
  · rw [h0]; exact Nat.zero_le _
  · cases hv; exact h1
theorem encD_one (l : List Ed) : ∀ u ∈ l.flatMap encD, u.oneCell' = true := by
  intro u hu
  obtain ⟨x, _, hx⟩ := List.mem_flatMap.1 hu
  simp [encD] at hx
  rcases hx with rfl | rfl <;> rfl

set_option maxRecDepth 100000 in
set_option maxHeartbeats 4000000 in
theorem turn_del (w : World) (a : Option Addr) (cap : Nat) (l : List Ed) (e : Ev) (k : Nat) (hL : Eds w a l) (hl : l.length ≤ 100000) (hcap : l.length ≤ cap) (hs : l.Pairwise edLt) (hf : fndE e.e l = some k) (ha : e.add = false) :
    Calls Try.prog 28 #[.slice a l.length cap, .agg #[.int .i64 e.t, .int .u32 e.e.u, .int .u32 e.e.v, .bool e.add]] w fun r w' => ∃ a' cap', r = .returned (.tuple #[.slice a' (l.eraseIdx k).length cap', .bool true]) ∧ Eds w' a' (l.eraseIdx k) ∧ (Plain a' ∧ Yg w a') ∧ (l.eraseIdx k).length ≤ cap' ∧ Mod w w' NoB := by
  have HL := Lib.hid hL
  have HS := Lib.hid hs
  have hkl := (List.getElem?_eq_some_iff.1 (fndE_get hf).1).1
  have hI : fndI e.e l = k := by unfold fndI; rw [hf]
  have HF : Hid (∀ z, Eds z a l → Calls Try.prog 49 #[.slice a l.length cap, .agg #[.int .u32 e.e.u, .int .u32 e.e.v]] z fun r w' => r = .returned (.int .i64 k) ∧ Mod z w' NoB) := fun z hz => by rw [← hI]; exact find_any z a cap l e.e hz hl
  clear hL hs hI
  rw [ha]
  obtain ⟨i0, hi, hz0, hz1, hz2⟩ := info_parts info_edge
  obtain ⟨h0, hh0⟩ : ∃ h0, h0 = w.heap.size := ⟨_, rfl⟩
  obtain ⟨W, hW⟩ : ∃ W, W = w.alloc (.cells #[.int .i64 e.t, .int .u32 e.e.u, .int .u32 e.e.v, .bool false] 65) := ⟨_, rfl⟩
  have HW : Hid (Mod w W NoB ∧ EvAt W h0 0 ⟨e.t, e.e, false⟩) := by
    show _ ∧ _
    rw [hW, hh0]; exact ⟨(Mod.refl _ _).alloc _, World.cell?_alloc_at _ _ _ _ rfl, World.cell?_alloc_at _ _ _ _ rfl, World.cell?_alloc_at _ _ _ _ rfl, World.cell?_alloc_at _ _ _ _ rfl⟩
  obtain ⟨q0, q1, q2, q3⟩ := HW.out.2
  simp only [Nat.zero_add] at q1 q2 q3
  go_enter Try.func28, Try.ntmps28
  go_wp2_with fail
  rw [← hW, ← hh0]
  clear hW hh0
  refine (HF.out _ (HL.out.mod HW.out.1)).mono ?_
  rintro r w1 ⟨rfl, hm⟩
  have H1 : Hid (Mod w w1 NoB) := HW.out.1.trans hm (fun _ _ h => h)
  have r1 := keepc q1 hm
  have r2 := keepc q2 hm
  have r3 := keepc q3 hm
  clear hm q0 q1 q2 q3 HW
  go_wp2_with fail
  refine (rising_any _ a cap l (HL.out.mod H1.out) hl HS.out).mono ?_
  rintro r w2 ⟨rfl, hm⟩
  have H2 : Hid (Mod w w2 NoB) := H1.out.trans hm (fun _ _ h => h)
  have s1 := keepc r1 hm
  have s2 := keepc r2 hm
  have s3 := keepc r3 hm
  clear hm r1 r2 r3 H1
  have hk0 : (0 : Int) ≤ (k : Int) := by omega
  go_upto_region 5 with (fail)
  obtain ⟨b, off, x, rfl, hbw, hx, _⟩ := (HL.out.mod H2.out).at hkl
  have HE : Hid (∀ z, Mod w2 z NoB → ∀ (i : Nat) (x : Ed), l[i]? = some x → EdAt z b (off + i * 2) x) := fun z hz i x hx => by
    rcases (HL.out.mod H2.out).mod hz with h | ⟨b', off', hab, _, h⟩
    · rw [h] at hkl; simp at hkl
    · cases hab; exact h i x hx
  have HER : Hid (l.take k ++ l.drop (k + 1) = l.eraseIdx k ∧ k + (l.length - (k + 1)) = (l.eraseIdx k).length) := by
    refine ⟨(List.eraseIdx_eq_take_drop_succ l k).symm, ?_⟩
    rw [List.length_eraseIdx_of_lt hkl]; omega
  have HB : Hid (0 + k ≤ maxLen ∧ (0 + k) * 8 ≤ 140737488355328 ∧ k + (l.length - (k + 1)) ≤ maxLen ∧ (k + (l.length - (k + 1))) * 8 ≤ 140737488355328) := by
    unfold maxLen; exact ⟨by omega, by omega, by omega, by omega⟩
  have hkc : k ≤ cap := by omega
  have hkci : (k : Int) ≤ cap := by omega
  have hk1 : k + 1 ≤ l.length := hkl
  have hk1i : (k : Int) + 1 ≤ l.length := by omega
  have hk01 : (0 : Int) ≤ (k : Int) + 1 := by omega
  have htn : ((k : Int) + 1).toNat = k + 1 := by omega
  have hwr : IntKind.i64.wrap ((k : Int) + 1) = (k : Int) + 1 := IntWalk.i64_in _ (by omega)
  have hlc : (l.length : Int) ≤ cap := by omega
  clear hf hx hbw
  by_cases hce : cap = k + 1
  · have HN : Hid (((l.take k).flatMap encD).length = k * 2 ∧ (∀ z, Mod w2 z NoB → ∀ (j : Nat) (u : Value), ((l.take k).flatMap encD)[j]? = some u → ∃ ad, (some ⟨b, off, none⟩ : Option Addr) = some ad ∧ z.cell? (ad.add j) = some u) ∧
        ((l.drop (k + 1)).flatMap encD).length = (l.length - (k + 1)) * 2 ∧ (∀ z, Mod w2 z NoB → ∀ (j : Nat) (u : Value), ((l.drop (k + 1)).flatMap encD)[j]? = some u → ∃ ad, (some ⟨b, off, none⟩ : Option Addr) = some ad ∧ z.cell? (ad.add j) = some u)) := by
      refine ⟨by rw [enc2_len]; simp; omega, fun z hz => eds_news (p := 0) (HE.out z hz) (by omega), by rw [enc2_len]; simp, fun z hz => no_news (by rw [List.drop_eq_nil_of_le (by omega)]; rfl)⟩
    subst hce
    have hkk1 : (k : Int) ≤ (k : Int) + 1 := by omega
    have hlk : l.length = k + 1 := by omega
    have HB0 : Hid (k + 0 ≤ maxLen ∧ (k + 0) * 8 ≤ 140737488355328 ∧ (l.take k).flatMap encD ++ [] = (l.eraseIdx k).flatMap encD ∧ k + 0 = (l.eraseIdx k).length) := by
      refine ⟨by unfold maxLen; omega, by omega, ?_, by rw [← HER.out.2]; omega⟩
      rw [← HER.out.1, List.drop_eq_nil_of_le (by omega), List.append_nil, List.append_nil]
    clear hlk
    go_region_held3 (fun _ => True) (trivial) (first
      | (refine step_append_row _ rfl _ _ 59 rfl 54 i0 (.agg #[.int .u32 0, .int .u32 0]) 2 8 Try.underlying59 hi hz0 hz1 hz2 rfl (by decide) (.slice none 0 0) 0 [] rfl (World.ownsRow_nil _ _ _ _) _ k _ ((l.take k).flatMap encD) rfl HN.out.1 (HN.out.2.1 _ (Mod.drew (Mod.refl _ _))) (encD_one _) HB.out.1 HB.out.2.1 ?_
         intro v6 w6 hown6 hgrow6 hat6
         have H6 := Lib.hid ((New.first hown6 hgrow6 hat6).from (Mod.drew (Mod.refl w2 NoB)))
         clear hown6 hgrow6 hat6)
      | (refine step_append_row _ rfl _ _ 59 rfl 54 i0 (.agg #[.int .u32 0, .int .u32 0]) 2 8 Try.underlying59 hi hz0 hz1 hz2 rfl (by decide) v6 k _ rfl H6.out.row _ 0 _ [] rfl rfl (no_news rfl) (fun u hu => by cases hu) HB0.out.1 HB0.out.2.1 ?_
         intro v7 w7 hown7 hgrow7 hat7
         have H7 := Lib.hid (H6.out.more hown7 hgrow7 hat7)
         clear hown7 hgrow7 hat7))
    all_goals
      rw [HB0.out.2.2.1] at H7
      obtain ⟨a', cap', rfl, k1, k2, k3⟩ := H7.out.edges HB0.out.2.2.2
      have HF7 := Lib.hid (And.intro k1 (And.intro k2 (And.intro k3 H7.out.mod)))
      clear k1 k2 k3
      go_wp2_with fail
      go_ret2
      exact ⟨a', cap', rfl, HF7.out.1, ⟨HF7.out.2.1.1, HF7.out.2.1.2.mono H2.out.size⟩, HF7.out.2.2.1, H2.out.trans HF7.out.2.2.2 (fun _ _ h => h)⟩
  · have HN : Hid (((l.take k).flatMap encD).length = k * 2 ∧ (∀ z, Mod w2 z NoB → ∀ (j : Nat) (u : Value), ((l.take k).flatMap encD)[j]? = some u → ∃ ad, (some ⟨b, off, none⟩ : Option Addr) = some ad ∧ z.cell? (ad.add j) = some u) ∧
        ((l.drop (k + 1)).flatMap encD).length = (l.length - (k + 1)) * 2 ∧ (∀ z, Mod w2 z NoB → ∀ (j : Nat) (u : Value), ((l.drop (k + 1)).flatMap encD)[j]? = some u → ∃ ad, (some ⟨b, off + (k + 1) * 2, none⟩ : Option Addr) = some ad ∧ z.cell? (ad.add j) = some u)) := by
      refine ⟨by rw [enc2_len]; simp; omega, fun z hz => eds_news (p := 0) (HE.out z hz) (by omega), by rw [enc2_len]; simp, fun z hz j u hu => ?_⟩
      have := eds_news (p := k + 1) (m := l.length) (HE.out z hz) rfl j u
      rw [List.take_of_length_le (by simp)] at this
      exact this hu
    have hce2 : ¬ cap - (k + 1) = 0 := by omega
    go_region_held3 (fun _ => True) (trivial) (first
      | (refine step_append_row _ rfl _ _ 59 rfl 54 i0 (.agg #[.int .u32 0, .int .u32 0]) 2 8 Try.underlying59 hi hz0 hz1 hz2 rfl (by decide) (.slice none 0 0) 0 [] rfl (World.ownsRow_nil _ _ _ _) _ k _ ((l.take k).flatMap encD) rfl HN.out.1 (HN.out.2.1 _ (Mod.drew (Mod.refl _ _))) (encD_one _) HB.out.1 HB.out.2.1 ?_
         intro v6 w6 hown6 hgrow6 hat6
         have H6 := Lib.hid ((New.first hown6 hgrow6 hat6).from (Mod.drew (Mod.refl w2 NoB)))
         clear hown6 hgrow6 hat6)
      | (refine step_append_row _ rfl _ _ 59 rfl 54 i0 (.agg #[.int .u32 0, .int .u32 0]) 2 8 Try.underlying59 hi hz0 hz1 hz2 rfl (by decide) v6 k _ rfl H6.out.row _ (l.length - (k + 1)) _ ((l.drop (k + 1)).flatMap encD) rfl HN.out.2.2.1 (HN.out.2.2.2 _ H6.out.mod) (encD_one _) HB.out.2.2.1 HB.out.2.2.2 ?_
         intro v7 w7 hown7 hgrow7 hat7
         have H7 := Lib.hid (H6.out.more hown7 hgrow7 hat7)
         clear hown7 hgrow7 hat7))
    all_goals
      rw [← List.flatMap_append] at H7
      rw [HER.out.1] at H7
      obtain ⟨a', cap', rfl, k1, k2, k3⟩ := H7.out.edges HER.out.2
      have HF7 := Lib.hid (And.intro k1 (And.intro k2 (And.intro k3 H7.out.mod)))
      clear k1 k2 k3
      go_wp2_with fail
      go_ret2
      exact ⟨a', cap', rfl, HF7.out.1, ⟨HF7.out.2.1.1, HF7.out.2.1.2.mono H2.out.size⟩, HF7.out.2.2.1, H2.out.trans HF7.out.2.2.2 (fun _ _ h => h)⟩
end Go.Proofs.Ythncgmmfnghliaa
