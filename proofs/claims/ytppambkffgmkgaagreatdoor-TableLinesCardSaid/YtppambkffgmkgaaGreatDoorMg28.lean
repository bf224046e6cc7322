/- Merged: LgQ LgQi LgTp -/
import Derived.Test.YtppambkffgmkgaaGreatDoorMg27
import Derived.Test.YtppambkffgmkgaaGreatDoorMg23
section
/- A log's text is read back, and what is read is a log's text: plainly. -/
namespace Go.Proofs.YtppambkffgmkgaaGreatDoor
set_option linter.unusedVariables false

theorem numS_dec {most : Int} (h0 : 0 ≤ most) {n : Nat} (hn : (n : Int) ≤ most) (r : List UInt8) (p : Int × Int) (hr : ∀ c, r.head? = some c → isD c = false) :
    numS most ⟨decL n ++ r, p, 0⟩ = ((n : Int), ⟨r, (p.1, p.2 + (decL n).length), 0⟩) := by
  unfold numS SS.go
  dsimp only
  rw [numOut_dec h0 n r hr, if_pos hn]
  simp only [List.drop_left, List.take_left]
  rw [adv_digits p _ (decL_digits n)]
theorem byte_there {c : UInt8} (hc : c.toNat ≠ 10) (r : List UInt8) (p : Int × Int) : wordS [c] ⟨c :: r, p, 0⟩ = (true, ⟨r, (p.1, p.2 + 1), 0⟩) := by
  have := wordS_there (u := [c]) (r := r) (p := p)
  rw [List.singleton_append] at this
  rw [this]
  simp [adv, hc]
theorem line_there (r : List UInt8) (p : Int × Int) : wordS [10] ⟨10 :: r, p, 0⟩ = (true, ⟨r, (p.1 + 1, 1), 0⟩) := by
  have := wordS_there (u := [10]) (r := r) (p := p)
  rw [List.singleton_append] at this
  rw [this]
  simp [adv]
/-- A line is read. -/
theorem evS_line (e : Ev) (ht : 0 ≤ e.t ∧ e.t ≤ 4611686018427387903) (hb : EvB e) (r : List UInt8) (p : Int × Int) : evS ⟨lineL e ++ r, p, 0⟩ = (e, ⟨r, (p.1 + 1, 1), 0⟩) := by
  have e1 : lineL e ++ r = decL e.t.toNat ++ (32 :: (if e.add = true then 43 else 45) :: 32 :: (decL e.e.u.toNat ++ (32 :: (decL e.e.v.toNat ++ 10 :: r)))) := by
    unfold lineL sgnL
    cases e.add <;> simp
  unfold evS
  dsimp only
  rw [e1, numS_dec (by decide) (by omega) _ _ (by intro c hc; simp at hc; subst hc; decide)]
  dsimp only
  rw [byte_there (by decide)]
  dsimp only
  cases hadd : e.add with
  | true =>
    simp only [if_true]
    have hn : nextS ⟨43 :: 32 :: (decL e.e.u.toNat ++ (32 :: (decL e.e.v.toNat ++ 10 :: r))), (p.1, p.2 + (decL e.t.toNat).length + 1), 0⟩ = some 43 := rfl
    rw [if_pos hn, byte_there (by decide)]
    dsimp only
    rw [byte_there (by decide)]
    dsimp only
    rw [numS_dec (by decide) (by have := hb.1; omega) _ _ (by intro c hc; simp at hc; subst hc; decide)]
    dsimp only
    rw [byte_there (by decide)]
    dsimp only
    rw [numS_dec (by decide) (by have := hb.2; omega) _ _ (by intro c hc; simp at hc; subst hc; decide)]
    dsimp only
    rw [line_there]
    have h1 := ht.1; have h2 := hb.1.1; have h3 := hb.2.1
    refine Prod.ext ?_ rfl
    cases e with
    | mk t ed ad => cases ed with
      | mk u v =>
        simp only at hadd h1 h2 h3 ⊢
        subst hadd
        rw [Int.toNat_of_nonneg h1, Int.toNat_of_nonneg h2, Int.toNat_of_nonneg h3]
  | false =>
    simp only [Bool.false_eq_true, if_false]
    have hn : ¬ nextS ⟨45 :: 32 :: (decL e.e.u.toNat ++ (32 :: (decL e.e.v.toNat ++ 10 :: r))), (p.1, p.2 + (decL e.t.toNat).length + 1), 0⟩ = some 43 := by
      unfold nextS; simp
    rw [if_neg hn, byte_there (by decide)]
    dsimp only
    rw [byte_there (by decide)]
    dsimp only
    rw [numS_dec (by decide) (by have := hb.1; omega) _ _ (by intro c hc; simp at hc; subst hc; decide)]
    dsimp only
    rw [byte_there (by decide)]
    dsimp only
    rw [numS_dec (by decide) (by have := hb.2; omega) _ _ (by intro c hc; simp at hc; subst hc; decide)]
    dsimp only
    rw [line_there]
    have h1 := ht.1; have h2 := hb.1.1; have h3 := hb.2.1
    refine Prod.ext ?_ rfl
    cases e with
    | mk t ed ad => cases ed with
      | mk u v =>
        simp only at hadd h1 h2 h3 ⊢
        subst hadd
        rw [Int.toNat_of_nonneg h1, Int.toNat_of_nonneg h2, Int.toNat_of_nonneg h3]
theorem hdS_log {n : Int} (hn : 0 ≤ n ∧ n ≤ 4294967296) (r : List UInt8) : hdS ([108, 111, 103, 32] ++ decL n.toNat ++ [10] ++ r) = (n, ⟨r, (2, 1), 0⟩) := by
  have e1 : ([108, 111, 103, 32] ++ decL n.toNat ++ [10] ++ r : List UInt8) = [108, 111, 103] ++ (32 :: (decL n.toNat ++ 10 :: r)) := by simp
  unfold hdS
  dsimp only
  rw [e1, wordS_there]
  dsimp only
  rw [byte_there (by decide)]
  dsimp only
  rw [numS_dec (by decide) (by omega) _ _ (by intro c hc; simp at hc; subst hc; decide)]
  dsimp only
  rw [line_there]
  have e2 : (adv (1, 1) [108, 111, 103] : Int × Int).1 + 1 = 2 := by decide
  rw [Int.toNat_of_nonneg hn.1]
  exact Prod.ext rfl (by rw [e2])
theorem prev_snoc (G : List Ev) (x : Ev) : prevOf (G ++ [x]) (G ++ [x]).length = some x := by
  unfold prevOf
  rw [if_neg (by simp), List.length_append, List.length_singleton, Nat.add_sub_cancel, List.getElem?_append_right (Nat.le_refl _)]
  simp
/-- Lines, read one by one behind others. -/
theorem plF_lines {n : Int} : ∀ (F G : List Ev) (k : Nat) (r : List UInt8) (p : Int × Int), AllOk n (prevOf G G.length) (thereOf G) F → (∀ x ∈ F, (0 ≤ x.t ∧ x.t ≤ 4611686018427387903) ∧ EvB x) → F.length ≤ k →
    plF n k G ⟨F.flatMap lineL ++ r, p, 0⟩ = plF n (k - F.length) (G ++ F) ⟨r, (if F = [] then p else (p.1 + F.length, 1)), 0⟩
  | [], G, k, r, p, _, _, _ => by simp
  | x :: F, G, 0, r, p, _, _, hk => by simp at hk
  | x :: F, G, k + 1, r, p, hok, hb, hk => by
    have hx := hb x (by simp)
    have hl : (x :: F).flatMap lineL ++ r = lineL x ++ (F.flatMap lineL ++ r) := by rw [List.flatMap_cons, List.append_assoc]
    rw [hl]
    have he := evS_line x hx.1 hx.2 (F.flatMap lineL ++ r) p
    have hn : (nextS ⟨lineL x ++ (F.flatMap lineL ++ r), p, 0⟩).isSome = true := by
      unfold nextS lineL
      have hne : decL x.t.toNat ≠ [] := fun e => by have := (decL_len x.t.toNat).1; rw [e] at this; simp at this
      cases hd : decL x.t.toNat with
      | nil => exact absurd hd hne
      | cons c l => simp
    have ih := plF_lines F (G ++ [x]) k r (p.1 + 1, 1) (by rw [prev_snoc, thereOf_snoc]; exact hok.2) (fun y hy => hb y (by simp [hy])) (by simpa using hk)
    have h1 := (plF_more (n := n) (k := k) (F := G) rfl hn).2.2 (by rw [he]) (by rw [he]; exact hok.1)
    rw [← h1, he]
    dsimp only
    rw [ih]
    congr 1
    · simp
    · simp
    · congr 1
      by_cases hF : F = []
      · subst hF; simp
      · rw [if_neg hF, if_neg (by simp)]
        refine Prod.ext ?_ rfl
        show p.1 + 1 + (F.length : Int) = p.1 + ((F.length + 1 : Nat) : Int)
        omega
/-- A log's text is read back. -/
theorem parse_log {n : Int} {F : List Ev} (hn0 : 0 ≤ n) (hz : (chk n F).2 = 0) (hb : ∀ x ∈ F, EvB x) : parseR (logL n F) = (F, (0, 0), 0) ∧ parseN (logL n F) = n := by
  obtain ⟨hnN, hok⟩ := chk_ok_bd hz
  have hbd : ∀ x ∈ F, (0 ≤ x.t ∧ x.t ≤ 4611686018427387903) ∧ EvB x := fun x hx => ⟨allOk_tt hok x hx, hb x hx⟩
  have hh : hdS (logL n F) = (n, ⟨F.flatMap lineL, (2, 1), 0⟩) := hdS_log ⟨hn0, hnN⟩ (F.flatMap lineL)
  have hlen : F.length ≤ (logL n F).length + 1 := by
    have key : ∀ F : List Ev, F.length ≤ (F.flatMap lineL).length := by
      intro F
      induction F with
      | nil => simp
      | cons x F ih =>
        rw [List.flatMap_cons, List.length_append, List.length_cons]
        have : 1 ≤ (lineL x).length := by unfold lineL; simp; omega
        omega
    have := key F
    have h2 : (F.flatMap lineL).length ≤ (logL n F).length := by unfold logL; simp only [List.length_append]; omega
    omega
  have hR : parseR (logL n F) = (F, (0, 0), 0) := by
    unfold parseR
    rw [hh]
    have := plF_lines (n := n) F [] ((logL n F).length + 1) [] (2, 1) hok hbd hlen
    rw [List.append_nil] at this
    rw [this]
    obtain ⟨k, hk⟩ : ∃ k, (logL n F).length + 1 - F.length = k + 1 := ⟨(logL n F).length - F.length, by
      have key : F.length ≤ (logL n F).length := by
        have k2 : ∀ F : List Ev, F.length ≤ (F.flatMap lineL).length := by
          intro F
          induction F with
          | nil => simp
          | cons x F ih =>
            rw [List.flatMap_cons, List.length_append, List.length_cons]
            have : 1 ≤ (lineL x).length := by unfold lineL; simp; omega
            omega
        have := k2 F
        have h2 : (F.flatMap lineL).length ≤ (logL n F).length := by unfold logL; simp only [List.length_append]; omega
        omega
      omega⟩
    rw [hk]
    simp [plF, nextS]
  refine ⟨hR, ?_⟩
  unfold parseN
  rw [hR, hh]
  rfl
end Go.Proofs.YtppambkffgmkgaaGreatDoor
end

section
/- What is read well is a log's text: plainly. -/
namespace Go.Proofs.YtppambkffgmkgaaGreatDoor
set_option linter.unusedVariables false

/-- Digits without a nought ahead are the numeral of their value. -/
theorem valof_inv {most : Int} : ∀ (k : Nat) (l : List UInt8), l.length = k → l ≠ [] → (∀ c ∈ l, isD c = true) → ¬ (1 < l.length ∧ l.head? = some 48) → ∀ r, valof most l 0 = some r → 0 ≤ r ∧ l = decL r.toNat := by
  intro k
  induction k with
  | zero => intro l hl hne; exact absurd (List.length_eq_zero_iff.1 hl) hne
  | succ k ih =>
    intro l hl hne hd hz r hr
    obtain ⟨l', d, rfl⟩ : ∃ l' d, l = l' ++ [d] := by
      rcases List.eq_nil_or_concat l with c | ⟨l', d, c⟩
      · exact absurd c hne
      · exact ⟨l', d, by rw [c]; simp⟩
    rw [valof_snoc] at hr
    have hdd := dv_bd (hd d (by simp))
    have hdn : d = UInt8.ofNat (48 + (dv d).toNat) := by
      apply UInt8.toNat_inj.1
      rw [digit_ofNat (by omega)]
      unfold dv at hdd ⊢
      omega
    by_cases hl' : l' = []
    · subst hl'
      simp only [valof, Option.bind_some] at hr
      split at hr
      · cases hr
      · have : r = dv d := by have := Option.some.inj hr; omega
        subst this
        refine ⟨hdd.1, ?_⟩
        rw [decL_small (by omega), ← hdn]
        rfl
    · cases hv : valof most l' 0 with
      | none => rw [hv] at hr; cases hr
      | some x =>
        rw [hv] at hr
        simp only [Option.bind_some] at hr
        split at hr
        · cases hr
        · have hx : r = x * 10 + dv d := (Option.some.inj hr).symm
          have hlen : 1 ≤ l'.length := by cases l' with | nil => exact absurd rfl hl' | cons => simp
          have hz' : l'.head? ≠ some 48 := fun c => hz ⟨by simp; omega, by rw [head_app hl']; exact c⟩
          obtain ⟨h1, h2⟩ := ih l' (by simpa using hl) hl' (fun c hc => hd c (by simp [hc])) (fun c => hz' c.2) x hv
          have hx0 : x ≠ 0 := by
            intro c
            subst c
            rw [h2] at hz'
            exact hz' (by rw [show (Int.toNat 0) = 0 from rfl, decL_small (by decide)]; rfl)
          refine ⟨by omega, ?_⟩
          rw [decL_big (by omega), show r.toNat / 10 = x.toNat by omega, show r.toNat % 10 = (dv d).toNat by omega, ← h2, ← hdn]
theorem numS_inv {most : Int} (h0 : 0 ≤ most) {st : SS} (h : (numS most st).2.er = 0) : st.er = 0 ∧ st.l = decL (numS most st).1.toNat ++ (numS most st).2.l ∧ 0 ≤ (numS most st).1 := by
  have he := numS_ok h
  unfold numS numOut SS.go at h ⊢
  simp only [he, ne_eq, not_true_eq_false, if_false] at h ⊢
  by_cases hE : numErr st.l = 0
  · simp only [hE, not_true_eq_false, if_false] at h ⊢
    cases hv : valof most (st.l.takeWhile isD) 0 with
    | none => rw [hv] at h; simp at h
    | some v =>
      unfold numErr at hE
      split at hE
      · cases hE
      · rename_i hn
        split at hE
        · cases hE
        · rename_i hq
          have hq' : ¬ ((st.l.takeWhile isD).length = 0) ∧ ¬ (1 < (st.l.takeWhile isD).length ∧ st.l.head? = some 48) := ⟨fun c => hq (Or.inl c), fun c => hq (Or.inr c)⟩
          have hne : st.l.takeWhile isD ≠ [] := fun c => hq'.1 (by rw [c]; rfl)
          have hhd : (st.l.takeWhile isD).head? = st.l.head? := by
            have := head_app (r := st.l.dropWhile isD) hne
            rw [List.takeWhile_append_dropWhile] at this
            exact this.symm
          obtain ⟨k1, k2⟩ := valof_inv _ _ rfl hne (fun c hc => List.all_eq_true.1 (List.all_takeWhile) c hc) (by rw [hhd]; exact hq'.2) v hv
          refine ⟨trivial, ?_, k1⟩
          rw [← k2]
          have : st.l.takeWhile isD = st.l.take (st.l.takeWhile isD).length := takeWhile_eq_take _ _
          conv => lhs; rw [← List.take_append_drop (st.l.takeWhile isD).length st.l]
          rw [← this]
  · simp only [hE, not_false_eq_true, if_true] at h
theorem wordS_inv {u : List UInt8} {st : SS} (h : (wordS u st).2.er = 0) : st.er = 0 ∧ (wordS u st).1 = true ∧ st.l = u ++ (wordS u st).2.l := by
  obtain ⟨h1, r, h2, h3⟩ := wordS_ok h
  exact ⟨h1, by rw [h3], by rw [h3]; exact h2⟩
/-- What a line's reading has read. -/
theorem evS_inv {st : SS} (h : (evS st).2.er = 0) : st.er = 0 ∧ st.l = lineL (evS st).1 ++ (evS st).2.l := by
  unfold evS at h ⊢
  dsimp only at h ⊢
  obtain ⟨h8, _, l8⟩ := wordS_inv h
  obtain ⟨h7, l7, _⟩ := numS_inv (by decide) h8
  obtain ⟨h6, _, l6⟩ := wordS_inv h7
  obtain ⟨h5, l5, _⟩ := numS_inv (by decide) h6
  obtain ⟨h4, _, l4⟩ := wordS_inv h5
  by_cases hc : nextS (wordS [32] (numS 4611686018427387903 st).2).2 = some 43
  · simp only [if_pos hc] at h4 l4 l5 l6 l7 l8 ⊢
    obtain ⟨h3, hok, l3⟩ := wordS_inv h4
    obtain ⟨h2, _, l2⟩ := wordS_inv h3
    obtain ⟨h1, l1, _⟩ := numS_inv (by decide) h2
    refine ⟨h1, ?_⟩
    unfold lineL sgnL
    dsimp only
    rw [hok, if_pos rfl, l1, l2, l3, l4, l5, l6, l7, l8]
    simp
  · simp only [if_neg hc] at h4 l4 l5 l6 l7 l8 ⊢
    obtain ⟨h3, _, l3⟩ := wordS_inv h4
    obtain ⟨h2, _, l2⟩ := wordS_inv h3
    obtain ⟨h1, l1, _⟩ := numS_inv (by decide) h2
    refine ⟨h1, ?_⟩
    unfold lineL sgnL
    dsimp only
    rw [if_neg (by decide), l1, l2, l3, l4, l5, l6, l7, l8]
    simp
theorem plF_inv {n : Int} : ∀ (k : Nat) (G : List Ev) (st : SS) {F : List Ev} {p : Int × Int}, AllOk n none (fun _ => false) G → (∀ y ∈ G, EvB y) → st.l.length < k → plF n k G st = (F, p, 0) →
    (∃ F', F = G ++ F' ∧ st.l = F'.flatMap lineL) ∧ p = (0, 0) ∧ AllOk n none (fun _ => false) F ∧ (∀ y ∈ F, EvB y) ∧ st.er = 0
  | 0, G, st, F, p, _, _, hk, _ => by omega
  | k + 1, G, st, F, p, hok, hb, hk, h => by
    cases hn : (nextS st).isSome with
    | false =>
      have hR := plF_end h (by omega) hn
      by_cases he : st.er = 0
      · rw [if_pos he] at hR
        cases hR
        exact ⟨⟨[], by simp, by rw [(nextS_l he).1 hn]; rfl⟩, rfl, hok, hb, he⟩
      · rw [if_neg he] at hR
        have := (Prod.mk.inj (Prod.mk.inj hR).2).2
        exact absurd this.symm he
    | true =>
      obtain ⟨M1, M2, M3⟩ := plF_more h hn
      by_cases he : (evS st).2.er = 0
      · by_cases hv : evErr n (prevOf G G.length) (thereOf G) (evS st).1 = 0
        · obtain ⟨i1, i2⟩ := evS_inv he
          have hlt := evS_less he
          obtain ⟨⟨F', k1, k2⟩, k3, k4, k5, k6⟩ := plF_inv k (G ++ [(evS st).1]) (evS st).2 (allOk_snoc hok hv) (fun y hy => by
            rcases List.mem_append.1 hy with c | c
            · exact hb y c
            · rw [List.mem_singleton.1 c]; exact (evS_bd st).2) (by omega) (M3 he hv)
          refine ⟨⟨(evS st).1 :: F', by rw [k1]; simp, ?_⟩, k3, k4, k5, i1⟩
          rw [i2, k2, List.flatMap_cons]
        · have := M2 he hv
          have := (Prod.mk.inj (Prod.mk.inj this).2).2
          omega
      · have := M1 he
        have := (Prod.mk.inj (Prod.mk.inj this).2).2
        exact absurd this.symm he
/-- What is read well is a log's text. -/
theorem parse_inv {l : List UInt8} (hl : l.length ≤ 90000) (h : (parseR l).2.2 = 0) : l = logL (parseN l) (parseR l).1 ∧ (chk (parseN l) (parseR l).1).2 = 0 ∧ (∀ y ∈ (parseR l).1, EvB y) ∧ (parseR l).2.1 = (0, 0) ∧ (parseR l).1.length ≤ l.length ∧ 0 ≤ parseN l := by
  obtain ⟨F, p, e, hR⟩ : ∃ F p e, parseR l = (F, p, e) := ⟨_, _, _, rfl⟩
  have hN : parseN l = (hdS l).1 := by unfold parseN; rw [if_pos h]
  rw [hR] at h
  dsimp only at h
  subst h
  have hp := hR
  unfold parseR at hp
  have hlen := hdS_len l
  obtain ⟨⟨F', k1, k2⟩, k3, k4, k5, k6⟩ := plF_inv (l.length + 1) [] (hdS l).2 (n := (hdS l).1) trivial (by simp) (by omega) hp
  rw [List.nil_append] at k1
  subst k1
  have hbd := hdS_bd l
  have hlog : l = logL (hdS l).1 F := by
    have h0 := k6
    unfold hdS at h0 k2 ⊢
    dsimp only at h0 k2 ⊢
    obtain ⟨h4, _, l4⟩ := wordS_inv h0
    obtain ⟨h3, l3, _⟩ := numS_inv (by decide) h4
    obtain ⟨h2, _, l2⟩ := wordS_inv h3
    obtain ⟨h1, _, l1⟩ := wordS_inv h2
    dsimp only at l1
    unfold logL
    rw [← k2]
    conv => lhs; rw [l1, l2, l3, l4]
    simp
  have hFl : F.length ≤ l.length := by
    have key : ∀ F : List Ev, F.length ≤ (F.flatMap lineL).length := by
      intro F
      induction F with
      | nil => simp
      | cons x F ih =>
        rw [List.flatMap_cons, List.length_append, List.length_cons]
        have : 1 ≤ (lineL x).length := by unfold lineL; simp; omega
        omega
    have := key F
    rw [← k2] at this
    omega
  rw [hR, hN]
  refine ⟨hlog, ?_, k5, k3, hFl, hbd.1⟩
  show (chk (hdS l).1 F).2 = 0
  unfold chk
  rw [if_neg (by unfold maxN; omega), chkFrom_allOk k4]
end Go.Proofs.YtppambkffgmkgaaGreatDoor
end

section
/- Plain: what a log is read as where a line behind lines that may be may not be; LogTies' two lines. -/
namespace Go.Proofs.YtppambkffgmkgaaGreatDoor
set_option linter.unusedVariables false

/-- Lines that may be, and something behind them. -/
theorem parse_behind {n : Int} {F : List Ev} (hn0 : 0 ≤ n) (hz : (chk n F).2 = 0) (hb : ∀ x ∈ F, EvB x) (r : List UInt8) :
    ∃ k, r.length < k ∧ parseR (logL n F ++ r) = plF n k F ⟨r, ((F.length : Int) + 2, 1), 0⟩ ∧ (hdS (logL n F ++ r)).1 = n := by
  obtain ⟨hnN, hok⟩ := chk_ok_bd hz
  have hbd : ∀ x ∈ F, (0 ≤ x.t ∧ x.t ≤ 4611686018427387903) ∧ EvB x := fun x hx => ⟨allOk_tt hok x hx, hb x hx⟩
  have hh : hdS (logL n F ++ r) = (n, ⟨F.flatMap lineL ++ r, (2, 1), 0⟩) := by
    have h := hdS_log ⟨hn0, hnN⟩ (F.flatMap lineL ++ r)
    unfold logL
    simpa only [List.append_assoc] using h
  have key : ∀ F : List Ev, F.length ≤ (F.flatMap lineL).length := by
    intro F
    induction F with
    | nil => simp
    | cons x F ih =>
      rw [List.flatMap_cons, List.length_append, List.length_cons]
      have : 1 ≤ (lineL x).length := by unfold lineL; simp; omega
      omega
  have h1 := key F
  have h2 : (F.flatMap lineL).length ≤ (logL n F).length := by unfold logL; simp only [List.length_append]; omega
  refine ⟨(logL n F ++ r).length + 1 - F.length, by rw [List.length_append]; omega, ?_, by rw [hh]⟩
  unfold parseR
  rw [hh]
  dsimp only
  rw [plF_lines F [] _ r (2, 1) hok hbd (by rw [List.length_append]; omega)]
  rw [List.nil_append]
  congr 2
  by_cases hF : F = []
  · subst hF; rfl
  · rw [if_neg hF]
    refine Prod.ext ?_ rfl
    show (2 : Int) + F.length = F.length + 2
    omega
theorem next_line (x : Ev) (r : List UInt8) (p : Int × Int) : (nextS ⟨lineL x ++ r, p, 0⟩).isSome = true := by
  unfold nextS lineL
  have hne : decL x.t.toNat ≠ [] := fun e => by have := (decL_len x.t.toNat).1; rw [e] at this; simp at this
  cases hd : decL x.t.toNat with
  | nil => exact absurd hd hne
  | cons c l => simp
/-- A line that is well written, of an event that may not be. -/
theorem parse_badline {n : Int} {F : List Ev} (hn0 : 0 ≤ n) (hz : (chk n F).2 = 0) (hb : ∀ x ∈ F, EvB x) (x : Ev) (ht : 0 ≤ x.t ∧ x.t ≤ 4611686018427387903) (hbx : EvB x) (r : List UInt8)
    (hv : evErr n (prevOf F F.length) (thereOf F) x ≠ 0) : parseR (logL n F ++ (lineL x ++ r)) = ([], ((F.length : Int) + 2, 1), ((evErr n (prevOf F F.length) (thereOf F) x : Nat) : Int)) := by
  obtain ⟨k, hk, h1, h2⟩ := parse_behind hn0 hz hb (lineL x ++ r)
  rw [h1]
  obtain ⟨k, rfl⟩ : ∃ j, k = j + 1 := ⟨k - 1, by omega⟩
  have he := evS_line x ht hbx r ((F.length : Int) + 2, 1)
  exact (plF_more (n := n) (k := k) (F := F) rfl (next_line x r _)).2.1 (by rw [he]) (by rw [he]; exact hv) |>.trans (by rw [he])

/-- Two events of one time. -/
theorem ties_plain (t : Int) (x y : Ed) (ht : 0 ≤ t ∧ t ≤ 255) (hx : (0 ≤ x.u ∧ x.u < x.v) ∧ x.v < 9) (hy : (0 ≤ y.u ∧ y.u < y.v) ∧ y.v < 9) :
    parseR (logL 9 [⟨t, x, true⟩, ⟨t, y, true⟩]) = if edLt x y then ([⟨t, x, true⟩, ⟨t, y, true⟩], (0, 0), 0) else ([], (3, 1), 23) := by
  have bx : EvB ⟨t, x, true⟩ := ⟨⟨by show 0 ≤ x.u; omega, by show x.u ≤ 4294967295; omega⟩, ⟨by show 0 ≤ x.v; omega, by show x.v ≤ 4294967295; omega⟩⟩
  have byy : EvB ⟨t, y, true⟩ := ⟨⟨by show 0 ≤ y.u; omega, by show y.u ≤ 4294967295; omega⟩, ⟨by show 0 ≤ y.v; omega, by show y.v ≤ 4294967295; omega⟩⟩
  have rx : right x 9 := by unfold right; omega
  have ry : right y 9 := by unfold right; omega
  have tt : ¬ (t < 0 ∨ maxT < t) := by unfold maxT; omega
  have e1 : evErr 9 none (fun _ => false) ⟨t, x, true⟩ = 0 := by
    unfold evErr
    rw [if_neg tt, if_neg (fun c => c rx)]
    simp
  have c1 : (chk 9 [⟨t, x, true⟩]).2 = 0 := by
    unfold chk
    rw [if_neg (by unfold maxN; simp)]
    simp only [chkFrom]
    rw [if_pos e1]
  by_cases hl : edLt x y
  · rw [if_pos hl]
    have hbb : ∀ z ∈ [(⟨t, x, true⟩ : Ev), ⟨t, y, true⟩], EvB z := by
      intro z hz
      simp at hz
      rcases hz with hz | hz
      · rw [hz]; exact bx
      · rw [hz]; exact byy
    refine (parse_log (n := 9) (by decide) ?_ hbb).1
    have hne : y ≠ x := by rintro rfl; unfold edLt at hl; omega
    unfold chk
    rw [if_neg (by unfold maxN; simp)]
    simp only [chkFrom]
    rw [if_pos e1, if_pos]
    unfold evErr
    rw [if_neg tt, if_neg (fun c => c ry)]
    simp [before, hl, turn, hne]
  · rw [if_neg hl]
    have hv : evErr 9 (some ⟨t, x, true⟩) (turn (fun _ => false) ⟨t, x, true⟩) ⟨t, y, true⟩ = 23 := by
      unfold evErr
      rw [if_neg tt, if_neg (fun c => c ry)]
      simp [before, hl]
    have h := parse_badline (n := 9) (F := [⟨t, x, true⟩]) (by decide) c1 (by intro z hz; rw [List.mem_singleton.1 hz]; exact bx) ⟨t, y, true⟩ (by show 0 ≤ t ∧ t ≤ 4611686018427387903; omega) byy []
      (by show evErr 9 (some ⟨t, x, true⟩) (turn (fun _ => false) ⟨t, x, true⟩) ⟨t, y, true⟩ ≠ 0; rw [hv]; decide)
    have hE : evErr 9 (prevOf [(⟨t, x, true⟩ : Ev)] [(⟨t, x, true⟩ : Ev)].length) (thereOf [(⟨t, x, true⟩ : Ev)]) ⟨t, y, true⟩ = 23 := hv
    rw [hE] at h
    have hlog : logL 9 [⟨t, x, true⟩, ⟨t, y, true⟩] = logL 9 [⟨t, x, true⟩] ++ (lineL ⟨t, y, true⟩ ++ []) := by
      simp [logL]
    rw [hlog, h]
    rfl
end Go.Proofs.YtppambkffgmkgaaGreatDoor
end
