/- The reference's arena: the contract of Join. -/
import Derived.Test.YtlmbkmjjiebpbaaTrR6
namespace Go.Proofs.Ytlmbkmjjiebpbaa
open Go.RowKit
set_option linter.unusedVariables false

theorem rjoin_not (w : World) (T : Nat → Prop) (h n : Nat) (L : List (List Nat)) (x y : Int) (hR : RA h n L w T) (hj : (jn L x y).1 = false) :
    Calls Try.prog 12 #[.pointer (some ⟨h, 0, none⟩), .int .i64 x, .int .i64 y] w fun e w' => e = .returned (.bool false) ∧ w = w' := by
  have HR := Lib.hid hR
  clear hR
  cases hf : fnd L x with
  | some p =>
    obtain ⟨i, k⟩ := p
    cases hg : fnd L y with
    | some q =>
      obtain ⟨j, m⟩ := q
      have hij : i = j := by
        unfold jn at hj; rw [hf, hg] at hj
        by_cases e : i = j
        · exact e
        · simp [e] at hj
      subst hij
      have hb : ((i : Int) == (i : Int)) = true := by simp
      have h0 : ¬ ((i : Int) < 0) := by omega
      clear hj
      go_enter Try.func12, Try.ntmps12
      go_wp2_with fail
      refine (find_some HR.out hf).mono ?_
      rintro e w1 ⟨rfl, rfl⟩
      go_wp2_with fail
      refine (find_some HR.out hg).mono ?_
      rintro e w1 ⟨rfl, rfl⟩
      go_wp2_with fail
      go_ret
      exact ⟨rfl, rfl⟩
    | none =>
      have h0 : ¬ ((i : Int) < 0) := by omega
      clear hj
      go_enter Try.func12, Try.ntmps12
      go_wp2_with fail
      refine (find_some HR.out hf).mono ?_
      rintro e w1 ⟨rfl, rfl⟩
      go_wp2_with fail
      refine (find_none HR.out hg).mono ?_
      rintro e w1 ⟨rfl, rfl⟩
      go_wp2_with fail
      go_ret
      exact ⟨rfl, rfl⟩
  | none =>
    clear hj
    cases hg : fnd L y with
    | some q =>
      obtain ⟨j, m⟩ := q
      go_enter Try.func12, Try.ntmps12
      go_wp2_with fail
      refine (find_none HR.out hf).mono ?_
      rintro e w1 ⟨rfl, rfl⟩
      go_wp2_with fail
      refine (find_some HR.out hg).mono ?_
      rintro e w1 ⟨rfl, rfl⟩
      go_wp2_with fail
      go_ret
      exact ⟨rfl, rfl⟩
    | none =>
      go_enter Try.func12, Try.ntmps12
      go_wp2_with fail
      refine (find_none HR.out hf).mono ?_
      rintro e w1 ⟨rfl, rfl⟩
      go_wp2_with fail
      refine (find_none HR.out hg).mono ?_
      rintro e w1 ⟨rfl, rfl⟩
      go_wp2_with fail
      go_ret
      exact ⟨rfl, rfl⟩

theorem nums_one2 (l : List Nat) : ∀ u ∈ nums l, u.oneCell' = true := fun u hu => by
  obtain ⟨x, _, rfl⟩ := List.mem_map.1 hu
  rfl
theorem nums_len (l : List Nat) : (nums l).length = l.length := by simp [nums]
theorem nums_at {w : World} {b : Nat} {l : List Nat} (hc : ∀ j, j < l.length → w.cell? ⟨b, j, none⟩ = some (.int .i64 ((l.getD j 0 : Nat) : Int))) : ∀ j u, (nums l)[j]? = some u → w.cell? ((⟨b, 0, none⟩ : Addr).add j) = some u := fun j u hu => by
  have hj : j < l.length := by
    rcases Nat.lt_or_ge j l.length with e | e
    · exact e
    · rw [List.getElem?_eq_none (by rw [nums_len]; exact e)] at hu; cases hu
  rw [add_at2, Nat.zero_add]
  refine (hc j hj).trans ?_
  rw [← hu]; simp [nums, hj]

theorem nil_at (w : World) (a : Addr) : ∀ j u, ([] : List Value)[j]? = some u → w.cell? (a.add j) = some u := fun j u hu => by simp at hu
theorem nil_one : ∀ u ∈ ([] : List Value), u.oneCell' = true := fun u hu => by simp at hu

set_option maxHeartbeats 16000000 in
theorem rjoin_half (w : World) (T : Nat → Prop) (h n : Nat) (L : List (List Nat)) (x y : Int) (i i2 k k2 : Nat) (hR : RA h n L w T) (hf : fnd L x = some (i, i2)) (hg : fnd L y = some (k, k2)) (hik : i ≠ k) (hL : L.length < 1048576)
    (hsum : (L.getD i []).length + (L.getD k []).length ≤ 1048576) :
    Calls Try.prog 12 #[.pointer (some ⟨h, 0, none⟩), .int .i64 x, .int .i64 y] w fun e w' => e = .returned (.bool true) ∧ RA h n ((L.set i (L.getD i [] ++ L.getD k [])).eraseIdx k) w' (Fresh T w w') ∧ Mod w w' T := by
  obtain ⟨li, _, hli, _, _⟩ := fnd_some hf
  obtain ⟨lk, _, hlk, _, _⟩ := fnd_some hg
  have hgi : L.getD i [] = li := by rw [List.getD_eq_getElem?_getD, hli]; rfl
  have hgk : L.getD k [] = lk := by rw [List.getD_eq_getElem?_getD, hlk]; rfl
  rw [hgi, hgk] at hsum ⊢
  have hil : i < L.length := (List.getElem?_eq_some_iff.1 hli).1
  have hkl : k < L.length := (List.getElem?_eq_some_iff.1 hlk).1
  obtain ⟨a, cap, us, o⟩ := hR.open
  obtain ⟨ob, cap', e, hcs, hfs, e1, e2⟩ := row_open o.row (by omega)
  simp only [Value.slice.injEq, true_and] at e
  obtain ⟨rfl, rfl⟩ := e
  obtain ⟨u1, hu1, n1, b1, cap1, rfl, _, _, bo1, p1, p2, hc1⟩ := o.inn i li hli
  obtain ⟨u2, hu2, n2, b2, cap2, rfl, _, _, bo2, q1, q2, hc2⟩ := o.inn k lk hlk
  have ci := hcs i _ hu1
  have ck := hcs k _ hu2
  have fi := hfs i
  have c1 := o.c1
  have f1 := o.f1
  have hh := o.hl
  have hob : ob < w.heap.size := World.block_lt_of_cell? _ _ ci
  have hpos1 : 0 < li.length := List.length_pos_iff.2 n1
  have hpos2 : 0 < lk.length := List.length_pos_iff.2 n2
  unfold maxLen at e2 p2 q2
  have hlb := o.lb
  have hii : (i : Int) < L.length := by omega
  have hki : (k : Int) < L.length := by omega
  have hi0 : ¬ ((i : Int) < 0) := by omega
  have hk0 : ¬ ((k : Int) < 0) := by omega
  have hbi : ((i : Int) == (k : Int)) = false := by simp; omega
  have hB1 : 0 + li.length ≤ maxLen := by unfold maxLen; omega
  have hB2 : (0 + li.length) * 8 ≤ 140737488355328 := by omega
  have hB3 : li.length + lk.length ≤ maxLen := by unfold maxLen; omega
  have hB4 : (li.length + lk.length) * 8 ≤ 140737488355328 := by omega
  have HB := Lib.hid (And.intro hB1 (And.intro hB2 (And.intro hB3 (And.intro hB4 (And.intro (show 0 < 0 + li.length by omega) (show 0 < li.length + lk.length by omega))))))
  have HRA := Lib.hid hR
  have HO := Lib.hid o
  have HC := Lib.hid (And.intro hc1 hc2)
  have HF := Lib.hid (And.intro hf hg)
  have HX := Lib.hid (And.intro hu1 hu2)
  obtain ⟨i0, hi, hz0, hz1, hz2⟩ := info_parts info_int
  obtain ⟨j0, hj, hy0, hy1, hy2⟩ := info_parts info_ints
  clear o hc1 hc2 hf hg hcs hfs hu1 hu2 hli hlk hR hgi hgk hB1 hB2 hB3 hB4
  go_enter Try.func12, Try.ntmps12
  go_wp2_with fail
  refine (find_some HRA.out HF.out.1).mono ?_
  rintro e w1 ⟨rfl, rfl⟩
  go_wp2_with fail
  refine (find_some HRA.out HF.out.2).mono ?_
  rintro e w1 ⟨rfl, rfl⟩
  go_upto_region 5 with (fail)
  go_cut [7] (fun v wc => v = .int .i64 i ∧ ∃ V, Hid (Half2 w wc T h n ob cap (L.set i (li ++ lk)) (us.set i V)))
  case first =>
    go_wp2_with fail
    go_region_law (first
      | (refine step_append_own0 _ rfl _ _ 37 rfl 3 i0 (.int .i64 0) 8 Try.underlying37 hi hz0 hz1 hz2 rfl (.slice none 0 0) 0 [] rfl (World.ownsRow_nil _ _ _ _) ⟨b1, 0, none⟩ li.length cap1 (nums li) rfl (nums_len li) (nums_at HC.out.1) (nums_one2 li) HB.out.2.2.2.2.1 HB.out.1 HB.out.2.1 ?_
         intro g6 cap6 w6 hown6 hgrow6 hat6 hlt6
         have hr6 : w6.ownsRow 0 3 1 (.slice (some ⟨g6, 0, none⟩) li.length cap6) li.length (nums li) := by simpa using hown6
         have ha6 : g6 = w.heap.size := by simpa [Value.ownBlock] using hat6
         have hm6 : Mod w w6 NoB := ⟨hgrow6.os, hgrow6.tape, hgrow6.output, hgrow6.size, fun q hq _ => hgrow6.block q hq (by simp [Value.ownBlock])⟩
         have d0 := (hm6.cell (p := ⟨h, 1, none⟩) hh (by simp [NoB])).trans c1
         have d1 := (hm6.cell (p := ⟨ob, k, none⟩) hob (by simp [NoB])).trans ck
         have d2 := (hm6.cell (p := ⟨ob, i, none⟩) hob (by simp [NoB])).trans ci
         have H9 := Lib.hid (And.intro hr6 (And.intro ha6 (And.intro hm6 hlt6)))
         clear hown6 hgrow6 hat6 hlt6 hr6 ha6 hm6)
      | (refine step_append_own0 _ rfl _ _ 37 rfl 3 i0 (.int .i64 0) 8 Try.underlying37 hi hz0 hz1 hz2 rfl (.slice (some ⟨g6, 0, none⟩) li.length cap6) li.length _ rfl H9.out.1 ⟨b2, 0, none⟩ lk.length cap2 (nums lk) rfl (nums_len lk) (nums_at (fun j hj => (H9.out.2.2.1.cell (World.block_lt_of_cell? _ _ (HC.out.2 j hj)) (by simp [NoB])).trans (HC.out.2 j hj))) (nums_one2 lk) HB.out.2.2.2.2.2 HB.out.2.2.1 HB.out.2.2.2.1 ?_
         intro g7 cap7 w7 hown7 hgrow7 hat7 hlt7
         have hs6 := H9.out.2.2.1.size
         have hm7 : Mod w w7 NoB := H9.out.2.2.1.grown hgrow7 (fun q hq hlt => by simp [Value.ownBlock] at hq; have := H9.out.2.1; omega)
         have ha7 : w.heap.size ≤ g7 := by
           rcases hat7 with e | e
           · have e' : g6 = g7 := by simpa [Value.ownBlock] using e
             have := H9.out.2.1; omega
           · omega
         have d3 := (hm7.cell (p := ⟨ob, i, none⟩) hob (by simp [NoB])).trans ci
         have d4 := (hm7.frozen (p := ⟨ob, i, none⟩) hob (by simp [NoB])).trans fi
         have d5 := (hm7.cell (p := ⟨h, 1, none⟩) hh (by simp [NoB])).trans c1
         have H10 := Lib.hid (half2_first HO.out hil hm7 (l' := li ++ lk) (m := li.length + lk.length) (by simp) (by omega) hsum (by simpa [nums] using hown7) ha7 hlt7)
         clear hown7 hgrow7 hat7 hlt7 hm7 ha7 hs6))
    all_goals
      go_wp2_with fail
      go_meet
      case rel => exact ⟨rfl, _, H10.out⟩
  case rest =>
    obtain ⟨rfl, V, HH⟩ := hcut
    clear c1 f1 hh hob ci ck fi p1 p2 q1 q2
    have e5 : (L.set i (li ++ lk)).length = L.length := by simp
    have c1 := HH.out.ro.c1
    have f1 := HH.out.ro.f1
    have hh := HH.out.ro.hl
    have hob := HH.out.ro.vl ob rfl
    have hrow := HH.out.ro.row
    rw [e5] at c1 hrow
    have hul : (us.set i V).length = L.length := by have := hrow.1; omega
    obtain ⟨us1, hus1⟩ : ∃ us1, us1 = us.set i V := ⟨_, rfl⟩
    rw [← hus1] at hrow hul
    have HU := Lib.hid hus1
    have hck : ∀ j u, us1[j]? = some u → wc.cell? ⟨ob, j, none⟩ = some u := fun j u hu => by
      have hj : j < L.length := by
        rcases Nat.lt_or_ge j L.length with e | e
        · exact e
        · rw [List.getElem?_eq_none (by omega)] at hu; cases hu
      rw [World.ownsRow.cellAt hrow j (by omega)]; exact hu
    have k1 : ∀ j u, (us1.take k)[j]? = some u → wc.drew.cell? ((⟨ob, 0, none⟩ : Addr).add j) = some u := fun j u hu => by
      rw [add_at2, Nat.zero_add]
      refine hck j u ?_
      rw [List.getElem?_take] at hu
      split at hu
      · exact hu
      · cases hu
    have o1 : ∀ u ∈ us1, u.oneCell' = true := fun u hu => by
      obtain ⟨j, hj⟩ := List.mem_iff_getElem?.1 hu
      obtain ⟨l2, hl2⟩ : ∃ l2, (L.set i (li ++ lk))[j]? = some l2 := by
        have := (List.getElem?_eq_some_iff.1 hj).1
        exact ⟨_, List.getElem?_eq_getElem (by omega)⟩
      obtain ⟨u', hu', _, b', cap', rfl, _⟩ := HH.out.ro.inn j l2 hl2
      rw [← hus1, hj] at hu'
      cases hu'
      rfl
    have hcap : L.length ≤ cap := e1
    have hB1 : 0 + k ≤ maxLen := by unfold maxLen; omega
    have hB2 : (0 + k) * 24 ≤ 140737488355328 := by omega
    have hB3 : k + (L.length - (k + 1)) ≤ maxLen := by unfold maxLen; omega
    have hB4 : (k + (L.length - (k + 1))) * 24 ≤ 140737488355328 := by omega
    have hB5 : 0 < k + (L.length - (k + 1)) := by omega
    have hl1 : (us1.take k).length = k := by simp; omega
    have hl2 : (us1.drop (k + 1)).length = L.length - (k + 1) := by simp [hul]
    have k2 : ∀ (a0 : Addr), (a0 = ⟨ob, k + 1, none⟩ ∨ L.length = k + 1) → ∀ j u, (us1.drop (k + 1))[j]? = some u → wc.cell? (a0.add j) = some u := fun a0 ha j u hu => by
      rcases ha with rfl | e
      · rw [add_at2]
        refine hck _ u ?_
        rw [List.getElem?_drop] at hu; exact hu
      · rw [List.getElem?_eq_none (by rw [hl2]; omega)] at hu; cases hu
    have HB2 := Lib.hid (And.intro hB1 (And.intro hB2 (And.intro hB3 (And.intro hB4 hB5))))
    have HK := Lib.hid (And.intro k1 (And.intro hl1 (And.intro hl2 (And.intro o1 k2))))
    have hrange : k + 1 ≤ L.length := by omega
    have hri : (k : Int) + 1 ≤ L.length := by omega
    have hkc : k ≤ cap := by omega
    have hkk1 : (k : Int) ≤ (k : Int) + 1 := by omega
    have hk01 : (0 : Int) ≤ (k : Int) + 1 := by omega
    have hwr : IntKind.i64.wrap ((k : Int) + 1) = (k : Int) + 1 := IntWalk.i64_in _ (by omega)
    have htn : ((k : Int) + 1).toNat = k + 1 := by omega
    clear k1 hl1 hl2 o1 k2 hck hrow hus1 hB1 hB2 hB3 hB4 hB5 hul
    have hmS : k + (L.length - (k + 1)) = (L.set i (li ++ lk)).length - 1 := by rw [e5]; omega
    have HN := Lib.hid (And.intro (show k < (L.set i (li ++ lk)).length by rw [e5]; exact hkl) hmS)
    clear hmS
    by_cases hce : cap = k + 1
    · subst hce
      have hk00 : 0 < k + 0 := by omega
      have hk01' : k + 0 ≤ maxLen := by unfold maxLen; omega
      have hk02 : (k + 0) * 24 ≤ 140737488355328 := by omega
      have hmm0 : k + 0 = (L.set i (li ++ lk)).length - 1 := by rw [e5]; omega
      have hdr : (us.set i V).drop (k + 1) = [] := by rw [← HU.out]; apply List.length_eq_zero_iff.1; rw [HK.out.2.2.1]; omega
      have HD := Lib.hid (And.intro hmm0 hdr)
      clear hmm0 hdr
      go_wp2_with fail
      go_region_law (first
        | (refine step_append_any _ rfl _ _ 28 rfl 37 j0 (.slice none 0 0) 24 Try.underlying28 hj hy0 hy1 hy2 rfl (.slice none 0 0) 0 [] rfl (World.ownsRow_nil _ _ _ _) ⟨ob, 0, none⟩ k (k + 1) (us1.take k) rfl HK.out.2.1 HK.out.1 (fun u hu => HK.out.2.2.2.1 u (List.mem_of_mem_take hu)) HB2.out.1 HB2.out.2.1 ?_
           intro v6 w6 hown6 hgrow6 hat6
           have hr6 : w6.ownsRow 0 37 1 v6 k (us1.take k) := by simpa using hown6
           have hm6 : Mod wc w6 NoB := ⟨hgrow6.os, hgrow6.tape, hgrow6.output, hgrow6.size, fun q hq _ => hgrow6.block q hq (by simp [Value.ownBlock])⟩
           have d0 := (hm6.cell (p := ⟨h, 1, none⟩) hh (by simp [NoB])).trans c1
           have ha6 : ∀ q, v6.ownBlock = some q → wc.heap.size ≤ q := fun q hq => by
             rcases hat6 with e | e
             · rw [hq] at e; simp [Value.ownBlock] at e
             · rw [hq] at e; have e' : q = wc.heap.size := by simpa using e
               omega
           have H9 := Lib.hid (And.intro hr6 (And.intro hm6 ha6))
           clear hown6 hgrow6 hat6 hr6 hm6 ha6)
        | (refine step_append_own0 _ rfl _ _ 28 rfl 37 j0 (.slice none 0 0) 24 Try.underlying28 hj hy0 hy1 hy2 rfl v6 k _ rfl H9.out.1 ⟨ob, 0, none⟩ 0 0 [] rfl rfl (nil_at _ _) nil_one hk00 hk01' hk02 ?_
           intro g7 cap7 w7 hown7 hgrow7 hat7 hlt7
           have hs6 := H9.out.2.1.size
           have hm7 : Mod wc w7 NoB := H9.out.2.1.grown hgrow7 (fun q hq hlt => by have := H9.out.2.2 q hq; omega)
           have ha7 : wc.heap.size ≤ g7 := by
             rcases hat7 with e | e
             · exact H9.out.2.2 _ e
             · omega
           have d3 := (hm7.cell (p := ⟨h, 1, none⟩) hh (by simp [NoB])).trans c1
           have d4 := (hm7.frozen (p := ⟨h, 1, none⟩) hh (by simp [NoB])).trans f1
           have hown7' : w7.ownsRow 0 37 1 (.slice (some ⟨g7, 0, none⟩) (k + 0) cap7) (k + 0) ((us.set i V).take k ++ (us.set i V).drop (k + 1)) := by
             rw [HD.out.2, ← HU.out]; exact hown7
           have H10 := Lib.hid (half2_end (k := k) HH.out HN.out.1 hm7 HD.out.1 hown7' ha7 hlt7)
           clear hown7 hgrow7 hat7 hlt7 hm7 ha7 hs6 hown7'))
      all_goals
        go_wp2_with fail
        go_ret
        exact ⟨rfl, H10.out⟩
    · go_wp2_with fail
      go_region_law (first
        | (refine step_append_any _ rfl _ _ 28 rfl 37 j0 (.slice none 0 0) 24 Try.underlying28 hj hy0 hy1 hy2 rfl (.slice none 0 0) 0 [] rfl (World.ownsRow_nil _ _ _ _) ⟨ob, 0, none⟩ k cap (us1.take k) rfl HK.out.2.1 HK.out.1 (fun u hu => HK.out.2.2.2.1 u (List.mem_of_mem_take hu)) HB2.out.1 HB2.out.2.1 ?_
           intro v6 w6 hown6 hgrow6 hat6
           have hr6 : w6.ownsRow 0 37 1 v6 k (us1.take k) := by simpa using hown6
           have hm6 : Mod wc w6 NoB := ⟨hgrow6.os, hgrow6.tape, hgrow6.output, hgrow6.size, fun q hq _ => hgrow6.block q hq (by simp [Value.ownBlock])⟩
           have d0 := (hm6.cell (p := ⟨h, 1, none⟩) hh (by simp [NoB])).trans c1
           have ha6 : ∀ q, v6.ownBlock = some q → wc.heap.size ≤ q := fun q hq => by
             rcases hat6 with e | e
             · rw [hq] at e; simp [Value.ownBlock] at e
             · rw [hq] at e; have e' : q = wc.heap.size := by simpa using e
               omega
           have H9 := Lib.hid (And.intro hr6 (And.intro hm6 ha6))
           clear hown6 hgrow6 hat6 hr6 hm6 ha6)
        | (refine step_append_own0 _ rfl _ _ 28 rfl 37 j0 (.slice none 0 0) 24 Try.underlying28 hj hy0 hy1 hy2 rfl v6 k _ rfl H9.out.1 ⟨ob, k + 1, none⟩ (L.length - (k + 1)) _ (us1.drop (k + 1)) rfl HK.out.2.2.1 (fun j u hu => by
             have hk2 := HK.out.2.2.2.2 ⟨ob, k + 1, none⟩ (Or.inl rfl) j u hu
             exact (H9.out.2.1.cell (World.block_lt_of_cell? _ _ hk2) (by simp [NoB])).trans hk2) (fun u hu => HK.out.2.2.2.1 u (List.mem_of_mem_drop hu)) HB2.out.2.2.2.2 HB2.out.2.2.1 HB2.out.2.2.2.1 ?_
           intro g7 cap7 w7 hown7 hgrow7 hat7 hlt7
           have hs6 := H9.out.2.1.size
           have hm7 : Mod wc w7 NoB := H9.out.2.1.grown hgrow7 (fun q hq hlt => by have := H9.out.2.2 q hq; omega)
           have ha7 : wc.heap.size ≤ g7 := by
             rcases hat7 with e | e
             · exact H9.out.2.2 _ e
             · omega
           have d3 := (hm7.cell (p := ⟨h, 1, none⟩) hh (by simp [NoB])).trans c1
           have d4 := (hm7.frozen (p := ⟨h, 1, none⟩) hh (by simp [NoB])).trans f1
           have hown7' := hown7
           rw [HU.out] at hown7'
           have H10 := Lib.hid (half2_end (k := k) HH.out HN.out.1 hm7 HN.out.2 hown7' ha7 hlt7)
           clear hown7 hgrow7 hat7 hlt7 hm7 ha7 hs6 hown7'))
      all_goals
        go_wp2_with fail
        go_ret
        exact ⟨rfl, H10.out⟩
end Go.Proofs.Ytlmbkmjjiebpbaa
