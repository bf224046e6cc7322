/- The contracts of Join and Cut. -/
import Derived.Test.YtlmbkmjjiebpbaaTrE2
namespace Go.Proofs.Ytlmbkmjjiebpbaa
open Go.RowKit
set_option linter.unusedVariables false

theorem join_not (w : World) (g : Nat) (S : Nat → Prop) (n : Nat) (L : List (List Nat)) (x y : Int) (hA : Ar w g S n L) (hj : (jn L x y).1 = false) :
    Calls Try.prog 11 #[.pointer (some ⟨g, 0, none⟩), .int .i64 x, .int .i64 y] w fun e w' => e = .returned (.bool false) ∧ w = w' := by
  obtain ⟨a, cap, c0⟩ := hA.head
  by_cases hx : 0 ≤ x ∧ x < n
  · by_cases hy : 0 ≤ y ∧ y < n
    · obtain ⟨b, cap, f, ts, hO⟩ := hA.open (by omega)
      obtain ⟨x', i, t, rfl, ht, hxt, hfx, hxn⟩ := hO.forest.one hx.1 hx.2
      obtain ⟨y', j, u, rfl, hu, hyu, hfy, hyn⟩ := hO.forest.one hy.1 hy.2
      have hij : i = j := by
        rw [hO.seq] at hj; unfold jn at hj; rw [hfx, hfy] at hj
        by_cases e : i = j
        · exact e
        · simp [e] at hj
      subst hij
      obtain rfl : t = u := by rw [ht] at hu; exact Option.some.inj hu
      have hI := Lib.hid hO.inn
      have HT := Lib.hid (And.intro (hO.forest.whole i t ht) hxt)
      have HU := Lib.hid hyu
      clear hxt hyu hfx hfy ht hu hO hj
      have hb : (t.root == t.root) = true := by simp
      go_enter Try.func11, Try.ntmps11
      go_wp2_with fail
      refine (has_in c0 hx.1 hx.2).mono ?_
      rintro e w1 ⟨rfl, rfl⟩
      go_wp2_with fail
      refine (has_in c0 hy.1 hy.2).mono ?_
      rintro e w1 ⟨rfl, rfl⟩
      go_wp2_with fail
      refine (root_any _ _ _ _ _ _ _ _ hI.out HT.out.1 HT.out.2).mono ?_
      rintro e w1 ⟨rfl, rfl⟩
      go_wp2_with fail
      refine (root_any _ _ _ _ _ _ _ _ hI.out HT.out.1 HU.out).mono ?_
      rintro e w1 ⟨rfl, rfl⟩
      go_wp2_with fail
      go_ret
      exact ⟨rfl, rfl⟩
    · clear hj hA
      go_enter Try.func11, Try.ntmps11
      go_wp2_with fail
      refine (has_in c0 hx.1 hx.2).mono ?_
      rintro e w1 ⟨rfl, rfl⟩
      go_wp2_with fail
      refine (has_out c0 hy).mono ?_
      rintro e w1 ⟨rfl, rfl⟩
      go_wp2_with fail
      go_ret
      exact ⟨rfl, rfl⟩
  · clear hj hA
    go_enter Try.func11, Try.ntmps11
    go_wp2_with fail
    refine (has_out c0 hx).mono ?_
    rintro e w1 ⟨rfl, rfl⟩
    go_wp2_with fail
    go_ret
    exact ⟨rfl, rfl⟩

/-- What a change of the arena leaves. -/
structure ArPost (w w' : World) (g : Nat) (S : Nat → Prop) (n : Nat) (L : List (List Nat)) : Prop where
  ar : Ar w' g (Fresh S w w') n L
  mod : Mod w w' S

set_option maxHeartbeats 2000000 in
theorem join_yes (w : World) (g : Nat) (S : Nat → Prop) (n : Nat) (L : List (List Nat)) (x y : Int) (hA : Ar w g S n L) (hj : (jn L x y).1 = true) :
    Calls Try.prog 11 #[.pointer (some ⟨g, 0, none⟩), .int .i64 x, .int .i64 y] w fun e w' => e = .returned (.bool true) ∧ ArPost w w' g S n (jn L x y).2 := by
  obtain ⟨a, cap0, c0⟩ := hA.head
  have hx : 0 ≤ x ∧ x < n := by
    by_cases hx : 0 ≤ x ∧ x < n
    · exact hx
    · unfold jn at hj; rw [hA.out hx] at hj; simp at hj
  have hy : 0 ≤ y ∧ y < n := by
    by_cases hy : 0 ≤ y ∧ y < n
    · exact hy
    · unfold jn at hj; rw [hA.out hy] at hj; cases h : fnd L x <;> rw [h] at hj <;> simp at hj
  obtain ⟨b, cap, f, ts, hO⟩ := hA.open (by omega)
  obtain ⟨x', i, t, rfl, ht, hxt, hfx, hxn⟩ := hO.forest.one hx.1 hx.2
  obtain ⟨y', j, u, rfl, hu, hyu, hfy, hyn⟩ := hO.forest.one hy.1 hy.2
  have hij : i ≠ j := by
    intro e
    rw [hO.seq] at hj; unfold jn at hj; rw [hfx, hfy] at hj
    simp [e] at hj
  have hL : (jn L x' y').2 = ((seqs ts).set i (t.ids ++ u.ids)).eraseIdx j := by
    rw [hO.seq]; unfold jn; rw [hfx, hfy]; simp only [if_neg hij, seqs_get ht, seqs_get hu]
  rw [hL]
  have hwt := hO.forest.whole i t ht
  have hwu := hO.forest.whole j u hu
  have hne : (t.root == u.root) = false := by
    have := hO.forest.roots ht hu (fun e => by rw [e] at hxt; simp at hxt)
    simpa using mt this.1 hij
  have hpre : Pre w g b n cap f t u := ⟨hO.inn, hwt.tree, hwu.tree, List.nodup_append.2 ⟨hwt.nd, hwu.nd, fun z hz z' hz' e => hO.forest.apart i j t u hij ht hu z hz (e ▸ hz')⟩, fun z hz => by
    rcases List.mem_append.1 hz with h | h
    · exact hwt.lt z h
    · exact hwu.lt z h⟩
  have hI := Lib.hid hO.inn
  have HT := Lib.hid (And.intro hwt hxt)
  have HU := Lib.hid (And.intro hwu hyu)
  have HP := Lib.hid hpre
  have HO := Lib.hid (And.intro hO (And.intro ht (And.intro hu hij)))
  clear hxt hyu hfx hfy ht hu hO hj hL hwt hwu hpre hij hA
  go_enter Try.func11, Try.ntmps11
  go_wp2_with fail
  refine (has_in c0 hx.1 hx.2).mono ?_
  rintro e w1 ⟨rfl, rfl⟩
  go_wp2_with fail
  refine (has_in c0 hy.1 hy.2).mono ?_
  rintro e w1 ⟨rfl, rfl⟩
  go_wp2_with fail
  refine (root_any _ _ _ _ _ _ _ _ hI.out HT.out.1 HT.out.2).mono ?_
  rintro e w1 ⟨rfl, rfl⟩
  go_wp2_with fail
  refine (root_any _ _ _ _ _ _ _ _ hI.out HU.out.1 HU.out.2).mono ?_
  rintro e w1 ⟨rfl, rfl⟩
  go_wp2_with fail
  refine (root_any _ _ _ _ _ _ _ _ hI.out HT.out.1 HT.out.2).mono ?_
  rintro e w1 ⟨rfl, rfl⟩
  go_wp2_with fail
  refine (root_any _ _ _ _ _ _ _ _ hI.out HU.out.1 HU.out.2).mono ?_
  rintro e w1 ⟨rfl, rfl⟩
  go_wp2_with fail
  refine (join_any g b n cap _ t u (Nat.le_refl _) _ f HP.out).mono ?_
  rintro e w1 ⟨C, rfl, h1⟩
  obtain ⟨f1, s1, j1⟩ := h1
  have hC : Ok n C.root := Ok.root (fun z hz => HP.out.lt z (by rw [j1.ids] at hz; exact hz))
  have H1 := Lib.hid (And.intro s1 (And.intro j1 hC))
  clear s1 j1 hC
  go_wp2_with fail
  refine (free_any _ g b n cap f1 w1.heap.size 1 [C.root] (H1.out.1.inn.alloc _) (Nat.ne_of_gt H1.out.1.inn.bl) rfl (by omega) (by simpa using H1.out.2.2) ?_).mono ?_
  · intro i hi
    obtain rfl : i = 0 := by omega
    exact World.cell?_alloc_at _ _ _ _ rfl
  rintro e w2 ⟨rfl, h2⟩
  have H2 := Lib.hid h2
  clear h2
  go_wp2_with fail
  go_ret
  refine ⟨rfl, ?_⟩
  obtain ⟨hO, ht, hu, hij⟩ := HO.out
  obtain ⟨hF, hS⟩ := hO.forest.join ht hu hij H1.out.2.1
  have hm : Mod w w2 (OneB b) := (H1.out.1.mod.alloc _).trans H2.out.mod (fun _ _ h => h)
  rw [← hS]
  exact ⟨hO.again _ _ _ _ H2.out.inn hm hF (Or.inl hO.sg) (Or.inl hO.sb), hm.mono (fun k _ hk => by unfold OneB at hk; subst hk; exact hO.sb)⟩

theorem tjoin_any (w : World) (g : Nat) (S : Nat → Prop) (n : Nat) (L : List (List Nat)) (x y : Int) (hA : Ar w g S n L) :
    Calls Try.prog 11 #[.pointer (some ⟨g, 0, none⟩), .int .i64 x, .int .i64 y] w fun e w' => e = .returned (.bool (jn L x y).1) ∧ ArPost w w' g S n (jn L x y).2 := by
  by_cases hj : (jn L x y).1 = true
  · rw [hj]; exact join_yes w g S n L x y hA hj
  · have hj2 : (jn L x y).1 = false := by simpa using hj
    have h2 : (jn L x y).2 = L := by
      unfold jn at hj2 ⊢
      split at hj2 <;> rename_i h1 <;> simp only [h1] at *
      · split at hj2 <;> rename_i h3
        · simp [h3]
        · simp at hj2
    rw [hj2, h2]
    refine (join_not w g S n L x y hA hj2).mono ?_
    rintro e w1 ⟨rfl, rfl⟩
    exact ⟨rfl, hA.mono (fun k hk => Or.inl hk), Mod.refl _ _⟩

theorem cut_not (w : World) (g : Nat) (S : Nat → Prop) (n : Nat) (L : List (List Nat)) (x : Int) (hA : Ar w g S n L) (hj : idx L x ≤ 0) :
    Calls Try.prog 13 #[.pointer (some ⟨g, 0, none⟩), .int .i64 x] w fun e w' => e = .returned (.bool false) ∧ ∃ k, w' = w.drewN k := by
  have HA := Lib.hid hA
  clear hA
  go_enter Try.func13, Try.ntmps13
  go_wp2_with fail
  refine (index_any _ _ _ _ _ _ HA.out).mono ?_
  rintro e w1 ⟨rfl, k, rfl⟩
  go_wp2_with fail
  go_ret
  exact ⟨rfl, k, rfl⟩

set_option maxHeartbeats 2000000 in
theorem cut_yes (w : World) (g : Nat) (S : Nat → Prop) (n : Nat) (L : List (List Nat)) (x : Int) (hA : Ar w g S n L) (hj : 0 < idx L x) :
    Calls Try.prog 13 #[.pointer (some ⟨g, 0, none⟩), .int .i64 x] w fun e w' => e = .returned (.bool true) ∧ ArPost w w' g S n (ct L x).2 := by
  have hx : 0 ≤ x ∧ x < n := by
    by_cases hx : 0 ≤ x ∧ x < n
    · exact hx
    · unfold idx at hj; rw [hA.out hx] at hj; simp at hj
  obtain ⟨b, cap, f, ts, hO⟩ := hA.open (by omega)
  obtain ⟨x', i, t, rfl, ht, hxt, hfx, hxn⟩ := hO.forest.one hx.1 hx.2
  have hi : idx L x' = ((t.ids.idxOf x' : Nat) : Int) := by rw [hO.seq]; unfold idx; rw [hfx]
  obtain ⟨m, hm⟩ : ∃ m, m = t.ids.idxOf x' := ⟨_, rfl⟩
  have hm0 : 0 < m := by rw [hi, ← hm] at hj; omega
  rw [← hm] at hi hfx
  have hL : (ct L x').2 = (seqs ts).set i (t.ids.take m) ++ [t.ids.drop m] := by
    rw [hO.seq]; unfold ct; rw [hfx]; simp only [seqs_get ht]; rw [if_neg (by omega)]
  have hwt := hO.forest.whole i t ht
  have hm2 : m ≤ 1048576 := by
    have h1 := nodup_len n _ hwt.nd hwt.lt
    have h2 : t.ids.idxOf x' < t.ids.length := List.idxOf_lt_length_iff.2 hxt
    have := hO.inn.top
    omega
  rw [hL]
  rw [hi] at hj
  have HA := Lib.hid hA
  have HX := Lib.hid hi
  have HT := Lib.hid (And.intro hwt hxt)
  have HO := Lib.hid (And.intro hO ht)
  clear hxt hfx ht hO hL hwt hA hi hm
  go_enter Try.func13, Try.ntmps13
  go_wp2_with fail
  refine (index_any _ _ _ _ _ _ HA.out).mono ?_
  rintro e w1 ⟨rfl, k, rfl⟩
  rw [HX.out]
  go_wp2_with fail
  refine (root_any _ _ _ _ _ _ _ _ (HO.out.1.inn.drewN k) HT.out.1 HT.out.2).mono ?_
  rintro e w1 ⟨rfl, rfl⟩
  go_wp2_with fail
  refine (split_any g b n cap t m hm2 _ f ⟨HO.out.1.inn.drewN k, HT.out.1.tree, HT.out.1.nd, HT.out.1.lt⟩).mono ?_
  rintro e w1 ⟨A, B, rfl, h1⟩
  obtain ⟨f1, s1, j1⟩ := h1
  have hA1 : Ok n A.root := Ok.root (fun z hz => HT.out.1.lt z (by rw [j1.lids] at hz; exact List.mem_of_mem_take hz))
  have hB1 : Ok n B.root := Ok.root (fun z hz => HT.out.1.lt z (by rw [j1.rids] at hz; exact List.mem_of_mem_drop hz))
  have H1 := Lib.hid (And.intro s1 (And.intro j1 (And.intro hA1 hB1)))
  clear s1 j1 hA1 hB1
  go_wp2_with fail
  refine (free_any _ g b n cap f1 w1.heap.size 2 [A.root, B.root] (H1.out.1.inn.alloc _) (Nat.ne_of_gt H1.out.1.inn.bl) rfl (by omega) ?_ ?_).mono ?_
  · intro z hz
    simp at hz
    rcases hz with rfl | rfl
    · exact H1.out.2.2.1
    · exact H1.out.2.2.2
  · intro i hi
    match i, hi with
    | 0, _ => exact World.cell?_alloc_at _ _ _ _ rfl
    | 1, _ => exact World.cell?_alloc_at _ _ _ _ rfl
  rintro e w2 ⟨rfl, h2⟩
  have H2 := Lib.hid h2
  clear h2
  go_wp2_with fail
  go_ret
  refine ⟨rfl, ?_⟩
  obtain ⟨hO, ht⟩ := HO.out
  obtain ⟨hF, hS⟩ := hO.forest.cut ht H1.out.2.1
  have hm1 : Mod w w1 (OneB b) := H1.out.1.drewL.mod
  have hm : Mod w w2 (OneB b) := (hm1.alloc _).trans H2.out.mod (fun _ _ h => h)
  rw [← hS]
  exact ⟨hO.again _ _ _ _ H2.out.inn hm hF (Or.inl hO.sg) (Or.inl hO.sb), hm.mono (fun k _ hk => by unfold OneB at hk; subst hk; exact hO.sb)⟩

theorem tcut_any (w : World) (g : Nat) (S : Nat → Prop) (n : Nat) (L : List (List Nat)) (x : Int) (hA : Ar w g S n L) :
    Calls Try.prog 13 #[.pointer (some ⟨g, 0, none⟩), .int .i64 x] w fun e w' => e = .returned (.bool (ct L x).1) ∧ ArPost w w' g S n (ct L x).2 := by
  by_cases hj : 0 < idx L x
  · have : (ct L x).1 = true := by
      unfold idx at hj
      unfold ct
      cases h : fnd L x with
      | none => rw [h] at hj; simp at hj
      | some p => rw [h] at hj; simp only at hj ⊢; rw [if_neg (by omega)]
    rw [this]; exact cut_yes w g S n L x hA hj
  · have h1 : (ct L x) = (false, L) := by
      unfold idx at hj
      unfold ct
      cases h : fnd L x with
      | none => rfl
      | some p => rw [h] at hj; simp only at hj ⊢; rw [if_pos (by omega)]
    rw [h1]
    refine (cut_not w g S n L x hA (by omega)).mono ?_
    rintro e w1 ⟨rfl, k, rfl⟩
    exact ⟨rfl, hA.mono (fun k hk => Or.inl hk), (Mod.refl _ _).drewN k⟩
end Go.Proofs.Ytlmbkmjjiebpbaa
