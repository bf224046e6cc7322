/- The contracts of Index and At. -/
import Derived.Test.YtlmbkmjjiebpbaaTrD
namespace Go.Proofs.Ytlmbkmjjiebpbaa
open Go.RowKit
set_option linter.unusedVariables false

theorem In.cells {w : World} {g b n cap : Nat} {f : Nat → Nd} (h : In w g b n cap f) {x : Nat} (hx : x < n) : (w.cell? ⟨g, 0, none⟩ = some (.slice (some ⟨b, 0, none⟩) n cap) ∧ g < w.heap.size ∧ b < w.heap.size ∧ n ≤ 1048576 ∧ n ≤ cap ∧ cap ≤ 2 ^ 63 - 1) ∧
    w.cell? ⟨b, x * 5, none⟩ = some (.int .i64 (f x).up) ∧ w.cell? ⟨b, x * 5 + 1, none⟩ = some (.int .i64 (f x).left) ∧ w.cell? ⟨b, x * 5 + 2, none⟩ = some (.int .i64 (f x).right) := by
  obtain ⟨c0, c1, c2, _⟩ := h.cell hx
  have hc := h.capb (by omega)
  exact ⟨⟨h.c0, h.gl, h.bl, h.top, hc⟩, c0, c1, c2⟩

/-- A step of Index's loop: where it stands, what has been counted. -/
theorem left_ok {f : Nat → Nd} {n : Nat} {t : Tr} (h : Whole f n t) {x : Nat} (hx : x ∈ t.ids) (htop : n ≤ 1048576) : Ok n (f x).left ∧ Ok n (f x).right ∧ 0 ≤ sz f (f x).left ∧ sz f (f x).left ≤ 1048576 := by
  obtain ⟨ht, hn, hl, hu⟩ := h
  clear hu
  induction t with
  | leaf => simp [Tr.ids] at hx
  | node l y r ihl ihr =>
    obtain ⟨h1, h2, h3, h4, h5, h6, h7⟩ := ht
    have hn2 := hn
    simp only [Tr.ids] at hn2
    obtain ⟨d1, d2, d3⟩ := List.nodup_append.1 hn2
    have hll : ∀ z ∈ l.ids, z < n := fun z hz => hl z (by simp [Tr.ids, hz])
    have hrl : ∀ z ∈ r.ids, z < n := fun z hz => hl z (by simp [Tr.ids, hz])
    simp only [Tr.ids, List.mem_append, List.mem_cons] at hx
    rcases hx with hx | rfl | hx
    · exact ihl hx h6 d1 hll
    · rw [h1, h2]
      exact ⟨Ok.root hll, Ok.root hrl, tree_szb h6 d1 hll htop⟩
    · exact ihr hx h7 (List.nodup_cons.1 d2).2 hrl

theorem index_out (w : World) (g : Nat) (S : Nat → Prop) (n : Nat) (L : List (List Nat)) (x : Int) (hA : Ar w g S n L) (hx : ¬ (0 ≤ x ∧ x < n)) :
    Calls Try.prog 17 #[.pointer (some ⟨g, 0, none⟩), .int .i64 x] w fun e w' => e = .returned (.int .i64 (idx L x)) ∧ ∃ k, w' = w.drewN k := by
  obtain ⟨a, cap, c0⟩ := hA.head
  have hres : idx L x = -1 := by unfold idx; rw [hA.out hx]
  rw [hres]
  clear hres hA
  go_enter Try.func17, Try.ntmps17
  go_wp2_with fail
  refine (has_out c0 hx).mono ?_
  rintro e w1 ⟨rfl, rfl⟩
  go_wp2_with fail
  go_ret
  exact ⟨rfl, 0, rfl⟩

set_option maxHeartbeats 2000000 in
theorem index_in (w : World) (g b n cap : Nat) (f : Nat → Nd) (t : Tr) (x : Nat) (hI : In w g b n cap f) (hW : Whole f n t) (hx : x ∈ t.ids) :
    Calls Try.prog 17 #[.pointer (some ⟨g, 0, none⟩), .int .i64 x] w fun e w' => e = .returned (.int .i64 (t.ids.idxOf x)) ∧ ∃ k, w' = w.drewN k := by
  have hxn := hW.lt x hx
  obtain ⟨⟨cg, hg, hb, htop, hcap⟩, c0, c1, c2⟩ := hI.cells hxn
  obtain ⟨o1, o2, o3⟩ := left_ok hW hx hI.top
  obtain ⟨e1, e2⟩ := off_idx hW.tree hW.nd hx
  have hxi : (x : Int) < n := by omega
  have hK : (t.ids.idxOf x : Int) < 1048577 := by
    have h1 := nodup_len n _ hW.nd hW.lt
    have h2 : t.ids.idxOf x < t.ids.length := List.idxOf_lt_length_iff.2 hx
    omega
  obtain ⟨K, hKe⟩ : ∃ K, K = t.ids.idxOf x := ⟨_, rfl⟩
  rw [← hKe] at hK e1 ⊢
  have HE := Lib.hid e1
  have HW := Lib.hid hW
  have HI := Lib.hid hI
  have HX := Lib.hid hx
  have HO := Lib.hid o1
  clear hI hW hx e1 o1 o2 hKe
  have hsz0 : 0 ≤ sz f (f x).left := o3.1
  go_enter Try.func17, Try.ntmps17
  go_wp2_with fail
  refine (has_in cg (by omega) hxi).mono ?_
  rintro e w1 ⟨rfl, rfl⟩
  go_wp2_with fail
  refine (size_any _ _ _ _ _ _ _ HI.out HO.out).mono ?_
  rintro e w1 ⟨rfl, rfl⟩
  go_wp2_with fail
  go_loopw [1, 5, 6] (fun i1 i5 i6 wr => ∃ (y : Nat) (c u : Int) (j : Nat), i1 = .int .i64 y ∧ i5 = .int .i64 c ∧ i6 = .int .i64 u ∧ wr = w.drewN j ∧ Hid (y ∈ t.ids ∧ (f y).up = u ∧ c + t.off y = K ∧ 0 ≤ c)) (fun i1 _ _ _ => t.depth (intOf i1).toNat)
  case atStart => exact ⟨x, _, _, 0, rfl, rfl, rfl, rfl, HX, rfl, by have := HE.out; omega, hsz0⟩
  case round =>
    obtain ⟨y, c, u, j, rfl, rfl, rfl, rfl, HY⟩ := hrel
    have hyn : y < n := HW.out.lt y HY.out.1
    by_cases hr : (y : Int) = t.root
    · have hu : u = -1 := by rw [← HY.out.2.1]; exact HW.out.up y hr.symm
      have hc : c = K := by have := HY.out.2.2.1; rw [off_root hr] at this; omega
      subst hu hc
      clear hr
      go_wp2_with fail
      go_ret
      exact ⟨rfl, j, rfl⟩
    · obtain ⟨p, e1, e2, e3, e4⟩ := up_step HW.out.tree HW.out.nd HY.out.1 hr
      have hu : u = p := by rw [← HY.out.2.1]; exact e1
      have hpn : p < n := HW.out.lt p e2
      have hpi : (p : Int) < n := by omega
      obtain ⟨_, p0, p1, p2⟩ := HI.out.cells hpn
      obtain ⟨a1, a2, a3⟩ := left_ok HW.out e2 htop
      have hne : ((p : Int) != -1) = true := by simp
      subst hu
      rcases e4 with ⟨b1, b2, b3⟩ | ⟨b1, b2⟩
      · rw [b1] at p2
        have hbd : c + (sz f (f p).left + 1) + t.off p = K := by have := HY.out.2.2.1; omega
        have hbd2 : 0 ≤ c := HY.out.2.2.2
        have hbd3 : c + (sz f (f p).left + 1) ≤ 1048577 := by omega
        have HP := Lib.hid (And.intro e2 (And.intro e3 hbd))
        have HA := Lib.hid a1
        clear e1 e2 e3 b1 b2 hr a1 a2 hbd
        go_wp2_with fail
        refine (size_any _ _ _ _ _ _ _ (HI.out.drewN j) HA.out).mono ?_
        rintro e w1 ⟨rfl, rfl⟩
        go_wp2_with fail
        go_region
        go_wp2_with fail
        go_roundw
        case rel => exact ⟨p, _, _, j + 1, rfl, rfl, rfl, by first | rfl | simp, HP.out.1, rfl, HP.out.2.2, by omega⟩
        case measure => simp [intOf]; exact HP.out.2.1
      · have hbd : c + t.off p = K := by have := HY.out.2.2.1; omega
        have hbd2 : 0 ≤ c := HY.out.2.2.2
        have hne2 : ((f p).right == (y : Int)) = false := by simpa using b1
        have HP := Lib.hid (And.intro e2 (And.intro e3 hbd))
        clear e1 e2 e3 b1 b2 hr a1 a2 hbd
        go_wp2_with fail
        go_region
        go_wp2_with fail
        go_roundw
        case rel => exact ⟨p, _, _, j + 1, rfl, rfl, rfl, by first | rfl | simp, HP.out.1, rfl, HP.out.2.2, by omega⟩
        case measure => simp [intOf]; exact HP.out.2.1

theorem index_any (w : World) (g : Nat) (S : Nat → Prop) (n : Nat) (L : List (List Nat)) (x : Int) (hA : Ar w g S n L) :
    Calls Try.prog 17 #[.pointer (some ⟨g, 0, none⟩), .int .i64 x] w fun e w' => e = .returned (.int .i64 (idx L x)) ∧ ∃ k, w' = w.drewN k := by
  by_cases hx : 0 ≤ x ∧ x < n
  · obtain ⟨b, cap, f, ts, hO⟩ := hA.open (by omega)
    obtain ⟨x', i, t, rfl, ht, hxt, hfx, hxn⟩ := hO.forest.one hx.1 hx.2
    have hres : idx L x' = t.ids.idxOf x' := by rw [hO.seq]; unfold idx; rw [hfx]
    rw [hres]
    exact index_in w g b n cap f t x' hO.inn (hO.forest.whole i t ht) hxt
  · exact index_out w g S n L x hA hx
end Go.Proofs.Ytlmbkmjjiebpbaa
