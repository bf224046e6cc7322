/- The contract of At. -/
import Derived.Test.YtlmbkmjjiebpbaaTrE
namespace Go.Proofs.Ytlmbkmjjiebpbaa
open Go.RowKit
set_option linter.unusedVariables false

/-- What At has to find yet: number i under the node whose tree is s. -/
def Seek (f : Nat → Nd) (n : Nat) (z : Int) (i : Int) (v : Int) : Prop := ∃ s : Tr, s.root = z ∧ Tree f s ∧ s.ids.Nodup ∧ (∀ x ∈ s.ids, x < n) ∧ 0 ≤ i ∧ i < s.ids.length ∧ ((s.ids.getD i.toNat 0 : Nat) : Int) = v

theorem Seek.step {f : Nat → Nd} {n : Nat} {z i v : Int} (h : Seek f n z i v) (htop : n ≤ 1048576) :
    ∃ y : Nat, z = y ∧ y < n ∧ Ok n (f y).left ∧ 0 ≤ sz f (f y).left ∧ sz f (f y).left ≤ 1048576 ∧ 0 ≤ i ∧ i ≤ 1048576 ∧
      (i = sz f (f y).left → (y : Int) = v) ∧
      (i < sz f (f y).left → Seek f n (f y).left i v ∧ (sz f (f y).left).toNat < (sz f y).toNat) ∧
      (sz f (f y).left < i → Seek f n (f y).right (i - sz f (f y).left - 1) v ∧ (sz f (f y).right).toNat < (sz f y).toNat) := by
  obtain ⟨s, rfl, ht, hn, hl, h0, h1, hv⟩ := h
  cases s with
  | leaf => simp [Tr.ids] at h1; omega
  | node l y r =>
    have hlen := nodup_len n _ hn hl
    have hs : Go.Proofs.Ytlmbkmjjiebpbaa.sz f ((y : Nat) : Int) = ((Tr.node l y r).ids.length : Int) := Tree.sz (t := .node l y r) ht
    obtain ⟨e1, e2, e3, e4, e5, e6, e7⟩ := ht
    have hll : ∀ z ∈ l.ids, z < n := fun z hz => hl z (by simp [Tr.ids, hz])
    have hrl : ∀ z ∈ r.ids, z < n := fun z hz => hl z (by simp [Tr.ids, hz])
    have hn2 := hn
    simp only [Tr.ids] at hn2 hlen
    obtain ⟨d1, d2, d3⟩ := List.nodup_append.1 hn2
    have hsl := e6.sz
    have hsr := e7.sz
    refine ⟨y, rfl, hl y (by simp [Tr.ids]), ?_⟩
    rw [e1, e2, hsl, hsr, hs]
    simp only [Tr.ids] at h1 hv ⊢
    simp only [List.length_append, List.length_cons] at h1 hlen ⊢
    refine ⟨Ok.root hll, by omega, by omega, h0, by omega, fun e => ?_, fun e => ⟨⟨l, rfl, e6, d1, hll, h0, e, ?_⟩, by omega⟩, fun e => ⟨⟨r, rfl, e7, (List.nodup_cons.1 d2).2, hrl, by omega, by omega, ?_⟩, by omega⟩⟩
    · rw [← hv, e]; simp
    · rw [← hv]
      rw [List.getD_eq_getElem?_getD, List.getD_eq_getElem?_getD, List.getElem?_append_left (by omega)]
    · rw [← hv]
      rw [List.getD_eq_getElem?_getD, List.getD_eq_getElem?_getD, List.getElem?_append_right (by omega)]
      have : i.toNat - l.ids.length = (i - (l.ids.length : Int) - 1).toNat + 1 := by omega
      rw [this]; simp

theorem at_out (w : World) (g : Nat) (S : Nat → Prop) (n : Nat) (L : List (List Nat)) (x i : Int) (hA : Ar w g S n L) (hi : ¬ (0 ≤ i ∧ i < (lst L x).length)) :
    Calls Try.prog 23 #[.pointer (some ⟨g, 0, none⟩), .int .i64 x, .int .i64 i] w fun e w' => e = .returned (.int .i64 (-1)) ∧ w = w' := by
  by_cases h0 : i < 0
  · clear hi hA
    go_enter Try.func23, Try.ntmps23
    go_wp2_with fail
    go_ret
    exact ⟨rfl, rfl⟩
  · have h1 : ¬ i < (lst L x).length := fun e => hi ⟨by omega, e⟩
    have hd : decide (((lst L x).length : Int) ≤ i) = true := by simp; omega
    have HA := Lib.hid hA
    clear hi hA
    go_enter Try.func23, Try.ntmps23
    go_wp2_with fail
    refine (len_any _ _ _ _ _ _ HA.out).mono ?_
    rintro e w1 ⟨rfl, rfl⟩
    go_wp2_with fail
    go_ret
    exact ⟨rfl, rfl⟩

set_option maxHeartbeats 2000000 in
theorem at_in (w : World) (g : Nat) (S : Nat → Prop) (n : Nat) (L : List (List Nat)) (x i : Int) (hA : Ar w g S n L) (hi : 0 ≤ i ∧ i < (lst L x).length) :
    Calls Try.prog 23 #[.pointer (some ⟨g, 0, none⟩), .int .i64 x, .int .i64 i] w fun e w' => e = .returned (.int .i64 ((lst L x).getD i.toNat 0 : Nat)) ∧ w = w' := by
  have hx : 0 ≤ x ∧ x < n := by
    by_cases hx : 0 ≤ x ∧ x < n
    · exact hx
    · have : lst L x = [] := by unfold lst; rw [hA.out hx]
      rw [this] at hi; simp at hi; omega
  obtain ⟨b, cap, f, ts, hO⟩ := hA.open (by omega)
  obtain ⟨x', j, t, rfl, ht, hxt, hfx, hxn⟩ := hO.forest.one hx.1 hx.2
  have hwt := hO.forest.whole j t ht
  have hres : lst L x' = t.ids := by rw [hO.seq]; unfold lst; rw [hfx]; simp only [seqs_get ht]
  have HA := Lib.hid hA
  have HN := Lib.hid hres
  rw [hres] at hi ⊢
  have hsk : Seek f n t.root i ((t.ids.getD i.toNat 0 : Nat) : Int) := ⟨t, rfl, hwt.tree, hwt.nd, hwt.lt, hi.1, hi.2, rfl⟩
  obtain ⟨v, hv⟩ : ∃ v : Int, v = ((t.ids.getD i.toNat 0 : Nat) : Int) := ⟨_, rfl⟩
  rw [← hv] at hsk ⊢
  have HS := Lib.hid hsk
  have HW := Lib.hid (And.intro hwt hxt)
  have HI := Lib.hid hO.inn
  have htop := hO.inn.top
  have hi0 := hi.1
  have hd : decide ((t.ids.length : Int) ≤ i) = false := by simp; omega
  have hc := hO.inn.cells hxn
  obtain ⟨⟨cg, hg, hb, _, hcap⟩, _⟩ := hc
  clear hsk hwt hxt hfx ht hO hA hres hv hi
  obtain ⟨wo, hwo⟩ : ∃ wo : World, wo = w := ⟨_, rfl⟩
  go_enter Try.func23, Try.ntmps23
  go_wp2_with fail
  refine (len_any _ _ _ _ _ _ HA.out).mono ?_
  rintro e w1 ⟨rfl, rfl⟩
  rw [HN.out]
  go_wp2_with fail
  refine (root_any _ _ _ _ _ _ _ _ HI.out HW.out.1 HW.out.2).mono ?_
  rintro e w1 ⟨rfl, rfl⟩
  go_wp2_with fail
  go_loopw [1, 2] (fun i1 i2 wr => ∃ (z k : Int), i1 = .int .i64 z ∧ i2 = .int .i64 k ∧ wr = w ∧ Hid (Seek f n z k v)) (fun i1 _ _ => (sz f (intOf i1)).toNat)
  case atStart => exact ⟨_, _, rfl, rfl, rfl, HS⟩
  case round =>
    obtain ⟨z, k, rfl, rfl, rfl, HK⟩ := hrel
    obtain ⟨y, rfl, hyn, ho, hs0, hs1, hk0, hk1, hq1, hq2, hq3⟩ := HK.out.step htop
    have hyi : (y : Int) < n := by omega
    obtain ⟨_, p0, p1, p2⟩ := HI.out.cells hyn
    have HO := Lib.hid ho
    obtain ⟨m, hm⟩ : ∃ m, m = sz f (f y).left := ⟨_, rfl⟩
    rw [← hm] at hs0 hs1 hq1 hq2 hq3
    have HM := Lib.hid hm
    have HQ := Lib.hid (And.intro hq1 (And.intro hq2 hq3))
    clear ho hm hq1 hq2 hq3
    go_wp2_with fail
    refine (size_any _ _ _ _ _ _ _ HI.out HO.out).mono ?_
    rintro e w1 ⟨rfl, rfl⟩
    rw [← HM.out]
    by_cases hkm : k = m
    · have hb : (k == m) = true := by simp [hkm]
      have HE := Lib.hid (HQ.out.1 hkm)
      clear hkm
      go_wp2_with fail
      go_ret
      exact ⟨by have := HE.out; rw [← this]; rfl, rfl⟩
    · have hb : (k == m) = false := by simp [hkm]
      by_cases hlt : k < m
      · have HE := Lib.hid (HQ.out.2.1 hlt)
        clear hkm
        go_wp2_with fail
        go_roundw
        case rel => exact ⟨_, _, rfl, rfl, by first | rfl | trivial, HE.out.1⟩
        case measure => have h2 := HE.out.2; rw [HM.out] at h2; simpa [intOf] using h2
      · have HE := Lib.hid (HQ.out.2.2 (by omega))
        have hkm2 : m + 1 ≤ k := by omega
        clear hkm
        go_wp2_with fail
        go_roundw
        case rel => exact ⟨_, _, rfl, rfl, by first | rfl | trivial, HE.out.1⟩
        case measure => simpa [intOf] using HE.out.2
theorem at_any (w : World) (g : Nat) (S : Nat → Prop) (n : Nat) (L : List (List Nat)) (x i : Int) (hA : Ar w g S n L) :
    Calls Try.prog 23 #[.pointer (some ⟨g, 0, none⟩), .int .i64 x, .int .i64 i] w fun e w' => e = .returned (.int .i64 (atL (lst L x) i)) ∧ w = w' := by
  unfold atL
  by_cases hi : 0 ≤ i ∧ i < (lst L x).length
  · rw [if_pos hi]; exact at_in w g S n L x i hA hi
  · rw [if_neg hi]; exact at_out w g S n L x i hA hi
end Go.Proofs.Ytlmbkmjjiebpbaa
