/- The reference: Upto and After. -/
import Derived.Test.YthncgmmfnghliaaLfCk
import Derived.Test.YthncgmmfnghliaaLfU
namespace Go.Proofs.Ythncgmmfnghliaa
open Go.RowKit
set_option linter.unusedVariables false

/-- A history in a block of its own, and its events. -/
structure HAt (w wr : World) (h0 : Nat) (n : Int) (a : Option Addr) (len cap : Nat) (l : List Ev) : Prop where
  mod : Mod w wr NoB
  c0 : wr.cell? ⟨h0, 0, none⟩ = some (.int .u64 n)
  c1 : wr.cell? ⟨h0, 1, none⟩ = some (.slice a len cap)
  evs : Evs wr a l
theorem HAt.next {w wr w' : World} {h0 len cap : Nat} {n : Int} {a : Option Addr} {l : List Ev} (h : HAt w wr h0 n a len cap l) (hm : Mod wr w' NoB) : HAt w w' h0 n a len cap l :=
  ⟨h.mod.trans hm (fun _ _ c => c), keepc h.c0 hm, keepc h.c1 hm, h.evs.mod hm⟩
theorem HAt.start {w : World} {n : Int} {a : Option Addr} {len cap : Nat} {l : List Ev} (h : Evs w a l) : HAt w (w.alloc (.cells #[.int .u64 n, .slice a len cap] 25)) w.heap.size n a len cap l :=
  ⟨(Mod.refl _ _).alloc _, World.cell?_alloc_at _ _ _ _ rfl, World.cell?_alloc_at _ _ _ _ rfl, h.mod ((Mod.refl _ _).alloc _)⟩

set_option maxRecDepth 100000 in
set_option maxHeartbeats 4000000 in
theorem upto_any (w : World) (n t : Int) (a : Option Addr) (cap : Nat) (l : List Ev) (hE : Evs w a l) (hl : l.length ≤ 100000) :
    Calls Try.prog 48 #[.agg #[.int .u64 n, .slice a l.length cap], .int .i64 t] w fun e w' => ∃ k : Nat, k ≤ l.length ∧ e = .returned (.int .i64 k) ∧ (∀ x ∈ l.take k, x.t ≤ t) ∧ (∀ x, l[k]? = some x → t < x.t) ∧ Mod w w' NoB := by
  have HH0 := Lib.hid (HAt.start (n := n) (len := l.length) (cap := cap) hE)
  obtain ⟨h0, hh0⟩ : ∃ h0, h0 = w.heap.size := ⟨_, rfl⟩
  obtain ⟨W, hW⟩ : ∃ W, W = w.alloc (.cells #[.int .u64 n, .slice a l.length cap] 25) := ⟨_, rfl⟩
  rw [← hW, ← hh0] at HH0
  have hmx := mixed
  clear hE
  go_enter Try.func48, Try.ntmps48
  go_wp2_with fail
  rw [← hW, ← hh0]
  clear hW hh0
  go_loopw [5] (fun v5 wr => ∃ (k : Nat), k ≤ l.length ∧ v5 = .int .i64 k ∧ Hid (HAt w wr h0 n a l.length cap l ∧ ∀ x ∈ l.take k, x.t ≤ t)) (fun v5 _ => l.length - (intOf v5).toNat)
  case atStart => exact ⟨0, Nat.zero_le _, rfl, HH0.out, by simp⟩
  case round =>
    obtain ⟨k, hk, rfl, HI⟩ := hrel
    have ch1 := HI.out.1.c1
    by_cases hlt : k < l.length
    · obtain ⟨b, off, x, rfl, hbw, hx, hC⟩ := HI.out.1.evs.at hlt
      have hki : (k : Int) < l.length := by omega
      have hkd : decide (k < l.length) = true := decide_eq_true hlt
      have hkd2 : decide ((k : Int) < (l.length : Int)) = true := decide_eq_true hki
      have HX := Lib.hid hx
      obtain ⟨c0, c1, c2, c3⟩ := hC
      have hwk : IntKind.i64.wrap (k : Int) = (k : Int) := IntWalk.i64_in _ (by omega)
      clear hx hbw c1 c2 c3
      by_cases ht : x.t ≤ t
      · have htd : decide (x.t ≤ t) = true := decide_eq_true ht
        have HT : Hid (∀ y ∈ l.take (k + 1), y.t ≤ t) := by
          show ∀ y ∈ l.take (k + 1), y.t ≤ t
          obtain ⟨p1, p2⟩ := List.getElem?_eq_some_iff.1 HX.out
          rw [List.take_succ_eq_append_getElem p1, p2]
          intro y hy
          rcases List.mem_append.1 hy with hy | hy
          · exact HI.out.2 y hy
          · have : y = x := by simpa using hy
            rw [this]; exact ht
        go_wp2_with fail
        go_roundw
        case rel => exact ⟨k + 1, by omega, by go_num, HI.out.1, HT.out⟩
        case measure => simp [intOf]; omega
      · have htd : decide (x.t ≤ t) = false := decide_eq_false ht
        have HT : Hid (t < x.t) := Int.not_le.1 ht
        go_wp2_with fail
        go_ret
        exact ⟨k, hk, rfl, HI.out.2, (fun y hy => by rw [HX.out] at hy; cases hy; exact HT.out), HI.out.1.mod⟩
    · have hkl : k = l.length := by omega
      have hki : ¬ ((k : Int) < l.length) := by omega
      have hkd : decide (k < l.length) = false := decide_eq_false hlt
      have hkd2 : decide ((k : Int) < (l.length : Int)) = false := decide_eq_false hki
      have HK := Lib.hid hkl
      clear hkl
      go_wp2_with fail
      go_ret
      exact ⟨k, hk, rfl, HI.out.2, (fun y hy => by rw [HK.out, List.getElem?_eq_none (Nat.le_refl _)] at hy; cases hy), HI.out.1.mod⟩

/-- What After keeps. -/
structure NSt (w0 wr : World) (h0 : Nat) (n : Int) (a : Option Addr) (len cap : Nat) (l : List Ev) (i : Nat) (na : Option Addr) (nc : Nat) (N : List Ed) : Prop where
  h : HAt w0 wr h0 n a len cap l
  eds : Eds wr na N
  plain : Plain na
  cap : N.length ≤ nc
  len : N.length ≤ i
  now : NowOk N (thereOf (l.take i))

theorem allOk_at {n : Int} : ∀ {l : List Ev} {prev : Option Ev} {there : Ed → Bool} (i : Nat) (x : Ev), AllOk n prev there l → l[i]? = some x → (l.take i).foldl turn there x.e ≠ x.add
  | [], _, _, i, x, _, h => by simp at h
  | y :: l, prev, there, 0, x, h, hx => by
    cases hx
    obtain ⟨h1, _⟩ := h
    obtain ⟨_, _, _, hne⟩ := evErr_ok h1
    simpa using hne
  | y :: l, prev, there, i + 1, x, h, hx => by
    have := allOk_at i x h.2 (by simpa using hx)
    simpa using this

set_option maxRecDepth 100000 in
set_option maxHeartbeats 4000000 in
theorem after_any (w : World) (n : Int) (k : Nat) (a : Option Addr) (cap : Nat) (l : List Ev) (hE : Evs w a l) (hl : l.length ≤ 100000) (hb : ∀ x ∈ l, EvB x) (hc : chk n l = (0, 0)) (hk : k ≤ l.length) (hok : AllOk n none (fun _ => false) l) :
    Calls Try.prog 47 #[.agg #[.int .u64 n, .slice a l.length cap], .int .i64 k] w fun e w' => ∃ (na : Option Addr) (nc : Nat) (N : List Ed), e = .returned (.tuple #[.slice na N.length nc, .int .i64 0]) ∧ Eds w' na N ∧ N.length ≤ l.length ∧ NowOk N (thereOf (l.take k)) ∧ Mod w w' NoB := by
  have HH0 := Lib.hid (HAt.start (n := n) (len := l.length) (cap := cap) hE)
  have HCK : Hid (∀ z, Evs z a l → Calls Try.prog 36 #[.agg #[.int .u64 n, .slice a l.length cap]] z fun e w' => e = .returned (.tuple #[.int .i64 0, .int .i64 0]) ∧ Mod z w' NoB) := fun z hz => by
    have := rcheck_any z n a cap l hz hl hb
    rw [hc] at this
    exact this
  have HOK := Lib.hid (fun i x => allOk_at (n := n) i x hok)
  obtain ⟨h0, hh0⟩ : ∃ h0, h0 = w.heap.size := ⟨_, rfl⟩
  obtain ⟨W, hW⟩ : ∃ W, W = w.alloc (.cells #[.int .u64 n, .slice a l.length cap] 25) := ⟨_, rfl⟩
  rw [← hW, ← hh0] at HH0
  have hmx := mixed
  clear hE hb hc hok
  have c0 := HH0.out.c0
  have c1 := HH0.out.c1
  go_enter Try.func47, Try.ntmps47
  go_wp2_with fail
  rw [← hW, ← hh0]
  clear hW hh0
  refine (HCK.out _ HH0.out.evs).mono ?_
  rintro e w1 ⟨rfl, hm⟩
  have HH1 := Lib.hid (HH0.out.next hm)
  clear hm c0 c1 HCK HH0
  go_wp2_with fail
  go_loopw [8, 9] (fun v8 v9 wr => ∃ (i : Nat) (na : Option Addr) (nc : Nat) (N : List Ed), i ≤ k ∧ v8 = .slice na N.length nc ∧ v9 = .int .i64 i ∧ Hid (NSt w wr h0 n a l.length cap l i na nc N)) (fun _ v9 _ => k - (intOf v9).toNat)
  case atStart => exact ⟨0, none, 0, [], Nat.zero_le _, rfl, rfl, HH1.out, Or.inl rfl, Or.inl rfl, by simp, by simp, by simpa [thereOf] using NowOk.nil⟩
  case round =>
    obtain ⟨i, na, nc, N, hi, rfl, rfl, HI⟩ := hrel
    have ch1 := HI.out.h.c1
    have hNi := HI.out.len
    by_cases hlt : i < k
    · obtain ⟨b, off, x, rfl, hbw, hx, hC⟩ := HI.out.h.evs.at (show i < l.length by omega)
      have hlt2 : (i : Int) < l.length := by omega
      have hki : (i : Int) < k := by omega
      have hwk : IntKind.i64.wrap (i : Int) = (i : Int) := IntWalk.i64_in _ (by omega)
      have HX := Lib.hid hx
      obtain ⟨c0, c1, c2, c3⟩ := hC
      clear hx hbw
      go_wp2_with fail
      have hne := HOK.out i x HX.out
      obtain ⟨N2, ht2, hn2⟩ := HI.out.now.some (e := x) hne
      refine (turn_any _ na nc N x HI.out.eds HI.out.plain (by omega) HI.out.cap HI.out.now.sorted).mono ?_
      rintro r w7 ⟨_, h8⟩
      obtain ⟨na', nc', rfl, q1, q2, q3, hm7⟩ := h8 N2 ht2
      have hN2 := turnL_len ht2
      have htk : thereOf (l.take (i + 1)) = turn (thereOf (l.take i)) x := by
        obtain ⟨p1, p2⟩ := List.getElem?_eq_some_iff.1 HX.out
        rw [List.take_succ_eq_append_getElem p1, p2, thereOf_snoc]
      have HF : Hid (NSt w w7 h0 n (some ⟨b, off, none⟩) l.length cap l (i + 1) na' nc' N2) := ⟨HI.out.h.next hm7, q1, q2.1, q3, by omega, by rw [htk]; exact hn2⟩
      clear h8 ht2 hn2 q1 q2 q3 hm7 hN2 htk hne c0 c1 c2 c3 ch1
      go_wp2_with fail
      go_roundw
      case rel => exact ⟨i + 1, na', nc', N2, by omega, rfl, by go_num, HF.out⟩
      case measure => simp [intOf]; omega
    · have hik : i = k := by omega
      subst hik
      have hirr : ¬ (i : Int) < i := by omega
      by_cases hil : i < l.length
      · have hil2 : (i : Int) < l.length := by omega
        go_wp2_with fail
        go_ret2
        exact ⟨na, nc, N, rfl, HI.out.eds, by omega, HI.out.now, HI.out.h.mod⟩
      · have hil2 : ¬ (i : Int) < l.length := by omega
        go_wp2_with fail
        go_ret2
        exact ⟨na, nc, N, rfl, HI.out.eds, by omega, HI.out.now, HI.out.h.mod⟩

set_option maxRecDepth 100000 in
set_option maxHeartbeats 4000000 in
theorem at_any (w : World) (n t : Int) (a : Option Addr) (cap : Nat) (l : List Ev) (hE : Evs w a l) (hl : l.length ≤ 100000) (hb : ∀ x ∈ l, EvB x) (hc : chk n l = (0, 0)) (hok : AllOk n none (fun _ => false) l) :
    Calls Try.prog 22 #[.agg #[.int .u64 n, .slice a l.length cap], .int .i64 t] w fun e w' => ∃ (k : Nat) (na : Option Addr) (nc : Nat) (N : List Ed), k ≤ l.length ∧ (∀ x ∈ l.take k, x.t ≤ t) ∧ (∀ x, l[k]? = some x → t < x.t) ∧
      e = .returned (.tuple #[.slice na N.length nc, .int .i64 0]) ∧ Eds w' na N ∧ N.length ≤ l.length ∧ NowOk N (thereOf (l.take k)) ∧ Mod w w' NoB := by
  have HU : Hid (∀ z, Mod w z NoB → Calls Try.prog 48 #[.agg #[.int .u64 n, .slice a l.length cap], .int .i64 t] z fun e w' => ∃ k : Nat, k ≤ l.length ∧ e = .returned (.int .i64 k) ∧ (∀ x ∈ l.take k, x.t ≤ t) ∧ (∀ x, l[k]? = some x → t < x.t) ∧ Mod z w' NoB) :=
    fun z hz => upto_any z n t a cap l (hE.mod hz) hl
  have HA : Hid (∀ z (k : Nat), Mod w z NoB → k ≤ l.length → Calls Try.prog 47 #[.agg #[.int .u64 n, .slice a l.length cap], .int .i64 k] z fun e w' => ∃ (na : Option Addr) (nc : Nat) (N : List Ed), e = .returned (.tuple #[.slice na N.length nc, .int .i64 0]) ∧ Eds w' na N ∧ N.length ≤ l.length ∧ NowOk N (thereOf (l.take k)) ∧ Mod z w' NoB) :=
    fun z k hz hk => after_any z n k a cap l (hE.mod hz) hl hb hc hk hok
  obtain ⟨h0, hh0⟩ : ∃ h0, h0 = w.heap.size := ⟨_, rfl⟩
  obtain ⟨W, hW⟩ : ∃ W, W = w.alloc (.cells #[.int .u64 n, .slice a l.length cap] 25) := ⟨_, rfl⟩
  have HH0 := Lib.hid (HAt.start (n := n) (len := l.length) (cap := cap) hE)
  rw [← hW, ← hh0] at HH0
  have c0 := HH0.out.c0
  have c1 := HH0.out.c1
  have hmx := mixed
  clear hE hb hc hok
  go_enter Try.func22, Try.ntmps22
  go_wp2_with fail
  rw [← hW, ← hh0]
  clear hW hh0
  go_region_held3 (fun z => z.cell? ⟨h0, 0, none⟩ = some (.int .u64 n) ∧ z.cell? ⟨h0, 1, none⟩ = some (.slice a l.length cap))
    (first | exact ⟨c0, c1⟩ | exact ⟨keepc c0 (Mod.drew (Mod.refl W NoB)), keepc c1 (Mod.drew (Mod.refl W NoB))⟩ | exact ⟨H6.out.1.c0, H6.out.1.c1⟩ | exact ⟨H5.out.1.c0, H5.out.1.c1⟩)
    (first
    | (go_at_call 48; refine (HU.out _ (HH0.out.next (Mod.drew (Mod.refl W NoB))).mod).mono ?_; rintro e w5 ⟨k, hk, rfl, k1, k2, hm5⟩; have H5 := Lib.hid (And.intro ((HH0.out.next (Mod.drew (Mod.refl W NoB))).next hm5) (And.intro k1 k2)); clear hm5 k1 k2)
    | (go_at_call 47; refine (HA.out _ k H5.out.1.mod hk).mono ?_; rintro e w6 ⟨na, nc, N, rfl, k3, k4, k5, hm6⟩; have H6 := Lib.hid (And.intro (H5.out.1.next hm6) (And.intro k3 (And.intro k4 k5))); clear hm6 k3 k4 k5))
  all_goals
    go_wp2_with fail
    go_ret2
    exact ⟨k, na, nc, N, hk, H5.out.2.1, H5.out.2.2, rfl, H6.out.2.1, H6.out.2.2.1, H6.out.2.2.2, H6.out.1.mod⟩
end Go.Proofs.Ythncgmmfnghliaa
