/- Merged: LfTa LfTb LfTh -/
import Derived.Test.YtggnkefhegnokaaDoorMg10
import Derived.Test.YtggnkefhegnokaaDoorMg02
section
/- The reference: Upto and After. -/
namespace Go.Proofs.YtggnkefhegnokaaDoor
open Go.RowKit
set_option linter.unusedVariables false

/-- A history in a block of its own, and its events. -/
structure HAt (w wr : World) (h0 : Nat) (n : Int) (a : Option Addr) (len cap : Nat) (l : List Ev) : Prop where
  mod : Mod w wr NoB
  c0 : wr.cell? ⟨h0, 0, none⟩ = some (.int .u64 n)
  c1 : wr.cell? ⟨h0, 1, none⟩ = some (.slice a len cap)
  evs : Evs wr a l
theorem HAt.next {w wr w' : World} {h0 len cap : Nat} {n : Int} {a : Option Addr} {l : List Ev} (h : HAt w wr h0 n a len cap l) (hm : Mod wr w' NoB) : HAt w w' h0 n a len cap l :=
  ⟨h.mod.trans hm (fun _ _ c => c), keepc h.c0 hm, keepc h.c1 hm, h.evs.mod hm⟩
theorem HAt.start {w : World} {n : Int} {a : Option Addr} {len cap : Nat} {l : List Ev} (h : Evs w a l) : HAt w (w.alloc (.cells #[.int .u64 n, .slice a len cap] 25)) w.heap.size n a len cap l :=
  ⟨(Mod.refl _ _).alloc _, World.cell?_alloc_at _ _ _ _ rfl, World.cell?_alloc_at _ _ _ _ rfl, h.mod ((Mod.refl _ _).alloc _)⟩

/-- What After keeps. -/
structure NSt (w0 wr : World) (h0 : Nat) (n : Int) (a : Option Addr) (len cap : Nat) (l : List Ev) (i : Nat) (na : Option Addr) (nc : Nat) (N : List Ed) : Prop where
  h : HAt w0 wr h0 n a len cap l
  eds : Eds wr na N
  plain : Plain na
  cap : N.length ≤ nc
  len : N.length ≤ i
  now : NowOk N (thereOf (l.take i))

theorem allOk_at {n : Int} : ∀ {l : List Ev} {prev : Option Ev} {there : Ed → Bool} (i : Nat) (x : Ev), AllOk n prev there l → l[i]? = some x → (l.take i).foldl turn there x.e ≠ x.add
  | [], _, _, i, x, _, h => by simp at h
  | y :: l, prev, there, 0, x, h, hx => by
    cases hx
    obtain ⟨h1, _⟩ := h
    obtain ⟨_, _, _, hne⟩ := evErr_ok h1
    simpa using hne
  | y :: l, prev, there, i + 1, x, h, hx => by
    have := allOk_at i x h.2 (by simpa using hx)
    simpa using this

set_option maxRecDepth 100000 in
set_option maxHeartbeats 4000000 in
theorem after_any (w : World) (n : Int) (k : Nat) (a : Option Addr) (cap : Nat) (l : List Ev) (hE : Evs w a l) (hl : l.length ≤ 100000) (hb : ∀ x ∈ l, EvB x) (hc : chk n l = (0, 0)) (hk : k ≤ l.length) (hok : AllOk n none (fun _ => false) l) :
    Calls Tryd.prog 50 #[.agg #[.int .u64 n, .slice a l.length cap], .int .i64 k] w fun e w' => ∃ (na : Option Addr) (nc : Nat) (N : List Ed), e = .returned (.tuple #[.slice na N.length nc, .int .i64 0]) ∧ Eds w' na N ∧ N.length ≤ l.length ∧ NowOk N (thereOf (l.take k)) ∧ Mod w w' NoB := by
  have HH0 := Lib.hid (HAt.start (n := n) (len := l.length) (cap := cap) hE)
  have HCK : Hid (∀ z, Evs z a l → Calls Tryd.prog 33 #[.agg #[.int .u64 n, .slice a l.length cap]] z fun e w' => e = .returned (.tuple #[.int .i64 0, .int .i64 0]) ∧ Mod z w' NoB) := fun z hz => by
    have := rcheck_any z n a cap l hz hl hb
    rw [hc] at this
    exact this
  have HOK := Lib.hid (fun i x => allOk_at (n := n) i x hok)
  obtain ⟨h0, hh0⟩ : ∃ h0, h0 = w.heap.size := ⟨_, rfl⟩
  obtain ⟨W, hW⟩ : ∃ W, W = w.alloc (.cells #[.int .u64 n, .slice a l.length cap] 25) := ⟨_, rfl⟩
  rw [← hW, ← hh0] at HH0
  have hmx := mixed
  clear hE hb hc hok
  have c0 := HH0.out.c0
  have c1 := HH0.out.c1
  go_enter Tryd.func50, Tryd.ntmps50
  go_wp2_with fail
  rw [← hW, ← hh0]
  clear hW hh0
  refine (HCK.out _ HH0.out.evs).mono ?_
  rintro e w1 ⟨rfl, hm⟩
  have HH1 := Lib.hid (HH0.out.next hm)
  clear hm c0 c1 HCK HH0
  go_wp2_with fail
  go_loopw [8, 9] (fun v8 v9 wr => ∃ (i : Nat) (na : Option Addr) (nc : Nat) (N : List Ed), i ≤ k ∧ v8 = .slice na N.length nc ∧ v9 = .int .i64 i ∧ Hid (NSt w wr h0 n a l.length cap l i na nc N)) (fun _ v9 _ => k - (intOf v9).toNat)
  case atStart => exact ⟨0, none, 0, [], Nat.zero_le _, rfl, rfl, HH1.out, Or.inl rfl, Or.inl rfl, by simp, by simp, by simpa [thereOf] using NowOk.nil⟩
  case round =>
    obtain ⟨i, na, nc, N, hi, rfl, rfl, HI⟩ := hrel
    have ch1 := HI.out.h.c1
    have hNi := HI.out.len
    by_cases hlt : i < k
    · obtain ⟨b, off, x, rfl, hbw, hx, hC⟩ := HI.out.h.evs.at (show i < l.length by omega)
      have hlt2 : (i : Int) < l.length := by omega
      have hki : (i : Int) < k := by omega
      have hwk : IntKind.i64.wrap (i : Int) = (i : Int) := IntWalk.i64_in _ (by omega)
      have HX := Lib.hid hx
      obtain ⟨c0, c1, c2, c3⟩ := hC
      clear hx hbw
      go_wp2_with fail
      have hne := HOK.out i x HX.out
      obtain ⟨N2, ht2, hn2⟩ := HI.out.now.some (e := x) hne
      refine (turn_any _ na nc N x HI.out.eds HI.out.plain (by omega) HI.out.cap HI.out.now.sorted).mono ?_
      rintro r w7 ⟨_, h8⟩
      obtain ⟨na', nc', rfl, q1, q2, q3, hm7⟩ := h8 N2 ht2
      have hN2 := turnL_len ht2
      have htk : thereOf (l.take (i + 1)) = turn (thereOf (l.take i)) x := by
        obtain ⟨p1, p2⟩ := List.getElem?_eq_some_iff.1 HX.out
        rw [List.take_succ_eq_append_getElem p1, p2, thereOf_snoc]
      have HF : Hid (NSt w w7 h0 n (some ⟨b, off, none⟩) l.length cap l (i + 1) na' nc' N2) := ⟨HI.out.h.next hm7, q1, q2.1, q3, by omega, by rw [htk]; exact hn2⟩
      clear h8 ht2 hn2 q1 q2 q3 hm7 hN2 htk hne c0 c1 c2 c3 ch1
      go_wp2_with fail
      go_roundw
      case rel => exact ⟨i + 1, na', nc', N2, by omega, rfl, by go_num, HF.out⟩
      case measure => simp [intOf]; omega
    · have hik : i = k := by omega
      subst hik
      have hirr : ¬ (i : Int) < i := by omega
      by_cases hil : i < l.length
      · have hil2 : (i : Int) < l.length := by omega
        go_wp2_with fail
        go_ret2
        exact ⟨na, nc, N, rfl, HI.out.eds, by omega, HI.out.now, HI.out.h.mod⟩
      · have hil2 : ¬ (i : Int) < l.length := by omega
        go_wp2_with fail
        go_ret2
        exact ⟨na, nc, N, rfl, HI.out.eds, by omega, HI.out.now, HI.out.h.mod⟩

end Go.Proofs.YtggnkefhegnokaaDoor
end

section
/- A time to look at; There, at rest. -/
namespace Go.Proofs.YtggnkefhegnokaaDoor
open Go.RowKit
set_option linter.unusedVariables false

end Go.Proofs.YtggnkefhegnokaaDoor
end

section
/- The walk of LifeThere. -/
namespace Go.Proofs.YtggnkefhegnokaaDoor
open Go.RowKit
set_option linter.unusedVariables false

/-- The front of a list that may be, may be. -/
theorem allOk_take {n : Int} : ∀ {l : List Ev} {prev : Option Ev} {there : Ed → Bool} (k : Nat), AllOk n prev there l → AllOk n prev there (l.take k)
  | _, _, _, 0, _ => by simp [AllOk]
  | [], _, _, k + 1, _ => by simp [AllOk]
  | e :: l, prev, there, k + 1, h => ⟨h.1, allOk_take k h.2⟩
theorem allOk_t0 {n : Int} : ∀ {l : List Ev} {prev : Option Ev} {there : Ed → Bool}, AllOk n prev there l → ∀ y ∈ l, 0 ≤ y.t
  | [], _, _, _, y, hy => by simp at hy
  | e :: l, _, _, h, y, hy => by
    rcases List.mem_cons.1 hy with rfl | hy
    · exact (evErr_ok h.1).1.1
    · exact allOk_t0 h.2 y hy
theorem there_plain {n t : Int} {F : List Ev} {X : List Lf} {N : List Ed} {k : Nat} (hok : AllOk n none (fun _ => false) F) (h1 : ∀ x ∈ F.take k, x.t ≤ t) (h2 : ∀ x, F[k]? = some x → t < x.t)
    (hN : NowOk N (thereOf (F.take k))) (hX : X.Perm (raw F)) : ((X.filter (isThere t)).map Lf.e).Perm N := by
  have hb := (allOk_before hok).1
  have h0 := allOk_t0 hok
  have hs : ∀ y ∈ F.drop k, t < y.t := by
    intro y hy
    obtain ⟨j, hj, e⟩ := List.getElem_of_mem hy
    rw [List.getElem_drop] at e
    have hjl : k + j < F.length := by simp at hj; omega
    by_cases hj0 : j = 0
    · subst hj0
      exact h2 y (by rw [List.getElem?_eq_some_iff]; exact ⟨hjl, e⟩)
    · have hk : k < F.length := by omega
      have hlt := h2 F[k] (List.getElem?_eq_getElem hk)
      have := List.pairwise_iff_getElem.1 hb k (k + j) hk hjl (by omega)
      rw [e] at this
      unfold before at this
      omega
  obtain ⟨at2, o⟩ := opn_of (n := n) (F.take k) [] (fun _ => 0) (Opn.nil _) (by simp) none (by simpa [thereOf] using allOk_take k hok)
  rw [List.nil_append] at o
  have hf := there_filter (p := F.take k) (s := F.drop k) (t := t) (fun y hy => h0 y (List.mem_of_mem_take hy)) h1 hs (fun y hy => h0 y (List.mem_of_mem_drop hy))
  rw [List.take_append_drop] at hf
  refine ((hX.filter (isThere t)).map Lf.e).trans ?_
  rw [hf, List.map_map]
  have hce : (Lf.e ∘ closeAll (F.drop k)) = Lf.e := by
    funext x
    show (closeAll (F.drop k) x).e = x.e
    unfold closeAll
    split <;> rfl
  rw [hce]
  exact open_now o hN

/-- How many of the first i are there. -/
def cntT (t : Int) (l : List Lf) (i : Nat) : Nat := ((l.take i).filter (isThere t)).length
theorem cntT_succ {t : Int} {l : List Lf} {i : Nat} {x : Lf} (h : l[i]? = some x) : cntT t l (i + 1) = cntT t l i + (if isThere t x = true then 1 else 0) := by
  unfold cntT
  obtain ⟨h1, h2⟩ := List.getElem?_eq_some_iff.1 h
  rw [List.take_succ_eq_append_getElem h1, h2, List.filter_append, List.length_append]
  congr 1
  by_cases hb : isThere t x = true
  · simp [hb]
  · simp [hb]
theorem cntT_le (t : Int) (l : List Lf) (i : Nat) : cntT t l i ≤ l.length := by
  unfold cntT
  exact Nat.le_trans (List.length_filter_le _ _) (by simp; omega)
theorem isThere_eq (t : Int) (x : Lf) : decide (x.fr ≤ t ∧ (x.to < 0 ∨ t < x.to)) = isThere t x := by
  unfold isThere
  by_cases h1 : x.fr ≤ t <;> by_cases h2 : x.to < 0 <;> by_cases h3 : t < x.to <;> simp [h1, h2, h3]

/-- What stands at the loop. -/
structure TSt2 (w wr : World) (x' na : Option Addr) (X : List Lf) (N : List Ed) : Prop where
  mod : Mod w wr NoB
  lvs : Lvs wr x' X
  eds : Eds wr na N
theorem TSt2.next {w wr w' : World} {x' na : Option Addr} {X : List Lf} {N : List Ed} (h : TSt2 w wr x' na X N) (hm : Mod wr w' NoB) : TSt2 w w' x' na X N :=
  ⟨h.mod.trans hm (fun _ _ c => c), h.lvs.mod hm, h.eds.mod hm⟩

end Go.Proofs.YtggnkefhegnokaaDoor
end
