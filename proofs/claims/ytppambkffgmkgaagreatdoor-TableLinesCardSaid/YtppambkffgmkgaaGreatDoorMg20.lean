/- Merged: LfTb LfTh LfSe -/
import Derived.Test.YtppambkffgmkgaaGreatDoorMg19
import Derived.Test.YtppambkffgmkgaaGreatDoorMg02
section
/- A time to look at; There, at rest. -/
namespace Go.Proofs.YtppambkffgmkgaaGreatDoor
open Go.RowKit
set_option linter.unusedVariables false

end Go.Proofs.YtppambkffgmkgaaGreatDoor
end

section
/- The walk of LifeThere. -/
namespace Go.Proofs.YtppambkffgmkgaaGreatDoor
open Go.RowKit
set_option linter.unusedVariables false

/-- The front of a list that may be, may be. -/
theorem allOk_take {n : Int} : ∀ {l : List Ev} {prev : Option Ev} {there : Ed → Bool} (k : Nat), AllOk n prev there l → AllOk n prev there (l.take k)
  | _, _, _, 0, _ => by simp [AllOk]
  | [], _, _, k + 1, _ => by simp [AllOk]
  | e :: l, prev, there, k + 1, h => ⟨h.1, allOk_take k h.2⟩
theorem allOk_t0 {n : Int} : ∀ {l : List Ev} {prev : Option Ev} {there : Ed → Bool}, AllOk n prev there l → ∀ y ∈ l, 0 ≤ y.t
  | [], _, _, _, y, hy => by simp at hy
  | e :: l, _, _, h, y, hy => by
    rcases List.mem_cons.1 hy with rfl | hy
    · exact (evErr_ok h.1).1.1
    · exact allOk_t0 h.2 y hy
theorem there_plain {n t : Int} {F : List Ev} {X : List Lf} {N : List Ed} {k : Nat} (hok : AllOk n none (fun _ => false) F) (h1 : ∀ x ∈ F.take k, x.t ≤ t) (h2 : ∀ x, F[k]? = some x → t < x.t)
    (hN : NowOk N (thereOf (F.take k))) (hX : X.Perm (raw F)) : ((X.filter (isThere t)).map Lf.e).Perm N := by
  have hb := (allOk_before hok).1
  have h0 := allOk_t0 hok
  have hs : ∀ y ∈ F.drop k, t < y.t := by
    intro y hy
    obtain ⟨j, hj, e⟩ := List.getElem_of_mem hy
    rw [List.getElem_drop] at e
    have hjl : k + j < F.length := by simp at hj; omega
    by_cases hj0 : j = 0
    · subst hj0
      exact h2 y (by rw [List.getElem?_eq_some_iff]; exact ⟨hjl, e⟩)
    · have hk : k < F.length := by omega
      have hlt := h2 F[k] (List.getElem?_eq_getElem hk)
      have := List.pairwise_iff_getElem.1 hb k (k + j) hk hjl (by omega)
      rw [e] at this
      unfold before at this
      omega
  obtain ⟨at2, o⟩ := opn_of (n := n) (F.take k) [] (fun _ => 0) (Opn.nil _) (by simp) none (by simpa [thereOf] using allOk_take k hok)
  rw [List.nil_append] at o
  have hf := there_filter (p := F.take k) (s := F.drop k) (t := t) (fun y hy => h0 y (List.mem_of_mem_take hy)) h1 hs (fun y hy => h0 y (List.mem_of_mem_drop hy))
  rw [List.take_append_drop] at hf
  refine ((hX.filter (isThere t)).map Lf.e).trans ?_
  rw [hf, List.map_map]
  have hce : (Lf.e ∘ closeAll (F.drop k)) = Lf.e := by
    funext x
    show (closeAll (F.drop k) x).e = x.e
    unfold closeAll
    split <;> rfl
  rw [hce]
  exact open_now o hN

/-- How many of the first i are there. -/
def cntT (t : Int) (l : List Lf) (i : Nat) : Nat := ((l.take i).filter (isThere t)).length
theorem cntT_succ {t : Int} {l : List Lf} {i : Nat} {x : Lf} (h : l[i]? = some x) : cntT t l (i + 1) = cntT t l i + (if isThere t x = true then 1 else 0) := by
  unfold cntT
  obtain ⟨h1, h2⟩ := List.getElem?_eq_some_iff.1 h
  rw [List.take_succ_eq_append_getElem h1, h2, List.filter_append, List.length_append]
  congr 1
  by_cases hb : isThere t x = true
  · simp [hb]
  · simp [hb]
theorem cntT_le (t : Int) (l : List Lf) (i : Nat) : cntT t l i ≤ l.length := by
  unfold cntT
  exact Nat.le_trans (List.length_filter_le _ _) (by simp; omega)
theorem isThere_eq (t : Int) (x : Lf) : decide (x.fr ≤ t ∧ (x.to < 0 ∨ t < x.to)) = isThere t x := by
  unfold isThere
  by_cases h1 : x.fr ≤ t <;> by_cases h2 : x.to < 0 <;> by_cases h3 : t < x.to <;> simp [h1, h2, h3]

/-- What stands at the loop. -/
structure TSt2 (w wr : World) (x' na : Option Addr) (X : List Lf) (N : List Ed) : Prop where
  mod : Mod w wr NoB
  lvs : Lvs wr x' X
  eds : Eds wr na N
theorem TSt2.next {w wr w' : World} {x' na : Option Addr} {X : List Lf} {N : List Ed} (h : TSt2 w wr x' na X N) (hm : Mod wr w' NoB) : TSt2 w w' x' na X N :=
  ⟨h.mod.trans hm (fun _ _ c => c), h.lvs.mod hm, h.eds.mod hm⟩

end Go.Proofs.YtppambkffgmkgaaGreatDoor
end

section
/- The reference: SameLives, SameEvents, Same, of what is the same. -/
namespace Go.Proofs.YtppambkffgmkgaaGreatDoor
open Go.RowKit
set_option linter.unusedVariables false

set_option maxRecDepth 100000 in
set_option maxHeartbeats 4000000 in
theorem sameevents_any (w : World) (a b : Option Addr) (ca cb : Nat) (X : List Ev) (hA : Evs w a X) (hB : Evs w b X) (hl : X.length ≤ 100000) :
    Calls Tryz.prog 40 #[.slice a X.length ca, .slice b X.length cb] w fun e w' => e = .returned (.bool true) ∧ Mod w w' NoB := by
  have HA := Lib.hid hA
  have HB := Lib.hid hB
  have hmx := mixed
  clear hA hB
  go_enter Tryz.func40, Tryz.ntmps40
  go_wp2_with fail
  go_loopw [5] (fun v5 wr => ∃ k : Nat, k ≤ X.length ∧ v5 = .int .i64 k ∧ Hid (Mod w wr NoB)) (fun v5 _ => X.length - (intOf v5).toNat)
  case atStart => exact ⟨0, Nat.zero_le _, rfl, Mod.refl _ _⟩
  case round =>
    obtain ⟨k, hk, rfl, HI⟩ := hrel
    by_cases hlt : k < X.length
    · obtain ⟨b1, off1, x, rfl, hbw1, hx, hC1⟩ := (HA.out.mod HI.out).at hlt
      obtain ⟨b2, off2, y, rfl, hbw2, hy, hC2⟩ := (HB.out.mod HI.out).at hlt
      have hyx : y = x := by rw [hx] at hy; exact (Option.some.inj hy).symm
      subst hyx
      have hki : (k : Int) < X.length := by omega
      obtain ⟨c0, c1, c2, c3⟩ := hC1
      obtain ⟨e0, e1, e2, e3⟩ := hC2
      clear hx hy
      go_upto_region 6 with (fail)
      go_quiet (fail)
      go_wp2_with fail
      go_roundw
      case rel => exact ⟨k + 1, by omega, by go_num, HI.out.drewN _⟩
      case measure => simp [intOf]; omega
    · have hkl : k = X.length := by omega
      clear hkl
      go_wp2_with fail
      go_ret
      exact ⟨rfl, HI.out⟩

set_option maxRecDepth 100000 in
set_option maxHeartbeats 4000000 in
theorem same_any (w : World) (n : Int) (a b : Option Addr) (ca cb : Nat) (X : List Ev) (hA : Evs w a X) (hB : Evs w b X) (hl : X.length ≤ 100000) :
    Calls Tryz.prog 13 #[.agg #[.int .u64 n, .slice a X.length ca], .agg #[.int .u64 n, .slice b X.length cb]] w fun e w' => e = .returned (.bool true) ∧ Mod w w' NoB := by
  have hm : Mod w ((w.alloc (.cells #[.int .u64 n, .slice a X.length ca] 25)).alloc (.cells #[.int .u64 n, .slice b X.length cb] 25)) NoB := ((Mod.refl _ _).alloc _).alloc _
  have HS : Hid (Calls Tryz.prog 40 #[.slice a X.length ca, .slice b X.length cb] ((w.alloc (.cells #[.int .u64 n, .slice a X.length ca] 25)).alloc (.cells #[.int .u64 n, .slice b X.length cb] 25))
      fun e w' => e = .returned (.bool true) ∧ Mod w w' NoB) :=
    (sameevents_any _ a b ca cb X (hA.mod hm) (hB.mod hm) hl).mono fun _ _ h => ⟨h.1, hm.trans h.2 (fun _ _ c => c)⟩
  have hmx := mixed
  clear hA hB hm
  go_enter Tryz.func13, Tryz.ntmps13
  go_wp2_with fail
  refine HS.out.mono ?_
  rintro r w1 ⟨rfl, hm⟩
  have HM := Lib.hid hm
  clear hm
  go_wp2_with fail
  go_ret
  exact ⟨rfl, HM.out⟩
end Go.Proofs.YtppambkffgmkgaaGreatDoor
end
