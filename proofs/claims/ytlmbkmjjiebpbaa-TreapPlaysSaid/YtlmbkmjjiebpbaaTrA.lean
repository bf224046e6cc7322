/- The contracts of package treap: has, root, set, free. -/
import Derived.Test.YtlmbkmjjiebpbaaTrMem
import Derived.Test.YtlmbkmjjiebpbaaTrF
namespace Go.Proofs.Ytlmbkmjjiebpbaa
open Go.RowKit
set_option linter.unusedVariables false

theorem bounds_len {n cap : Nat} (h1 : n ≤ 1048576) : (n : Int) ≤ 1048576 := by omega

theorem has_any (w : World) (g n cap : Nat) (a : Option Addr) (z : Int) (c0 : w.cell? ⟨g, 0, none⟩ = some (.slice a n cap)) :
    Calls Try.prog 25 #[.pointer (some ⟨g, 0, none⟩), .int .i64 z] w fun e w' => e = .returned (.bool (decide (0 ≤ z ∧ z < n))) ∧ w = w' := by
  have hg := World.block_lt_of_cell? _ _ c0
  by_cases h0 : 0 ≤ z
  · by_cases h1 : z < n
    · rw [show decide (0 ≤ z ∧ z < n) = true by simp [h0, h1]]
      go_enter Try.func25, Try.ntmps25
      go_wp2_with fail
      go_ret
      exact ⟨rfl, rfl⟩
    · rw [show decide (0 ≤ z ∧ z < n) = false by simp; omega]
      go_enter Try.func25, Try.ntmps25
      go_wp2_with fail
      go_ret
      exact ⟨rfl, rfl⟩
  · rw [show decide (0 ≤ z ∧ z < n) = false by simp; omega]
    go_enter Try.func25, Try.ntmps25
    go_wp2_with fail
    go_ret
    exact ⟨rfl, rfl⟩

theorem root_any (w : World) (g b n cap : Nat) (f : Nat → Nd) (t : Tr) (x : Nat) (hI : In w g b n cap f) (hW : Whole f n t) (hx : x ∈ t.ids) :
    Calls Try.prog 26 #[.pointer (some ⟨g, 0, none⟩), .int .i64 x] w fun e w' => e = .returned (.int .i64 t.root) ∧ w = w' := by
  have cg := hI.c0
  have hg := hI.gl
  have hb := hI.bl
  have htop := hI.top
  have hcap := hI.capb (by have := hW.lt x hx; omega)
  unfold maxLen at hcap
  have HW := Lib.hid hW
  have HI := Lib.hid hI
  have HX := Lib.hid hx
  clear hI hW hx
  obtain ⟨wo, rfl⟩ : ∃ wo, wo = w := ⟨_, rfl⟩
  go_enter Try.func26, Try.ntmps26
  go_wp2_with fail
  go_loopw [1] (fun i wr => ∃ y : Nat, i = .int .i64 y ∧ Hid (y ∈ t.ids) ∧ wr = wo) (fun i _ => t.depth (intOf i).toNat)
  case atStart => exact ⟨x, rfl, HX, rfl⟩
  case round =>
    obtain ⟨y, rfl, HY, rfl⟩ := hrel
    have hyn : y < n := HW.out.lt y HY.out
    obtain ⟨c1, _⟩ := HI.out.cell hyn
    have hyi : (y : Int) < n := by omega
    by_cases hr : (y : Int) = t.root
    · have hu := HW.out.up y hr.symm
      rw [hu] at c1
      have HE := Lib.hid hr
      clear hr hu
      go_wp2_with fail
      go_ret
      exact ⟨by rw [HE.out]; rfl, rfl⟩
    · obtain ⟨p, e1, e2, e3, _⟩ := up_step HW.out.tree HW.out.nd HY.out hr
      rw [e1] at c1
      have hne : ((p : Int) != -1) = true := by simp
      have HP := Lib.hid (And.intro e2 e3)
      clear e1 e2 e3 hr
      go_wp2_with fail
      go_roundw
      case rel => exact ⟨p, rfl, HP.out.1, by first | rfl | trivial⟩
      case measure => simp [intOf]; exact HP.out.2

/-- What 'set' answers, and what it leaves. -/
structure SetPost (w w' : World) (g b n cap : Nat) (f' : Nat → Nd) : Prop where
  inn : In w' g b n cap f'
  mod : Mod w w' (OneB b)
  size : w'.heap.size = w.heap.size

theorem SetPost.up {w w' : World} {g b n cap : Nat} {f : Nat → Nd} (h : SetPost w w' g b n cap f) {x : Nat} (hx : x < n) (v : Int) : SetPost w (w'.setCell ⟨b, x * 5, none⟩ (.int .i64 v)) g b n cap (setUp f x v) :=
  ⟨h.inn.storeUp hx v, h.mod.setG _, by simpa [World.setCell] using h.size⟩

set_option maxHeartbeats 1000000 in
theorem set_any (w : World) (g b n cap : Nat) (f : Nat → Nd) (x : Nat) (l r : Int) (hI : In w g b n cap f) (hx : x < n) (hl : Ok n l) (hr : Ok n r) (bl : 0 ≤ sz f l ∧ sz f l ≤ 1048576) (br : 0 ≤ sz f r ∧ sz f r ≤ 1048576) :
    Calls Try.prog 33 #[.pointer (some ⟨g, 0, none⟩), .int .i64 x, .int .i64 l, .int .i64 r] w fun e w' => e = .returned (.int .i64 x) ∧ SetPost w w' g b n cap (setN f x l r) := by
  obtain ⟨c0, c1, c2, c3, c4⟩ := hI.cell hx
  have d1 := hI.fr (x * 5 + 1)
  have d2 := hI.fr (x * 5 + 2)
  have d3 := hI.fr (x * 5 + 3)
  have cg := hI.c0
  have hg := hI.gl
  have hb := hI.bl
  have htop := hI.top
  have hcap := hI.capb (by omega)
  unfold maxLen at hcap
  have hx' : (x : Int) < n := by omega
  have hbg := hI.ne
  have HI := Lib.hid hI
  clear hI
  have HL := Lib.hid hl
  have HR0 := Lib.hid hr
  have i0 : ∀ u : World, (Instr.index 59 (.agg #[.int .i64 l, .int .i64 r]) (.int .i64 0)).run Try.prog u = .ok (.int .i64 l) u := fun _ => by kernel_rfl
  have i1 : ∀ u : World, (Instr.index 59 (.agg #[.int .i64 l, .int .i64 r]) (.int .i64 1)).run Try.prog u = .ok (.int .i64 r) u := fun _ => by kernel_rfl
  have hfs : ∃ f0 f1 f2, f0 = setIn f x l r (sz f l + 1 + sz f r) ∧ f1 = setUp f0 l x ∧ f2 = setUp f1 r x := ⟨_, _, _, rfl, rfl, rfl⟩
  obtain ⟨f0, f1, f2, hfs⟩ := hfs
  have HF := Lib.hid hfs
  clear hfs
  rcases hl with rfl | ⟨y1, rfl, hy1⟩ <;> rcases hr with rfl | ⟨y2, rfl, hy2⟩
  all_goals
    go_enter Try.func33, Try.ntmps33
    go_wp2_with fail
    refine (size_any _ _ _ _ _ _ _ HI.out HL.out).mono ?_
    rintro e w1 ⟨rfl, rfl⟩
    go_wp2_with fail
    refine (size_any _ _ _ _ _ _ _ HI.out HR0.out).mono ?_
    rintro e w1 ⟨rfl, rfl⟩
    go_wp2_with fail
    go_loopw [40] (fun i wr => (i = .int .i64 0 ∧ Hid (SetPost w wr g b n cap f0)) ∨ (i = .int .i64 1 ∧ Hid (SetPost w wr g b n cap f1)) ∨ (i = .int .i64 2 ∧ Hid (SetPost w wr g b n cap f2))) (fun i _ => 2 - (intOf i).toNat)
    case atStart => exact Or.inl ⟨rfl, by rw [HF.out.1]; exact HI.out.storeIn hx _ _ _, ((Mod.set1 _ _ _ _).setG _).setG _, by simp [World.setCell]⟩
    case round =>
      clear c0 c1 c2 c3 c4 d1 d2 d3 cg
      rcases hrel with ⟨rfl, HR⟩ | ⟨rfl, HR⟩ | ⟨rfl, HR⟩
      · have cg := HR.out.inn.c0
        have hgr := HR.out.inn.gl
        have hbr := HR.out.inn.bl
        first
        | (have hyi : (y1 : Int) < n := by omega
           obtain ⟨c1, _⟩ := HR.out.inn.cell hy1
           have d1 := HR.out.inn.fr (y1 * 5)
           have hne : ((y1 : Int) != -1) = true := by simp
           go_wp2_with fail
           go_roundw
           case rel => exact Or.inr (Or.inl ⟨rfl, by rw [HF.out.2.1]; exact HR.out.up hy1 _⟩)
           case measure => simp [intOf])
        | (go_wp2_with fail
           go_roundw
           case rel => exact Or.inr (Or.inl ⟨rfl, by rw [HF.out.2.1, setUp_neg]; exact HR.out⟩)
           case measure => simp [intOf])
      · have cg := HR.out.inn.c0
        have hgr := HR.out.inn.gl
        have hbr := HR.out.inn.bl
        first
        | (have hyi : (y2 : Int) < n := by omega
           obtain ⟨c1, _⟩ := HR.out.inn.cell hy2
           have d1 := HR.out.inn.fr (y2 * 5)
           have hne : ((y2 : Int) != -1) = true := by simp
           go_wp2_with fail
           go_roundw
           case rel => exact Or.inr (Or.inr ⟨rfl, by rw [HF.out.2.2]; exact HR.out.up hy2 _⟩)
           case measure => simp [intOf])
        | (go_wp2_with fail
           go_roundw
           case rel => exact Or.inr (Or.inr ⟨rfl, by rw [HF.out.2.2, setUp_neg]; exact HR.out⟩)
           case measure => simp [intOf])
      · go_wp2_with fail
        go_ret
        exact ⟨rfl, by have := HR.out; rw [HF.out.2.2, HF.out.2.1, HF.out.1] at this; exact this⟩

/-- What 'free' leaves: the 'up' of each is none. -/
def freeN (f : Nat → Nd) : List Int → Nat → Nd
  | [] => f
  | z :: l => freeN (setUp f z (-1)) l
theorem freeN_snoc (f : Nat → Nd) (l : List Int) (z : Int) : freeN f (l ++ [z]) = setUp (freeN f l) z (-1) := by
  induction l generalizing f with
  | nil => rfl
  | cons a l ih => simp [freeN, ih]

theorem free_any (w : World) (g b n cap : Nat) (f : Nat → Nd) (h m : Nat) (zs : List Int) (hI : In w g b n cap f) (hh : h ≠ b) (hm : zs.length = m) (hm2 : m ≤ 2) (hz : ∀ z ∈ zs, Ok n z) (hc : ∀ i, i < m → w.cell? ⟨h, i, none⟩ = some (.int .i64 (zs.getD i 0))) :
    Calls Try.prog 27 #[.pointer (some ⟨g, 0, none⟩), .slice (some ⟨h, 0, none⟩) m m] w fun e w' => e = .returned (.tuple #[]) ∧ SetPost w w' g b n cap (freeN f zs) := by
  have HI := Lib.hid hI
  have hg := hI.gl
  have htop := hI.top
  have HC := Lib.hid hc
  have HZ := Lib.hid hz
  clear hI hc hz
  go_enter Try.func27, Try.ntmps27
  go_wp2_with fail
  go_loopw [8] (fun i wr => ∃ k : Nat, k ≤ m ∧ i = .int .i64 k ∧ Hid (SetPost w wr g b n cap (freeN f (zs.take k)))) (fun i _ => m - (intOf i).toNat)
  case atStart => exact ⟨0, Nat.zero_le _, rfl, by simpa [freeN] using HI.out, Mod.refl _ _, rfl⟩
  case round =>
    obtain ⟨k, hk, rfl, HR⟩ := hrel
    have cg := HR.out.inn.c0
    have hgr := HR.out.inn.gl
    have hbr := HR.out.inn.bl
    by_cases hlt : k < m
    · have cz : wr.cell? ⟨h, k, none⟩ = some (.int .i64 (zs.getD k 0)) := (HR.out.mod.cell (World.block_lt_of_cell? _ _ (HC.out k hlt)) (by unfold OneB; exact hh)).trans (HC.out k hlt)
      have hzk : zs.getD k 0 ∈ zs := by simp [List.getD_eq_getElem?_getD, List.getElem?_eq_getElem (show k < zs.length by omega)]
      have hok := HZ.out _ hzk
      have HS : Hid (zs.take (k + 1) = zs.take k ++ [zs.getD k 0]) := by
        unfold Hid
        rw [List.take_succ_eq_append_getElem (by omega)]
        simp [List.getD_eq_getElem?_getD, List.getElem?_eq_getElem (show k < zs.length by omega)]
      generalize zs.getD k 0 = z at *
      rcases hok with rfl | ⟨y, rfl, hy⟩
      · go_wp2_with fail
        go_roundw
        case rel => exact ⟨k + 1, by omega, by go_num, by rw [HS.out, freeN_snoc, setUp_neg]; exact HR.out⟩
        case measure => simp [intOf]; omega
      · have hyi : (y : Int) < n := by omega
        obtain ⟨c1, _⟩ := HR.out.inn.cell hy
        have d1 := HR.out.inn.fr (y * 5)
        have hne : ((y : Int) != -1) = true := by simp
        have hcap := HR.out.inn.capb (by omega)
        unfold maxLen at hcap
        go_wp2_with fail
        go_roundw
        case rel => exact ⟨k + 1, by omega, by go_num, by rw [HS.out, freeN_snoc]; exact HR.out.up hy _⟩
        case measure => simp [intOf]; omega
    · have hkm : k = m := by omega
      subst hkm
      go_wp2_with fail
      go_end0
      refine ⟨rfl, ?_⟩
      have := HR.out
      rwa [List.take_of_length_le (by omega)] at this
end Go.Proofs.Ytlmbkmjjiebpbaa
