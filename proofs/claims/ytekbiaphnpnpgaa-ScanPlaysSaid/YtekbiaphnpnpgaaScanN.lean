/- The contract of Number. -/
import Derived.Test.YtekbiaphnpnpgaaScan
import Derived.Deep.DeepCutAuto
import Derived.Deep.CutBlock
import Derived.Deep.LoopGhost
namespace Go.Proofs.Ytekbiaphnpnpgaa
open Go.RowKit
set_option linter.unusedVariables false

/-- How many digits a text begins with. -/
def nd (s : ByteArray) : Nat := ((L s).takeWhile isD).length
theorem nd_le (s : ByteArray) : nd s ≤ s.size := by
  unfold nd; rw [← L_len]; exact (List.takeWhile_sublist _).length_le
theorem takeWhile_eq_take {α : Type} (p : α → Bool) : ∀ (l : List α), l.takeWhile p = l.take (l.takeWhile p).length
  | [] => rfl
  | a :: l => by
    by_cases h : p a = true
    · simp only [List.takeWhile_cons, h, if_true, List.length_cons, List.take_succ_cons]; rw [← takeWhile_eq_take p l]
    · simp [h]
theorem nd_take (s : ByteArray) : (L s).takeWhile isD = (L s).take (nd s) := takeWhile_eq_take _ _
theorem nd_digit (s : ByteArray) (k : Nat) (h : k < nd s) (hk : k < s.size) : isD s[k] = true := by
  have h1 : k < ((L s).takeWhile isD).length := h
  have h2 : ((L s).takeWhile isD)[k] = s[k] := by
    have : ((L s).takeWhile isD)[k]? = (L s)[k]? := by rw [nd_take, List.getElem?_take_of_lt h]
    rw [List.getElem?_eq_getElem h1, show (L s)[k]? = some s[k] from at_byte s k hk] at this
    exact Option.some.inj this
  rw [← h2]
  exact List.all_eq_true.1 (List.all_takeWhile) _ (List.getElem_mem h1)
theorem nd_stop (s : ByteArray) (h : nd s < s.size) : isD s[nd s] = false := by
  have key : ∀ (l : List UInt8) (h : (l.takeWhile isD).length < l.length), isD l[(l.takeWhile isD).length] = false := by
    intro l
    induction l with
    | nil => intro h; simp at h
    | cons a l ih =>
      intro h
      by_cases ha : isD a = true
      · simp only [List.takeWhile_cons, ha, if_true, List.length_cons] at h ⊢
        exact ih (by omega)
      · simp [ha]
  have h2 := key (L s) (by rw [L_len]; exact h)
  exact h2

theorem num_err (w : World) (g : Nat) (s : ByteArray) (ln cl er most : Int) (hSc : Sc w g s ln cl er) (he : er ≠ 0) :
    Calls Try.prog 11 #[.pointer (some ⟨g, 0, none⟩), .int .u64 most] w fun e w' => e = .returned (.int .u64 0) ∧ w = w' := by
  obtain ⟨c0, c1, c2, c3, f0, f1, f2, f3⟩ := hSc.cells
  have hg := hSc.lt
  have hb : (er != 0) = true := by simpa using he
  clear he
  go_enter Try.func11, Try.ntmps11
  go_wp2_with fail
  go_ret
  exact ⟨rfl, rfl⟩

set_option maxHeartbeats 1000000 in
set_option maxRecDepth 100000 in
theorem num_short (w : World) (g : Nat) (s : ByteArray) (ln cl most : Int) (hSc : Sc w g s ln cl 0) (h0 : s.size = 0) :
    Calls Try.prog 11 #[.pointer (some ⟨g, 0, none⟩), .int .u64 most] w fun e w' => e = .returned (.int .u64 0) ∧ Sc w' g s ln cl 20 ∧ Mod w w' (OneB g) := by
  obtain ⟨c0, c1, c2, c3, f0, f1, f2, f3⟩ := hSc.cells
  have hg := hSc.lt
  have hb := empty_of h0
  have hlt : ¬ (0 < s.size) := by omega
  have H0 := Lib.hid h0
  clear h0
  go_enter Try.func11, Try.ntmps11
  go_wp2_with fail
  go_loop [5] (fun i => i = .int .i64 0) (fun _ => 0)
  case atStart => rfl
  case round =>
    subst hrel
    go_wp2_with fail
    refine (fail_any _ _ _ _ _ _ _ hSc).mono ?_
    rintro e w1 ⟨rfl, h1, hm1⟩
    rw [if_pos rfl] at h1
    have H1 := Lib.hid (And.intro h1 hm1)
    obtain ⟨d0, d1, d2, d3, _⟩ := h1.cells
    clear h1 hm1
    go_wp2_with fail
    go_loopw [7] (fun i wx => i = .int .i64 0 ∧ wx = w1) (fun _ _ => 0)
    case atStart => exact ⟨rfl, rfl⟩
    case round =>
      obtain ⟨rfl, rfl⟩ := hrel
      go_wp2_with fail
      go_ret
      exact ⟨rfl, H1.out⟩

set_option maxHeartbeats 1000000 in
set_option maxRecDepth 100000 in
theorem num_form (w : World) (g : Nat) (s : ByteArray) (ln cl most : Int) (hSc : Sc w g s ln cl 0) (h0 : 0 < s.size) (hf : nd s = 0 ∨ (1 < nd s ∧ s[0].toNat = 48)) :
    Calls Try.prog 11 #[.pointer (some ⟨g, 0, none⟩), .int .u64 most] w fun e w' => e = .returned (.int .u64 0) ∧ Sc w' g s ln cl 21 ∧ Mod w w' (OneB g) := by
  obtain ⟨c0, c1, c2, c3, f0, f1, f2, f3⟩ := hSc.cells
  have hg := hSc.lt
  have hm := hSc.2.1
  unfold maxLen at hm
  have hb := nonempty_of (s := s) (by omega)
  have HF := Lib.hid hf
  clear hf
  go_enter Try.func11, Try.ntmps11
  go_upto_block 0 with (fail)
  go_cut [5] (fun v wc => v = .int .i64 (nd s) ∧ wc = w)
  case first =>
    go_wp2_with fail
    go_loop [5] (fun i => ∃ k : Nat, k ≤ nd s ∧ i = .int .i64 k) (fun i => nd s - (intOf i).toNat)
    case atStart => exact ⟨0, Nat.zero_le _, rfl⟩
    case round =>
      obtain ⟨k, hk, rfl⟩ := hrel
      have hns := nd_le s
      by_cases hlt : k < nd s
      · have hks : k < s.size := by omega
        have hd := Lib.hid (nd_digit s k hlt hks)
        go_wp2_with fail
        refine (digit_any _ _).mono ?_
        rintro e w1 ⟨rfl, rfl⟩
        rw [hd.out]
        go_wp2_with fail
        go_round
        case rel => exact ⟨k + 1, by omega, by go_num⟩
        case measure => simp [intOf]; omega
      · obtain rfl : k = nd s := by omega
        by_cases hks : nd s < s.size
        · have hd := Lib.hid (nd_stop s hks)
          go_wp2_with fail
          refine (digit_any _ _).mono ?_
          rintro e w1 ⟨rfl, rfl⟩
          rw [hd.out]
          go_wp2_with fail
          go_meet
          case rel => exact ⟨rfl, rfl⟩
        · go_wp2_with fail
          go_meet
          case rel => exact ⟨rfl, rfl⟩
  case rest =>
    obtain ⟨rfl, rfl⟩ := hcut
    have hns := nd_le s
    by_cases hz : nd s = 0
    · have hz1 : ((nd s : Int) == 0) = true := by simp [hz]
      have hz2 : ¬ (0 < nd s) := by omega
      clear hz
      go_wp2_with fail
      refine (fail_any _ _ _ _ _ _ _ hSc).mono ?_
      rintro e w1 ⟨rfl, h1, hm1⟩
      rw [if_pos rfl] at h1
      have H1 := Lib.hid (And.intro h1 hm1)
      obtain ⟨d0, d1, d2, d3, _⟩ := h1.cells
      clear h1 hm1
      go_wp2_with fail
      go_loopw [7] (fun i wx => i = .int .i64 0 ∧ wx = w1) (fun _ _ => 0)
      case atStart => exact ⟨rfl, rfl⟩
      case round =>
        obtain ⟨rfl, rfl⟩ := hrel
        go_wp2_with fail
        go_ret
        exact ⟨rfl, H1.out⟩
    · have hz1 : ((nd s : Int) == 0) = false := by simp; omega
      have hz3 : (1 : Int) < (nd s : Int) := by have := HF.out; omega
      have hz4 : (((s[0].toNat : Nat) : Int) == 48) = true := by have := HF.out; simp; omega
      clear hz
      go_wp2_with fail
      refine (fail_any _ _ _ _ _ _ _ hSc).mono ?_
      rintro e w1 ⟨rfl, h1, hm1⟩
      rw [if_pos rfl] at h1
      have H1 := Lib.hid (And.intro h1 hm1)
      obtain ⟨d0, d1, d2, d3, _⟩ := h1.cells
      clear h1 hm1
      go_wp2_with fail
      go_loopw [7] (fun i wx => i = .int .i64 0 ∧ wx = w1) (fun _ _ => 0)
      case atStart => exact ⟨rfl, rfl⟩
      case round =>
        obtain ⟨rfl, rfl⟩ := hrel
        go_wp2_with fail
        go_ret
        exact ⟨rfl, H1.out⟩
end Go.Proofs.Ytekbiaphnpnpgaa
