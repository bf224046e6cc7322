/- The laws of package scan: known, and contracts with what they come to written out. -/
import Derived.Test.YtekbiaphnpnpgaaDec
namespace Go.Proofs.Ytekbiaphnpnpgaa
open Go.RowKit
set_option linter.unusedVariables false

theorem ScPost.is {w w' : World} {g : Nat} {s : ByteArray} {ln cl : Int} {n : Nat} {er : Int} (h : ScPost w w' g s ln cl n er) (s' : ByteArray) (ln' cl' : Int) (hs : s.extract n s.size = s') (hp : advK ln cl s n = (ln', cl')) :
    Sc w' g s' ln' cl' er ∧ Mod w w' (OneB g) := by
  have h1 := h.sc
  rw [hs, hp] at h1
  exact ⟨h1, h.mod⟩

theorem number_is (v er' : Int) (n : Nat) (s' : ByteArray) (ln' cl' : Int) (w : World) (g : Nat) (s : ByteArray) (ln cl er most : Int) (hSc : Sc w g s ln cl er) (hmo : 0 ≤ most ∧ most < 18446744073709551616)
    (hO : numOut most (L s) er = (v, er', n)) (hs : s.extract n s.size = s') (hp : advK ln cl s n = (ln', cl')) :
    Calls Try.prog 11 #[.pointer (some ⟨g, 0, none⟩), .int .u64 most] w fun e w' => e = .returned (.int .u64 v) ∧ Sc w' g s' ln' cl' er' ∧ Mod w w' (OneB g) := by
  refine (number_any w g s ln cl er most hSc hmo).mono ?_
  rintro e w' ⟨rfl, h⟩
  rw [hO] at h ⊢
  exact ⟨rfl, h.is s' ln' cl' hs hp⟩

theorem word_is (v : Bool) (er' : Int) (n : Nat) (s' : ByteArray) (ln' cl' : Int) (w : World) (g : Nat) (s u : ByteArray) (ln cl er : Int) (hSc : Sc w g s ln cl er) (hu : u.size ≤ maxLen)
    (hO : wordOut (L u) (L s) er = (v, er', n)) (hs : s.extract n s.size = s') (hp : advK ln cl s n = (ln', cl')) :
    Calls Try.prog 14 #[.pointer (some ⟨g, 0, none⟩), .string u] w fun e w' => e = .returned (.bool v) ∧ Sc w' g s' ln' cl' er' ∧ Mod w w' (OneB g) := by
  refine (word_any w g s u ln cl er hSc hu).mono ?_
  rintro e w' ⟨rfl, h⟩
  rw [hO] at h ⊢
  exact ⟨rfl, h.is s' ln' cl' hs hp⟩

theorem byte_is (v : Bool) (er' : Int) (n : Nat) (s' : ByteArray) (ln' cl' : Int) (w : World) (g : Nat) (s : ByteArray) (c : UInt8) (x : Int) (hx : x = c.toNat) (ln cl er : Int) (hSc : Sc w g s ln cl er)
    (hO : wordOut [c] (L s) er = (v, er', n)) (hs : s.extract n s.size = s') (hp : advK ln cl s n = (ln', cl')) :
    Calls Try.prog 21 #[.pointer (some ⟨g, 0, none⟩), .int .u8 x] w fun e w' => e = .returned (.bool v) ∧ Sc w' g s' ln' cl' er' ∧ Mod w w' (OneB g) := by
  subst hx
  refine (byte_any w g s c ln cl er hSc).mono ?_
  rintro e w' ⟨rfl, h⟩
  rw [hO] at h ⊢
  exact ⟨rfl, h.is s' ln' cl' hs hp⟩

theorem small_len (s : ByteArray) (h : s.size ≤ 1000) : s.size ≤ maxLen := by unfold maxLen; omega

set_option maxHeartbeats 1000000 in
theorem known_any (w : World) : Calls Try.prog 8 #[] w fun e w' => e = .returned (.bool true) ∧ Mod w w' NoB := by
  go_enter Try.func8, Try.ntmps8
  go_wp2_with fail
  refine (snew_any _ _ (by decide)).mono ?_
  rintro e w1 ⟨rfl, h1, hm1, hz1⟩
  obtain ⟨g, hg⟩ : ∃ g, g = w.heap.size := ⟨_, rfl⟩
  have HG := Lib.hid hg
  have HM := Lib.hid hm1
  rw [← hg] at h1 ⊢
  clear hg hm1 hz1
  go_wp2_with fail
  refine (number_is 7 0 1 ⟨#[32, 97, 10, 48, 56]⟩ 1 2 _ _ _ _ _ _ _ h1 (by decide) (by decide) (by rfl) (by decide)).mono ?_
  rintro e w2 ⟨rfl, h2, m2⟩
  go_wp2_with fail
  refine (byte_is true 0 1 ⟨#[97, 10, 48, 56]⟩ 1 3 _ _ _ 32 _ (by decide) _ _ _ h2 (by decide) (by rfl) (by decide)).mono ?_
  rintro e w3 ⟨rfl, h3, m3⟩
  go_wp2_with fail
  refine (word_is true 0 2 ⟨#[48, 56]⟩ 2 1 _ _ _ _ _ _ _ h3 (small_len _ (by decide)) (by decide) (by rfl) (by decide)).mono ?_
  rintro e w4 ⟨rfl, h4, m4⟩
  go_wp2_with fail
  refine (number_is 0 21 0 ⟨#[48, 56]⟩ 2 1 _ _ _ _ _ _ _ h4 (by decide) (by decide) (by rfl) (by decide)).mono ?_
  rintro e w5 ⟨rfl, h5, m5⟩
  have HMM := Lib.hid ((((m2.trans m3 (fun _ _ h => h)).trans m4 (fun _ _ h => h)).trans m5 (fun _ _ h => h)))
  clear h1 h2 h3 h4 m2 m3 m4 m5
  go_wp2_with fail
  refine (err_any _ _ _ _ _ _ h5).mono ?_
  rintro e w6 ⟨rfl, rfl⟩
  go_wp2_with fail
  refine (place_any _ _ _ _ _ _ h5).mono ?_
  rintro e w6 ⟨rfl, rfl⟩
  go_wp2_with fail
  refine (byte_is false 21 0 ⟨#[48, 56]⟩ 2 1 _ _ _ 48 _ (by decide) _ _ _ (h5.alloc _) (by decide) (by rfl) (by decide)).mono ?_
  rintro e w6 ⟨rfl, h6, m6⟩
  have H6 := Lib.hid m6
  clear h6 m6 h5
  go_wp2_with fail
  go_ret
  refine ⟨rfl, ?_⟩
  have a1 := (HMM.out.alloc (.cells #[.int .i64 2, .int .i64 1] 31)).trans H6.out (fun _ _ h => h)
  exact HM.out.trans a1 (fun i hi h => by have := HG.out; unfold OneB at h; omega)
end Go.Proofs.Ytekbiaphnpnpgaa
