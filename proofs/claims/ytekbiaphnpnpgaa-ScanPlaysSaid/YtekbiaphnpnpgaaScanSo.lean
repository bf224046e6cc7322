/- 'some': a text of at most 23 bytes a step; both scanners side by side. -/
import Derived.Test.YtekbiaphnpnpgaaScanNu
import Derived.Test.YtekbiaphnpnpgaaActs
namespace Go.Proofs.Ytekbiaphnpnpgaa
open Go.RowKit
set_option linter.unusedVariables false

/-- The words are there. -/
def Words (w : World) (gp : Nat) : Prop := gp < w.heap.size ∧ ∀ j, j < 13 → ∃ t : ByteArray, w.cell? ⟨gp, j, none⟩ = some (.string t) ∧ t.size ≤ 23

set_option maxHeartbeats 4000000 in
theorem some_any (a0 : Option Addr) (len0 cap0 : Nat) (z0 : List Int) (w : World) (w0 : IsRow .u8 w a0 len0 cap0 z0) (h20 : len0 ≤ 20) :
    Calls Try.prog 15 #[.slice a0 len0 cap0] w fun e w' => ∃ t : ByteArray, e = .returned (.string t) ∧ t.size ≤ 460 ∧ Mod w w' NoB := by
  have HA := Lib.hid w0
  clear w0
  go_enter Try.func15, Try.ntmps15
  go_wp2_with fail
  obtain ⟨gp, hgp⟩ : ∃ gp, gp = w.heap.size := ⟨_, rfl⟩
  obtain ⟨W, hW⟩ : ∃ W, W = w.alloc (.cells #[.string ⟨#[48]⟩, .string ⟨#[49]⟩, .string ⟨#[57]⟩, .string ⟨#[32]⟩, .string ⟨#[10]⟩, .string ⟨#[115, 101, 101, 107]⟩, .string ⟨#[49, 50]⟩, .string ⟨#[48, 48, 55]⟩,
    .string ⟨#[57, 57, 57, 57, 57, 57, 57, 57, 57, 57, 57, 57, 57, 57, 57, 57, 57, 57, 57, 57, 57, 57, 57]⟩, .string ⟨#[45]⟩, .string ⟨#[49, 56, 52, 52, 54, 55, 52, 52, 48, 55, 51, 55, 48, 57, 53, 53, 49, 54, 49, 53]⟩, .string ⟨#[120]⟩, .string ⟨#[97, 32, 98]⟩] 9) := ⟨_, rfl⟩
  have HM : Hid (Mod w W NoB) := by rw [hW]; exact (Mod.refl w _).alloc _
  have HWD : Hid (Words W gp) := by
    subst hW hgp
    refine ⟨by simp, fun j hj => ?_⟩
    rw [World.cell?_alloc_at _ _ _ _ rfl]
    match j, hj with
    | 0, _ => exact ⟨_, rfl, by decide⟩
    | 1, _ => exact ⟨_, rfl, by decide⟩
    | 2, _ => exact ⟨_, rfl, by decide⟩
    | 3, _ => exact ⟨_, rfl, by decide⟩
    | 4, _ => exact ⟨_, rfl, by decide⟩
    | 5, _ => exact ⟨_, rfl, by decide⟩
    | 6, _ => exact ⟨_, rfl, by decide⟩
    | 7, _ => exact ⟨_, rfl, by decide⟩
    | 8, _ => exact ⟨_, rfl, by decide⟩
    | 9, _ => exact ⟨_, rfl, by decide⟩
    | 10, _ => exact ⟨_, rfl, by decide⟩
    | 11, _ => exact ⟨_, rfl, by decide⟩
    | 12, _ => exact ⟨_, rfl, by decide⟩
  rw [← hgp, ← hW]
  clear hgp hW
  go_loopw [4, 5] (fun t i wr => ∃ (k : Nat) (s : ByteArray), k ≤ len0 ∧ s.size ≤ k * 23 ∧ t = .string s ∧ i = .int .i64 k ∧ wr = W) (fun _ i _ => len0 - (intOf i).toNat)
  case atStart => exact ⟨0, ⟨#[]⟩, Nat.zero_le _, by decide, rfl, rfl, rfl⟩
  case round =>
    obtain ⟨k, s, hk, hs, rfl, rfl, rfl⟩ := hrel
    by_cases hlt : k < len0
    · obtain ⟨b, off, rfl, hbw, hc0, hwf⟩ := isrow_at HA.out hlt
      have hc : wr.cell? ⟨b, off + k, none⟩ = some (.int .u8 (z0.getD k 0)) := (HM.out.cell hbw (by simp [NoB])).trans hc0
      have hbr : b < wr.heap.size := Nat.lt_of_lt_of_le hbw HM.out.size
      obtain ⟨z, hz⟩ : ∃ z, z = z0.getD k 0 := ⟨_, rfl⟩
      rw [← hz] at hc hwf
      obtain ⟨hz0, hz1⟩ := bounds_u8 hwf
      obtain ⟨j, hj⟩ : ∃ j : Nat, z % 13 = (j : Int) := ⟨(z % 13).toNat, by omega⟩
      have hj13 : j < 13 := by omega
      obtain ⟨t, ht, hts⟩ := HWD.out.2 j hj13
      have hgp := HWD.out.1
      have htj : (z % 13).toNat = j := by omega
      have htl : 0 ≤ z % 13 := by omega
      have htu : z % 13 < 13 := by omega
      have hadd := sadd (P := Try.prog) s t (by omega)
      have hsz : (s ++ t).size ≤ (k + 1) * 23 := by rw [ByteArray.size_append]; omega
      clear hz hwf hc0 hj
      go_wp2_with fail
      exact ⟨⟨k + 1, s ++ t, by omega, hsz, rfl, by go_num, trivial⟩, by simp [intOf]; omega⟩
    · go_wp2_with fail
      go_ret
      exact ⟨s, rfl, by omega, HM.out⟩

theorem lft_rest (s : ByteArray) (a : Nat) : lft s a = L (rest s a) := (rest_L s a).symm
theorem rnumber_r (w : World) (g : Nat) (s : ByteArray) (a : Nat) (ln cl er most : Int) (hR : RSc w g s a ln cl er) (hm : 0 ≤ most ∧ most < 18446744073709551616) :
    Calls Try.prog 17 #[.pointer (some ⟨g, 0, none⟩), .int .u64 most] w fun e w' => e = .returned (.int .u64 (numOut most (L (rest s a)) er).1) ∧ RPost w w' g s a ln cl (numOut most (L (rest s a)) er).2.2 (numOut most (L (rest s a)) er).2.1 := by
  rw [← lft_rest]; exact rnumber_any w g s a ln cl er most hR hm
theorem rword_r (w : World) (g : Nat) (s u : ByteArray) (a : Nat) (ln cl er : Int) (hR : RSc w g s a ln cl er) (hu : u.size ≤ maxLen) :
    Calls Try.prog 18 #[.pointer (some ⟨g, 0, none⟩), .string u] w fun e w' => e = .returned (.bool (wordOut (L u) (L (rest s a)) er).1) ∧ RPost w w' g s a ln cl (wordOut (L u) (L (rest s a)) er).2.2 (wordOut (L u) (L (rest s a)) er).2.1 := by
  rw [← lft_rest]; exact rword_any w g s u a ln cl er hR hu
theorem rbyte_r (w : World) (g : Nat) (s : ByteArray) (c : UInt8) (a : Nat) (ln cl er : Int) (hR : RSc w g s a ln cl er) :
    Calls Try.prog 22 #[.pointer (some ⟨g, 0, none⟩), .int .u8 c.toNat] w fun e w' => e = .returned (.bool (wordOut [c] (L (rest s a)) er).1) ∧ RPost w w' g s a ln cl (wordOut [c] (L (rest s a)) er).2.2 (wordOut [c] (L (rest s a)) er).2.1 := by
  rw [← lft_rest]; exact rbyte_any w g s c a ln cl er hR

/-- Both scanners, side by side. -/
def Two (w : World) (gc gr : Nat) (s : ByteArray) (a : Nat) (ln cl er : Int) : Prop := Sc w gc (rest s a) ln cl er ∧ RSc w gr s a ln cl er
theorem Two.step {w w1 w2 : World} {gc gr : Nat} {s : ByteArray} {a n : Nat} {ln cl er' : Int} (h1 : ScPost w w1 gc (rest s a) ln cl n er') (h2 : RPost w1 w2 gr s a ln cl n er') (hne : gc ≠ gr) :
    Two w2 gc gr s (a + n) (advL (ln, cl) (lft s a) n).1 (advL (ln, cl) (lft s a) n).2 er' := by
  refine ⟨?_, h2.sc⟩
  have h3 := h1.sc.mod h2.mod (by unfold OneB; exact hne)
  rw [rest_rest] at h3
  have h4 : advK ln cl (rest s a) n = advL (ln, cl) (lft s a) n := by
    unfold advK advL; rw [lft_rest]; rfl
  rw [h4] at h3
  exact h3
theorem Two.mod {w w' : World} {gc gr : Nat} {s : ByteArray} {a : Nat} {ln cl er : Int} (h : Two w gc gr s a ln cl er) (hm : Mod w w' NoB) : Two w' gc gr s a ln cl er := ⟨h.1.mod hm (by simp [NoB]), h.2.mod hm (by simp [NoB])⟩
theorem next_form (s : ByteArray) (a : Nat) (er : Int) : ∃ (c : UInt8) (bb : Bool), nextV (rest s a) er = .tuple #[.int .u8 c.toNat, .bool bb] ∧ rnextV s a er = .tuple #[.int .u8 c.toNat, .bool bb] := by
  by_cases h : er = 0 ∧ a < s.size
  · obtain ⟨rfl, h⟩ := h
    have h0 : 0 < (rest s a).size := by rw [rest_size]; omega
    exact ⟨s[a], true, by rw [nextV_some h0, rest_first s a h h0], rnextV_some h⟩
  · exact ⟨0, false, nextV_none (by rw [rest_size]; omega), rnextV_none (by omega)⟩
end Go.Proofs.Ytekbiaphnpnpgaa
