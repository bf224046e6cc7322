/- The contracts of the reference's Word and Byte. -/
import Derived.Test.YtekbiaphnpnpgaaRef
import Derived.IntWalk
namespace Go.Proofs.Ytekbiaphnpnpgaa
open Go.RowKit
set_option linter.unusedVariables false

/-- The first k bytes are alike. -/
def Alike (u l : List UInt8) (k : Nat) : Prop := k ≤ u.length ∧ k ≤ l.length ∧ u.take k = l.take k
theorem alike_all {u l : List UInt8} (h : Alike u l u.length) : u <+: l := by
  have := h.2.2; rw [List.take_length] at this
  exact List.prefix_iff_eq_take.2 this
theorem alike_short {u l : List UInt8} (h : Alike u l l.length) (hlt : l.length < u.length) : ¬ u <+: l ∧ l <+: u := by
  refine ⟨fun hp => absurd hp.length_le (by omega), ?_⟩
  have := h.2.2; rw [List.take_length] at this
  exact List.prefix_iff_eq_take.2 this.symm
theorem alike_succ {u l : List UInt8} {k : Nat} {c : UInt8} (h : Alike u l k) (hu : u[k]? = some c) (hl : l[k]? = some c) : Alike u l (k + 1) := by
  have h1 := (List.getElem?_eq_some_iff.1 hu).1
  have h2 := (List.getElem?_eq_some_iff.1 hl).1
  exact ⟨h1, h2, by rw [List.take_add_one, List.take_add_one, hu, hl, h.2.2]⟩
theorem alike_not {u l : List UInt8} {k : Nat} {c d : UInt8} (hu : u[k]? = some c) (hl : l[k]? = some d) (hne : c ≠ d) : ¬ u <+: l ∧ ¬ l <+: u := by
  have h1 := (List.getElem?_eq_some_iff.1 hu).1
  have h2 := (List.getElem?_eq_some_iff.1 hl).1
  refine ⟨fun hp => ?_, fun hp => ?_⟩
  · obtain ⟨t, ht⟩ := hp
    rw [← ht, List.getElem?_append_left h1, hu] at hl
    exact hne (Option.some.inj hl)
  · obtain ⟨t, ht⟩ := hp
    rw [← ht, List.getElem?_append_left h2, hl] at hu
    exact hne (Option.some.inj hu).symm

set_option maxHeartbeats 2000000 in
theorem rword_any (w : World) (g : Nat) (s u : ByteArray) (a : Nat) (ln cl er : Int) (hR : RSc w g s a ln cl er) (hu : u.size ≤ maxLen) :
    Calls Try.prog 18 #[.pointer (some ⟨g, 0, none⟩), .string u] w fun e w' => e = .returned (.bool (wordOut (L u) (lft s a) er).1) ∧ RPost w w' g s a ln cl (wordOut (L u) (lft s a) er).2.2 (wordOut (L u) (lft s a) er).2.1 := by
  obtain ⟨c0, c1, c2, c3, c4, f0, f1, f2, f3, f4⟩ := hR.1.cells
  obtain ⟨hB, hm, ha, hl0, hc0, hl1, hc1⟩ := id hR
  unfold maxLen at hu
  have hlen := lft_len s a
  have hulen := L_len u
  by_cases he : er = 0
  · subst he
    have HR := Lib.hid hR
    clear hR hB
    go_enter Try.func18, Try.ntmps18
    go_wp2_with fail
    go_loopw [5] (fun i wr => ∃ k n : Nat, i = .int .i64 k ∧ wr = w.drewN n ∧ Hid (Alike (L u) (lft s a) k) ∧ k ≤ u.size ∧ a + k ≤ s.size) (fun i _ => u.size - (intOf i).toNat)
    case atStart => exact ⟨0, 0, rfl, rfl, ⟨Nat.zero_le _, Nat.zero_le _, rfl⟩, Nat.zero_le _, ha⟩
    case round =>
      obtain ⟨k, n, rfl, rfl, HA, hk, hak⟩ := hrel
      by_cases hlt : k < u.size
      · have hku : (k : Int) < (u.size : Int) := by omega
        by_cases h2 : a + k < s.size
        · have h2' : ¬ ((s.size : Int) ≤ (a : Int) + (k : Int)) := by omega
          have e1 := lft_at s a k h2
          have e2 : (L u)[k]? = some u[k] := at_byte u k hlt
          by_cases h3 : s[a + k] = u[k]
          · have HE := Lib.hid (alike_succ HA.out e2 (by rw [e1, h3]))
            have hb : (((s[a + k].toNat : Nat) : Int) != ((u[k].toNat : Nat) : Int)) = false := by rw [h3]; simp
            clear e1 e2 h3
            have q1 : IntKind.i64.wrap ((a : Int) + (k : Int)) = (a : Int) + (k : Int) := IntWalk.i64_in _ (by omega)
            have q2 : (0 : Int) ≤ (a : Int) + (k : Int) := by omega
            have q4 : (a : Int) + (k : Int) < (s.size : Int) := by omega
            have q3 : ((a : Int) + (k : Int)).toNat = a + k := by omega
            go_wp2_with fail
            go_quiet (fail)
            go_wp2_with fail
            go_quiet (fail)
            go_wp2_with fail
            go_roundw
            case rel => exact ⟨k + 1, _, by go_num, by first | rfl | (rw [World.drewN_drewN, World.drewN_drewN]; done) | (rw [World.drewN_drewN]; done), HE.out, hlt, by omega⟩
            case measure => simp [intOf]; omega
          · have hno := alike_not e2 e1 (fun e => h3 e.symm)
            have hW : wordOut (L u) (lft s a) 0 = (false, 21, 0) := by simp [wordOut, hno.1, hno.2]
            have HW := Lib.hid hW
            have hb : (((s[a + k].toNat : Nat) : Int) != ((u[k].toNat : Nat) : Int)) = true := by
              simp only [bne_iff_ne, ne_eq, Int.natCast_inj]
              exact fun e => h3 (UInt8.toNat_inj.1 e)
            clear e1 e2 h3 hno hW
            have q1 : IntKind.i64.wrap ((a : Int) + (k : Int)) = (a : Int) + (k : Int) := IntWalk.i64_in _ (by omega)
            have q2 : (0 : Int) ≤ (a : Int) + (k : Int) := by omega
            have q4 : (a : Int) + (k : Int) < (s.size : Int) := by omega
            have q3 : ((a : Int) + (k : Int)).toNat = a + k := by omega
            go_wp2_with fail
            go_quiet (fail)
            go_wp2_with fail
            go_quiet (fail)
            go_wp2_with fail
            refine (rfail_any _ _ _ _ _ _ _ _ (HR.out.drewN _)).mono ?_
            rintro e w1 ⟨rfl, h1, hm1⟩
            have H1 := Lib.hid (And.intro h1 hm1)
            clear h1 hm1
            go_wp2_with fail
            go_ret
            rw [HW.out]
            exact ⟨rfl, RSc.post0 (by simpa using H1.out.1) (((Mod.refl w _).drewN _).trans H1.out.2 (fun _ _ h => h))⟩
        · have h2' : (s.size : Int) ≤ (a : Int) + (k : Int) := by omega
          have hkl : k = (lft s a).length := by omega
          have hsh := alike_short (u := L u) (l := lft s a) (hkl ▸ HA.out) (by omega)
          have hW : wordOut (L u) (lft s a) 0 = (false, 20, 0) := by simp [wordOut, hsh.1, hsh.2]
          have HW := Lib.hid hW
          clear hkl hsh hW
          go_wp2_with fail
          go_quiet (fail)
          go_wp2_with fail
          refine (rfail_any _ _ _ _ _ _ _ _ (HR.out.drewN _)).mono ?_
          rintro e w1 ⟨rfl, h1, hm1⟩
          have H1 := Lib.hid (And.intro h1 hm1)
          clear h1 hm1
          go_wp2_with fail
          go_ret
          rw [HW.out]
          exact ⟨rfl, RSc.post0 (by simpa using H1.out.1) (((Mod.refl w _).drewN _).trans H1.out.2 (fun _ _ h => h))⟩
      · have hke : k = (L u).length := by omega
        have hp : L u <+: lft s a := alike_all (hke ▸ HA.out)
        have hW : wordOut (L u) (lft s a) 0 = (true, 0, u.size) := by simp [wordOut, hp, L_len]
        have HW := Lib.hid hW
        have hau : a + u.size ≤ s.size := by omega
        have hkk : ¬ ((k : Int) < (u.size : Int)) := by omega
        clear hke hp hW
        go_wp2_with fail
        refine (rmove_any _ _ _ _ _ _ _ _ (HR.out.drewN _) hau).mono ?_
        rintro e w1 ⟨rfl, h1⟩
        have H1 := Lib.hid h1
        clear h1
        go_wp2_with fail
        go_ret
        rw [HW.out]
        exact ⟨rfl, H1.out.sc, ((Mod.refl w _).drewN _).trans H1.out.mod (fun _ _ h => h)⟩
  · have hb : (er != 0) = true := by simpa using he
    have hW : wordOut (L u) (lft s a) er = (false, er, 0) := by simp [wordOut, he]
    rw [hW]
    clear hW he
    go_enter Try.func18, Try.ntmps18
    go_wp2_with fail
    go_ret
    exact ⟨rfl, hR.post0 (Mod.refl _ _)⟩

theorem rbyte_any (w : World) (g : Nat) (s : ByteArray) (c : UInt8) (a : Nat) (ln cl er : Int) (hR : RSc w g s a ln cl er) :
    Calls Try.prog 22 #[.pointer (some ⟨g, 0, none⟩), .int .u8 c.toNat] w fun e w' => e = .returned (.bool (wordOut [c] (lft s a) er).1) ∧ RPost w w' g s a ln cl (wordOut [c] (lft s a) er).2.2 (wordOut [c] (lft s a) er).2.1 := by
  have hconv := run_convert_bytes_arg (P := Try.prog) (w.alloc (.cells #[.int .u8 c.toNat] 5)) 34 5 Try.underlying34 Try.underlying5 w.heap.size 0 1 1 [(c.toNat : Int)] rfl (fun i hi => by
    obtain rfl : i = 0 := by omega
    simp) 9 Try.underlying9
  rw [one_str] at hconv
  go_enter Try.func22, Try.ntmps22
  go_wp2_with fail
  refine (rword_any _ _ _ _ _ _ _ _ (hR.alloc _) (show (ByteArray.mk #[c]).size ≤ maxLen by unfold maxLen; exact Nat.le_of_lt (by decide : 1 < 2 ^ 63 - 1))).mono ?_
  rintro e w1 ⟨rfl, h1⟩
  have H1 := Lib.hid h1
  clear h1 hconv
  go_wp2_with fail
  go_ret
  exact ⟨rfl, H1.out.sc, ((Mod.refl w (OneB g)).alloc _).trans H1.out.mod (fun _ _ h => h)⟩
end Go.Proofs.Ytekbiaphnpnpgaa
