/- Merged: LgSm LgRd -/
import Derived.Test.YtggnkefhegnokaaDoorMg22
import Derived.Test.YtggnkefhegnokaaDoorMg09
import Derived.WalkKit
import Derived.Test.YtggnkefhegnokaaDoorMg27
import Derived.Test.YtggnkefhegnokaaDoorMg25
import Derived.Test.YtggnkefhegnokaaDoorMg21
section
/- The contract of the statements' some: a text of lines, or nearly. (Printed by gen_some.py.) -/
namespace Go.Proofs.YtggnkefhegnokaaDoor
open Go.RowKit Go.Maps
set_option linter.unusedVariables false

def lsomA : Array Value := #[.string ⟨#[108, 111, 103, 32, 53, 10]⟩, .string ⟨#[48, 32, 43, 32, 48, 32, 49, 10]⟩, .string ⟨#[49, 32, 45, 32, 48, 32, 49, 10]⟩, .string ⟨#[50, 32, 43, 32, 49, 32, 50, 10]⟩, .string ⟨#[50, 32, 43, 32, 48, 32, 49, 10]⟩, .string ⟨#[51, 32, 43, 32, 52, 32, 53, 10]⟩, .string ⟨#[51, 32, 43, 32, 50, 32, 49, 10]⟩, .string ⟨#[48, 51, 32, 43, 32, 48, 32, 49, 10]⟩, .string ⟨#[52, 32, 42, 32, 48, 32, 49, 10]⟩, .string ⟨#[52, 54, 49, 49, 54, 56, 54, 48, 49, 56, 52, 50, 55, 51, 56, 55, 57, 48, 52, 32, 43, 32, 48, 32, 49, 10]⟩, .string ⟨#[53, 32, 43, 32, 48, 32, 49]⟩, .string ⟨#[10]⟩, .string ⟨#[53, 32, 32, 43, 32, 48, 32, 49, 10]⟩, .string ⟨#[52, 32, 43, 32, 48, 32, 52, 50, 57, 52, 57, 54, 55, 50, 57, 54, 10]⟩, .string ⟨#[108, 111, 103, 32, 52, 50, 57, 52, 57, 54, 55, 50, 57, 55, 10]⟩]
theorem lsom_at (j : Nat) (hj : j < 15) : ∃ s : ByteArray, lsomA[j]? = some (.string s) ∧ s.size ≤ 26 := by
  rcases (by omega : j = 0 ∨ j = 1 ∨ j = 2 ∨ j = 3 ∨ j = 4 ∨ j = 5 ∨ j = 6 ∨ j = 7 ∨ j = 8 ∨ j = 9 ∨ j = 10 ∨ j = 11 ∨ j = 12 ∨ j = 13 ∨ j = 14) with rfl | rfl | rfl | rfl | rfl | rfl | rfl | rfl | rfl | rfl | rfl | rfl | rfl | rfl | rfl
  all_goals exact ⟨_, rfl, by decide⟩
/-- The table of lines, in a block. -/
structure lSom (w0 w : World) (g : Nat) : Prop where
  mod : Mod w0 w NoB
  at' : ∀ j, j < 15 → ∃ s : ByteArray, w.cell? ⟨g, j, none⟩ = some (.string s) ∧ s.size ≤ 26
  z : w.cell? ⟨g, 0, none⟩ = some (.string ⟨#[108, 111, 103, 32, 53, 10]⟩)
theorem lSom.next {w0 w w' : World} {g : Nat} (h : lSom w0 w g) (hm : Mod w w' NoB) : lSom w0 w' g :=
  ⟨h.mod.trans hm (fun _ _ c => c), fun j hj => by obtain ⟨s, h1, h2⟩ := h.at' j hj; exact ⟨s, keepc h1 hm, h2⟩, keepc h.z hm⟩
theorem lSom.start {w : World} : lSom w (w.alloc (.cells lsomA 9)) w.heap.size :=
  ⟨(Mod.refl _ _).alloc _, fun j hj => by
    obtain ⟨s, h1, h2⟩ := lsom_at j hj
    exact ⟨s, (World.cell?_alloc_at _ _ _ _ rfl).trans h1, h2⟩, World.cell?_alloc_at _ _ _ _ rfl⟩

set_option maxRecDepth 100000 in
set_option maxHeartbeats 4000000 in
theorem lsome_any (w : World) (a : Option Addr) (len cap : Nat) (zs : List Int) (hA : IsRow .u8 w a len cap zs) (hlen : len ≤ 12) :
    Calls Tryd.prog 17 #[.slice a len cap] w fun e w' => ∃ s : ByteArray, e = .returned (.string s) ∧ s.size ≤ 400 ∧ Mod w w' NoB := by
  have hmx := mixed
  have HA := Lib.hid hA
  clear hA
  have HS0 := Lib.hid (lSom.start (w := w))
  obtain ⟨g, hg⟩ : ∃ g, g = w.heap.size := ⟨_, rfl⟩
  obtain ⟨W, hW⟩ : ∃ W, W = w.alloc (.cells #[.string ⟨#[108, 111, 103, 32, 53, 10]⟩, .string ⟨#[48, 32, 43, 32, 48, 32, 49, 10]⟩, .string ⟨#[49, 32, 45, 32, 48, 32, 49, 10]⟩, .string ⟨#[50, 32, 43, 32, 49, 32, 50, 10]⟩, .string ⟨#[50, 32, 43, 32, 48, 32, 49, 10]⟩, .string ⟨#[51, 32, 43, 32, 52, 32, 53, 10]⟩, .string ⟨#[51, 32, 43, 32, 50, 32, 49, 10]⟩, .string ⟨#[48, 51, 32, 43, 32, 48, 32, 49, 10]⟩, .string ⟨#[52, 32, 42, 32, 48, 32, 49, 10]⟩, .string ⟨#[52, 54, 49, 49, 54, 56, 54, 48, 49, 56, 52, 50, 55, 51, 56, 55, 57, 48, 52, 32, 43, 32, 48, 32, 49, 10]⟩, .string ⟨#[53, 32, 43, 32, 48, 32, 49]⟩, .string ⟨#[10]⟩, .string ⟨#[53, 32, 32, 43, 32, 48, 32, 49, 10]⟩, .string ⟨#[52, 32, 43, 32, 48, 32, 52, 50, 57, 52, 57, 54, 55, 50, 57, 54, 10]⟩, .string ⟨#[108, 111, 103, 32, 52, 50, 57, 52, 57, 54, 55, 50, 57, 55, 10]⟩] 9) := ⟨_, rfl⟩
  have HS : Hid (lSom w W g) := by show lSom w W g; rw [hW, hg]; exact HS0.out
  go_enter Tryd.func17, Tryd.ntmps17
  go_upto_region 2 with (fail)
  rw [← hW, ← hg]
  clear hW hg HS0
  have z0 := HS.out.z
  by_cases hl0 : len = 0
  focus
    have hli : decide ((0 : Int) < (len : Int)) = false := decide_eq_false (by omega)
    have hln : decide (0 < len) = false := decide_eq_false (by omega)
    clear hl0
    go_upto_region 6 with (fail)
    obtain ⟨s0, hs0⟩ : ∃ s0 : ByteArray, s0 = ⟨#[108, 111, 103, 32, 53, 10]⟩ := ⟨_, rfl⟩
    have hsz : s0.size ≤ 10 := by rw [hs0]; decide
    rw [← hs0]
    clear hs0
  rotate_left
  focus
    have hli : decide ((0 : Int) < (len : Int)) = true := decide_eq_true (by omega)
    have hlj : (0 : Int) < (len : Int) := by omega
    obtain ⟨b, off, hab, hbw, hz0, hwf0⟩ := isrow_at HA.out (show 0 < len by omega)
    subst hab
    clear hl0
    have c0 := (HS.out.mod.cell hbw (by simp [NoB])).trans hz0
    obtain ⟨z, hz⟩ : ∃ z, zs.getD 0 0 = z := ⟨_, rfl⟩
    rw [hz] at c0 hwf0
    have hzb := bounds_u8 hwf0
    clear hz hz0 hwf0 hbw
    simp only [Nat.add_zero] at c0
    by_cases h4 : z % 5 = 4
    focus
      go_upto_region 6 with (fail)
      obtain ⟨s0, hs0⟩ : ∃ s0 : ByteArray, s0 = ⟨#[]⟩ := ⟨_, rfl⟩
      have hsz : s0.size ≤ 10 := by rw [hs0]; decide
      rw [← hs0]
      clear hs0
    rotate_left
    focus
      go_upto_region 6 with (fail)
      obtain ⟨s0, hs0⟩ : ∃ s0 : ByteArray, s0 = ⟨#[108, 111, 103, 32, 53, 10]⟩ := ⟨_, rfl⟩
      have hsz : s0.size ≤ 10 := by rw [hs0]; decide
      rw [← hs0]
      clear hs0
    all_goals clear c0 h4 hzb
  all_goals
    clear z0 hli
    try clear hln
    go_loopw [4, 5] (fun v4 v5 wr => ∃ (k : Nat) (s : ByteArray), k ≤ len ∧ v4 = .string s ∧ v5 = .int .i64 k ∧ s.size ≤ 10 + 26 * k ∧ Hid (lSom w wr g)) (fun _ v5 _ => len - (intOf v5).toNat)
    case atStart => exact ⟨0, _, Nat.zero_le _, rfl, rfl, hsz, HS⟩
    case round =>
      obtain ⟨k, s, hk, rfl, rfl, hs, HI⟩ := hrel
      by_cases hlt : k < len
      · have hki : (k : Int) < len := by omega
        obtain ⟨b, off, hab, hbw, hz1, hwf1⟩ := isrow_at HA.out hlt
        first | subst hab | cases hab
        have c1 := (HI.out.mod.cell (p := ⟨b, off + k, none⟩) hbw (by simp [NoB])).trans hz1
        obtain ⟨z, hz⟩ : ∃ z, zs.getD k 0 = z := ⟨_, rfl⟩
        rw [hz] at c1 hwf1
        have hzb := bounds_u8 hwf1
        obtain ⟨m, hm⟩ : ∃ m : Nat, z % 15 = (m : Int) := ⟨(z % 15).toNat, by omega⟩
        have hm15 : m < 15 := by omega
        have hmi : (m : Int) < 15 := by omega
        obtain ⟨u, hu, hus⟩ := HI.out.at' m hm15
        have hadd := sadd (P := Tryd.prog) s u (by omega)
        have hsu : (s ++ u).size ≤ 10 + 26 * (k + 1) := by rw [ByteArray.size_append]; omega
        obtain ⟨su, hsu2⟩ : ∃ su, su = s ++ u := ⟨_, rfl⟩
        rw [← hsu2] at hadd hsu
        clear hz hz1 hwf1 hbw hsu2
        go_wp2_with fail
        go_roundw
        case rel => exact ⟨k + 1, su, by omega, rfl, by go_num, hsu, HI⟩
        case measure => simp [intOf]; omega
      · have hki : ¬ (k : Int) < len := by omega
        go_wp2_with fail
        go_ret
        exact ⟨s, rfl, by omega, HI.out.mod⟩
end Go.Proofs.YtggnkefhegnokaaDoor
end

section
/- The walk of LogReads. -/
namespace Go.Proofs.YtggnkefhegnokaaDoor
open Go.RowKit Go.Maps
set_option linter.unusedVariables false

/-- Texts in a block. -/
def SRow (w : World) (g : Nat) (H : List ByteArray) : Prop := ∀ (j : Nat) (x : ByteArray), H[j]? = some x → w.cell? ⟨g, j, none⟩ = some (.string x) ∧ x.size ≤ 4000
theorem SRow.mod {w w' : World} {g : Nat} {H : List ByteArray} (h : SRow w g H) (hm : Mod w w' NoB) : SRow w' g H := fun j x hx => by
  obtain ⟨h1, h2⟩ := h j x hx
  exact ⟨keepc h1 hm, h2⟩
theorem prS_inv {x : ByteArray} (hx : x.size ≤ 4000) (h : (parseR (L x)).2.2 = 0) : prS (parseN (L x)) (parseR (L x)).1 = x ∧ (chk (parseN (L x)) (parseR (L x)).1).2 = 0 ∧ (∀ y ∈ (parseR (L x)).1, EvB y) ∧ (parseR (L x)).1.length ≤ 4000 ∧ 0 ≤ parseN (L x) := by
  obtain ⟨h1, h2, h3, h4, h5, h6⟩ := parse_inv (l := L x) (by rw [L_len]; omega) h
  rw [L_len] at h5
  refine ⟨?_, h2, h3, by omega, h6⟩
  unfold prS
  rw [if_pos h2]
  apply str_eq
  show (logL (parseN (L x)) (parseR (L x)).1).toArray.toList = L x
  rw [List.toList_toArray]
  exact h1.symm
theorem prS_sz {n : Int} {F : List Ev} (hn0 : 0 ≤ n) (hb : ∀ x ∈ F, EvB x) (hl : F.length ≤ 40) : (prS n F).size ≤ 2625 := by
  unfold prS
  split
  · rename_i h
    show (logL n F).toArray.size ≤ _
    have hbd := chk_ok_bd h
    have := logL_len (n := n) (F := F) ⟨hn0, hbd.1⟩ (fun y hy => ⟨allOk_tt hbd.2 y hy, hb y hy⟩)
    simp only [List.size_toArray]
    omega
  · decide
theorem plF_bad {n : Int} : ∀ (k : Nat) (F : List Ev) (st : SS), (plF n k F st).2.2 ≠ 0 → (plF n k F st).1 = []
  | 0, F, st, h => absurd rfl h
  | k + 1, F, st, h => by
    simp only [plF] at h ⊢
    split
    · rename_i hn
      rw [if_pos hn] at h
      split
      · rfl
      · rename_i he
        rw [if_neg he] at h
        split
        · rfl
        · rename_i hv
          rw [if_neg hv] at h
          exact plF_bad k _ _ h
    · rename_i hn
      rw [if_neg hn] at h
      split
      · rename_i he
        rw [if_pos he] at h
        exact absurd rfl h
      · rfl
/-- A text, as bytes of one's own. -/
theorem bytes_made {P : Program} (w : World) (src dst e : TypeId) (s : ByteArray) (hs : P.underlying src = some .string) (hd : P.underlying dst = some (.slice e)) (he : P.underlying e = some (.int .u8)) :
    ∃ (W : World) (c : Nat), (convert src dst (.string s)).run P w = .ok (.slice (some ⟨w.heap.size, 0, none⟩) (L s).length c) W ∧ Byt W (some ⟨w.heap.size, 0, none⟩) (L s) ∧ (L s).length ≤ c ∧ Mod w W NoB := by
  have h := run_bytes_of_string (P := P) w src dst e s hs hd he
  refine ⟨_, _, by rw [L_len]; exact h, Byt.made w s _ e _, by rw [L_len]; exact grownCap_ge _ _ _ _, (Mod.drew (Mod.refl _ _)).alloc _⟩

set_option maxRecDepth 100000 in
set_option maxHeartbeats 8000000 in
theorem lreads_walk (raw : ByteArray) (a1 : Option Addr) (len1 cap1 : Nat) (z1 : List Int) (a2 : Int) (a3 : Option Addr) (len3 cap3 : Nat) (z3 : List Int) (a4 a5 a6 : Int) (more : ByteArray) (w : World)
    (h80 : raw.size ≤ 80) (h12 : len1 ≤ 12) (h45 : len3 ≤ 45) (h20 : more.size ≤ 20) (w1 : IsRow .u8 w a1 len1 cap1 z1) (w2 : (Lit.int .u8 a2).wf = true) (w3 : IsRow .u8 w a3 len3 cap3 z3) (w4 : (Lit.int .u8 a4).wf = true) (w5 : (Lit.int .u16 a5).wf = true) (w6 : (Lit.int .u8 a6).wf = true)
    (htab : Lib.TabIs Tryd.prog w "internal/strconv.uint64pow10" .u64 Lib.pow10Tab) :
    Calls Tryd.prog 4 #[.string raw, .slice a1 len1 cap1, .int .u8 a2, .slice a3 len3 cap3, .int .u8 a4, .int .u16 a5, .int .u8 a6, .string more] w fun e w' => e = .returned (.bool true) ∧ Mod w w' NoB := by
  have hd0 : decide ((80 : Int) < (raw.size : Int)) = false := decide_eq_false (by omega)
  have hd1 : decide ((12 : Int) < (len1 : Int)) = false := decide_eq_false (by omega)
  have hd2 : decide ((45 : Int) < (len3 : Int)) = false := decide_eq_false (by omega)
  have hd3 : decide ((20 : Int) < (more.size : Int)) = false := decide_eq_false (by omega)
  have hb2 := bounds_u8 w2
  have hb4 := bounds_u8 w4
  have hb5 := bounds_u16 w5
  have hb6 := bounds_u8 w6
  have HA := Lib.hid w1
  have HB := Lib.hid w3
  have HT := Lib.hid htab
  have hmx := mixed
  clear w1 w2 w3 w4 w5 w6 htab
  go_enter Tryd.func4, Tryd.ntmps4
  go_wp2_with fail
  refine (lknown_any _ HT.out).mono ?_
  rintro e w1 ⟨rfl, hm⟩
  have H1 := Lib.hid hm
  clear hm
  go_wp2_with fail
  refine (hist_any _ a2 a3 len3 cap3 z3 hb2 (HB.out.mod H1.out) (by omega)).mono ?_
  rintro r w2 ⟨T, top, a, cap, rfl, hT, htop, hT40, hE, hpl, hcap, hm⟩
  have hnb := vertsOf_bd a2.toNat
  obtain ⟨n, hn⟩ : ∃ n, vertsOf a2.toNat = n := ⟨_, rfl⟩
  rw [hn] at hT hnb ⊢
  obtain ⟨F, hF⟩ : ∃ F, flag (fun _ => false) T = F := ⟨_, rfl⟩
  have hFT : T.length = F.length := by rw [← hF, flag_len]
  have hevb : ∀ x ∈ F, EvB x := by rw [← hF]; exact flag_evb hT hnb.2
  rw [hFT] at hT40 hcap ⊢
  rw [hF] at hE
  have H2 := Lib.hid (H1.out.trans hm (fun _ _ c => c))
  have HE := Lib.hid (And.intro hE hevb)
  have hsz := prS_sz (n := n) (F := F) (by omega) hevb hT40
  have HP := rprint_any w2 n a cap F (by omega) hE (by omega) hevb
  obtain ⟨s, hs⟩ : ∃ s, s = prS n F := ⟨_, rfl⟩
  obtain ⟨er, her⟩ : ∃ er, er = (chk n F).2 := ⟨_, rfl⟩
  rw [← hs, ← her] at HP
  rw [← hs] at hsz
  have HPh := Lib.hid HP
  clear hm hT htop hF hFT hevb hpl hE hn hnb H1 hcap HP hs her hT40
  go_wp2_with fail
  refine HPh.out.mono ?_
  rintro e w3 ⟨rfl, hm⟩
  have H3 := Lib.hid (H2.out.trans hm (fun _ _ c => c))
  clear hm HPh HE H2
  go_upto_region 6 with (fail)
  obtain ⟨W4, k4, e4, y4, y4c, m4⟩ := bytes_made (P := Tryd.prog) w3 9 26 5 s Tryd.underlying9 Tryd.underlying26 Tryd.underlying5
  obtain ⟨W5, k5, e5, y5, y5c, m5⟩ := bytes_made (P := Tryd.prog) W4 9 26 5 more Tryd.underlying9 Tryd.underlying26 Tryd.underlying5
  have hL1 : (L s).length = s.size := L_len s
  have hL2 : (L more).length = more.size := L_len more
  have HCh := change_any W5 (some ⟨w3.heap.size, 0, none⟩) (some ⟨W4.heap.size, 0, none⟩) k4 k5 (L s) (L more) a4 a5 a6 (y4.mod m5) y5 y4c (by omega) (by omega) hb4 hb5 hb6
  have H5 := Lib.hid (H3.out.trans (m4.trans m5 (fun _ _ c => c)) (fun _ _ c => c))
  have HChh := Lib.hid HCh
  clear HCh y4 y4c m4 y5 y5c m5 H3
  go_wp2_with fail
  refine HChh.out.mono ?_
  rintro e w6 ⟨a6', c6, R, rfl, hR, hRl, hRc, hm⟩
  have H6 := Lib.hid (H5.out.trans hm (fun _ _ c => c))
  have e6 := hR.conv (P := Tryd.prog) c6 26 9 5 Tryd.underlying26 Tryd.underlying9 Tryd.underlying5
  obtain ⟨d, hd⟩ : ∃ d : ByteArray, d = ⟨R.toArray⟩ := ⟨_, rfl⟩
  have hdsz : d.size ≤ 2700 := by rw [hd]; show R.toArray.size ≤ _; rw [List.size_toArray]; omega
  rw [← hd] at e6
  clear hm hR hRc hd HChh H5 e4 e5
  go_wp2_with fail
  refine (lsome_any _ a1 len1 cap1 z1 (HA.out.mod H6.out) h12).mono ?_
  rintro e w7 ⟨p1, rfl, hp1, hm⟩
  have H7 := Lib.hid (H6.out.trans hm (fun _ _ c => c))
  have ea1 := sadd (P := Tryd.prog) s more (by omega)
  clear hm H6 e6
  go_wp2_with fail
  refine (lsome_any _ a1 len1 cap1 z1 (HA.out.mod H7.out) h12).mono ?_
  rintro e w8 ⟨p2, rfl, hp2, hm⟩
  have H8 := Lib.hid (H7.out.trans hm (fun _ _ c => c))
  have ea2 := sadd (P := Tryd.prog) s p2 (by omega)
  obtain ⟨x1, hx1⟩ : ∃ x, x = s ++ more := ⟨_, rfl⟩
  obtain ⟨x2, hx2⟩ : ∃ x, x = s ++ p2 := ⟨_, rfl⟩
  have hx1s : x1.size ≤ 4000 := by rw [hx1, ByteArray.size_append]; omega
  have hx2s : x2.size ≤ 4000 := by rw [hx2, ByteArray.size_append]; omega
  rw [← hx1] at ea1 ⊢
  rw [← hx2] at ea2
  clear hm H7 hx1 hx2
  obtain ⟨H, hH⟩ : ∃ H : List ByteArray, H = [raw, p1, s, d, x1, x2] := ⟨_, rfl⟩
  have hHl : H.length = 6 := by rw [hH]; rfl
  obtain ⟨Z, hZ⟩ : ∃ Z, Z = w8.alloc (.cells #[.string raw, .string p1, .string s, .string d, .string x1, .string x2] 9) := ⟨_, rfl⟩
  obtain ⟨gs, hgs⟩ : ∃ gs, gs = w8.heap.size := ⟨_, rfl⟩
  have HS : Hid (Mod w Z NoB ∧ SRow Z gs H) := by
    show _ ∧ _
    rw [hZ, hgs]
    refine ⟨H8.out.alloc _, ?_⟩
    rw [hH]
    intro j x hx
    have hj : j = 0 ∨ j = 1 ∨ j = 2 ∨ j = 3 ∨ j = 4 ∨ j = 5 := by have := (List.getElem?_eq_some_iff.1 hx).1; simp at this; omega
    rcases hj with rfl | rfl | rfl | rfl | rfl | rfl
    all_goals
      cases hx
      exact ⟨World.cell?_alloc_at _ _ _ _ rfl, by omega⟩
  go_upto_region 7 with (fail)
  rw [← hZ, ← hgs]
  clear hZ hgs H8 ea1 ea2 hH hx1s hx2s hp1 hp2 hdsz hsz hRl hL1 hL2
  go_wp2_with fail
  go_loopw [80] (fun v80 wr => ∃ k : Nat, k ≤ 6 ∧ v80 = .int .i64 k ∧ Hid (Mod w wr NoB ∧ SRow wr gs H)) (fun v80 _ => 6 - (intOf v80).toNat)
  case atStart => exact ⟨0, by omega, rfl, HS.out⟩
  case round =>
    obtain ⟨k, hk, rfl, HI⟩ := hrel
    by_cases hlt : k < 6
    · have hki : (k : Int) < 6 := by omega
      have hk0 : (0 : Int) ≤ k := by omega
      obtain ⟨x, hx⟩ : ∃ x, H[k]? = some x := ⟨H[k]'(by omega), List.getElem?_eq_getElem _⟩
      obtain ⟨c0, hxs⟩ := HI.out.2 k x hx
      have HP1 := parse_any (s := x) (hs := by omega)
      have HP2 := rparse_any (s := x) (hs := by omega)
      have hinv := prS_inv (x := x) hxs
      have hbadl : (parseR (L x)).2.2 ≠ 0 → (parseR (L x)).1 = [] := plF_bad _ _ _
      obtain ⟨Q, hQ⟩ : ∃ Q, Q = parseR (L x) := ⟨_, rfl⟩
      obtain ⟨N, hN⟩ : ∃ N, N = parseN (L x) := ⟨_, rfl⟩
      rw [← hQ, ← hN] at hinv HP1 HP2
      rw [← hQ] at hbadl
      obtain ⟨X, ⟨pl, pc⟩, er⟩ := Q
      dsimp only at hinv HP1 HP2 hbadl
      have hXl : X.length ≤ 4000 := by
        by_cases h0 : er = 0
        · exact (hinv h0).2.2.2.1
        · rw [hbadl h0]; simp
      have HIN := Lib.hid hinv
      have HP1h : Hid (∀ z, _) := HP1
      have HP2h : Hid (∀ z, _) := HP2
      clear hinv HP1 HP2 hbadl hQ hN hx
      go_wp2_with fail
      refine (HP1h.out _).mono ?_
      rintro e w3 ⟨a3', c3, rfl, hE3, hm3⟩
      have HE3 := Lib.hid hE3
      have HM3 := Lib.hid (HI.out.1.trans hm3 (fun _ _ c => c))
      have HM3' := Lib.hid hm3
      clear hE3 hm3 HP1h c0
      go_upto_region 11 with (fail)
      have HB := Lib.hid (HPl.start (w := w3) (n := N) (v := .slice a3' X.length c3) (x := pl) (y := pc))
      obtain ⟨g1, hg1⟩ : ∃ g, g = w3.heap.size := ⟨_, rfl⟩
      obtain ⟨g2, hg2⟩ : ∃ g, g = w3.heap.size + 1 := ⟨_, rfl⟩
      obtain ⟨W4, hW4⟩ : ∃ W, W = ((w3.alloc (.cells #[.int .u64 N, .slice a3' X.length c3] 25)).alloc (.cells #[.int .i64 pl, .int .i64 pc] 38)) := ⟨_, rfl⟩
      rw [← hW4, ← hg2, ← hg1] at HB ⊢
      clear hW4 hg2 hg1
      go_wp2_with fail
      refine (HP2h.out _).mono ?_
      rintro e w5 ⟨a5', c5, rfl, hE5, hm5⟩
      have HE5 := Lib.hid hE5
      have HB5 := Lib.hid (HB.out.next hm5)
      have HE3' := Lib.hid ((HE3.out.mod HB.out.mod).mod hm5)
      clear hE5 hm5 HP2h HB HE3
      go_upto_region 12 with (fail)
      have HC := Lib.hid (HPl.start (w := w5) (n := N) (v := .slice a5' X.length c5) (x := pl) (y := pc))
      obtain ⟨g3, hg3⟩ : ∃ g, g = w5.heap.size := ⟨_, rfl⟩
      obtain ⟨g4, hg4⟩ : ∃ g, g = w5.heap.size + 1 := ⟨_, rfl⟩
      obtain ⟨W6, hW6⟩ : ∃ W, W = ((w5.alloc (.cells #[.int .u64 N, .slice a5' X.length c5] 25)).alloc (.cells #[.int .i64 pl, .int .i64 pc] 38)) := ⟨_, rfl⟩
      rw [← hW6, ← hg4, ← hg3] at HC ⊢
      clear hW6 hg4 hg3
      have HB6 := Lib.hid (HB5.out.next HC.out.mod)
      have HE36 := Lib.hid (HE3'.out.mod HC.out.mod)
      have HE56 := Lib.hid (HE5.out.mod HC.out.mod)
      have u0 := HB6.out.h0
      have u1 := HB6.out.h1
      have u2 := HB6.out.p0
      have u3 := HB6.out.p1
      have v0 := HC.out.h0
      have v1 := HC.out.h1
      have v2 := HC.out.p0
      have v3 := HC.out.p1
      have HM6 := Lib.hid (HM3.out.trans HB6.out.mod (fun _ _ c => c))
      clear HB5 HE3' HE5
      go_wp2_with fail
      refine (same_any _ N a3' a5' c3 c5 X HE36.out HE56.out (by omega)).mono ?_
      rintro e w7 ⟨rfl, hm7⟩
      have HB7 := Lib.hid (HB6.out.next hm7)
      have HE37 := Lib.hid (HE36.out.mod hm7)
      have HM7 := Lib.hid (HM6.out.trans hm7 (fun _ _ c => c))
      have HSR := Lib.hid (((HI.out.2.mod HM3'.out).mod HB6.out.mod).mod hm7)
      clear hm7 u0 u1 u2 u3 v0 v1 v2 v3 HB6 HC HE36 HE56 HM6
      by_cases her : er = 0
      · have HZ := Lib.hid (HIN.out her)
        subst her
        clear HIN
        have u0 := HB7.out.h0
        have u1 := HB7.out.h1
        have HPr := print_any w7 N a3' c3 X HZ.out.2.2.2.2 HE37.out (by omega) HZ.out.2.2.1 (tab_mod HT.out HM7.out)
        rw [HZ.out.1, HZ.out.2.1] at HPr
        have HPr' := Lib.hid HPr
        clear HPr HZ
        go_wp2_with fail
        refine HPr'.out.mono ?_
        rintro e w8 ⟨rfl, hm8⟩
        have HSR8 := Lib.hid (HSR.out.mod hm8)
        have HM8 := Lib.hid (HM7.out.trans hm8 (fun _ _ c => c))
        clear hm8 HPr' HSR HM7
        go_wp2_with fail
        go_roundw
        case rel => exact ⟨k + 1, by omega, by go_num, HM8.out, HSR8.out⟩
        case measure => simp [intOf]; omega
      · have heri : (er == 0) = false := by simpa using her
        clear her
        go_wp2_with fail
        go_roundw
        case rel => exact ⟨k + 1, by omega, by go_num, HM7.out, HSR.out⟩
        case measure => simp [intOf]; omega
    · have hk3 : k = 6 := by omega
      subst hk3
      go_wp2_with fail
      go_ret
      exact ⟨rfl, HI.out.1⟩

set_option maxRecDepth 100000 in
set_option maxHeartbeats 8000000 in
theorem lreads_all (raw : ByteArray) (a1 : Option Addr) (len1 cap1 : Nat) (z1 : List Int) (a2 : Int) (a3 : Option Addr) (len3 cap3 : Nat) (z3 : List Int) (a4 a5 a6 : Int) (more : ByteArray) (w : World)
    (w0 : raw.size ≤ maxLen) (w1 : IsRow .u8 w a1 len1 cap1 z1) (w2 : (Lit.int .u8 a2).wf = true) (w3 : IsRow .u8 w a3 len3 cap3 z3) (w4 : (Lit.int .u8 a4).wf = true) (w5 : (Lit.int .u16 a5).wf = true) (w6 : (Lit.int .u8 a6).wf = true) (w7 : more.size ≤ maxLen)
    (htab : Lib.TabIs Tryd.prog w "internal/strconv.uint64pow10" .u64 Lib.pow10Tab) :
    Calls Tryd.prog 4 #[.string raw, .slice a1 len1 cap1, .int .u8 a2, .slice a3 len3 cap3, .int .u8 a4, .int .u16 a5, .int .u8 a6, .string more] w fun e w' => e = .returned (.bool true) ∧ Below w.heap.size w w' := by
  suffices h : Calls Tryd.prog 4 #[.string raw, .slice a1 len1 cap1, .int .u8 a2, .slice a3 len3 cap3, .int .u8 a4, .int .u16 a5, .int .u8 a6, .string more] w fun e w' => e = .returned (.bool true) ∧ Mod w w' NoB from
    h.mono fun e w' h => ⟨h.1, h.2.below (Nat.le_refl _) (fun _ h => h.elim)⟩
  have HT := Lib.hid htab
  by_cases h0 : 80 < raw.size
  · have d0 : decide ((80 : Int) < (raw.size : Int)) = true := decide_eq_true (by omega)
    have n0 : (80 : Int) < (raw.size : Int) := by omega
    clear w0 w1 w2 w3 w4 w5 w6 w7 htab
    go_enter Tryd.func4, Tryd.ntmps4
    go_wp2_with fail
    refine (lknown_any _ HT.out).mono ?_
    rintro e w1 ⟨rfl, hm⟩
    have H1 := Lib.hid hm
    clear hm
    go_wp2_with fail
    go_ret
    exact ⟨rfl, H1.out⟩
  by_cases h1 : 12 < len1
  · have d1 : decide ((12 : Int) < (len1 : Int)) = true := decide_eq_true (by omega)
    have n1 : (12 : Int) < (len1 : Int) := by omega
    have d0 : decide ((80 : Int) < (raw.size : Int)) = false := decide_eq_false (by omega)
    clear w0 w1 w2 w3 w4 w5 w6 w7 htab
    go_enter Tryd.func4, Tryd.ntmps4
    go_wp2_with fail
    refine (lknown_any _ HT.out).mono ?_
    rintro e w1 ⟨rfl, hm⟩
    have H1 := Lib.hid hm
    clear hm
    go_wp2_with fail
    go_ret
    exact ⟨rfl, H1.out⟩
  by_cases h2 : 45 < len3
  · have d2 : decide ((45 : Int) < (len3 : Int)) = true := decide_eq_true (by omega)
    have n2 : (45 : Int) < (len3 : Int) := by omega
    have d0 : decide ((80 : Int) < (raw.size : Int)) = false := decide_eq_false (by omega)
    have d1 : decide ((12 : Int) < (len1 : Int)) = false := decide_eq_false (by omega)
    clear w0 w1 w2 w3 w4 w5 w6 w7 htab
    go_enter Tryd.func4, Tryd.ntmps4
    go_wp2_with fail
    refine (lknown_any _ HT.out).mono ?_
    rintro e w1 ⟨rfl, hm⟩
    have H1 := Lib.hid hm
    clear hm
    go_wp2_with fail
    go_ret
    exact ⟨rfl, H1.out⟩
  by_cases h3 : 20 < more.size
  · have d3 : decide ((20 : Int) < (more.size : Int)) = true := decide_eq_true (by omega)
    have n3 : (20 : Int) < (more.size : Int) := by omega
    have d0 : decide ((80 : Int) < (raw.size : Int)) = false := decide_eq_false (by omega)
    have d1 : decide ((12 : Int) < (len1 : Int)) = false := decide_eq_false (by omega)
    have d2 : decide ((45 : Int) < (len3 : Int)) = false := decide_eq_false (by omega)
    clear w0 w1 w2 w3 w4 w5 w6 w7 htab
    go_enter Tryd.func4, Tryd.ntmps4
    go_wp2_with fail
    refine (lknown_any _ HT.out).mono ?_
    rintro e w1 ⟨rfl, hm⟩
    have H1 := Lib.hid hm
    clear hm
    go_wp2_with fail
    go_ret
    exact ⟨rfl, H1.out⟩
  exact lreads_walk raw a1 len1 cap1 z1 a2 a3 len3 cap3 z3 a4 a5 a6 more w (by omega) (by omega) (by omega) (by omega) w1 w2 w3 w4 w5 w6 htab
end Go.Proofs.YtggnkefhegnokaaDoor
end
