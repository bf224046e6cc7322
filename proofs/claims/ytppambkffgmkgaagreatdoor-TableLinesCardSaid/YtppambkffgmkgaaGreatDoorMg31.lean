/- Merged: TbPr TbK TbCr -/
import Derived.Test.YtppambkffgmkgaaGreatDoorMg27
import Derived.Test.YtppambkffgmkgaaGreatDoorMg30
import Derived.Test.YtppambkffgmkgaaGreatDoorMg18
import Derived.Test.YtppambkffgmkgaaGreatDoorMg26
import Derived.WalkKit
import Derived.Test.YtppambkffgmkgaaGreatDoorMg29
section
/- The contract of table.Print. -/
namespace Go.Proofs.YtppambkffgmkgaaGreatDoor
open Go.RowKit
set_option linter.unusedVariables false

theorem tblL_take {n : Int} {X : List Lf} {k : Nat} {x : Lf} (hx : X[k]? = some x) : tblL n (X.take (k + 1)) = tblL n (X.take k) ++ rowT x := by
  obtain ⟨h1, h2⟩ := List.getElem?_eq_some_iff.1 hx
  unfold tblL
  rw [List.take_succ_eq_append_getElem h1, h2, List.flatMap_append]
  simp
def toB (t : Int) : ByteArray := if 0 ≤ t then dec t.toNat else ⟨#[45]⟩
theorem toB_L (t : Int) : L (toB t) = toL t := by
  unfold toB toL
  split
  · exact dec_L _
  · rfl
theorem thead_cells (un : Nat) : Lib.byteCells [] ++ Lib.strCells (⟨#[116, 97, 98, 108, 101, 32]⟩ ++ dec un ++ ⟨#[10]⟩) = Lib.byteCells (tblL (un : Int) []) := by
  rw [strCells_L, app_L, app_L, dec_L]
  simp [tblL, Lib.byteCells, L]
theorem trow_cells {n : Int} {X : List Lf} {k : Nat} {x : Lf} (hx : X[k]? = some x) (tb : ByteArray) (htb : L tb = toL x.to) :
    Lib.byteCells (tblL n (X.take k)) ++ Lib.strCells (dec x.e.u.toNat ++ ⟨#[32]⟩ ++ dec x.e.v.toNat ++ ⟨#[32]⟩ ++ dec x.fr.toNat ++ ⟨#[32]⟩ ++ tb ++ ⟨#[10]⟩) = Lib.byteCells (tblL n (X.take (k + 1))) := by
  rw [tblL_take hx, byteCells_app, strCells_L, app_L, app_L, app_L, app_L, app_L, app_L, app_L, dec_L, dec_L, dec_L, htb]
  rfl
/-- The closure that writes a number. -/
theorem num_any (un : Nat) (hu : un < 18446744073709551616) (w : World) (htab : Lib.TabIs Tryz.prog w "internal/strconv.uint64pow10" .u64 Lib.pow10Tab) :
    Calls Tryz.prog 25 #[.int .u64 un] w fun e w' => e = .returned (.string (dec un)) ∧ Mod w w' NoB := by
  have HF := Lib.hid (fmtu_any un hu w htab)
  go_enter Tryz.func25, Tryz.ntmps25
  go_wp2_with fail
  refine HF.out.mono ?_
  rintro e w' ⟨rfl, hm⟩
  rw [decD]
  have HM := Lib.hid hm
  clear hm
  go_wp2_with fail
  go_ret
  exact ⟨rfl, HM.out⟩

theorem OPr.lvs {w wr w' : World} {h0 b : Nat} {n : Int} {a xa : Option Addr} {len cap : Nat} {F : List Ev} {X : List Lf} {v : Value} {bs : List UInt8} (h : OPr w wr h0 b n a len cap F v bs) (hL : Lvs wr xa X) (hx : ∀ p, xa = some p → X ≠ [] → p.block < b) (hm : Mod wr w' (BlS b v)) : Lvs w' xa X := by
  by_cases hX : X = []
  · exact Or.inl hX
  · exact hL.modS hm (fun q hq ⟨p, hp, hpb⟩ c => by
      have h1 := hx p hp hX
      have h2 := (h.ge q c).1
      omega)
set_option maxRecDepth 100000 in
set_option maxHeartbeats 8000000 in
theorem tprint_any (w : World) (n : Int) (a : Option Addr) (cap : Nat) (F : List Ev) (hn0 : 0 ≤ n) (hE : Evs w a F) (hl : F.length ≤ 40000) (hb : ∀ x ∈ F, EvB x) (htab : Lib.TabIs Tryz.prog w "internal/strconv.uint64pow10" .u64 Lib.pow10Tab) :
    Calls Tryz.prog 10 #[.agg #[.int .u64 n, .slice a F.length cap]] w fun e w' => e = .returned (.tuple #[.string (prT n F), .int .i64 (chk n F).2]) ∧ Mod w w' NoB := by
  have hmx := mixed
  have HE := Lib.hid (And.intro hE htab)
  have HCk : Hid (∀ z, Evs z a F → Calls Tryz.prog 23 #[.agg #[.int .u64 n, .slice a F.length cap]] z fun e w' => e = .returned (.tuple #[.int .i64 (chk n F).1, .int .i64 (chk n F).2]) ∧ Mod z w' NoB) := fun z hz => hcheck_any z n a cap F hz (by omega) hb
  have HOf : Hid (∀ z, Evs z a F → Calls Tryz.prog 24 #[.agg #[.int .u64 n, .slice a F.length cap]] z fun e w' => ∃ a' cap', e = .returned (.tuple #[.slice a' (ofL n F).length cap', .int .i64 (chk n F).2]) ∧ Lvs w' a' (ofL n F) ∧ Mod z w' NoB) := fun z hz => of_any z n a cap F hz (by omega) hb
  have HH0 := Lib.hid (HAt.start (n := n) (len := F.length) (cap := cap) hE)
  obtain ⟨h0, hh0⟩ : ∃ h0, h0 = w.heap.size := ⟨_, rfl⟩
  obtain ⟨W, hW⟩ : ∃ W, W = w.alloc (.cells #[.int .u64 n, .slice a F.length cap] 25) := ⟨_, rfl⟩
  rw [← hW, ← hh0] at HH0
  obtain ⟨R1, hR1⟩ : ∃ R1, (chk n F).1 = R1 := ⟨_, rfl⟩
  obtain ⟨R2, hR2⟩ : ∃ R2, (chk n F).2 = R2 := ⟨_, rfl⟩
  obtain ⟨PS, hPS⟩ : ∃ PS, prT n F = PS := ⟨_, rfl⟩
  rw [hPS, hR2]
  unfold prT at hPS
  rw [hR2] at hPS HOf
  obtain ⟨X, hX⟩ : ∃ X, ofL n F = X := ⟨_, rfl⟩
  rw [hX] at hPS HOf
  rw [hR1, hR2] at HCk
  have hy0 : w.heap.size ≤ h0 := by omega
  clear hE htab hR1
  go_enter Tryz.func10, Tryz.ntmps10
  have c0 := HH0.out.c0
  have c1 := HH0.out.c1
  go_upto_region 1 with (fail)
  rw [← hW, ← hh0]
  clear hW hh0
  go_wp2_with fail
  refine (HCk.out _ HH0.out.evs).mono ?_
  rintro e w1 ⟨rfl, hm⟩
  have HH1 := Lib.hid (HH0.out.next hm)
  clear hm c0 c1 HH0 HCk
  by_cases hz : R2 = 0
  · subst hz
    rw [if_pos rfl] at hPS
    subst hPS
    obtain ⟨ol1, ol2, ol3, -, hnN⟩ := ofL_ok hR2 hl hb
    have HBD := Lib.hid (And.intro ol2 ol3)
    have htbl := tblL_len (n := n) ⟨hn0, hnN⟩ ol2
    rw [hX] at HBD htbl
    have hXl : X.length ≤ 40000 := by have := HBD.out.2; omega
    clear hR2 ol1 ol2 ol3 hb hX
    have c0 := HH1.out.c0
    have c1 := HH1.out.c1
    go_wp2_with fail
    refine (HOf.out _ HH1.out.evs).mono ?_
    rintro e w2 ⟨xa, xc, rfl, hLv, hm⟩
    have HH2 := Lib.hid (HH1.out.next hm)
    have HL2 := Lib.hid hLv
    clear hLv hm c0 c1 HOf HH1
    have c0 := HH2.out.c0
    have c1 := HH2.out.c1
    go_upto_region 6 with (fail)
    have hm0 : Mod w2 (w2.alloc (.cells #[.pointer none, .slice none 0 0] 73)) NoB := (Mod.refl _ _).alloc _
    have HO : Hid (OPr w (w2.alloc (.cells #[.pointer none, .slice none 0 0] 73)) h0 w2.heap.size n a F.length cap F (.slice none 0 0) []) :=
      ⟨HH2.out.next hm0, Bl.made w2 _ (Nat.le_refl _), by have : h0 < w2.heap.size := World.block_lt_of_cell? _ _ c0; exact this, hy0⟩
    have HLv := Lib.hid (HL2.out.mod hm0)
    have hxb : ∀ p, xa = some p → X ≠ [] → p.block < w2.heap.size := fun p hp hne => by
      rcases HL2.out with h | ⟨b', off, h1, h2, _⟩
      · exact absurd h hne
      · rw [h1] at hp; cases hp; exact h2
    obtain ⟨b, hbk⟩ : ∃ b, b = w2.heap.size := ⟨_, rfl⟩
    obtain ⟨V, hV⟩ : ∃ V, V = w2.alloc (.cells #[.pointer none, .slice none 0 0] 73) := ⟨_, rfl⟩
    rw [← hV, ← hbk] at HO
    rw [← hV] at HLv
    rw [← hbk] at hxb
    rw [← hV, ← hbk]
    have HXb := Lib.hid hxb
    clear hV hbk c0 c1 HH2 HL2 hm0 hxb
    have c0 := HO.out.h.c0
    have c1 := HO.out.h.c1
    obtain ⟨un, hun⟩ : ∃ un : Nat, n = (un : Int) := ⟨n.toNat, nat_of hn0⟩
    subst hun
    have HF0 : Hid (Calls Tryz.prog 25 #[.int .u64 un] V fun e w' => e = .returned (.string (dec un)) ∧ Mod V w' NoB) := num_any un (by omega) V (tab_mod HE.out.2 HO.out.h.mod)
    have hds := dec_size un
    have hd20 := decL_len20 un (by omega)
    have s1 := sadd (P := Tryz.prog) ⟨#[116, 97, 98, 108, 101, 32]⟩ (dec un) (by show 6 + _ ≤ _; omega)
    have s2 := sadd (P := Tryz.prog) (⟨#[116, 97, 98, 108, 101, 32]⟩ ++ dec un) ⟨#[10]⟩ (by rw [ByteArray.size_append]; show 6 + (dec un).size + 1 ≤ _; omega)
    go_wp2_with fail
    refine HF0.out.mono ?_
    rintro e w3 ⟨rfl, hm⟩
    have HO2 := Lib.hid (HO.out.next hm)
    have HLv2 := Lib.hid (HLv.out.mod hm)
    clear hm c0 c1 HF0 HO HLv
    go_wp2_with fail
    refine (bwrite_bl b b _ [] _ w3 HO2.out.bl (by rw [ByteArray.size_append, ByteArray.size_append]; show 0 + (6 + (dec un).size + 1) ≤ _; omega) (Nat.le_of_lt HO2.out.bl.lt)).mono ?_
    rintro e w4 ⟨rfl, v4, hb4, hm4⟩
    have hb4' : Bl b w4 b v4 (Lib.byteCells (tblL (un : Int) [])) := by rw [← thead_cells]; exact hb4
    have HO4 := Lib.hid (HO2.out.wrote HE.out.1 hb4' hm4)
    have HLv4 := Lib.hid (HO2.out.lvs HLv2.out HXb.out hm4)
    clear hb4 hb4' hm4 HO2 HLv2 s1 s2 hds hd20
    go_wp2_with fail
    go_loopw [35] (fun v35 wr => ∃ (k : Nat) (v : Value), k ≤ X.length ∧ v35 = .int .i64 k ∧ Hid (OPr w wr h0 b un a F.length cap F v (tblL un (X.take k)) ∧ Lvs wr xa X)) (fun v35 _ => X.length - (intOf v35).toNat)
    case atStart => exact ⟨0, v4, Nat.zero_le _, rfl, by rw [List.take_zero]; exact HO4.out, HLv4.out⟩
    case round =>
      obtain ⟨k, v, hk, rfl, HI⟩ := hrel
      by_cases hlt : k < X.length
      · obtain ⟨b', off, x, rfl, hbw, hx, hC⟩ := HI.out.2.at hlt
        have hki : (k : Int) < X.length := by omega
        obtain ⟨q0, q1, q2, q3⟩ := hC
        have HX := Lib.hid (And.intro hx (HBD.out.1 x (List.mem_of_getElem? hx)))
        clear hx hbw
        go_upto_region 11 with (fail)
        have h7 : Mod wr (wr.alloc (.cells #[.int .u32 x.e.u, .int .u32 x.e.v, .int .i64 x.fr, .int .i64 x.to] 81)) NoB := (Mod.refl _ _).alloc _
        have HO7 := Lib.hid (HI.out.1.next h7)
        have HL7 := Lib.hid (HI.out.2.mod h7)
        have HX7 : Hid (LfAt (wr.alloc (.cells #[.int .u32 x.e.u, .int .u32 x.e.v, .int .i64 x.fr, .int .i64 x.to] 81)) wr.heap.size 0 x) := ⟨World.cell?_alloc_at _ _ _ _ rfl, World.cell?_alloc_at _ _ _ _ rfl, World.cell?_alloc_at _ _ _ _ rfl, World.cell?_alloc_at _ _ _ _ rfl⟩
        have hgx : ∀ q, BlS b v q → q < wr.heap.size := fun q hq => (HI.out.1.ge q hq).2
        obtain ⟨gx, hgx'⟩ : ∃ gx, gx = wr.heap.size := ⟨_, rfl⟩
        obtain ⟨V, hV⟩ : ∃ V, V = wr.alloc (.cells #[.int .u32 x.e.u, .int .u32 x.e.v, .int .i64 x.fr, .int .i64 x.to] 81) := ⟨_, rfl⟩
        rw [← hV] at HO7 HL7
        rw [← hV, ← hgx'] at HX7
        rw [← hgx'] at hgx
        rw [← hV, ← hgx']
        have hngx : ¬ BlS b v gx := fun c => Nat.lt_irrefl _ (hgx gx c)
        clear hV hgx' h7 q0 q1 q2 q3 hgx
        obtain ⟨k0, k1, k2, k3⟩ := HX7.out
        simp only [Nat.zero_add] at k1 k2 k3
        obtain ⟨tb, htb⟩ : ∃ tb, toB x.to = tb := ⟨_, rfl⟩
        have htl : L tb = toL x.to := by rw [← htb]; exact toB_L _
        by_cases hto : 0 ≤ x.to
        focus
          obtain ⟨tn, htn⟩ : ∃ tn : Nat, x.to = (tn : Int) := ⟨x.to.toNat, nat_of hto⟩
          have hbt := HX.out.2.2.2.2
          have htd : decide ((0 : Int) ≤ x.to) = true := decide_eq_true hto
          have hwt : IntKind.u64.wrap x.to = (tn : Int) := by rw [IntKind.wrap_u64]; omega
          have htb2 : tb = dec tn := by rw [← htb]; unfold toB; rw [if_pos hto, htn, Int.toNat_natCast]
          have HN : Hid (Calls Tryz.prog 25 #[.int .u64 tn] V fun e w' => e = .returned (.string tb) ∧ Mod V w' NoB) := by
            have h := num_any tn (by omega) V (tab_mod HE.out.2 HO7.out.h.mod)
            rw [← htb2] at h
            exact h
          clear htb htb2 htn hbt
          go_wp2_with fail
          refine HN.out.mono ?_
          rintro e wc ⟨rfl, hm⟩
          replace HO7 := Lib.hid (HO7.out.next hm)
          replace HL7 := Lib.hid (HL7.out.mod hm)
          replace HX7 := Lib.hid (HX7.out.mod hm)
          clear hm HN htd hwt k0 k1 k2 k3
          obtain ⟨k0, k1, k2, k3⟩ := HX7.out
          simp only [Nat.zero_add] at k1 k2 k3
          go_upto_region 14 with (fail)
        rotate_left
        focus
          have htd : decide ((0 : Int) ≤ x.to) = false := decide_eq_false hto
          have htb2 : tb = ⟨#[45]⟩ := by rw [← htb]; unfold toB; rw [if_neg hto]
          obtain ⟨wc, hwc⟩ : ∃ wc, wc = V := ⟨_, rfl⟩
          rw [← hwc] at HO7 HL7 HX7 k0 k1 k2 k3 ⊢
          clear htb hwc
          go_upto_region 14 with (fail)
          rw [← htb2]
          clear htb2 htd
        all_goals
          have hxu := HX.out.2.1.1
          have hxv := HX.out.2.1.2
          have hxf := HX.out.2.2.1
          have wu := u64_of hxu
          have wv := u64_of hxv
          have wf : IntKind.u64.wrap x.fr = x.fr := by rw [IntKind.wrap_u64]; omega
          have hxt := HX.out.2.2.2.2
          obtain ⟨du, hdu⟩ : ∃ d, dec x.e.u.toNat = d := ⟨_, rfl⟩
          obtain ⟨dv, hdv⟩ : ∃ d, dec x.e.v.toNat = d := ⟨_, rfl⟩
          obtain ⟨df, hdf⟩ : ∃ d, dec x.fr.toNat = d := ⟨_, rfl⟩
          have zu : du.size ≤ 20 := by rw [← hdu, dec_size]; exact decL_len20 _ (by omega)
          have zv : dv.size ≤ 20 := by rw [← hdv, dec_size]; exact decL_len20 _ (by omega)
          have zf : df.size ≤ 20 := by rw [← hdf, dec_size]; exact decL_len20 _ (by omega)
          have zt : tb.size ≤ 20 := by
            rw [← L_len, htl]
            unfold toL
            split
            all_goals first | exact decL_len20 _ (by omega) | exact Nat.le_of_ble_eq_true rfl
          have HUi : Hid (∀ z, Mod wc z NoB → Calls Tryz.prog 25 #[.int .u64 x.e.u] z fun e w' => e = .returned (.string du) ∧ Mod z w' NoB) := fun z hz => by
            have h := num_any x.e.u.toNat (by omega) z (tab_mod HE.out.2 (HO7.out.h.mod.trans hz (fun _ _ c => c)))
            rw [← nat_of hxu.1] at h
            rw [← hdu]; exact h
          have HVi : Hid (∀ z, Mod wc z NoB → Calls Tryz.prog 25 #[.int .u64 x.e.v] z fun e w' => e = .returned (.string dv) ∧ Mod z w' NoB) := fun z hz => by
            have h := num_any x.e.v.toNat (by omega) z (tab_mod HE.out.2 (HO7.out.h.mod.trans hz (fun _ _ c => c)))
            rw [← nat_of hxv.1] at h
            rw [← hdv]; exact h
          have HFi : Hid (∀ z, Mod wc z NoB → Calls Tryz.prog 25 #[.int .u64 x.fr] z fun e w' => e = .returned (.string df) ∧ Mod z w' NoB) := fun z hz => by
            have h := num_any x.fr.toNat (by omega) z (tab_mod HE.out.2 (HO7.out.h.mod.trans hz (fun _ _ c => c)))
            rw [← nat_of hxf.1] at h
            rw [← hdf]; exact h
          have c1s : (⟨#[32]⟩ : ByteArray).size = 1 := rfl
          have c2s : (⟨#[10]⟩ : ByteArray).size = 1 := rfl
          have e1 := sadd (P := Tryz.prog) du ⟨#[32]⟩ (by omega)
          obtain ⟨y1, hy1⟩ : ∃ y, y = du ++ ⟨#[32]⟩ := ⟨_, rfl⟩
          have z1 : y1.size ≤ 21 := by rw [hy1, ByteArray.size_append]; omega
          rw [← hy1] at e1
          have e2 := sadd (P := Tryz.prog) y1 dv (by omega)
          obtain ⟨y2, hy2⟩ : ∃ y, y = y1 ++ dv := ⟨_, rfl⟩
          have z2 : y2.size ≤ 41 := by rw [hy2, ByteArray.size_append]; omega
          rw [← hy2] at e2
          have e3 := sadd (P := Tryz.prog) y2 ⟨#[32]⟩ (by omega)
          obtain ⟨y3, hy3⟩ : ∃ y, y = y2 ++ ⟨#[32]⟩ := ⟨_, rfl⟩
          have z3 : y3.size ≤ 42 := by rw [hy3, ByteArray.size_append]; omega
          rw [← hy3] at e3
          have e4 := sadd (P := Tryz.prog) y3 df (by omega)
          obtain ⟨y4, hy4⟩ : ∃ y, y = y3 ++ df := ⟨_, rfl⟩
          have z4 : y4.size ≤ 62 := by rw [hy4, ByteArray.size_append]; omega
          rw [← hy4] at e4
          have e5 := sadd (P := Tryz.prog) y4 ⟨#[32]⟩ (by omega)
          obtain ⟨y5, hy5⟩ : ∃ y, y = y4 ++ ⟨#[32]⟩ := ⟨_, rfl⟩
          have z5 : y5.size ≤ 63 := by rw [hy5, ByteArray.size_append]; omega
          rw [← hy5] at e5
          have e6 := sadd (P := Tryz.prog) y5 tb (by omega)
          obtain ⟨y6, hy6⟩ : ∃ y, y = y5 ++ tb := ⟨_, rfl⟩
          have z6 : y6.size ≤ 83 := by rw [hy6, ByteArray.size_append]; omega
          rw [← hy6] at e6
          have e7 := sadd (P := Tryz.prog) y6 ⟨#[10]⟩ (by omega)
          obtain ⟨y7, hy7⟩ : ∃ y, y = y6 ++ ⟨#[10]⟩ := ⟨_, rfl⟩
          have z7 : y7.size ≤ 84 := by rw [hy7, ByteArray.size_append]; omega
          rw [← hy7] at e7
          have hbl : (Lib.byteCells (tblL un (X.take k))).length ≤ 27 + 85 * 40000 := by
            rw [Lib.byteCells_length]
            have h1 := tblL_len (n := (un : Int)) (X := X.take k) ⟨hn0, hnN⟩ (fun y hy => HBD.out.1 y (List.mem_of_mem_take hy))
            have h2 : (X.take k).length ≤ k := by simp; omega
            omega
          have hcells : Lib.byteCells (tblL un (X.take k)) ++ Lib.strCells y7 = Lib.byteCells (tblL un (X.take (k + 1))) := by
            rw [← trow_cells HX.out.1 tb htl, hdu, hdv, hdf, hy7, hy6, hy5, hy4, hy3, hy2, hy1]
          have HWr : Hid (∀ z, Mod wc z NoB → Calls Tryz.prog 27 #[.pointer (some ⟨b, 0, none⟩), .string y7] z fun e w' => e = .returned (.tuple #[.int .i64 y7.size, .nilIface]) ∧ ∃ v', Bl b w' b v' (Lib.byteCells (tblL un (X.take (k + 1)))) ∧ Mod z w' (BlS b v)) := fun z hz => by
            have hbz := HO7.out.bl.mod hz (by simp [NoB]) (fun _ _ c => c)
            refine (bwrite_bl b b v _ _ z hbz (by omega) (Nat.le_of_lt hbz.lt)).mono ?_
            rintro e w' ⟨rfl, v', h1, h2⟩
            refine ⟨rfl, v', ?_, h2⟩
            rw [← hcells]
            exact h1
          clear hdu hdv hdf htl zu zv zf zt z1 z2 z3 z4 z5 z6 z7 hy1 hy2 hy3 hy4 hy5 hy6 hy7 hbl hxu hxv hxf hxt hcells c1s c2s hto
          go_region_held3 (fun z => z.cell? ⟨gx, 0, none⟩ = some (.int .u32 x.e.u) ∧ z.cell? ⟨gx, 1, none⟩ = some (.int .u32 x.e.v) ∧ z.cell? ⟨gx, 2, none⟩ = some (.int .i64 x.fr))
            (first | exact ⟨k0, k1, k2⟩ | exact ⟨keepS k0 H8.out.1 hngx, keepS k1 H8.out.1 hngx, keepS k2 H8.out.1 hngx⟩ | exact ⟨keepc k0 H7.out, keepc k1 H7.out, keepc k2 H7.out⟩ | exact ⟨keepc k0 H6.out, keepc k1 H6.out, keepc k2 H6.out⟩ | exact ⟨keepc k0 H5.out, keepc k1 H5.out, keepc k2 H5.out⟩)
            (first
              | (go_at_call 27; refine (HWr.out _ H7.out).mono ?_; rintro r w8 ⟨rfl, v8, hb8, hm8⟩; have H8 := Lib.hid (And.intro ((H7.out.mono (T := BlS b v) (fun _ _ c => c.elim)).trans hm8 (fun _ _ c => c)) hb8); clear hm8 hb8)
              | (have hq := H6; clear hq; refine (HFi.out _ H6.out).mono ?_; rintro r w7 ⟨rfl, hm7⟩; have H7 := Lib.hid (H6.out.trans hm7 (fun _ _ c => c)); clear hm7)
              | (have hq := H5; clear hq; refine (HVi.out _ H5.out).mono ?_; rintro r w6 ⟨rfl, hm6⟩; have H6 := Lib.hid (H5.out.trans hm6 (fun _ _ c => c)); clear hm6)
              | (refine (HUi.out _ (Mod.drew (Mod.refl _ NoB))).mono ?_; rintro r w5 ⟨rfl, hm5⟩; have H5 := Lib.hid (Mod.trans (Mod.drew (Mod.refl wc NoB)) hm5 (fun _ _ c => c)); clear hm5))
          have HO8 := Lib.hid (HO7.out.wrote HE.out.1 H8.out.2 H8.out.1)
          have HL8 := Lib.hid (HO7.out.lvs HL7.out HXb.out H8.out.1)
          go_wp2_with fail
          go_roundw
          case rel => exact ⟨k + 1, v8, by omega, by go_num, HO8.out, HL8.out⟩
          case measure => simp [intOf]; omega
      · have hkl : k = X.length := by omega
        subst hkl
        rw [List.take_length] at HI
        go_wp2_with fail
        refine (bstring_bl b b v _ _ HI.out.1.bl (Nat.le_of_lt HI.out.1.bl.lt)).mono ?_
        rintro e w9 ⟨rfl, hbe⟩
        have HZ : Hid (Mod w w9 NoB) := HI.out.1.h.mod.trans (⟨hbe.os, hbe.tape, hbe.output, hbe.size, fun q hq hn => hbe.block q (Nat.lt_of_not_le hn)⟩ : Mod wr w9 (fun q => b ≤ q)) (fun i hi c => by have := HI.out.1.lt.1; have := HI.out.1.lt.2; omega)
        clear hbe
        go_wp2_with fail
        go_ret2
        exact ⟨rfl, HZ.out⟩
  · have hne : ((R2 : Int) == 0) = false := beq_eq_false_iff_ne.2 (by omega)
    rw [if_neg hz] at hPS
    subst hPS
    have HM1 := Lib.hid HH1.out.mod
    clear hR2 hz HOf
    go_wp2_with fail
    go_ret2
    exact ⟨rfl, HM1.out⟩
end Go.Proofs.YtppambkffgmkgaaGreatDoor
end

section
/- The statements' known of the table. -/
namespace Go.Proofs.YtppambkffgmkgaaGreatDoor
open Go.RowKit Go.Maps
set_option linter.unusedVariables false

def tkA : ByteArray := ⟨#[116, 97, 98, 108, 101, 32, 50, 10, 48, 32, 49, 32, 48, 32, 45, 10]⟩
def tkB : ByteArray := ⟨#[116, 97, 98, 108, 101, 32, 50, 10, 48, 32, 49, 32, 48, 32, 48, 10]⟩
theorem tkA_parse : parseT (L tkA) = ([⟨⟨0, 1⟩, 0, -1⟩], (0, 0), 0) := by kernel_rfl
theorem tkA_n : parseTN (L tkA) = 2 := by kernel_rfl
theorem tkA_e : parseTE (L tkA) = [⟨0, ⟨0, 1⟩, true⟩] := by kernel_rfl
theorem tkB_parse : parseT (L tkB) = ([], (2, 1), 23) := by kernel_rfl
theorem tkB_n : parseTN (L tkB) = 0 := by kernel_rfl
theorem tkB_e : parseTE (L tkB) = [] := by kernel_rfl
theorem tkA_print : prT 2 [⟨0, ⟨0, 1⟩, true⟩] = tkA ∧ (chk 2 [⟨0, ⟨0, 1⟩, true⟩]).2 = 0 := by
  have h := prT_inv (x := tkA) (by decide) (by rw [tkA_parse])
  rw [tkA_n, tkA_e] at h
  exact ⟨h.1, h.2.1⟩

/-- A history and a place, in blocks of their own. -/
structure HPl (w W : World) (g1 g2 : Nat) (n : Int) (v : Value) (x y : Int) : Prop where
  mod : Mod w W NoB
  h0 : W.cell? ⟨g1, 0, none⟩ = some (.int .u64 n)
  h1 : W.cell? ⟨g1, 1, none⟩ = some v
  p0 : W.cell? ⟨g2, 0, none⟩ = some (.int .i64 x)
  p1 : W.cell? ⟨g2, 1, none⟩ = some (.int .i64 y)
theorem HPl.next {w W W' : World} {g1 g2 : Nat} {n : Int} {v : Value} {x y : Int} (h : HPl w W g1 g2 n v x y) (hm : Mod W W' NoB) : HPl w W' g1 g2 n v x y :=
  ⟨h.mod.trans hm (fun _ _ c => c), keepc h.h0 hm, keepc h.h1 hm, keepc h.p0 hm, keepc h.p1 hm⟩
theorem HPl.start {w : World} {n : Int} {v : Value} {x y : Int} : HPl w ((w.alloc (.cells #[.int .u64 n, v] 25)).alloc (.cells #[.int .i64 x, .int .i64 y] 38)) w.heap.size (w.heap.size + 1) n v x y := by
  have hs1 : (w.alloc (.cells #[.int .u64 n, v] 25)).heap.size = w.heap.size + 1 := by simp
  have lt : w.heap.size < (w.alloc (.cells #[.int .u64 n, v] 25)).heap.size := by rw [hs1]; omega
  exact ⟨((Mod.refl _ _).alloc _).alloc _, (World.cell?_alloc_lt _ _ _ lt).trans (World.cell?_alloc_at _ _ _ _ rfl), (World.cell?_alloc_lt _ _ _ lt).trans (World.cell?_alloc_at _ _ _ _ rfl), World.cell?_alloc_at _ _ _ _ hs1.symm, World.cell?_alloc_at _ _ _ _ hs1.symm⟩

set_option maxRecDepth 100000 in
set_option maxHeartbeats 4000000 in
theorem tknown_any (w : World) (htab : Lib.TabIs Tryz.prog w "internal/strconv.uint64pow10" .u64 Lib.pow10Tab) : Calls Tryz.prog 6 #[] w fun e w' => e = .returned (.bool true) ∧ Mod w w' NoB := by
  have HT := Lib.hid htab
  clear htab
  go_enter Tryz.func6, Tryz.ntmps6
  go_wp2_with fail
  refine (tparse_any _ tkA (by decide)).mono ?_
  rw [tkA_parse, tkA_n, tkA_e]
  rintro e w1 ⟨a1, c1, rfl, hE, hm⟩
  have HM1 := Lib.hid hm
  have HE1 := Lib.hid hE
  clear hm hE
  go_upto_region 2 with (fail)
  have HA := Lib.hid (HPl.start (w := w1) (n := 2) (v := .slice a1 1 c1) (x := 0) (y := 0))
  obtain ⟨g1, hg1⟩ : ∃ g, g = w1.heap.size := ⟨_, rfl⟩
  obtain ⟨g2, hg2⟩ : ∃ g, g = w1.heap.size + 1 := ⟨_, rfl⟩
  obtain ⟨W2, hW2⟩ : ∃ W, W = ((w1.alloc (.cells #[.int .u64 2, .slice a1 1 c1] 25)).alloc (.cells #[.int .i64 0, .int .i64 0] 38)) := ⟨_, rfl⟩
  rw [← hW2, ← hg2, ← hg1] at HA ⊢
  clear hW2 hg2 hg1
  have HP := tprint_any W2 2 a1 c1 [⟨0, ⟨0, 1⟩, true⟩] (by decide) (HE1.out.mod HA.out.mod) (by decide) (by intro x hx; rw [List.mem_singleton.1 hx]; exact ⟨by decide, by decide⟩) (tab_mod HT.out (HM1.out.trans HA.out.mod (fun _ _ c => c)))
  rw [tkA_print.1, tkA_print.2] at HP
  unfold tkA at HP
  have HP' := Lib.hid HP
  have c0 := HA.out.h0
  have c1' := HA.out.h1
  clear HP
  go_wp2_with fail
  refine HP'.out.mono ?_
  rintro e w3 ⟨rfl, hm⟩
  have HA3 := Lib.hid (HA.out.next hm)
  clear hm c0 c1' HP' HA
  go_wp2_with fail
  refine (tparse_any _ tkB (by decide)).mono ?_
  rw [tkB_parse, tkB_n, tkB_e]
  rintro e w4 ⟨a4, c4, rfl, _, hm⟩
  have HA4 := Lib.hid (HA3.out.next hm)
  clear hm HA3
  go_upto_region 4 with (fail)
  have HB := Lib.hid (HPl.start (w := w4) (n := 0) (v := .slice a4 0 c4) (x := 2) (y := 1))
  have HA5 := Lib.hid (HA4.out.next HB.out.mod)
  obtain ⟨g6, hg6⟩ : ∃ g, g = w4.heap.size := ⟨_, rfl⟩
  obtain ⟨g7, hg7⟩ : ∃ g, g = w4.heap.size + 1 := ⟨_, rfl⟩
  obtain ⟨W5, hW5⟩ : ∃ W, W = ((w4.alloc (.cells #[.int .u64 0, .slice a4 0 c4] 25)).alloc (.cells #[.int .i64 2, .int .i64 1] 38)) := ⟨_, rfl⟩
  rw [← hW5] at HA5
  rw [← hW5, ← hg7, ← hg6] at HB
  rw [← hW5, ← hg7, ← hg6]
  clear hW5 hg6 hg7 HA4
  have c0 := HA5.out.h0
  have c1' := HA5.out.h1
  have c2 := HA5.out.p0
  have c3 := HA5.out.p1
  have d2 := HB.out.p0
  have d3 := HB.out.p1
  have HZ := Lib.hid (HM1.out.trans HA5.out.mod (fun _ _ c => c))
  go_wp2_with fail
  go_ret
  exact ⟨rfl, HZ.out⟩
end Go.Proofs.YtppambkffgmkgaaGreatDoor
end

section
/- Plain: what the text of a table is read as that ends ahead of its end. -/
namespace Go.Proofs.YtppambkffgmkgaaGreatDoor
set_option linter.unusedVariables false

theorem toS_digit {st : SS} (h : nextS st ≠ some 45) : toS st = numS 4611686018427387903 st := by unfold toS; rw [if_neg h]
theorem toS_err : cutErr (fun st => (toS st).2) := fun st h => by
  show (toS st).2 = st
  rw [toS_digit (by unfold nextS; rw [if_neg h]; simp), numS_err h]
theorem dec_head (n : Nat) (z : List UInt8) (p : Int × Int) : nextS ⟨decL n ++ z, p, 0⟩ ≠ some 45 := by
  unfold nextS
  rw [if_pos rfl]
  intro c
  cases hd : decL n with
  | nil => exact decL_ne0 _ hd
  | cons d l =>
    have h1 := decL_digits n d (by rw [hd]; simp)
    rw [hd] at c
    have : d = 45 := by simpa using c
    rw [this] at h1
    exact absurd h1 (by decide)
theorem toS_mid {t : Int} (h : t ≤ 4611686018427387903) : cutMid (fun st => (toS st).2) (toL t) := by
  intro y p hy hne
  show (toS ⟨y, p, 0⟩).2 = _ ∨ (toS ⟨y, p, 0⟩).2 = _
  by_cases h0 : y = []
  · subst h0
    left
    rw [toS_digit (by simp [nextS])]
    simp [numS, numOut, numErr, SS.go, adv]
  · unfold toL at hy hne
    by_cases ht : 0 ≤ t
    · rw [if_pos ht] at hy hne
      obtain ⟨k, hk, rfl⟩ := dec_prefix _ y hy h0
      have hn := dec_head k [] p
      rw [List.append_nil] at hn
      rw [toS_digit hn]
      exact num_cutMid (by decide) (by omega) (decL k) p hy hne
    · rw [if_neg ht] at hy hne
      cases y with
      | nil => exact absurd rfl h0
      | cons c y =>
        rw [List.cons_prefix_cons] at hy
        exact absurd (by rw [hy.1, List.prefix_nil.1 hy.2]) hne
theorem toS_full {t : Int} (h : t ≤ 4611686018427387903) (z : List UInt8) (hz : z <+: [10]) : cutFull (fun st => (toS st).2) (toL t) z := by
  intro p
  show (toS ⟨toL t ++ z, p, 0⟩).2 = _
  unfold toL
  by_cases ht : 0 ≤ t
  · rw [if_pos ht, toS_digit (dec_head _ z p)]
    exact num_full (by decide) (by omega) 10 [] z (by decide) hz p
  · rw [if_neg ht]
    unfold toS
    rw [if_pos (by rfl)]
    exact byte_full (by decide) z p
def rowSteps (x : Lf) : List ((SS → SS) × List UInt8) :=
  [(fun st => (numS 4294967295 st).2, decL x.e.u.toNat), (fun st => (wordS [32] st).2, [32]), (fun st => (numS 4294967295 st).2, decL x.e.v.toNat), (fun st => (wordS [32] st).2, [32]),
   (fun st => (numS 4611686018427387903 st).2, decL x.fr.toNat), (fun st => (wordS [32] st).2, [32]), (fun st => (toS st).2, toL x.to), (fun st => (wordS [10] st).2, [10])]
theorem rowSteps_run (x : Lf) (st : SS) : runC (rowSteps x) st = (lfS st).2 := rfl
theorem rowSteps_words (x : Lf) : wordsC (rowSteps x) = rowT x := by simp [wordsC, rowSteps, rowT]
theorem toL_ne (t : Int) : toL t ≠ [] := by unfold toL; split; · exact decL_ne0 _
                                            · simp
theorem rowSteps_ok (x : Lf) (hx : LfB x) : OkC (rowSteps x) := by
  obtain ⟨⟨b1, b2⟩, b3, b4, b5⟩ := hx
  have h1 : (x.e.u.toNat : Int) ≤ 4294967295 := by omega
  have h2 : (x.e.v.toNat : Int) ≤ 4294967295 := by omega
  have h3 : (x.fr.toNat : Int) ≤ 4611686018427387903 := by omega
  unfold rowSteps
  refine ⟨decL_ne0 _, num_cutErr _, ?_, by simp, word_cutErr _, ?_, decL_ne0 _, num_cutErr _, ?_, by simp, word_cutErr _, ?_, decL_ne0 _, num_cutErr _, ?_, by simp, word_cutErr _, ?_, toL_ne _, toS_err, ?_, by simp, word_cutErr _, ?_, trivial⟩
  · rw [if_neg (by simp)]; exact ⟨num_cutMid (by decide) h1, fun z hz => num_full (by decide) h1 32 _ z (by decide) hz⟩
  · rw [if_neg (by simp)]; exact ⟨byte_mid _, fun z _ => byte_full (by decide) z⟩
  · rw [if_neg (by simp)]; exact ⟨num_cutMid (by decide) h2, fun z hz => num_full (by decide) h2 32 _ z (by decide) hz⟩
  · rw [if_neg (by simp)]; exact ⟨byte_mid _, fun z _ => byte_full (by decide) z⟩
  · rw [if_neg (by simp)]; exact ⟨num_cutMid (by decide) h3, fun z hz => num_full (by decide) h3 32 _ z (by decide) hz⟩
  · rw [if_neg (by simp)]; exact ⟨byte_mid _, fun z _ => byte_full (by decide) z⟩
  · rw [if_neg (by simp)]; exact ⟨toS_mid b5, fun z hz => toS_full b5 z (by simpa [wordsC] using hz)⟩
  · rw [if_pos rfl]; exact word_cutLast _
theorem lfS_cut (x : Lf) (hx : LfB x) (y : List UInt8) (p : Int × Int) (h : y <+: rowT x) (hn : y ≠ rowT x) :
    (lfS ⟨y, p, 0⟩).2.er = 20 ∧ (lfS ⟨y, p, 0⟩).2.p.1 = p.1 ∧ (lfS ⟨y, p, 0⟩).2.p.2 ≤ p.2 + y.length := by
  have := runC_cut (rowSteps x) (rowSteps_ok x hx) y p (by rw [rowSteps_words]; exact h) (by rw [rowSteps_words]; exact hn)
  rw [rowSteps_run] at this
  exact this
def hdtSteps (n : Nat) : List ((SS → SS) × List UInt8) :=
  [(fun st => (wordS [116, 97, 98, 108, 101] st).2, [116, 97, 98, 108, 101]), (fun st => (wordS [32] st).2, [32]), (fun st => (numS 4294967296 st).2, decL n), (fun st => (wordS [10] st).2, [10])]
theorem hdtSteps_ok (n : Nat) (hn : n ≤ 4294967296) : OkC (hdtSteps n) := by
  have h1 : (n : Int) ≤ 4294967296 := by omega
  unfold hdtSteps
  refine ⟨by simp, word_cutErr _, ?_, by simp, word_cutErr _, ?_, decL_ne0 _, num_cutErr _, ?_, by simp, word_cutErr _, ?_, trivial⟩
  · rw [if_neg (by simp)]
    refine ⟨fun y p h hn => Or.inl (word_cutLast _ y p h hn), fun z _ p => ?_⟩
    show (wordS [116, 97, 98, 108, 101] ⟨[116, 97, 98, 108, 101] ++ z, p, 0⟩).2 = _
    rw [wordS_there]
    simp [adv]
    omega
  · rw [if_neg (by simp)]; exact ⟨byte_mid _, fun z _ => byte_full (by decide) z⟩
  · rw [if_neg (by simp)]; exact ⟨num_cutMid (by decide) h1, fun z hz => num_full (by decide) h1 10 _ z (by decide) hz⟩
  · rw [if_pos rfl]; exact word_cutLast _
theorem hdT_cut (n : Nat) (hn : n ≤ 4294967296) (y : List UInt8) (h : y <+: [116, 97, 98, 108, 101, 32] ++ decL n ++ [10]) (hne : y ≠ [116, 97, 98, 108, 101, 32] ++ decL n ++ [10]) :
    (hdT y).2.er = 20 ∧ (hdT y).2.p.1 = 1 ∧ (hdT y).2.p.2 ≤ 1 + y.length := by
  have hw : wordsC (hdtSteps n) = [116, 97, 98, 108, 101, 32] ++ decL n ++ [10] := by simp [wordsC, hdtSteps]
  exact runC_cut (hdtSteps n) (hdtSteps_ok n hn) y (1, 1) (by rw [hw]; exact h) (by rw [hw]; exact hne)

def rowA (x : Lf) : List UInt8 := decL x.e.u.toNat ++ [32] ++ decL x.e.v.toNat ++ [32] ++ decL x.fr.toNat ++ [32] ++ toL x.to
theorem toL_no10 (t : Int) : ∀ c ∈ toL t, c.toNat ≠ 10 := by
  intro c hc
  unfold toL at hc
  split at hc
  · exact decL_no10 _ c hc
  · simp at hc; subst hc; decide
theorem rowA_no10 (x : Lf) : ∀ c ∈ rowA x, c.toNat ≠ 10 := by
  intro c hc
  unfold rowA at hc
  simp only [List.mem_append] at hc
  rcases hc with (((((hc | hc) | hc) | hc) | hc) | hc) | hc
  · exact decL_no10 _ c hc
  · simp at hc; subst hc; decide
  · exact decL_no10 _ c hc
  · simp at hc; subst hc; decide
  · exact decL_no10 _ c hc
  · simp at hc; subst hc; decide
  · exact toL_no10 _ c hc
def headT (n : Nat) : List UInt8 := [116, 97, 98, 108, 101, 32] ++ decL n
theorem headT_no10 (n : Nat) : ∀ c ∈ headT n, c.toNat ≠ 10 := by
  intro c hc
  unfold headT at hc
  simp only [List.mem_append] at hc
  rcases hc with hc | hc
  · simp at hc; rcases hc with rfl | rfl | rfl | rfl | rfl | rfl <;> decide
  · exact decL_no10 _ c hc
theorem adv_rows : ∀ (G : List Lf) (a : Int), adv (a, 1) (G.flatMap rowT) = (a + G.length, 1)
  | [], a => by simp [adv]
  | e :: G, a => by
    rw [List.flatMap_cons, adv_append]
    have : rowT e = rowA e ++ [10] := rfl
    rw [this, adv_full (rowA_no10 e)]
    rw [adv_rows G (a + 1)]
    refine Prod.ext ?_ rfl
    show a + 1 + (G.length : Int) = a + ((G.length + 1 : Nat) : Int)
    omega
theorem adv_tbl (n : Int) (G : List Lf) : adv (1, 1) (tblL n G) = ((G.length : Int) + 2, 1) := by
  have : tblL n G = (headT n.toNat ++ [10]) ++ G.flatMap rowT := by simp [tblL, headT]
  rw [this, adv_append, adv_full (headT_no10 _), adv_rows]
  refine Prod.ext ?_ rfl
  show (1 : Int) + 1 + G.length = G.length + 2
  omega
theorem cut_rows : ∀ (F : List Lf) (y : List UInt8), y <+: F.flatMap rowT → ∃ k z, y = (F.take k).flatMap rowT ++ z ∧ k ≤ F.length ∧ (z = [] ∨ ∃ e, F[k]? = some e ∧ z <+: rowT e ∧ z ≠ rowT e ∧ z ≠ [])
  | [], y, h => ⟨0, [], by simpa using h, by simp, Or.inl rfl⟩
  | e :: F, y, h => by
    rw [List.flatMap_cons] at h
    rcases prefix_split h with ⟨h1, h2⟩ | ⟨w, rfl, hw⟩
    · by_cases hy : y = []
      · exact ⟨0, [], by simp [hy], by simp, Or.inl rfl⟩
      · exact ⟨0, y, by simp, by simp, Or.inr ⟨e, rfl, h1, h2, hy⟩⟩
    · obtain ⟨k, z, rfl, hk, hz⟩ := cut_rows F w hw
      exact ⟨k + 1, z, by simp, by simp; omega, by simpa using hz⟩
theorem allLf_take {n : Int} : ∀ {l : List Lf} {prev : Option Lf} (k : Nat), AllLf n prev l → AllLf n prev (l.take k)
  | [], _, k, h => by simpa using h
  | x :: l, _, 0, h => trivial
  | x :: l, _, k + 1, h => ⟨h.1, allLf_take k h.2⟩
/-- A table that is cut short. -/
theorem tcut_plain {n : Int} {X : List Lf} (hn : 0 ≤ n ∧ n ≤ 4294967296) (hok : AllLf n none X) (hb : ∀ x ∈ X, LfB x) (x : List UInt8) (hx : x <+: tblL n X) :
    ((1 < (adv (1, 1) x).1 ∧ (adv (1, 1) x).2 = 1) → (parseT x).2.2 = 0) ∧
    (¬ (1 < (adv (1, 1) x).1 ∧ (adv (1, 1) x).2 = 1) → (parseT x).2.2 = 20 ∧ (parseT x).2.1.1 = (adv (1, 1) x).1 ∧ (parseT x).2.1.2 ≤ (adv (1, 1) x).2) := by
  have hlog : tblL n X = (headT n.toNat ++ [10]) ++ X.flatMap rowT := by simp [tblL, headT]
  rw [hlog] at hx
  rcases prefix_split hx with ⟨h1, h2⟩ | ⟨w, rfl, hw⟩
  · have ha := adv_cut (headT_no10 _) h1 h2 (1, 1)
    obtain ⟨c1, c2, c3⟩ := hdT_cut n.toNat (by omega) x h1 h2
    have hR : parseT x = ([], (hdT x).2.p, (hdT x).2.er) := by
      have := ptF_end (n := (hdT x).1) (k := x.length + 1) (F := []) (st := (hdT x).2) (R := parseT x) rfl (by omega) (by unfold nextS; rw [if_neg (by rw [c1]; decide)]; rfl)
      rw [if_neg (by rw [c1]; decide)] at this
      exact this
    rw [hR, ha]
    refine ⟨fun c => absurd c.1 (by simp), fun _ => ⟨c1, c2, c3⟩⟩
  · obtain ⟨k, z, rfl, hk, hzz⟩ := cut_rows X w hw
    have hck := allLf_take k hok
    have hbk : ∀ y ∈ X.take k, LfB y := fun y hy => hb y (List.mem_of_mem_take hy)
    have hxl : headT n.toNat ++ [10] ++ ((X.take k).flatMap rowT ++ z) = tblL n (X.take k) ++ z := by simp [tblL, headT]
    rw [hxl]
    rcases hzz with rfl | ⟨e, he, hp, hne, hz0⟩
    · rw [List.append_nil, adv_tbl]
      have h := (parse_table hn hck hbk).1
      refine ⟨fun _ => by rw [h], fun c => absurd ⟨by show (1 : Int) < ((X.take k).length : Int) + 2; omega, rfl⟩ c⟩
    · have hem : e ∈ X := List.mem_of_getElem? he
      have hA : rowT e = rowA e ++ [10] := rfl
      rw [adv_append, adv_tbl, adv_cut (rowA_no10 e) (by rw [← hA]; exact hp) (by rw [← hA]; exact hne)]
      obtain ⟨j, hj, hR, _⟩ := parseT_behind hn hck hbk z
      obtain ⟨j, rfl⟩ : ∃ i, j = i + 1 := ⟨j - 1, by omega⟩
      have hs : (nextS ⟨z, (((X.take k).length : Int) + 2, 1), 0⟩).isSome = true := by
        cases z with
        | nil => exact absurd rfl hz0
        | cons c z => simp [nextS]
      obtain ⟨c1, c2, c3⟩ := lfS_cut e (hb e hem) z (((X.take k).length : Int) + 2, 1) hp hne
      have hE := (ptF_more (n := n) (k := j) (F := X.take k) rfl hs).1 (by rw [c1]; decide)
      rw [hR, hE]
      have hl : 0 < z.length := List.length_pos_iff.2 hz0
      refine ⟨fun c => absurd c.2 (by show ¬ ((1 : Int) + z.length = 1); omega), fun _ => ⟨c1, c2, c3⟩⟩
/-- Two lives of one edge. -/
theorem topen_plain (a c : Int) (b : Int) (ha : 0 ≤ a ∧ a ≤ 255) (hb : -1 ≤ b ∧ b ≤ 255) (hc : 0 ≤ c ∧ c ≤ 255) :
    parseT (tblL 5 [⟨⟨1, 3⟩, a, b⟩, ⟨⟨1, 3⟩, c, -1⟩]) = if 0 ≤ b ∧ b ≤ a then ([], (2, 1), 23) else if b < 0 ∨ c ≤ b then ([], (3, 1), 23) else ([⟨⟨1, 3⟩, a, b⟩, ⟨⟨1, 3⟩, c, -1⟩], (0, 0), 0) := by
  have hr : right ⟨1, 3⟩ 5 := by decide
  have hx : LfB ⟨⟨1, 3⟩, a, b⟩ := ⟨⟨by simp, by simp⟩, by dsimp only; omega, by dsimp only; omega, by dsimp only; omega⟩
  have hy : LfB ⟨⟨1, 3⟩, c, -1⟩ := ⟨⟨by simp, by simp⟩, by dsimp only; omega, by dsimp only; omega, by dsimp only; omega⟩
  have l1 : ¬ (a < 0 ∨ maxT < a ∨ maxT < b) := by unfold maxT; omega
  have l2 : ¬ (c < 0 ∨ maxT < c ∨ maxT < -1) := by unfold maxT; omega
  have e1 : tblL 5 [⟨⟨1, 3⟩, a, b⟩, ⟨⟨1, 3⟩, c, -1⟩] = tblL 5 [] ++ (rowT ⟨⟨1, 3⟩, a, b⟩ ++ rowT ⟨⟨1, 3⟩, c, -1⟩) := by simp [tblL]
  have e2 : tblL 5 [⟨⟨1, 3⟩, a, b⟩, ⟨⟨1, 3⟩, c, -1⟩] = tblL 5 [⟨⟨1, 3⟩, a, b⟩] ++ (rowT ⟨⟨1, 3⟩, c, -1⟩ ++ []) := by simp [tblL]
  by_cases h1 : 0 ≤ b ∧ b ≤ a
  · rw [if_pos h1]
    have hv : lfErr 5 none ⟨⟨1, 3⟩, a, b⟩ = 23 := by
      unfold lfErr
      rw [if_neg l1, if_neg (fun k => k hr), if_pos (Or.inl h1)]
    have hv2 : lfErr 5 ([] : List Lf).getLast? ⟨⟨1, 3⟩, a, b⟩ = 23 := hv
    have h := parseT_badline (n := 5) (X := []) (by decide) trivial (by simp) ⟨⟨1, 3⟩, a, b⟩ hx (rowT ⟨⟨1, 3⟩, c, -1⟩) (by rw [hv2]; decide)
    rw [e1, h, hv2]
    rfl
  · rw [if_neg h1]
    have hv0 : lfErr 5 none ⟨⟨1, 3⟩, a, b⟩ = 0 := by
      unfold lfErr
      rw [if_neg l1, if_neg (fun k => k hr), if_neg (by simpa using h1)]
    have hok : AllLf 5 none [⟨⟨1, 3⟩, a, b⟩] := ⟨hv0, trivial⟩
    by_cases h2 : b < 0 ∨ c ≤ b
    · rw [if_pos h2]
      have hv : lfErr 5 (some ⟨⟨1, 3⟩, a, b⟩) ⟨⟨1, 3⟩, c, -1⟩ = 23 := by
        unfold lfErr
        rw [if_neg l2, if_neg (fun k => k hr), if_pos (Or.inr ?_)]
        have : ¬ follows ⟨⟨1, 3⟩, a, b⟩ ⟨⟨1, 3⟩, c, -1⟩ := by
          unfold follows
          rintro (k | ⟨_, k1, k2⟩)
          · exact edLt_irrefl _ k
          · dsimp only at k1 k2; omega
        simp [this]
      have hv2 : lfErr 5 ([(⟨⟨1, 3⟩, a, b⟩ : Lf)]).getLast? ⟨⟨1, 3⟩, c, -1⟩ = 23 := hv
      have h := parseT_badline (n := 5) (X := [⟨⟨1, 3⟩, a, b⟩]) (by decide) hok (by intro z hz; rw [List.mem_singleton.1 hz]; exact hx) ⟨⟨1, 3⟩, c, -1⟩ hy [] (by rw [hv2]; decide)
      rw [e2, h, hv2]
      rfl
    · rw [if_neg h2]
      refine (parse_table (n := 5) (X := [⟨⟨1, 3⟩, a, b⟩, ⟨⟨1, 3⟩, c, -1⟩]) (by decide) ⟨hv0, ?_, trivial⟩ ?_).1
      · unfold lfErr
        rw [if_neg l2, if_neg (fun k => k hr), if_neg]
        have : follows ⟨⟨1, 3⟩, a, b⟩ ⟨⟨1, 3⟩, c, -1⟩ := by
          unfold follows
          right
          refine ⟨rfl, ?_, ?_⟩ <;> dsimp only <;> omega
        simp [this]
      · intro z hz
        simp at hz
        rcases hz with hz | hz
        · rw [hz]; exact hx
        · rw [hz]; exact hy
end Go.Proofs.YtppambkffgmkgaaGreatDoor
end
