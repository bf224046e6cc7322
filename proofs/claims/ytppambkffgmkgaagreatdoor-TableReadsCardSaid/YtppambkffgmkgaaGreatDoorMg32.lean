/- Merged: TbCu TbOp TbRr -/
import Derived.Test.YtppambkffgmkgaaGreatDoorMg31
import Derived.Test.YtppambkffgmkgaaGreatDoorMg18
import Derived.Test.YtppambkffgmkgaaGreatDoorMg19
import Derived.Test.YtppambkffgmkgaaGreatDoorMg13
import Derived.Test.YtppambkffgmkgaaGreatDoorMg09
import Derived.WalkKit
import Derived.Test.YtppambkffgmkgaaGreatDoorMg27
import Derived.Test.YtppambkffgmkgaaGreatDoorMg22
section
/- The walk of TableCuts. -/
namespace Go.Proofs.YtppambkffgmkgaaGreatDoor
open Go.RowKit Go.Maps
set_option linter.unusedVariables false

end Go.Proofs.YtppambkffgmkgaaGreatDoor
end

section
/- The walk of TableOpen. -/
namespace Go.Proofs.YtppambkffgmkgaaGreatDoor
open Go.RowKit Go.Maps
set_option linter.unusedVariables false

def opS (a c : Nat) (tb : ByteArray) : ByteArray := ⟨#[116, 97, 98, 108, 101, 32, 53, 10, 49, 32, 51, 32]⟩ ++ dec a ++ ⟨#[32]⟩ ++ tb ++ ⟨#[10, 49, 32, 51, 32]⟩ ++ dec c ++ ⟨#[32, 45, 10]⟩
theorem opS_L (a c : Nat) (b : Int) : L (opS a c (toB b)) = tblL 5 [⟨⟨1, 3⟩, (a : Int), b⟩, ⟨⟨1, 3⟩, (c : Int), -1⟩] := by
  unfold opS
  simp only [app_L, dec_L, toB_L]
  have d5 : decL (5 : Int).toNat = [53] := by decide +kernel
  have d1 : decL (1 : Int).toNat = [49] := by decide +kernel
  have d3 : decL (3 : Int).toNat = [51] := by decide +kernel
  unfold tblL
  rw [d5]
  simp only [List.flatMap_cons, List.flatMap_nil, rowT, d1, d3, Int.toNat_natCast]
  have t1 : toL (-1) = [45] := rfl
  rw [t1]
  simp [L]
theorem dec_sz' {n : Nat} (h : n < 18446744073709551616) : (dec n).size ≤ 20 := by rw [dec_size]; exact decL_len20 _ h
theorem opAdds {P : Program} (da tb dc : ByteArray) (za : da.size ≤ 20) (zb : tb.size ≤ 20) (zc : dc.size ≤ 20) :
    ∃ y1 y2 y3 y4 y5 y6 : ByteArray, (∀ W : World, (Op.stringOp .add ⟨#[116, 97, 98, 108, 101, 32, 53, 10, 49, 32, 51, 32]⟩ da).run P W = .ok (.string y1) W) ∧
    (∀ W : World, (Op.stringOp .add y1 ⟨#[32]⟩).run P W = .ok (.string y2) W) ∧ (∀ W : World, (Op.stringOp .add y2 tb).run P W = .ok (.string y3) W) ∧
    (∀ W : World, (Op.stringOp .add y3 ⟨#[10, 49, 32, 51, 32]⟩).run P W = .ok (.string y4) W) ∧ (∀ W : World, (Op.stringOp .add y4 dc).run P W = .ok (.string y5) W) ∧
    (∀ W : World, (Op.stringOp .add y5 ⟨#[32, 45, 10]⟩).run P W = .ok (.string y6) W) ∧ y6 = ⟨#[116, 97, 98, 108, 101, 32, 53, 10, 49, 32, 51, 32]⟩ ++ da ++ ⟨#[32]⟩ ++ tb ++ ⟨#[10, 49, 32, 51, 32]⟩ ++ dc ++ ⟨#[32, 45, 10]⟩ ∧ y6.size ≤ 100 := by
  have s1 : (⟨#[116, 97, 98, 108, 101, 32, 53, 10, 49, 32, 51, 32]⟩ : ByteArray).size = 12 := rfl
  have s2 : (⟨#[32]⟩ : ByteArray).size = 1 := rfl
  have s3 : (⟨#[10, 49, 32, 51, 32]⟩ : ByteArray).size = 5 := rfl
  have s4 : (⟨#[32, 45, 10]⟩ : ByteArray).size = 3 := rfl
  refine ⟨_, _, _, _, _, _, sadd _ _ ?_, sadd _ _ ?_, sadd _ _ ?_, sadd _ _ ?_, sadd _ _ ?_, sadd _ _ ?_, rfl, ?_⟩
  all_goals first | omega | (simp only [ByteArray.size_append]; omega)
/-- The three events. -/
theorem op_events {a b c : Int} (h0 : 0 ≤ a) (h1 : a < b) (h2 : b < c) (hp : parseT (tblL 5 [⟨⟨1, 3⟩, a, b⟩, ⟨⟨1, 3⟩, c, -1⟩]) = ([⟨⟨1, 3⟩, a, b⟩, ⟨⟨1, 3⟩, c, -1⟩], (0, 0), 0)) :
    parseTE (tblL 5 [⟨⟨1, 3⟩, a, b⟩, ⟨⟨1, 3⟩, c, -1⟩]) = [⟨a, ⟨1, 3⟩, true⟩, ⟨b, ⟨1, 3⟩, false⟩, ⟨c, ⟨1, 3⟩, true⟩] := by
  obtain ⟨_, hall, _, _, _, _⟩ := parseT_inv (l := tblL 5 [⟨⟨1, 3⟩, a, b⟩, ⟨⟨1, 3⟩, c, -1⟩]) (by rw [hp])
  unfold parseTE
  rw [hp] at hall ⊢
  rw [if_pos rfl]
  have he : evs [(⟨⟨1, 3⟩, a, b⟩ : Lf), ⟨⟨1, 3⟩, c, -1⟩] = [⟨a, ⟨1, 3⟩, true⟩, ⟨b, ⟨1, 3⟩, false⟩, ⟨c, ⟨1, 3⟩, true⟩] := by
    have hb : 0 ≤ b := by omega
    simp [evs, evsOf, hb]
  refine (sort_evs hall ?_ (by rw [he])).symm
  refine List.pairwise_cons.2 ⟨fun y hy => ?_, List.pairwise_cons.2 ⟨fun y hy => ?_, List.pairwise_singleton _ _⟩⟩
  · simp at hy
    rcases hy with rfl | rfl
    · exact Or.inl h1
    · exact Or.inl (by show a < c; omega)
  · simp at hy
    subst hy
    exact Or.inl h2

end Go.Proofs.YtppambkffgmkgaaGreatDoor
end

section
/- The contract of the reference's PrintTable. -/
namespace Go.Proofs.YtppambkffgmkgaaGreatDoor
open Go.RowKit
set_option linter.unusedVariables false

theorem tblS_head (un : Nat) : (⟨#[116, 97, 98, 108, 101, 32]⟩ ++ dec un ++ ⟨#[10]⟩ : ByteArray) = ⟨(tblL (un : Int) []).toArray⟩ := by
  apply str_eq
  rw [app_L, app_L, dec_L]
  simp [tblL, L]
theorem tblS_line {n : Int} {X : List Lf} {k : Nat} {x : Lf} (hx : X[k]? = some x) (tb : ByteArray) (htb : L tb = toL x.to) :
    (⟨(tblL n (X.take k)).toArray⟩ ++ dec x.e.u.toNat ++ ⟨#[32]⟩ ++ dec x.e.v.toNat ++ ⟨#[32]⟩ ++ dec x.fr.toNat ++ ⟨#[32]⟩ ++ tb ++ ⟨#[10]⟩ : ByteArray) = ⟨(tblL n (X.take (k + 1))).toArray⟩ := by
  apply str_eq
  rw [app_L, app_L, app_L, app_L, app_L, app_L, app_L, app_L, dec_L, dec_L, dec_L, htb]
  show _ = (tblL n (X.take (k + 1))).toArray.toList
  rw [tblL_take hx]
  simp [L, rowT]
theorem radds {P : Program} (lg du dv df tb : ByteArray) (zl : lg.size ≤ 27 + 85 * 40000) (zu : du.size ≤ 20) (zv : dv.size ≤ 20) (zf : df.size ≤ 20) (zt : tb.size ≤ 20) :
    ∃ y1 y2 y3 y4 y5 y6 y7 y8 : ByteArray, (∀ W : World, (Op.stringOp .add lg du).run P W = .ok (.string y1) W) ∧
    (∀ W : World, (Op.stringOp .add y1 ⟨#[32]⟩).run P W = .ok (.string y2) W) ∧ (∀ W : World, (Op.stringOp .add y2 dv).run P W = .ok (.string y3) W) ∧
    (∀ W : World, (Op.stringOp .add y3 ⟨#[32]⟩).run P W = .ok (.string y4) W) ∧ (∀ W : World, (Op.stringOp .add y4 df).run P W = .ok (.string y5) W) ∧
    (∀ W : World, (Op.stringOp .add y5 ⟨#[32]⟩).run P W = .ok (.string y6) W) ∧ (∀ W : World, (Op.stringOp .add y6 tb).run P W = .ok (.string y7) W) ∧
    (∀ W : World, (Op.stringOp .add y7 ⟨#[10]⟩).run P W = .ok (.string y8) W) ∧ y8 = lg ++ du ++ ⟨#[32]⟩ ++ dv ++ ⟨#[32]⟩ ++ df ++ ⟨#[32]⟩ ++ tb ++ ⟨#[10]⟩ := by
  have s2 : (⟨#[32]⟩ : ByteArray).size = 1 := rfl
  have s4 : (⟨#[10]⟩ : ByteArray).size = 1 := rfl
  refine ⟨_, _, _, _, _, _, _, _, sadd _ _ ?_, sadd _ _ ?_, sadd _ _ ?_, sadd _ _ ?_, sadd _ _ ?_, sadd _ _ ?_, sadd _ _ ?_, sadd _ _ ?_, rfl⟩
  all_goals first | omega | (simp only [ByteArray.size_append]; omega)

set_option maxRecDepth 100000 in
set_option maxHeartbeats 8000000 in
theorem trprint_any (w : World) (n : Int) (a : Option Addr) (cap : Nat) (F : List Ev) (hn0 : 0 ≤ n) (hE : Evs w a F) (hl : F.length ≤ 40000) (hb : ∀ x ∈ F, EvB x) :
    Calls Tryz.prog 11 #[.agg #[.int .u64 n, .slice a F.length cap]] w fun e w' => e = .returned (.tuple #[.string (prT n F), .int .i64 (chk n F).2]) ∧ Mod w w' NoB := by
  have hmx := mixed
  have HLi : Hid (∀ z, Evs z a F → Calls Tryz.prog 17 #[.agg #[.int .u64 n, .slice a F.length cap]] z fun e w' => ∃ a' cap', e = .returned (.tuple #[.slice a' (ofL n F).length cap', .int .i64 (chk n F).2]) ∧ Lvs w' a' (ofL n F) ∧ Mod z w' NoB) := fun z hz => lives_any z n a cap F hz hl hb
  have HH0 := Lib.hid (HAt.start (n := n) (len := F.length) (cap := cap) hE)
  obtain ⟨h0, hh0⟩ : ∃ h0, h0 = w.heap.size := ⟨_, rfl⟩
  obtain ⟨W, hW⟩ : ∃ W, W = w.alloc (.cells #[.int .u64 n, .slice a F.length cap] 25) := ⟨_, rfl⟩
  rw [← hW, ← hh0] at HH0
  obtain ⟨R2, hR2⟩ : ∃ R2, (chk n F).2 = R2 := ⟨_, rfl⟩
  obtain ⟨PS, hPS⟩ : ∃ PS, prT n F = PS := ⟨_, rfl⟩
  rw [hPS, hR2]
  unfold prT at hPS
  rw [hR2] at hPS HLi
  obtain ⟨X, hX⟩ : ∃ X, ofL n F = X := ⟨_, rfl⟩
  rw [hX] at hPS HLi
  clear hE
  go_enter Tryz.func11, Tryz.ntmps11
  have c0 := HH0.out.c0
  have c1 := HH0.out.c1
  go_upto_region 1 with (fail)
  rw [← hW, ← hh0]
  clear hW hh0
  go_wp2_with fail
  refine (HLi.out _ HH0.out.evs).mono ?_
  rintro e w1 ⟨xa, xc, rfl, hLv, hm⟩
  have HH1 := Lib.hid (HH0.out.next hm)
  have HL1 := Lib.hid hLv
  clear hm hLv c0 c1 HH0 HLi
  by_cases hz : R2 = 0
  · subst hz
    rw [if_pos rfl] at hPS
    subst hPS
    obtain ⟨ol1, ol2, ol3, -, hnN⟩ := ofL_ok hR2 hl hb
    have HBD := Lib.hid (And.intro ol2 ol3)
    rw [hX] at HBD
    have hXl : X.length ≤ 40000 := by have := HBD.out.2; omega
    clear hR2 ol1 ol2 ol3 hb hX
    have c0 := HH1.out.c0
    have c1 := HH1.out.c1
    obtain ⟨un, hun⟩ : ∃ un : Nat, n = (un : Int) := ⟨n.toNat, nat_of hn0⟩
    subst hun
    have hds := dec_size un
    have hd20 := decL_len20 un (by omega)
    have s1 := sadd (P := Tryz.prog) ⟨#[116, 97, 98, 108, 101, 32]⟩ (dec un) (by show 6 + _ ≤ _; omega)
    have s2 := sadd (P := Tryz.prog) (⟨#[116, 97, 98, 108, 101, 32]⟩ ++ dec un) ⟨#[10]⟩ (by rw [ByteArray.size_append]; show 6 + (dec un).size + 1 ≤ _; omega)
    go_wp2_with fail
    refine (decimal_mod un _ (by omega)).mono ?_
    rintro e w2 ⟨rfl, hm⟩
    have HH2 := Lib.hid (HH1.out.next hm)
    have HL2 := Lib.hid (HL1.out.mod hm)
    clear hm c0 c1 HH1 HL1
    go_wp2_with fail
    rw [tblS_head]
    clear s1 s2 hds hd20
    go_loopw [6, 7] (fun v6 v7 wr => ∃ k : Nat, k ≤ X.length ∧ v6 = .string ⟨(tblL un (X.take k)).toArray⟩ ∧ v7 = .int .i64 k ∧ Hid (Mod w wr NoB ∧ Lvs wr xa X)) (fun _ v7 _ => X.length - (intOf v7).toNat)
    case atStart => exact ⟨0, Nat.zero_le _, by rw [List.take_zero], rfl, HH2.out.mod, HL2.out⟩
    case round =>
      obtain ⟨k, hk, rfl, rfl, HI⟩ := hrel
      by_cases hlt : k < X.length
      · obtain ⟨b', off, x, rfl, hbw, hx, hC⟩ := HI.out.2.at hlt
        have hki : (k : Int) < X.length := by omega
        obtain ⟨q0, q1, q2, q3⟩ := hC
        have HX := Lib.hid (And.intro hx (HBD.out.1 x (List.mem_of_getElem? hx)))
        clear hx hbw
        obtain ⟨tb, htb⟩ : ∃ tb, toB x.to = tb := ⟨_, rfl⟩
        have htl : L tb = toL x.to := by rw [← htb]; exact toB_L _
        by_cases hto : 0 ≤ x.to
        focus
          obtain ⟨tn, htn⟩ : ∃ tn : Nat, x.to = (tn : Int) := ⟨x.to.toNat, nat_of hto⟩
          have hbt := HX.out.2.2.2.2
          have htd : decide ((0 : Int) ≤ x.to) = true := decide_eq_true hto
          have hwt : IntKind.u64.wrap x.to = (tn : Int) := by rw [IntKind.wrap_u64]; omega
          have htb2 : tb = dec tn := by rw [← htb]; unfold toB; rw [if_pos hto, htn, Int.toNat_natCast]
          have HN : Hid (Calls Tryz.prog 29 #[.int .u64 tn] wr fun e w' => e = .returned (.string tb) ∧ Mod wr w' NoB) := by
            have h := decimal_mod tn wr (by omega)
            rw [← htb2] at h
            exact h
          clear htb htb2 htn hbt
          go_wp2_with fail
          refine HN.out.mono ?_
          rintro e wc ⟨rfl, hm⟩
          replace q0 := keepc q0 hm
          replace q1 := keepc q1 hm
          replace q2 := keepc q2 hm
          have HI2 := Lib.hid (And.intro (HI.out.1.trans hm (fun _ _ c => c)) (HI.out.2.mod hm))
          clear hm HN htd hwt q3
          go_upto_region 11 with (fail)
        rotate_left
        focus
          have htd : decide ((0 : Int) ≤ x.to) = false := decide_eq_false hto
          have htb2 : tb = ⟨#[45]⟩ := by rw [← htb]; unfold toB; rw [if_neg hto]
          have HI2 := Lib.hid HI.out
          obtain ⟨wc, hwc⟩ : ∃ wc, wc = wr := ⟨_, rfl⟩
          rw [← hwc] at HI2 q0 q1 q2 q3 ⊢
          clear htb hwc
          go_upto_region 11 with (fail)
          rw [← htb2]
          clear htb2 htd q3
        all_goals
          have hxu := HX.out.2.1.1
          have hxv := HX.out.2.1.2
          have hxf := HX.out.2.2.1
          have wu := u64_of hxu
          have wv := u64_of hxv
          have wf : IntKind.u64.wrap x.fr = x.fr := by rw [IntKind.wrap_u64]; omega
          have hxt := HX.out.2.2.2.2
          obtain ⟨du, hdu⟩ : ∃ d, dec x.e.u.toNat = d := ⟨_, rfl⟩
          obtain ⟨dv, hdv⟩ : ∃ d, dec x.e.v.toNat = d := ⟨_, rfl⟩
          obtain ⟨df, hdf⟩ : ∃ d, dec x.fr.toNat = d := ⟨_, rfl⟩
          have zu : du.size ≤ 20 := by rw [← hdu, dec_size]; exact decL_len20 _ (by omega)
          have zv : dv.size ≤ 20 := by rw [← hdv, dec_size]; exact decL_len20 _ (by omega)
          have zf : df.size ≤ 20 := by rw [← hdf, dec_size]; exact decL_len20 _ (by omega)
          have zt : tb.size ≤ 20 := by
            rw [← L_len, htl]
            unfold toL
            split
            all_goals first | exact decL_len20 _ (by omega) | exact Nat.le_of_ble_eq_true rfl
          have HUi : Hid (∀ z, Calls Tryz.prog 29 #[.int .u64 x.e.u] z fun e w' => e = .returned (.string du) ∧ Mod z w' NoB) := fun z => by
            have h := decimal_mod x.e.u.toNat z (by omega)
            rw [← nat_of hxu.1] at h
            rw [← hdu]; exact h
          have HVi : Hid (∀ z, Calls Tryz.prog 29 #[.int .u64 x.e.v] z fun e w' => e = .returned (.string dv) ∧ Mod z w' NoB) := fun z => by
            have h := decimal_mod x.e.v.toNat z (by omega)
            rw [← nat_of hxv.1] at h
            rw [← hdv]; exact h
          have HFi : Hid (∀ z, Calls Tryz.prog 29 #[.int .u64 x.fr] z fun e w' => e = .returned (.string df) ∧ Mod z w' NoB) := fun z => by
            have h := decimal_mod x.fr.toNat z (by omega)
            rw [← nat_of hxf.1] at h
            rw [← hdf]; exact h
          have hln := tblS_line (n := (un : Int)) HX.out.1 tb htl
          rw [hdu, hdv, hdf] at hln
          obtain ⟨lg, hlg⟩ : ∃ lg : ByteArray, ⟨(tblL un (X.take k)).toArray⟩ = lg := ⟨_, rfl⟩
          have hlz : lg.size ≤ 27 + 85 * 40000 := by
            rw [← hlg]
            show (tblL un (X.take k)).toArray.size ≤ _
            have := tblL_len (n := (un : Int)) (X := X.take k) ⟨hn0, hnN⟩ (fun y hy => HBD.out.1 y (List.mem_of_mem_take hy))
            have h2 : (X.take k).length ≤ k := by simp; omega
            simp only [List.size_toArray]
            omega
          rw [hlg] at hln ⊢
          obtain ⟨y1, y2, y3, y4, y5, y6, y7, y8, e1, e2, e3, e4, e5, e6, e7, e8, hy8⟩ := radds (P := Tryz.prog) lg du dv df tb hlz zu zv zf zt
          rw [← hy8] at hln
          have HLn := Lib.hid hln
          obtain ⟨xf, hxf'⟩ : ∃ y, x.fr = y := ⟨_, rfl⟩
          obtain ⟨xu, hxu'⟩ : ∃ y, x.e.u = y := ⟨_, rfl⟩
          obtain ⟨xv, hxv'⟩ : ∃ y, x.e.v = y := ⟨_, rfl⟩
          rw [hxf'] at q2 HFi wf
          rw [hxu'] at q0 HUi wu
          rw [hxv'] at q1 HVi wv
          clear hdu hdv hdf htl zu zv zf zt hy8 hln hlg hlz hxu hxv hxf hxt hxf' hxu' hxv' hto HX
          go_region_held3 (fun z => z.cell? ⟨b', off + k * 4, none⟩ = some (.int .u32 xu) ∧ z.cell? ⟨b', off + k * 4 + 1, none⟩ = some (.int .u32 xv) ∧ z.cell? ⟨b', off + k * 4 + 2, none⟩ = some (.int .i64 xf))
            (first | exact ⟨q0, q1, q2⟩ | exact ⟨keepc q0 H7.out, keepc q1 H7.out, keepc q2 H7.out⟩ | exact ⟨keepc q0 H6.out, keepc q1 H6.out, keepc q2 H6.out⟩ | exact ⟨keepc q0 H5.out, keepc q1 H5.out, keepc q2 H5.out⟩)
            (first
              | (go_at_call 29; have hq := H6; clear hq; refine (HFi.out _).mono ?_; rintro r w7 ⟨rfl, hm7⟩; have H7 := Lib.hid (H6.out.trans hm7 (fun _ _ c => c)); clear hm7)
              | (go_at_call 29; have hq := H5; clear hq; refine (HVi.out _).mono ?_; rintro r w6 ⟨rfl, hm6⟩; have H6 := Lib.hid (H5.out.trans hm6 (fun _ _ c => c)); clear hm6)
              | (go_at_call 29; refine (HUi.out _).mono ?_; rintro r w5 ⟨rfl, hm5⟩; have H5 := Lib.hid (Mod.trans (Mod.drew (Mod.refl wc NoB)) hm5 (fun _ _ c => c)); clear hm5))
          have HI8 := Lib.hid (And.intro (HI2.out.1.trans H7.out (fun _ _ c => c)) (HI2.out.2.mod H7.out))
          rw [HLn.out]
          clear HLn e1 e2 e3 e4 e5 e6 e7 e8
          go_wp2_with fail
          go_roundw
          case rel => exact ⟨k + 1, by omega, rfl, by go_num, HI8.out⟩
          case measure => simp [intOf]; omega
      · have hkl : k = X.length := by omega
        subst hkl
        rw [List.take_length]
        go_wp2_with fail
        go_ret2
        exact ⟨rfl, HI.out.1⟩
  · have hne : ((R2 : Int) == 0) = false := beq_eq_false_iff_ne.2 (by omega)
    rw [if_neg hz] at hPS
    subst hPS
    have HM1 := Lib.hid HH1.out.mod
    clear hR2 hz
    go_wp2_with fail
    go_ret2
    exact ⟨rfl, HM1.out⟩
end Go.Proofs.YtppambkffgmkgaaGreatDoor
end
