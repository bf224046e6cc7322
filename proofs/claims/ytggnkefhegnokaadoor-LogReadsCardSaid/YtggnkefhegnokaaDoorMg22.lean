/- Merged: LgTp LgTi LgCp -/
import Derived.Test.YtggnkefhegnokaaDoorMg21
import Derived.Test.YtggnkefhegnokaaDoorMg20
import Derived.Test.YtggnkefhegnokaaDoorMg07
import Derived.WalkKit
section
/- Plain: what a log is read as where a line behind lines that may be may not be; LogTies' two lines. -/
namespace Go.Proofs.YtggnkefhegnokaaDoor
set_option linter.unusedVariables false

/-- Lines that may be, and something behind them. -/
theorem parse_behind {n : Int} {F : List Ev} (hn0 : 0 ≤ n) (hz : (chk n F).2 = 0) (hb : ∀ x ∈ F, EvB x) (r : List UInt8) :
    ∃ k, r.length < k ∧ parseR (logL n F ++ r) = plF n k F ⟨r, ((F.length : Int) + 2, 1), 0⟩ ∧ (hdS (logL n F ++ r)).1 = n := by
  obtain ⟨hnN, hok⟩ := chk_ok_bd hz
  have hbd : ∀ x ∈ F, (0 ≤ x.t ∧ x.t ≤ 4611686018427387903) ∧ EvB x := fun x hx => ⟨allOk_tt hok x hx, hb x hx⟩
  have hh : hdS (logL n F ++ r) = (n, ⟨F.flatMap lineL ++ r, (2, 1), 0⟩) := by
    have h := hdS_log ⟨hn0, hnN⟩ (F.flatMap lineL ++ r)
    unfold logL
    simpa only [List.append_assoc] using h
  have key : ∀ F : List Ev, F.length ≤ (F.flatMap lineL).length := by
    intro F
    induction F with
    | nil => simp
    | cons x F ih =>
      rw [List.flatMap_cons, List.length_append, List.length_cons]
      have : 1 ≤ (lineL x).length := by unfold lineL; simp; omega
      omega
  have h1 := key F
  have h2 : (F.flatMap lineL).length ≤ (logL n F).length := by unfold logL; simp only [List.length_append]; omega
  refine ⟨(logL n F ++ r).length + 1 - F.length, by rw [List.length_append]; omega, ?_, by rw [hh]⟩
  unfold parseR
  rw [hh]
  dsimp only
  rw [plF_lines F [] _ r (2, 1) hok hbd (by rw [List.length_append]; omega)]
  rw [List.nil_append]
  congr 2
  by_cases hF : F = []
  · subst hF; rfl
  · rw [if_neg hF]
    refine Prod.ext ?_ rfl
    show (2 : Int) + F.length = F.length + 2
    omega
theorem next_line (x : Ev) (r : List UInt8) (p : Int × Int) : (nextS ⟨lineL x ++ r, p, 0⟩).isSome = true := by
  unfold nextS lineL
  have hne : decL x.t.toNat ≠ [] := fun e => by have := (decL_len x.t.toNat).1; rw [e] at this; simp at this
  cases hd : decL x.t.toNat with
  | nil => exact absurd hd hne
  | cons c l => simp
/-- A line that is well written, of an event that may not be. -/
theorem parse_badline {n : Int} {F : List Ev} (hn0 : 0 ≤ n) (hz : (chk n F).2 = 0) (hb : ∀ x ∈ F, EvB x) (x : Ev) (ht : 0 ≤ x.t ∧ x.t ≤ 4611686018427387903) (hbx : EvB x) (r : List UInt8)
    (hv : evErr n (prevOf F F.length) (thereOf F) x ≠ 0) : parseR (logL n F ++ (lineL x ++ r)) = ([], ((F.length : Int) + 2, 1), ((evErr n (prevOf F F.length) (thereOf F) x : Nat) : Int)) := by
  obtain ⟨k, hk, h1, h2⟩ := parse_behind hn0 hz hb (lineL x ++ r)
  rw [h1]
  obtain ⟨k, rfl⟩ : ∃ j, k = j + 1 := ⟨k - 1, by omega⟩
  have he := evS_line x ht hbx r ((F.length : Int) + 2, 1)
  exact (plF_more (n := n) (k := k) (F := F) rfl (next_line x r _)).2.1 (by rw [he]) (by rw [he]; exact hv) |>.trans (by rw [he])

/-- Two events of one time. -/
theorem ties_plain (t : Int) (x y : Ed) (ht : 0 ≤ t ∧ t ≤ 255) (hx : (0 ≤ x.u ∧ x.u < x.v) ∧ x.v < 9) (hy : (0 ≤ y.u ∧ y.u < y.v) ∧ y.v < 9) :
    parseR (logL 9 [⟨t, x, true⟩, ⟨t, y, true⟩]) = if edLt x y then ([⟨t, x, true⟩, ⟨t, y, true⟩], (0, 0), 0) else ([], (3, 1), 23) := by
  have bx : EvB ⟨t, x, true⟩ := ⟨⟨by show 0 ≤ x.u; omega, by show x.u ≤ 4294967295; omega⟩, ⟨by show 0 ≤ x.v; omega, by show x.v ≤ 4294967295; omega⟩⟩
  have byy : EvB ⟨t, y, true⟩ := ⟨⟨by show 0 ≤ y.u; omega, by show y.u ≤ 4294967295; omega⟩, ⟨by show 0 ≤ y.v; omega, by show y.v ≤ 4294967295; omega⟩⟩
  have rx : right x 9 := by unfold right; omega
  have ry : right y 9 := by unfold right; omega
  have tt : ¬ (t < 0 ∨ maxT < t) := by unfold maxT; omega
  have e1 : evErr 9 none (fun _ => false) ⟨t, x, true⟩ = 0 := by
    unfold evErr
    rw [if_neg tt, if_neg (fun c => c rx)]
    simp
  have c1 : (chk 9 [⟨t, x, true⟩]).2 = 0 := by
    unfold chk
    rw [if_neg (by unfold maxN; simp)]
    simp only [chkFrom]
    rw [if_pos e1]
  by_cases hl : edLt x y
  · rw [if_pos hl]
    have hbb : ∀ z ∈ [(⟨t, x, true⟩ : Ev), ⟨t, y, true⟩], EvB z := by
      intro z hz
      simp at hz
      rcases hz with hz | hz
      · rw [hz]; exact bx
      · rw [hz]; exact byy
    refine (parse_log (n := 9) (by decide) ?_ hbb).1
    have hne : y ≠ x := by rintro rfl; unfold edLt at hl; omega
    unfold chk
    rw [if_neg (by unfold maxN; simp)]
    simp only [chkFrom]
    rw [if_pos e1, if_pos]
    unfold evErr
    rw [if_neg tt, if_neg (fun c => c ry)]
    simp [before, hl, turn, hne]
  · rw [if_neg hl]
    have hv : evErr 9 (some ⟨t, x, true⟩) (turn (fun _ => false) ⟨t, x, true⟩) ⟨t, y, true⟩ = 23 := by
      unfold evErr
      rw [if_neg tt, if_neg (fun c => c ry)]
      simp [before, hl]
    have h := parse_badline (n := 9) (F := [⟨t, x, true⟩]) (by decide) c1 (by intro z hz; rw [List.mem_singleton.1 hz]; exact bx) ⟨t, y, true⟩ (by show 0 ≤ t ∧ t ≤ 4611686018427387903; omega) byy []
      (by show evErr 9 (some ⟨t, x, true⟩) (turn (fun _ => false) ⟨t, x, true⟩) ⟨t, y, true⟩ ≠ 0; rw [hv]; decide)
    have hE : evErr 9 (prevOf [(⟨t, x, true⟩ : Ev)] [(⟨t, x, true⟩ : Ev)].length) (thereOf [(⟨t, x, true⟩ : Ev)]) ⟨t, y, true⟩ = 23 := hv
    rw [hE] at h
    have hlog : logL 9 [⟨t, x, true⟩, ⟨t, y, true⟩] = logL 9 [⟨t, x, true⟩] ++ (lineL ⟨t, y, true⟩ ++ []) := by
      simp [logL]
    rw [hlog, h]
    rfl
end Go.Proofs.YtggnkefhegnokaaDoor
end

section
/- The walk of LogTies. -/
namespace Go.Proofs.YtggnkefhegnokaaDoor
open Go.RowKit Go.Maps
set_option linter.unusedVariables false

/-- The two edges. -/
structure TiE (a b u v : Int) : Prop where
  m4 : Int.tmod a 4 = u
  m3 : Int.tmod b 3 = v - u - 1
  lo : 0 ≤ u
  hi : u < 4
  lt : u < v
  bd : v ≤ u + 3
theorem TiE.of (a b : Int) (ha : 0 ≤ a) (hb : 0 ≤ b) : ∃ u v, TiE a b u v := by
  have h1 : Int.tmod a 4 = a % 4 := Int.tmod_eq_emod_of_nonneg ha
  have h2 : Int.tmod b 3 = b % 3 := Int.tmod_eq_emod_of_nonneg hb
  exact ⟨a % 4, a % 4 + 1 + b % 3, h1, by rw [h2]; omega, by omega, by omega, by omega, by omega⟩

/-- The two edges' blocks. -/
structure TwoE (w W : World) (g1 g2 : Nat) (u v x y : Int) : Prop where
  mod : Mod w W NoB
  a0 : W.cell? ⟨g1, 0, none⟩ = some (.int .u32 u)
  a1 : W.cell? ⟨g1, 1, none⟩ = some (.int .u32 v)
  b0 : W.cell? ⟨g2, 0, none⟩ = some (.int .u32 x)
  b1 : W.cell? ⟨g2, 1, none⟩ = some (.int .u32 y)
theorem TwoE.next {w W W' : World} {g1 g2 : Nat} {u v x y : Int} (h : TwoE w W g1 g2 u v x y) (hm : Mod W W' NoB) : TwoE w W' g1 g2 u v x y :=
  ⟨h.mod.trans hm (fun _ _ c => c), keepc h.a0 hm, keepc h.a1 hm, keepc h.b0 hm, keepc h.b1 hm⟩
theorem TwoE.start {w : World} {u v x y : Int} : TwoE w ((w.alloc (.cells #[.int .u32 u, .int .u32 v] 57)).alloc (.cells #[.int .u32 x, .int .u32 y] 57)) w.heap.size (w.heap.size + 1) u v x y := by
  have hs1 : (w.alloc (.cells #[.int .u32 u, .int .u32 v] 57)).heap.size = w.heap.size + 1 := by simp
  have lt : w.heap.size < (w.alloc (.cells #[.int .u32 u, .int .u32 v] 57)).heap.size := by rw [hs1]; omega
  exact ⟨((Mod.refl _ _).alloc _).alloc _, (World.cell?_alloc_lt _ _ _ lt).trans (World.cell?_alloc_at _ _ _ _ rfl), (World.cell?_alloc_lt _ _ _ lt).trans (World.cell?_alloc_at _ _ _ _ rfl), World.cell?_alloc_at _ _ _ _ hs1.symm, World.cell?_alloc_at _ _ _ _ hs1.symm⟩
def tiS (t u v x y : Nat) : ByteArray :=
  ⟨#[108, 111, 103, 32, 57, 10]⟩ ++ dec t ++ ⟨#[32, 43, 32]⟩ ++ dec u ++ ⟨#[32]⟩ ++ dec v ++ ⟨#[10]⟩ ++ dec t ++ ⟨#[32, 43, 32]⟩ ++ dec x ++ ⟨#[32]⟩ ++ dec y ++ ⟨#[10]⟩
theorem tiS_L (t u v x y : Nat) : L (tiS t u v x y) = logL 9 [⟨(t : Int), ⟨(u : Int), (v : Int)⟩, true⟩, ⟨(t : Int), ⟨(x : Int), (y : Int)⟩, true⟩] := by
  unfold tiS
  simp only [app_L, dec_L]
  have d9 : decL (9 : Int).toNat = [57] := by decide +kernel
  unfold logL
  rw [d9]
  simp only [List.flatMap_cons, List.flatMap_nil, lineL, sgnL, Int.toNat_natCast, if_true]
  simp [L]
theorem dec_sz {n : Nat} (h : n < 18446744073709551616) : (dec n).size ≤ 20 := by rw [dec_size]; exact decL_len20 _ h

theorem tiAdds {P : Program} (dt du dv dx dy : ByteArray) (zt : dt.size ≤ 20) (zu : du.size ≤ 20) (zv : dv.size ≤ 20) (zx : dx.size ≤ 20) (zy : dy.size ≤ 20) :
    ∃ z1 z2 z3 z4 z5 z6 z7 z8 z9 z10 z11 z12 : ByteArray, (∀ W : World, (Op.stringOp .add ⟨#[108, 111, 103, 32, 57, 10]⟩ dt).run P W = .ok (.string z1) W) ∧
    (∀ W : World, (Op.stringOp .add z1 ⟨#[32, 43, 32]⟩).run P W = .ok (.string z2) W) ∧
    (∀ W : World, (Op.stringOp .add z2 du).run P W = .ok (.string z3) W) ∧
    (∀ W : World, (Op.stringOp .add z3 ⟨#[32]⟩).run P W = .ok (.string z4) W) ∧
    (∀ W : World, (Op.stringOp .add z4 dv).run P W = .ok (.string z5) W) ∧
    (∀ W : World, (Op.stringOp .add z5 ⟨#[10]⟩).run P W = .ok (.string z6) W) ∧
    (∀ W : World, (Op.stringOp .add z6 dt).run P W = .ok (.string z7) W) ∧
    (∀ W : World, (Op.stringOp .add z7 ⟨#[32, 43, 32]⟩).run P W = .ok (.string z8) W) ∧
    (∀ W : World, (Op.stringOp .add z8 dx).run P W = .ok (.string z9) W) ∧
    (∀ W : World, (Op.stringOp .add z9 ⟨#[32]⟩).run P W = .ok (.string z10) W) ∧
    (∀ W : World, (Op.stringOp .add z10 dy).run P W = .ok (.string z11) W) ∧
    (∀ W : World, (Op.stringOp .add z11 ⟨#[10]⟩).run P W = .ok (.string z12) W) ∧ z12 = ⟨#[108, 111, 103, 32, 57, 10]⟩ ++ dt ++ ⟨#[32, 43, 32]⟩ ++ du ++ ⟨#[32]⟩ ++ dv ++ ⟨#[10]⟩ ++ dt ++ ⟨#[32, 43, 32]⟩ ++ dx ++ ⟨#[32]⟩ ++ dy ++ ⟨#[10]⟩ := by
  have s1 : (⟨#[108, 111, 103, 32, 57, 10]⟩ : ByteArray).size = 6 := rfl
  have s2 : (⟨#[32, 43, 32]⟩ : ByteArray).size = 3 := rfl
  have s3 : (⟨#[32]⟩ : ByteArray).size = 1 := rfl
  have s4 : (⟨#[10]⟩ : ByteArray).size = 1 := rfl
  refine ⟨_, _, _, _, _, _, _, _, _, _, _, _, sadd _ _ ?_, sadd _ _ ?_, sadd _ _ ?_, sadd _ _ ?_, sadd _ _ ?_, sadd _ _ ?_, sadd _ _ ?_, sadd _ _ ?_, sadd _ _ ?_, sadd _ _ ?_, sadd _ _ ?_, sadd _ _ ?_, rfl⟩
  all_goals first | omega | (simp only [ByteArray.size_append]; omega)

set_option maxRecDepth 100000 in
set_option maxHeartbeats 4000000 in
theorem lties_any (a b c d : Int) (t : Nat) (w : World) (ha : 0 ≤ a ∧ a ≤ 255) (hb : 0 ≤ b ∧ b ≤ 255) (hc : 0 ≤ c ∧ c ≤ 255) (hd : 0 ≤ d ∧ d ≤ 255) (ht : t ≤ 255) (htab : Lib.TabIs Tryd.prog w "internal/strconv.uint64pow10" .u64 Lib.pow10Tab) :
    Calls Tryd.prog 7 #[.int .u8 a, .int .u8 b, .int .u8 c, .int .u8 d, .int .u8 (t : Int)] w fun e w' => e = .returned (.bool true) ∧ Mod w w' NoB := by
  have hmx := mixed
  obtain ⟨u, v, hE⟩ := TiE.of a b ha.1 hb.1
  obtain ⟨x, y, hF⟩ := TiE.of c d hc.1 hd.1
  have q1 := hE.m4
  have q2 := hE.m3
  have q3 := hF.m4
  have q4 := hF.m3
  have qe := hE.lo
  have qf := hE.hi
  have qg := hE.lt
  have qh := hE.bd
  have re := hF.lo
  have rf := hF.hi
  have rg := hF.lt
  have rh := hF.bd
  have v1 : u + 1 + (v - u - 1) = v := by omega
  have v2 : x + 1 + (y - x - 1) = y := by omega
  go_enter Tryd.func7, Tryd.ntmps7
  go_wp2_with fail
  refine (lknown_any _ htab).mono ?_
  rintro e w1 ⟨rfl, hm⟩
  have HM1 := Lib.hid hm
  clear hm
  go_upto_region 5 with (fail)
  have HA := Lib.hid (TwoE.start (w := w1) (u := u) (v := v) (x := x) (y := y))
  obtain ⟨g1, hg1⟩ : ∃ g, g = w1.heap.size := ⟨_, rfl⟩
  obtain ⟨g2, hg2⟩ : ∃ g, g = w1.heap.size + 1 := ⟨_, rfl⟩
  obtain ⟨W2, hW2⟩ : ∃ W, W = ((w1.alloc (.cells #[.int .u32 u, .int .u32 v] 57)).alloc (.cells #[.int .u32 x, .int .u32 y] 57)) := ⟨_, rfl⟩
  rw [← hW2, ← hg2, ← hg1] at HA ⊢
  clear hW2 hg2 hg1 q1 q2 q3 q4 hE hF ha hb hc hd v1 v2
  obtain ⟨un, rfl⟩ : ∃ n : Nat, u = n := ⟨u.toNat, by omega⟩
  obtain ⟨vn, rfl⟩ : ∃ n : Nat, v = n := ⟨v.toNat, by omega⟩
  obtain ⟨xn, rfl⟩ : ∃ n : Nat, x = n := ⟨x.toNat, by omega⟩
  obtain ⟨yn, rfl⟩ : ∃ n : Nat, y = n := ⟨y.toNat, by omega⟩
  clear htab
  go_wp2_with fail
  refine (decimal_mod t _ (by omega)).mono ?_
  rintro e w3 ⟨rfl, hm⟩
  have HA3 := Lib.hid (HA.out.next hm)
  clear hm HA
  have a0 := HA3.out.a0
  have a1 := HA3.out.a1
  have b0 := HA3.out.b0
  have b1 := HA3.out.b1
  have zt := dec_sz (n := t) (by omega)
  have zu := dec_sz (n := un) (by omega)
  have zv := dec_sz (n := vn) (by omega)
  have zx := dec_sz (n := xn) (by omega)
  have zy := dec_sz (n := yn) (by omega)
  have HD : Hid (∀ (n : Nat) (z : World), n < 300 → Calls Tryd.prog 19 #[.int .u64 (n : Int)] z fun e w' => e = .returned (.string (dec n)) ∧ ∃ m, w' = z.drewN m) := fun n z h => decimal_any n z (by omega)
  have HSL : Hid (_ = _) := tiS_L t un vn xn yn
  have HSz : Hid ((tiS t un vn xn yn).size ≤ 40000) := by
    show (tiS t un vn xn yn).size ≤ 40000
    unfold tiS
    simp only [ByteArray.size_append]
    have s1 : (⟨#[108, 111, 103, 32, 57, 10]⟩ : ByteArray).size = 6 := rfl
    have s2 : (⟨#[32, 43, 32]⟩ : ByteArray).size = 3 := rfl
    have s3 : (⟨#[32]⟩ : ByteArray).size = 1 := rfl
    have s4 : (⟨#[10]⟩ : ByteArray).size = 1 := rfl
    omega
  unfold tiS at HSL HSz
  obtain ⟨z1, z2, z3, z4, z5, z6, z7, z8, z9, za, zb, zc, e1, e2, e3, e4, e5, e6, e7, e8, e9, ea, eb, ec, hz⟩ := tiAdds (P := Tryd.prog) (dec t) (dec un) (dec vn) (dec xn) (dec yn) zt zu zv zx zy
  rw [← hz] at HSL HSz
  clear zt zu zv zx zy hz
  have bu : un < 300 := by omega
  have bv : vn < 300 := by omega
  have bx : xn < 300 := by omega
  have b_y : yn < 300 := by omega
  go_upto_region 6 with (fail)
  go_quiet ((go_at_call 19; exact quietD (HD.out _ _ (by assumption))))
  have HA4 := Lib.hid (HA3.out.next ((Mod.refl w3 NoB).drewN nq))
  obtain ⟨w4, hw4⟩ : ∃ W, W = w3.drewN nq := ⟨_, rfl⟩
  rw [← hw4] at HA4 ⊢
  clear hw4 HA3 a0 a1 b0 b1 e1 e2 e3 e4 e5 e6 e7 e8 e9 ea eb ec bu bv bx b_y HD
  have HTi : Hid (_ = _) := ties_plain (t : Int) ⟨(un : Int), (vn : Int)⟩ ⟨(xn : Int), (yn : Int)⟩ (by omega) ⟨⟨by show (0 : Int) ≤ un; omega, by show (un : Int) < vn; omega⟩, by show (vn : Int) < 9; omega⟩ ⟨⟨by show (0 : Int) ≤ xn; omega, by show (xn : Int) < yn; omega⟩, by show (yn : Int) < 9; omega⟩
  obtain ⟨N, hN⟩ : ∃ N, N = parseN (L zc) := ⟨_, rfl⟩
  have HP := parse_any w4 zc HSz.out
  rw [← hN] at HP
  clear hN
  rw [HSL.out, HTi.out] at HP
  have HLs : Hid (∀ z, Calls Tryd.prog 22 #[.agg #[.int .u32 (un : Int), .int .u32 (vn : Int)], .agg #[.int .u32 (xn : Int), .int .u32 (yn : Int)]] z fun e w' => e = .returned (.bool (decide (edLt ⟨(un : Int), (vn : Int)⟩ ⟨(xn : Int), (yn : Int)⟩))) ∧ Grw z w') := fun z => rless_grw z un vn xn yn
  clear HTi HSL HSz
  by_cases hl : edLt ⟨(un : Int), (vn : Int)⟩ ⟨(xn : Int), (yn : Int)⟩
  · rw [if_pos hl] at HP
    rw [decide_eq_true hl] at HLs
    have HP' := Lib.hid HP
    clear HP hl qe qf qg qh re rf rg rh
    go_wp2_with fail
    refine HP'.out.mono ?_
    rintro e w5 ⟨a5, c5, rfl, hE5, hm5⟩
    have HA5 := Lib.hid (HA4.out.next hm5)
    clear HP' HA4 hm5
    obtain ⟨b5, o5, rfl, hb5, hE6⟩ : ∃ b off, a5 = some ⟨b, off, none⟩ ∧ b < w5.heap.size ∧ ∀ (i : Nat) (x : Ev), [(⟨(t : Int), ⟨(un : Int), (vn : Int)⟩, true⟩ : Ev), ⟨(t : Int), ⟨(xn : Int), (yn : Int)⟩, true⟩][i]? = some x → EvAt w5 b (off + i * 4) x := by
      rcases hE5 with h0 | h0
      · cases h0
      · exact h0
    have HX := Lib.hid (hE6 1 _ rfl)
    clear hE5 hE6 hb5
    go_upto_region 8 with (fail)
    have HB := Lib.hid (HPl.start (w := w5) (n := N) (v := .slice (some ⟨b5, o5, none⟩) 2 c5) (x := 0) (y := 0))
    have HA6 := Lib.hid (HA5.out.next HB.out.mod)
    have HX6 := Lib.hid (HX.out.mod HB.out.mod)
    obtain ⟨g3, hg3⟩ : ∃ g, g = w5.heap.size := ⟨_, rfl⟩
    obtain ⟨g4, hg4⟩ : ∃ g, g = w5.heap.size + 1 := ⟨_, rfl⟩
    obtain ⟨W6, hW6⟩ : ∃ W, W = ((w5.alloc (.cells #[.int .u64 N, .slice (some ⟨b5, o5, none⟩) 2 c5] 25)).alloc (.cells #[.int .i64 0, .int .i64 0] 38)) := ⟨_, rfl⟩
    rw [← hW6] at HA6 HX6
    rw [← hW6, ← hg4, ← hg3] at HB
    rw [← hW6, ← hg4, ← hg3]
    clear hW6 hg3 hg4 HA5 HX
    have a0 := HA6.out.a0
    have a1 := HA6.out.a1
    have b0 := HA6.out.b0
    have b1 := HA6.out.b1
    go_wp2_with fail
    refine (HLs.out _).mono ?_
    rintro e w7 ⟨rfl, hg7⟩
    have HA7 := Lib.hid (HA6.out.next hg7.mod)
    have HB7 := Lib.hid (HB.out.next hg7.mod)
    obtain ⟨k0, k1, k2, k3⟩ := HX6.out.mod hg7.mod
    clear hg7 HA6 HB a0 a1 b0 b1
    have b0 := HA7.out.b0
    have b1 := HA7.out.b1
    have c1 := HB7.out.h1
    have c2 := HB7.out.p0
    have c3 := HB7.out.p1
    have HZ := Lib.hid (HM1.out.trans HA7.out.mod (fun _ _ c => c))
    clear k0 k3 HX6
    have k1 : w7.cell? ⟨b5, o5 + 4 + 1, none⟩ = some (.int .u32 (xn : Int)) := by simpa using k1
    have k2 : w7.cell? ⟨b5, o5 + 4 + 2, none⟩ = some (.int .u32 (yn : Int)) := by simpa using k2
    go_upto_region 9 with (fail)
    go_quiet (fail)
    go_wp2_with fail
    go_ret
    exact ⟨rfl, HZ.out.drewN _⟩
  · rw [if_neg hl] at HP
    rw [decide_eq_false hl] at HLs
    have HP' := Lib.hid HP
    clear HP hl qe qf qg qh re rf rg rh
    go_wp2_with fail
    refine HP'.out.mono ?_
    rintro e w5 ⟨a5, c5, rfl, hE5, hm5⟩
    have HA5 := Lib.hid (HA4.out.next hm5)
    clear HP' HA4 hm5 hE5
    go_upto_region 8 with (fail)
    have HB := Lib.hid (HPl.start (w := w5) (n := N) (v := .slice a5 0 c5) (x := 3) (y := 1))
    have HA6 := Lib.hid (HA5.out.next HB.out.mod)
    obtain ⟨g3, hg3⟩ : ∃ g, g = w5.heap.size := ⟨_, rfl⟩
    obtain ⟨g4, hg4⟩ : ∃ g, g = w5.heap.size + 1 := ⟨_, rfl⟩
    obtain ⟨W6, hW6⟩ : ∃ W, W = ((w5.alloc (.cells #[.int .u64 N, .slice a5 0 c5] 25)).alloc (.cells #[.int .i64 3, .int .i64 1] 38)) := ⟨_, rfl⟩
    rw [← hW6] at HA6
    rw [← hW6, ← hg4, ← hg3] at HB
    rw [← hW6, ← hg4, ← hg3]
    clear hW6 hg3 hg4 HA5 
    have a0 := HA6.out.a0
    have a1 := HA6.out.a1
    have b0 := HA6.out.b0
    have b1 := HA6.out.b1
    go_wp2_with fail
    refine (HLs.out _).mono ?_
    rintro e w7 ⟨rfl, hg7⟩
    have HA7 := Lib.hid (HA6.out.next hg7.mod)
    have HB7 := Lib.hid (HB.out.next hg7.mod)
    clear hg7 HA6 HB a0 a1 b0 b1
    have b0 := HA7.out.b0
    have b1 := HA7.out.b1
    have c1 := HB7.out.h1
    have c2 := HB7.out.p0
    have c3 := HB7.out.p1
    have HZ := Lib.hid (HM1.out.trans HA7.out.mod (fun _ _ c => c))
    go_wp2_with fail
    go_ret
    exact ⟨rfl, HZ.out⟩
end Go.Proofs.YtggnkefhegnokaaDoor
end

section
/- Plain: what the text of a log is read as that is cut short. -/
namespace Go.Proofs.YtggnkefhegnokaaDoor
set_option linter.unusedVariables false

/-- A step of a reading: it does nothing behind an error; it is short where its word is cut. -/
def cutErr (f : SS → SS) : Prop := ∀ st, st.er ≠ 0 → f st = st
def cutFull (f : SS → SS) (u r : List UInt8) : Prop := ∀ p, f ⟨u ++ r, p, 0⟩ = ⟨r, (p.1, p.2 + u.length), 0⟩
def cutMid (f : SS → SS) (u : List UInt8) : Prop := ∀ y p, y <+: u → y ≠ u → f ⟨y, p, 0⟩ = ⟨y, p, 20⟩ ∨ f ⟨y, p, 0⟩ = ⟨[], (p.1, p.2 + y.length), 0⟩
def cutLast (f : SS → SS) (u : List UInt8) : Prop := ∀ y p, y <+: u → y ≠ u → f ⟨y, p, 0⟩ = ⟨y, p, 20⟩
def runC : List ((SS → SS) × List UInt8) → SS → SS
  | [], st => st
  | x :: r, st => runC r (x.1 st)
def wordsC (S : List ((SS → SS) × List UInt8)) : List UInt8 := S.flatMap Prod.snd
def OkC : List ((SS → SS) × List UInt8) → Prop
  | [] => True
  | x :: r => x.2 ≠ [] ∧ cutErr x.1 ∧ (if r = [] then cutLast x.1 x.2 else cutMid x.1 x.2 ∧ ∀ z, z <+: wordsC r → cutFull x.1 x.2 z) ∧ OkC r
theorem runC_err : ∀ (S : List ((SS → SS) × List UInt8)), OkC S → ∀ st, st.er ≠ 0 → runC S st = st
  | [], _, st, _ => rfl
  | x :: r, h, st, he => by
    show runC r (x.1 st) = st
    rw [h.2.1 st he]
    exact runC_err r h.2.2.2 st he
theorem prefix_split {y a b : List UInt8} (h : y <+: a ++ b) : (y <+: a ∧ y ≠ a) ∨ ∃ z, y = a ++ z ∧ z <+: b := by
  induction a generalizing y with
  | nil => exact Or.inr ⟨y, rfl, h⟩
  | cons c a ih =>
    cases y with
    | nil => exact Or.inl ⟨List.nil_prefix, by simp⟩
    | cons d y =>
      rw [List.cons_append, List.cons_prefix_cons] at h
      obtain ⟨rfl, h⟩ := h
      rcases ih h with ⟨h1, h2⟩ | ⟨z, rfl, hz⟩
      · exact Or.inl ⟨by rw [List.cons_prefix_cons]; exact ⟨rfl, h1⟩, by simpa using h2⟩
      · exact Or.inr ⟨z, rfl, hz⟩
/-- A text that ends within the words is short there. -/
theorem runC_cut : ∀ (S : List ((SS → SS) × List UInt8)), OkC S → ∀ (y : List UInt8) (p : Int × Int), y <+: wordsC S → y ≠ wordsC S →
    (runC S ⟨y, p, 0⟩).er = 20 ∧ (runC S ⟨y, p, 0⟩).p.1 = p.1 ∧ (runC S ⟨y, p, 0⟩).p.2 ≤ p.2 + y.length
  | [], _, y, p, h, hn => by
    exact absurd (List.prefix_nil.1 h) hn
  | x :: r, h, y, p, hy, hn => by
    obtain ⟨hne, herr, hc, hr⟩ := h
    have hw : wordsC (x :: r) = x.2 ++ wordsC r := by simp [wordsC]
    rw [hw] at hy hn
    have short : x.1 ⟨y, p, 0⟩ = ⟨y, p, 20⟩ → (runC (x :: r) ⟨y, p, 0⟩).er = 20 ∧ (runC (x :: r) ⟨y, p, 0⟩).p.1 = p.1 ∧ (runC (x :: r) ⟨y, p, 0⟩).p.2 ≤ p.2 + y.length := by
      intro e
      have : runC (x :: r) ⟨y, p, 0⟩ = ⟨y, p, 20⟩ := by
        show runC r (x.1 ⟨y, p, 0⟩) = _
        rw [e]
        exact runC_err r hr _ (show (20 : Int) ≠ 0 by decide)
      rw [this]
      exact ⟨rfl, rfl, by show p.2 ≤ p.2 + (y.length : Int); omega⟩
    by_cases hr0 : r = []
    · rw [if_pos hr0] at hc
      subst hr0
      have hw0 : wordsC [] = [] := rfl
      rw [hw0, List.append_nil] at hy hn
      exact short (hc y p hy hn)
    · rw [if_neg hr0] at hc
      rcases prefix_split hy with ⟨h1, h2⟩ | ⟨z, rfl, hz⟩
      · rcases hc.1 y p h1 h2 with e | e
        · exact short e
        · have hrun : runC (x :: r) ⟨y, p, 0⟩ = runC r ⟨[], (p.1, p.2 + y.length), 0⟩ := by show runC r (x.1 ⟨y, p, 0⟩) = _; rw [e]
          have ih := runC_cut r hr [] (p.1, p.2 + y.length) List.nil_prefix (by
            cases r with
            | nil => exact absurd rfl hr0
            | cons a r => intro e0; have := hr.1; simp [wordsC] at e0; exact this e0.1)
          rw [hrun]
          refine ⟨ih.1, ih.2.1, ?_⟩
          have := ih.2.2
          simpa using this
      · have hrun : runC (x :: r) ⟨x.2 ++ z, p, 0⟩ = runC r ⟨z, (p.1, p.2 + x.2.length), 0⟩ := by show runC r (x.1 ⟨x.2 ++ z, p, 0⟩) = _; rw [hc.2 z hz p]
        have ih := runC_cut r hr z (p.1, p.2 + x.2.length) hz (fun e => hn (by rw [e]))
        rw [hrun]
        refine ⟨ih.1, ih.2.1, ?_⟩
        have := ih.2.2
        rw [List.length_append]
        have h3 : ((x.2.length + z.length : Nat) : Int) = (x.2.length : Int) + z.length := by omega
        rw [h3]
        simp only at this
        omega
/-- The steps. -/
theorem word_cutLast (u : List UInt8) : cutLast (fun st => (wordS u st).2) u := by
  intro y p h hn
  have h2 : ¬ u <+: y := fun c => hn (h.eq_of_length (Nat.le_antisymm h.length_le c.length_le))
  simp [wordS, wordOut, SS.go, h, h2, adv]
theorem word_cutErr (u : List UInt8) : cutErr (fun st => (wordS u st).2) := fun st h => by show (wordS u st).2 = st; rw [wordS_err h]
theorem num_cutErr (m : Int) : cutErr (fun st => (numS m st).2) := fun st h => by show (numS m st).2 = st; rw [numS_err h]
theorem dec_prefix (n : Nat) : ∀ y, y <+: decL n → y ≠ [] → ∃ m, m ≤ n ∧ y = decL m := by
  induction n using Nat.strongRecOn with
  | _ n ih =>
    intro y hy hn
    by_cases h : n < 10
    · refine ⟨n, Nat.le_refl _, ?_⟩
      have h1 := (decL_small h)
      rw [h1] at hy ⊢
      cases y with
      | nil => exact absurd rfl hn
      | cons c y =>
        rw [List.cons_prefix_cons] at hy
        rw [hy.1, List.prefix_nil.1 hy.2]
    · have h1 := decL_big h
      by_cases he : y = decL n
      · exact ⟨n, Nat.le_refl _, he⟩
      · rw [h1] at hy he
        rcases prefix_split hy with ⟨h2, _⟩ | ⟨z, rfl, hz⟩
        · obtain ⟨m, hm, e⟩ := ih (n / 10) (by omega) y h2 hn
          exact ⟨m, by omega, e⟩
        · cases z with
          | nil =>
            obtain ⟨m, hm, e⟩ := ih (n / 10) (by omega) (decL (n / 10) ++ []) (by simp) hn
            exact ⟨m, by omega, e⟩
          | cons c z =>
            rw [List.cons_prefix_cons] at hz
            exact absurd (by rw [hz.1, List.prefix_nil.1 hz.2]) he
theorem num_cutMid {m : Int} (h0 : 0 ≤ m) {n : Nat} (hn : (n : Int) ≤ m) : cutMid (fun st => (numS m st).2) (decL n) := by
  intro y p h hne
  by_cases hy : y = []
  · subst hy
    left
    simp [numS, numOut, numErr, SS.go, adv]
  · right
    obtain ⟨k, hk, rfl⟩ := dec_prefix n y h hy
    have := numS_dec (most := m) h0 (n := k) (by omega) [] p (by simp)
    rw [List.append_nil] at this
    show (numS m ⟨decL k, p, 0⟩).2 = _
    rw [this]
theorem num_full {m : Int} (h0 : 0 ≤ m) {n : Nat} (hn : (n : Int) ≤ m) (c : UInt8) (t z : List UInt8) (hc : isD c = false) (hz : z <+: c :: t) : cutFull (fun st => (numS m st).2) (decL n) z := by
  intro p
  show (numS m ⟨decL n ++ z, p, 0⟩).2 = _
  rw [numS_dec h0 hn z p (by
    intro d hd
    cases z with
    | nil => simp at hd
    | cons e z =>
      rw [List.cons_prefix_cons] at hz
      simp at hd
      rw [← hd, hz.1]; exact hc)]
theorem byte_full {c : UInt8} (hc : c.toNat ≠ 10) (z : List UInt8) : cutFull (fun st => (wordS [c] st).2) [c] z := by
  intro p
  show (wordS [c] ⟨c :: z, p, 0⟩).2 = _
  rw [byte_there hc]
  rfl
end Go.Proofs.YtggnkefhegnokaaDoor
end
