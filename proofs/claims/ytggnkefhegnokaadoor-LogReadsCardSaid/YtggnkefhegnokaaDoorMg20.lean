/- Merged: LgT LgPr LgRr -/
import Derived.Test.YtggnkefhegnokaaDoorMg18
import Derived.Test.YtggnkefhegnokaaDoorMg16
import Derived.Test.YtggnkefhegnokaaDoorMg11
import Derived.Test.YtggnkefhegnokaaDoorMg19
import Derived.Test.YtggnkefhegnokaaDoorMg10
section
/- A log's text, plainly. -/
namespace Go.Proofs.YtggnkefhegnokaaDoor
open Go.RowKit
set_option linter.unusedVariables false

def sgnL (b : Bool) : List UInt8 := if b = true then [32, 43, 32] else [32, 45, 32]
/-- An event's line. -/
def lineL (e : Ev) : List UInt8 := decL e.t.toNat ++ sgnL e.add ++ decL e.e.u.toNat ++ [32] ++ decL e.e.v.toNat ++ [10]
def logL (n : Int) (F : List Ev) : List UInt8 := [108, 111, 103, 32] ++ decL n.toNat ++ [10] ++ F.flatMap lineL
theorem decD (u : Nat) : Lib.decDigits u = decL u := by
  induction u using Nat.strongRecOn with
  | _ u ih =>
    rw [Lib.decDigits, decL]
    split
    · rfl
    · rw [ih (u / 10) (by omega)]
theorem lineL_len {e : Ev} (h : 0 ≤ e.t ∧ e.t ≤ 4611686018427387903) (hb : EvB e) : (lineL e).length ≤ 65 := by
  have h1 := decL_len20 e.t.toNat (by omega)
  have h2 := decL_len20 e.e.u.toNat (by have := hb.1; omega)
  have h3 := decL_len20 e.e.v.toNat (by have := hb.2; omega)
  unfold lineL sgnL
  simp only [List.length_append, List.length_singleton]
  split <;> simp <;> omega
theorem logL_take {n : Int} {F : List Ev} {k : Nat} {x : Ev} (hx : F[k]? = some x) : logL n (F.take (k + 1)) = logL n (F.take k) ++ lineL x := by
  obtain ⟨h1, h2⟩ := List.getElem?_eq_some_iff.1 hx
  unfold logL
  rw [List.take_succ_eq_append_getElem h1, h2, List.flatMap_append]
  simp
theorem logL_len {n : Int} {F : List Ev} (hn : 0 ≤ n ∧ n ≤ 4294967296) (h : ∀ x ∈ F, (0 ≤ x.t ∧ x.t ≤ 4611686018427387903) ∧ EvB x) : (logL n F).length ≤ 25 + 65 * F.length := by
  have h1 := decL_len20 n.toNat (by omega)
  unfold logL
  have key : ∀ F : List Ev, (∀ x ∈ F, (0 ≤ x.t ∧ x.t ≤ 4611686018427387903) ∧ EvB x) → (F.flatMap lineL).length ≤ 65 * F.length := by
    intro F
    induction F with
    | nil => intro _; simp
    | cons y F ih =>
      intro h
      have h2 := ih (fun x hx => h x (by simp [hx]))
      have h3 := lineL_len (h y (by simp)).1 (h y (by simp)).2
      rw [List.flatMap_cons, List.length_append, List.length_cons]
      omega
  have := key F h
  simp only [List.length_append, List.length_cons, List.length_nil]
  omega
/-- The text that is printed, if the history may be. -/
def prS (n : Int) (F : List Ev) : ByteArray := if (chk n F).2 = 0 then ⟨(logL n F).toArray⟩ else ⟨#[]⟩
theorem byteCells_app (a b : List UInt8) : Lib.byteCells (a ++ b) = Lib.byteCells a ++ Lib.byteCells b := by simp [Lib.byteCells]
theorem strCells_L (s : ByteArray) : Lib.strCells s = Lib.byteCells (L s) := rfl
theorem chk_ok_bd {n : Int} {F : List Ev} (h : (chk n F).2 = 0) : n ≤ 4294967296 ∧ AllOk n none (fun _ => false) F := by
  unfold chk at h
  split at h
  · cases h
  · rename_i hn
    exact ⟨by unfold maxN at hn; omega, allOk_of h⟩
theorem allOk_tt {n : Int} : ∀ {l : List Ev} {prev : Option Ev} {there : Ed → Bool}, AllOk n prev there l → ∀ y ∈ l, 0 ≤ y.t ∧ y.t ≤ 4611686018427387903
  | [], _, _, _, y, hy => by simp at hy
  | e :: l, _, _, h, y, hy => by
    rcases List.mem_cons.1 hy with rfl | hy
    · exact (evErr_ok h.1).1
    · exact allOk_tt h.2 y hy
end Go.Proofs.YtggnkefhegnokaaDoor
end

section
/- The contract of logfmt.Print. -/
namespace Go.Proofs.YtggnkefhegnokaaDoor
open Go.RowKit
set_option linter.unusedVariables false

/-- What stands at the loop. -/
structure OPr (w wr : World) (h0 b : Nat) (n : Int) (a : Option Addr) (len cap : Nat) (F : List Ev) (v : Value) (bs : List UInt8) : Prop where
  h : HAt w wr h0 n a len cap F
  bl : Bl b wr b v (Lib.byteCells bs)
  lt : h0 < b ∧ w.heap.size ≤ h0
theorem OPr.next {w wr w' : World} {h0 b : Nat} {n : Int} {a : Option Addr} {len cap : Nat} {F : List Ev} {v : Value} {bs : List UInt8} (h : OPr w wr h0 b n a len cap F v bs) (hm : Mod wr w' NoB) : OPr w w' h0 b n a len cap F v bs :=
  ⟨h.h.next hm, h.bl.mod hm (by simp [NoB]) (fun _ _ c => c), h.lt⟩
theorem OPr.ge {w wr : World} {h0 b : Nat} {n : Int} {a : Option Addr} {len cap : Nat} {F : List Ev} {v : Value} {bs : List UInt8} (h : OPr w wr h0 b n a len cap F v bs) : ∀ q, BlS b v q → b ≤ q ∧ q < wr.heap.size := by
  intro q hq
  rcases hq with rfl | hq
  · exact ⟨Nat.le_refl _, h.bl.lt⟩
  · exact h.bl.2.2.1.lt q hq
/-- The builder has been written to. -/
theorem OPr.wrote {w wr w' : World} {h0 b : Nat} {n : Int} {a : Option Addr} {len cap : Nat} {F : List Ev} {v v' : Value} {bs bs' : List UInt8} (h : OPr w wr h0 b n a len cap F v bs) (hE : Evs w a F) (hb : Bl b w' b v' (Lib.byteCells bs')) (hm : Mod wr w' (BlS b v)) : OPr w w' h0 b n a len cap F v' bs' := by
  have hn : ¬ BlS b v h0 := fun c => by have := (h.ge h0 c).1; have := h.lt.1; omega
  have hm0 : Mod w w' NoB := h.h.mod.trans hm (fun i hi c => by have := (h.ge i c).1; have := h.lt.1; have := h.lt.2; omega)
  exact ⟨⟨hm0, keepS h.h.c0 hm hn, keepS h.h.c1 hm hn, hE.mod hm0⟩, hb, h.lt⟩
theorem head_cells (un : Nat) : Lib.byteCells [] ++ Lib.strCells (⟨#[108, 111, 103, 32]⟩ ++ dec un ++ ⟨#[10]⟩) = Lib.byteCells (logL (un : Int) []) := by
  rw [strCells_L, app_L, app_L, dec_L]
  simp [logL, Lib.byteCells, L]
theorem line_cells {n : Int} {F : List Ev} {k : Nat} {x : Ev} (hx : F[k]? = some x) (sg : ByteArray) (hsg : L sg = sgnL x.add) :
    Lib.byteCells (logL n (F.take k)) ++ Lib.strCells (dec x.t.toNat ++ sg ++ dec x.e.u.toNat ++ ⟨#[32]⟩ ++ dec x.e.v.toNat ++ ⟨#[10]⟩) = Lib.byteCells (logL n (F.take (k + 1))) := by
  rw [logL_take hx, byteCells_app, strCells_L, app_L, app_L, app_L, app_L, app_L, dec_L, dec_L, dec_L, hsg]
  rfl
theorem u64_of {t : Int} (h : 0 ≤ t ∧ t ≤ 4294967295) : IntKind.u64.wrap t = t := by rw [IntKind.wrap_u64]; omega
def sgB (b : Bool) : ByteArray := if b = true then ⟨#[32, 43, 32]⟩ else ⟨#[32, 45, 32]⟩
theorem sgB_L (b : Bool) : L (sgB b) = sgnL b := by cases b <;> rfl
theorem sgB_size (b : Bool) : (sgB b).size = 3 := by cases b <;> rfl
theorem nat_of {z : Int} (h : 0 ≤ z) : z = ((z.toNat : Nat) : Int) := by omega

set_option maxRecDepth 100000 in
set_option maxHeartbeats 8000000 in
theorem print_any (w : World) (n : Int) (a : Option Addr) (cap : Nat) (F : List Ev) (hn0 : 0 ≤ n) (hE : Evs w a F) (hl : F.length ≤ 40000) (hb : ∀ x ∈ F, EvB x) (htab : Lib.TabIs Tryd.prog w "internal/strconv.uint64pow10" .u64 Lib.pow10Tab) :
    Calls Tryd.prog 12 #[.agg #[.int .u64 n, .slice a F.length cap]] w fun e w' => e = .returned (.tuple #[.string (prS n F), .int .i64 (chk n F).2]) ∧ Mod w w' NoB := by
  have hmx := mixed
  have HE := Lib.hid (And.intro hE htab)
  have HCk : Hid (∀ z, Evs z a F → Calls Tryd.prog 28 #[.agg #[.int .u64 n, .slice a F.length cap]] z fun e w' => e = .returned (.tuple #[.int .i64 (chk n F).1, .int .i64 (chk n F).2]) ∧ Mod z w' NoB) := fun z hz => hcheck_any z n a cap F hz (by omega) hb
  have HH0 := Lib.hid (HAt.start (n := n) (len := F.length) (cap := cap) hE)
  obtain ⟨h0, hh0⟩ : ∃ h0, h0 = w.heap.size := ⟨_, rfl⟩
  obtain ⟨W, hW⟩ : ∃ W, W = w.alloc (.cells #[.int .u64 n, .slice a F.length cap] 25) := ⟨_, rfl⟩
  rw [← hW, ← hh0] at HH0
  obtain ⟨R1, hR1⟩ : ∃ R1, (chk n F).1 = R1 := ⟨_, rfl⟩
  obtain ⟨R2, hR2⟩ : ∃ R2, (chk n F).2 = R2 := ⟨_, rfl⟩
  obtain ⟨PS, hPS⟩ : ∃ PS, prS n F = PS := ⟨_, rfl⟩
  rw [hPS, hR2]
  unfold prS at hPS
  rw [hR2] at hPS
  rw [hR1, hR2] at HCk
  have hy0 : w.heap.size ≤ h0 := by omega
  clear hE htab hR1
  go_enter Tryd.func12, Tryd.ntmps12
  have c0 := HH0.out.c0
  have c1 := HH0.out.c1
  go_upto_region 1 with (fail)
  rw [← hW, ← hh0]
  clear hW hh0
  go_wp2_with fail
  refine (HCk.out _ HH0.out.evs).mono ?_
  rintro e w1 ⟨rfl, hm⟩
  have HH1 := Lib.hid (HH0.out.next hm)
  clear hm c0 c1 HH0 HCk
  by_cases hz : R2 = 0
  · subst hz
    rw [if_pos rfl] at hPS
    subst hPS
    obtain ⟨hnN, hok⟩ := chk_ok_bd hR2
    have hbd : ∀ x ∈ F, (0 ≤ x.t ∧ x.t ≤ 4611686018427387903) ∧ EvB x := fun x hx => ⟨allOk_tt hok x hx, hb x hx⟩
    have HBD := Lib.hid hbd
    have hlog := logL_len (n := n) ⟨hn0, hnN⟩ hbd
    clear hR2 hok hbd hb
    have c0 := HH1.out.c0
    have c1 := HH1.out.c1
    go_upto_region 5 with (fail)
    have HO : Hid (OPr w (w1.alloc (.cells #[.pointer none, .slice none 0 0] 75)) h0 w1.heap.size n a F.length cap F (.slice none 0 0) []) :=
      ⟨HH1.out.next ((Mod.refl _ _).alloc _), Bl.made w1 _ (Nat.le_refl _), by have : h0 < w1.heap.size := World.block_lt_of_cell? _ _ c0; exact this, hy0⟩
    obtain ⟨b, hbk⟩ : ∃ b, b = w1.heap.size := ⟨_, rfl⟩
    obtain ⟨X, hX⟩ : ∃ X, X = w1.alloc (.cells #[.pointer none, .slice none 0 0] 75) := ⟨_, rfl⟩
    rw [← hX, ← hbk] at HO
    rw [← hX, ← hbk]
    clear hX hbk c0 c1 HH1
    have c0 := HO.out.h.c0
    have c1 := HO.out.h.c1
    obtain ⟨un, hun⟩ : ∃ un : Nat, n = (un : Int) := ⟨n.toNat, nat_of hn0⟩
    subst hun
    have HF0 : Hid (Calls Tryd.prog 30 #[.int .u64 un, .int .i64 10] X fun e w' => e = .returned (.string (dec un)) ∧ Mod X w' NoB) := by
      have := fmtu_any un (by omega) X (tab_mod HE.out.2 HO.out.h.mod)
      rw [decD] at this
      exact this
    have hds := dec_size un
    have hd20 := decL_len20 un (by omega)
    have s1 := sadd (P := Tryd.prog) ⟨#[108, 111, 103, 32]⟩ (dec un) (by show 4 + _ ≤ _; omega)
    have s2 := sadd (P := Tryd.prog) (⟨#[108, 111, 103, 32]⟩ ++ dec un) ⟨#[10]⟩ (by rw [ByteArray.size_append]; show 4 + (dec un).size + 1 ≤ _; omega)
    go_wp2_with fail
    refine HF0.out.mono ?_
    rintro e w2 ⟨rfl, hm⟩
    have HO2 := Lib.hid (HO.out.next hm)
    clear hm c0 c1 HF0 HO
    go_wp2_with fail
    refine (bwrite_bl b b _ [] _ w2 HO2.out.bl (by rw [ByteArray.size_append, ByteArray.size_append]; show 0 + (4 + (dec un).size + 1) ≤ _; omega) (Nat.le_of_lt HO2.out.bl.lt)).mono ?_
    rintro e w3 ⟨rfl, v3, hb3, hm3⟩
    have hb3' : Bl b w3 b v3 (Lib.byteCells (logL (un : Int) [])) := by rw [← head_cells]; exact hb3
    have HO3 := Lib.hid (HO2.out.wrote HE.out.1 hb3' hm3)
    clear hb3 hb3' hm3 HO2 s1 s2 hds hd20
    have c0 := HO3.out.h.c0
    have c1 := HO3.out.h.c1
    go_wp2_with fail
    go_loopw [27] (fun v27 wr => ∃ (k : Nat) (v : Value), k ≤ F.length ∧ v27 = .int .i64 k ∧ Hid (OPr w wr h0 b un a F.length cap F v (logL un (F.take k)))) (fun v27 _ => F.length - (intOf v27).toNat)
    case atStart => exact ⟨0, v3, Nat.zero_le _, rfl, by rw [List.take_zero]; exact HO3.out⟩
    case round =>
      obtain ⟨k, v, hk, rfl, HI⟩ := hrel
      by_cases hlt : k < F.length
      · obtain ⟨b', off, x, rfl, hbw, hx, hC⟩ := HI.out.h.evs.at hlt
        have hki : (k : Int) < F.length := by omega
        obtain ⟨q0, q1, q2, q3⟩ := hC
        have HX := Lib.hid (And.intro hx (HBD.out x (List.mem_of_getElem? hx)))
        clear hx hbw
        go_upto_region 9 with (fail)
        have h7 : Mod wr (wr.alloc (.cells #[.int .i64 x.t, .int .u32 x.e.u, .int .u32 x.e.v, .bool x.add] 61)) NoB := (Mod.refl _ _).alloc _
        have HO7 := Lib.hid (HI.out.next h7)
        have HX7 : Hid (EvAt (wr.alloc (.cells #[.int .i64 x.t, .int .u32 x.e.u, .int .u32 x.e.v, .bool x.add] 61)) wr.heap.size 0 x) := ⟨World.cell?_alloc_at _ _ _ _ rfl, World.cell?_alloc_at _ _ _ _ rfl, World.cell?_alloc_at _ _ _ _ rfl, World.cell?_alloc_at _ _ _ _ rfl⟩
        have hgx : ∀ q, BlS b v q → q < wr.heap.size := fun q hq => (HI.out.ge q hq).2
        obtain ⟨gx, hgx'⟩ : ∃ gx, gx = wr.heap.size := ⟨_, rfl⟩
        obtain ⟨V, hV⟩ : ∃ V, V = wr.alloc (.cells #[.int .i64 x.t, .int .u32 x.e.u, .int .u32 x.e.v, .bool x.add] 61) := ⟨_, rfl⟩
        rw [← hV] at HO7
        rw [← hV, ← hgx'] at HX7
        rw [← hgx'] at hgx
        rw [← hV, ← hgx']
        have hngx : ¬ BlS b v gx := fun c => Nat.lt_irrefl _ (hgx gx c)
        clear hV hgx' h7 q0 q1 q2 q3 hgx
        obtain ⟨k0, k1, k2, k3⟩ := HX7.out
        simp only [Nat.zero_add] at k1 k2 k3
        go_upto_if 32 with (fail)
        go_cut [9] (fun v9 wc => v9 = .string (sgB x.add) ∧ wc = V)
        case first =>
          cases hadd : x.add with
          | true =>
            rw [hadd] at k3
            go_wp2_with fail
            go_meet
            exact ⟨by rw [hadd]; rfl, rfl⟩
          | false =>
            rw [hadd] at k3
            go_wp2_with fail
            go_meet
            exact ⟨by rw [hadd]; rfl, rfl⟩
        case rest =>
          obtain ⟨rfl, hwc⟩ := hcut
          subst hwc
          obtain ⟨sg, hsg⟩ : ∃ sg, sgB x.add = sg := ⟨_, rfl⟩
          have hsL : L sg = sgnL x.add := by rw [← hsg]; exact sgB_L _
          have hsz : sg.size = 3 := by rw [← hsg]; exact sgB_size _
          rw [hsg]
          clear hsg
          have hxt := HX.out.2.1
          have hxu := HX.out.2.2.1
          have hxv := HX.out.2.2.2
          have wu := u64_of hxu
          have wv := u64_of hxv
          obtain ⟨dt, hdt⟩ : ∃ d, dec x.t.toNat = d := ⟨_, rfl⟩
          obtain ⟨du, hdu⟩ : ∃ d, dec x.e.u.toNat = d := ⟨_, rfl⟩
          obtain ⟨dv, hdv⟩ : ∃ d, dec x.e.v.toNat = d := ⟨_, rfl⟩
          have zt : dt.size ≤ 20 := by rw [← hdt, dec_size]; exact decL_len20 _ (by omega)
          have zu : du.size ≤ 20 := by rw [← hdu, dec_size]; exact decL_len20 _ (by omega)
          have zv : dv.size ≤ 20 := by rw [← hdv, dec_size]; exact decL_len20 _ (by omega)
          have HTi : Hid (∀ z, Mod wc z NoB → Calls Tryd.prog 31 #[.int .i64 x.t, .int .i64 10] z fun e w' => e = .returned (.string dt) ∧ Mod z w' NoB) := fun z hz => by
            have := fmti_any x.t.toNat (by omega) z (tab_mod HE.out.2 (HO7.out.h.mod.trans hz (fun _ _ c => c)))
            rw [← nat_of hxt.1, decD] at this
            rw [← hdt]; exact this
          have HUi : Hid (∀ z, Mod wc z NoB → Calls Tryd.prog 30 #[.int .u64 x.e.u, .int .i64 10] z fun e w' => e = .returned (.string du) ∧ Mod z w' NoB) := fun z hz => by
            have := fmtu_any x.e.u.toNat (by omega) z (tab_mod HE.out.2 (HO7.out.h.mod.trans hz (fun _ _ c => c)))
            rw [← nat_of hxu.1, decD] at this
            rw [← hdu]; exact this
          have HVi : Hid (∀ z, Mod wc z NoB → Calls Tryd.prog 30 #[.int .u64 x.e.v, .int .i64 10] z fun e w' => e = .returned (.string dv) ∧ Mod z w' NoB) := fun z hz => by
            have := fmtu_any x.e.v.toNat (by omega) z (tab_mod HE.out.2 (HO7.out.h.mod.trans hz (fun _ _ c => c)))
            rw [← nat_of hxv.1, decD] at this
            rw [← hdv]; exact this
          have e1 := sadd (P := Tryd.prog) dt sg (by omega)
          have e2 := sadd (P := Tryd.prog) (dt ++ sg) du (by rw [ByteArray.size_append]; omega)
          have e3 := sadd (P := Tryd.prog) (dt ++ sg ++ du) ⟨#[32]⟩ (by rw [ByteArray.size_append, ByteArray.size_append]; show dt.size + sg.size + du.size + 1 ≤ _; omega)
          have e4 := sadd (P := Tryd.prog) (dt ++ sg ++ du ++ ⟨#[32]⟩) dv (by rw [ByteArray.size_append, ByteArray.size_append, ByteArray.size_append]; show dt.size + sg.size + du.size + 1 + dv.size ≤ _; omega)
          have e5 := sadd (P := Tryd.prog) (dt ++ sg ++ du ++ ⟨#[32]⟩ ++ dv) ⟨#[10]⟩ (by rw [ByteArray.size_append, ByteArray.size_append, ByteArray.size_append, ByteArray.size_append]; show dt.size + sg.size + du.size + 1 + dv.size + 1 ≤ _; omega)
          have hWz : (dt ++ sg ++ du ++ ⟨#[32]⟩ ++ dv ++ ⟨#[10]⟩).size ≤ 65 := by
            rw [ByteArray.size_append, ByteArray.size_append, ByteArray.size_append, ByteArray.size_append, ByteArray.size_append]
            show dt.size + sg.size + du.size + 1 + dv.size + 1 ≤ _
            omega
          have hbl : (Lib.byteCells (logL un (F.take k))).length ≤ 25 + 65 * 40000 := by
            rw [Lib.byteCells_length]
            have := logL_len (n := (un : Int)) (F := F.take k) ⟨hn0, hnN⟩ (fun y hy => HBD.out y (List.mem_of_mem_take hy))
            have h2 : (F.take k).length ≤ k := by simp; omega
            omega
          have HWr : Hid (∀ z, Mod wc z NoB → Calls Tryd.prog 29 #[.pointer (some ⟨b, 0, none⟩), .string (dt ++ sg ++ du ++ ⟨#[32]⟩ ++ dv ++ ⟨#[10]⟩)] z fun e w' => e = .returned (.tuple #[.int .i64 (dt ++ sg ++ du ++ ⟨#[32]⟩ ++ dv ++ ⟨#[10]⟩).size, .nilIface]) ∧ ∃ v', Bl b w' b v' (Lib.byteCells (logL un (F.take (k + 1)))) ∧ Mod z w' (BlS b v)) := fun z hz => by
            have hbz := HO7.out.bl.mod hz (by simp [NoB]) (fun _ _ c => c)
            refine (bwrite_bl b b v _ _ z hbz (by omega) (Nat.le_of_lt hbz.lt)).mono ?_
            rintro e w' ⟨rfl, v', h1, h2⟩
            refine ⟨rfl, v', ?_, h2⟩
            rw [← line_cells HX.out.1 sg hsL, hdt, hdu, hdv]
            exact h1
          clear hdt hdu hdv hsL hsz zt zu zv hWz hbl hxt hxu hxv
          go_upto_region 12 with (fail)
          go_region_held3 (fun z => z.cell? ⟨gx, 0, none⟩ = some (.int .i64 x.t) ∧ z.cell? ⟨gx, 1, none⟩ = some (.int .u32 x.e.u) ∧ z.cell? ⟨gx, 2, none⟩ = some (.int .u32 x.e.v))
            (first | exact ⟨k0, k1, k2⟩ | exact ⟨keepS k0 H8.out.1 hngx, keepS k1 H8.out.1 hngx, keepS k2 H8.out.1 hngx⟩ | exact ⟨keepc k0 H7.out, keepc k1 H7.out, keepc k2 H7.out⟩ | exact ⟨keepc k0 H6.out, keepc k1 H6.out, keepc k2 H6.out⟩ | exact ⟨keepc k0 H5.out, keepc k1 H5.out, keepc k2 H5.out⟩)
            (first
              | (go_at_call 31; refine (HTi.out _ (Mod.drew (Mod.refl _ NoB))).mono ?_; rintro r w5 ⟨rfl, hm5⟩; have H5 := Lib.hid (Mod.trans (Mod.drew (Mod.refl wc NoB)) hm5 (fun _ _ c => c)); clear hm5)
              | (go_at_call 30; refine (HUi.out _ H5.out).mono ?_; rintro r w6 ⟨rfl, hm6⟩; have H6 := Lib.hid (H5.out.trans hm6 (fun _ _ c => c)); clear hm6)
              | (go_at_call 30; refine (HVi.out _ H6.out).mono ?_; rintro r w7 ⟨rfl, hm7⟩; have H7 := Lib.hid (H6.out.trans hm7 (fun _ _ c => c)); clear hm7)
              | (go_at_call 29; refine (HWr.out _ H7.out).mono ?_; rintro r w8 ⟨rfl, v8, hb8, hm8⟩; have H8 := Lib.hid (And.intro ((H7.out.mono (T := BlS b v) (fun _ _ c => c.elim)).trans hm8 (fun _ _ c => c)) hb8); clear hm8 hb8))
          have HO8 := Lib.hid (HO7.out.wrote HE.out.1 H8.out.2 H8.out.1)
          go_wp2_with fail
          go_roundw
          case rel => exact ⟨k + 1, v8, by omega, by go_num, HO8.out⟩
          case measure => simp [intOf]; omega
      · have hkl : k = F.length := by omega
        subst hkl
        rw [List.take_length] at HI
        go_wp2_with fail
        refine (bstring_bl b b v _ _ HI.out.bl (Nat.le_of_lt HI.out.bl.lt)).mono ?_
        rintro e w9 ⟨rfl, hbe⟩
        have HZ : Hid (Mod w w9 NoB) := HI.out.h.mod.trans (⟨hbe.os, hbe.tape, hbe.output, hbe.size, fun q hq hn => hbe.block q (Nat.lt_of_not_le hn)⟩ : Mod wr w9 (fun q => b ≤ q)) (fun i hi c => by have := HI.out.lt.1; have := HI.out.lt.2; omega)
        clear hbe
        go_wp2_with fail
        go_ret2
        exact ⟨rfl, HZ.out⟩
  · have hne : ((R2 : Int) == 0) = false := beq_eq_false_iff_ne.2 (by omega)
    rw [if_neg hz] at hPS
    subst hPS
    go_wp2_with fail
    go_ret2
    exact ⟨rfl, HH1.out.mod⟩
end Go.Proofs.YtggnkefhegnokaaDoor
end

section
/- The contract of the reference's PrintLog. -/
namespace Go.Proofs.YtggnkefhegnokaaDoor
open Go.RowKit
set_option linter.unusedVariables false

theorem str_eq {a b : ByteArray} (h : L a = L b) : a = b := by
  apply ByteArray.ext
  exact Array.toList_inj.1 h
theorem logS_head (un : Nat) : (⟨#[108, 111, 103, 32]⟩ ++ dec un ++ ⟨#[10]⟩ : ByteArray) = ⟨(logL (un : Int) []).toArray⟩ := by
  apply str_eq
  rw [app_L, app_L, dec_L]
  simp [logL, L]
theorem logS_line {n : Int} {F : List Ev} {k : Nat} {x : Ev} (hx : F[k]? = some x) (sg : ByteArray) (hsg : L sg = sgnL x.add) :
    (⟨(logL n (F.take k)).toArray⟩ ++ dec x.t.toNat ++ sg ++ dec x.e.u.toNat ++ ⟨#[32]⟩ ++ dec x.e.v.toNat ++ ⟨#[10]⟩ : ByteArray) = ⟨(logL n (F.take (k + 1))).toArray⟩ := by
  apply str_eq
  rw [app_L, app_L, app_L, app_L, app_L, app_L, dec_L, dec_L, dec_L, hsg]
  show _ = (logL n (F.take (k + 1))).toArray.toList
  rw [logL_take hx]
  simp [L, lineL]

theorem decimal_mod (n : Nat) (w : World) (h : n < 18446744073709551616) : Calls Tryd.prog 19 #[.int .u64 n] w fun e w' => e = .returned (.string (dec n)) ∧ Mod w w' NoB :=
  (decimal_any n w h).mono fun _ _ k => ⟨k.1, by obtain ⟨m, hm⟩ := k.2; rw [hm]; exact (Mod.refl _ _).drewN _⟩

set_option maxRecDepth 100000 in
set_option maxHeartbeats 3000000 in
theorem rprint_any (w : World) (n : Int) (a : Option Addr) (cap : Nat) (F : List Ev) (hn0 : 0 ≤ n) (hE : Evs w a F) (hl : F.length ≤ 40000) (hb : ∀ x ∈ F, EvB x) :
    Calls Tryd.prog 13 #[.agg #[.int .u64 n, .slice a F.length cap]] w fun e w' => e = .returned (.tuple #[.string (prS n F), .int .i64 (chk n F).2]) ∧ Mod w w' NoB := by
  have hmx := mixed
  have HE := Lib.hid hE
  have HCk : Hid (∀ z, Evs z a F → Calls Tryd.prog 33 #[.agg #[.int .u64 n, .slice a F.length cap]] z fun e w' => e = .returned (.tuple #[.int .i64 (chk n F).1, .int .i64 (chk n F).2]) ∧ Mod z w' NoB) := fun z hz => rcheck_any z n a cap F hz (by omega) hb
  have HH0 := Lib.hid (HAt.start (n := n) (len := F.length) (cap := cap) hE)
  obtain ⟨h0, hh0⟩ : ∃ h0, h0 = w.heap.size := ⟨_, rfl⟩
  obtain ⟨W, hW⟩ : ∃ W, W = w.alloc (.cells #[.int .u64 n, .slice a F.length cap] 25) := ⟨_, rfl⟩
  rw [← hW, ← hh0] at HH0
  obtain ⟨R1, hR1⟩ : ∃ R1, (chk n F).1 = R1 := ⟨_, rfl⟩
  obtain ⟨R2, hR2⟩ : ∃ R2, (chk n F).2 = R2 := ⟨_, rfl⟩
  obtain ⟨PS, hPS⟩ : ∃ PS, prS n F = PS := ⟨_, rfl⟩
  rw [hPS, hR2]
  unfold prS at hPS
  rw [hR2] at hPS
  rw [hR1, hR2] at HCk
  clear hE hR1
  go_enter Tryd.func13, Tryd.ntmps13
  have c0 := HH0.out.c0
  have c1 := HH0.out.c1
  go_upto_region 1 with (fail)
  rw [← hW, ← hh0]
  clear hW hh0
  go_wp2_with fail
  refine (HCk.out _ HH0.out.evs).mono ?_
  rintro e w1 ⟨rfl, hm⟩
  have HH1 := Lib.hid (HH0.out.next hm)
  clear hm c0 c1 HH0 HCk
  by_cases hz : R2 = 0
  · subst hz
    rw [if_pos rfl] at hPS
    subst hPS
    obtain ⟨hnN, hok⟩ := chk_ok_bd hR2
    have hbd : ∀ x ∈ F, (0 ≤ x.t ∧ x.t ≤ 4611686018427387903) ∧ EvB x := fun x hx => ⟨allOk_tt hok x hx, hb x hx⟩
    have HBD := Lib.hid hbd
    clear hR2 hok hbd hb
    have c0 := HH1.out.c0
    have c1 := HH1.out.c1
    obtain ⟨un, hun⟩ : ∃ un : Nat, n = (un : Int) := ⟨n.toNat, nat_of hn0⟩
    subst hun
    have hds := dec_size un
    have hd20 := decL_len20 un (by omega)
    have s1 := sadd (P := Tryd.prog) ⟨#[108, 111, 103, 32]⟩ (dec un) (by show 4 + _ ≤ _; omega)
    have s2 := sadd (P := Tryd.prog) (⟨#[108, 111, 103, 32]⟩ ++ dec un) ⟨#[10]⟩ (by rw [ByteArray.size_append]; show 4 + (dec un).size + 1 ≤ _; omega)
    go_wp2_with fail
    refine (decimal_any un _ (by omega)).mono ?_
    rintro e w2 ⟨rfl, k2, rfl⟩
    have HH2 := Lib.hid (HH1.out.next ((Mod.refl _ _).drewN k2))
    obtain ⟨V2, hV2⟩ : ∃ V2, V2 = w1.drewN k2 := ⟨_, rfl⟩
    rw [← hV2] at HH2 ⊢
    clear hV2 c0 c1 HH1
    go_wp2_with fail
    rw [logS_head]
    clear s1 s2 hds hd20
    go_loopw [6, 7] (fun v6 v7 wr => ∃ k : Nat, k ≤ F.length ∧ v6 = .string ⟨(logL un (F.take k)).toArray⟩ ∧ v7 = .int .i64 k ∧ Hid (HAt w wr h0 un a F.length cap F)) (fun _ v7 _ => F.length - (intOf v7).toNat)
    case atStart => exact ⟨0, Nat.zero_le _, by rw [List.take_zero], rfl, HH2.out⟩
    case round =>
      obtain ⟨k, hk, rfl, rfl, HI⟩ := hrel
      have c0 := HI.out.c0
      have c1 := HI.out.c1
      by_cases hlt : k < F.length
      · obtain ⟨b', off, x, rfl, hbw, hx, hC⟩ := HI.out.evs.at hlt
        have hki : (k : Int) < F.length := by omega
        obtain ⟨q0, q1, q2, q3⟩ := hC
        have HX := Lib.hid (And.intro hx (HBD.out x (List.mem_of_getElem? hx)))
        clear hx hbw
        go_upto_region 9 with (fail)
        have h7 : Mod wr (wr.alloc (.cells #[.int .i64 x.t, .int .u32 x.e.u, .int .u32 x.e.v, .bool x.add] 61)) NoB := (Mod.refl _ _).alloc _
        have HH7 := Lib.hid (HI.out.next h7)
        have HX7 : Hid (EvAt (wr.alloc (.cells #[.int .i64 x.t, .int .u32 x.e.u, .int .u32 x.e.v, .bool x.add] 61)) wr.heap.size 0 x) := ⟨World.cell?_alloc_at _ _ _ _ rfl, World.cell?_alloc_at _ _ _ _ rfl, World.cell?_alloc_at _ _ _ _ rfl, World.cell?_alloc_at _ _ _ _ rfl⟩
        obtain ⟨gx, hgx'⟩ : ∃ gx, gx = wr.heap.size := ⟨_, rfl⟩
        obtain ⟨V, hV⟩ : ∃ V, V = wr.alloc (.cells #[.int .i64 x.t, .int .u32 x.e.u, .int .u32 x.e.v, .bool x.add] 61) := ⟨_, rfl⟩
        rw [← hV] at HH7
        rw [← hV, ← hgx'] at HX7
        rw [← hV, ← hgx']
        clear hV hgx' h7 q0 q1 q2 q3 c0 c1
        obtain ⟨k0, k1, k2, k3⟩ := HX7.out
        simp only [Nat.zero_add] at k1 k2 k3
        go_upto_if 36 with (fail)
        go_cut [9] (fun v9 wc => v9 = .string (sgB x.add) ∧ wc = V)
        case first =>
          cases hadd : x.add with
          | true =>
            rw [hadd] at k3
            go_wp2_with fail
            go_meet
            exact ⟨by rw [hadd]; rfl, rfl⟩
          | false =>
            rw [hadd] at k3
            go_wp2_with fail
            go_meet
            exact ⟨by rw [hadd]; rfl, rfl⟩
        case rest =>
          obtain ⟨rfl, hwc⟩ := hcut
          subst hwc
          obtain ⟨sg, hsg⟩ : ∃ sg, sgB x.add = sg := ⟨_, rfl⟩
          have hsL : L sg = sgnL x.add := by rw [← hsg]; exact sgB_L _
          have hsz : sg.size = 3 := by rw [← hsg]; exact sgB_size _
          rw [hsg]
          clear hsg
          have hxt := HX.out.2.1
          have hxu := HX.out.2.2.1
          have hxv := HX.out.2.2.2
          have wu := u64_of hxu
          have wv := u64_of hxv
          have wt : IntKind.u64.wrap x.t = x.t := by rw [IntKind.wrap_u64]; omega
          obtain ⟨dt, hdt⟩ : ∃ d, dec x.t.toNat = d := ⟨_, rfl⟩
          obtain ⟨du, hdu⟩ : ∃ d, dec x.e.u.toNat = d := ⟨_, rfl⟩
          obtain ⟨dv, hdv⟩ : ∃ d, dec x.e.v.toNat = d := ⟨_, rfl⟩
          have zt : dt.size ≤ 20 := by rw [← hdt, dec_size]; exact decL_len20 _ (by omega)
          have zu : du.size ≤ 20 := by rw [← hdu, dec_size]; exact decL_len20 _ (by omega)
          have zv : dv.size ≤ 20 := by rw [← hdv, dec_size]; exact decL_len20 _ (by omega)
          have HTi : Hid (∀ z, Calls Tryd.prog 19 #[.int .u64 x.t] z fun e w' => e = .returned (.string dt) ∧ Mod z w' NoB) := fun z => by
            have := decimal_mod x.t.toNat z (by omega)
            rw [← nat_of hxt.1] at this
            rw [← hdt]; exact this
          have HUi : Hid (∀ z, Calls Tryd.prog 19 #[.int .u64 x.e.u] z fun e w' => e = .returned (.string du) ∧ Mod z w' NoB) := fun z => by
            have := decimal_mod x.e.u.toNat z (by omega)
            rw [← nat_of hxu.1] at this
            rw [← hdu]; exact this
          have HVi : Hid (∀ z, Calls Tryd.prog 19 #[.int .u64 x.e.v] z fun e w' => e = .returned (.string dv) ∧ Mod z w' NoB) := fun z => by
            have := decimal_mod x.e.v.toNat z (by omega)
            rw [← nat_of hxv.1] at this
            rw [← hdv]; exact this
          have HLn : Hid (_ = _) := logS_line (n := (un : Int)) HX.out.1 sg hsL
          rw [hdt, hdu, hdv] at HLn
          obtain ⟨lg, hlg⟩ : ∃ lg : ByteArray, ⟨(logL un (F.take k)).toArray⟩ = lg := ⟨_, rfl⟩
          have hlz : lg.size ≤ 25 + 65 * 40000 := by
            rw [← hlg]
            show (logL un (F.take k)).toArray.size ≤ _
            have := logL_len (n := (un : Int)) (F := F.take k) ⟨hn0, hnN⟩ (fun y hy => HBD.out y (List.mem_of_mem_take hy))
            have h2 : (F.take k).length ≤ k := by simp; omega
            simp only [List.size_toArray]
            omega
          rw [hlg] at HLn ⊢
          have e1 := sadd (P := Tryd.prog) lg dt (by omega)
          have e2 := sadd (P := Tryd.prog) (lg ++ dt) sg (by rw [ByteArray.size_append]; omega)
          have e3 := sadd (P := Tryd.prog) (lg ++ dt ++ sg) du (by rw [ByteArray.size_append, ByteArray.size_append]; omega)
          have e4 := sadd (P := Tryd.prog) (lg ++ dt ++ sg ++ du) ⟨#[32]⟩ (by rw [ByteArray.size_append, ByteArray.size_append, ByteArray.size_append]; show lg.size + dt.size + sg.size + du.size + 1 ≤ _; omega)
          have e5 := sadd (P := Tryd.prog) (lg ++ dt ++ sg ++ du ++ ⟨#[32]⟩) dv (by rw [ByteArray.size_append, ByteArray.size_append, ByteArray.size_append, ByteArray.size_append]; show lg.size + dt.size + sg.size + du.size + 1 + dv.size ≤ _; omega)
          have e6 := sadd (P := Tryd.prog) (lg ++ dt ++ sg ++ du ++ ⟨#[32]⟩ ++ dv) ⟨#[10]⟩ (by rw [ByteArray.size_append, ByteArray.size_append, ByteArray.size_append, ByteArray.size_append, ByteArray.size_append]; show lg.size + dt.size + sg.size + du.size + 1 + dv.size + 1 ≤ _; omega)
          obtain ⟨xt, hxt'⟩ : ∃ y, x.t = y := ⟨_, rfl⟩
          obtain ⟨xu, hxu'⟩ : ∃ y, x.e.u = y := ⟨_, rfl⟩
          obtain ⟨xv, hxv'⟩ : ∃ y, x.e.v = y := ⟨_, rfl⟩
          rw [hxt'] at k0 HTi wt
          rw [hxu'] at k1 HUi wu
          rw [hxv'] at k2 HVi wv
          have hIm := HI.out.mod
          have HH7m := Lib.hid HH7.out
          clear hdt hdu hdv hsL hsz zt zu zv hxt hxu hxv hlg hlz hxt' hxu' hxv' k3 HX HX7
          go_upto_region 12 with (fail)
          go_region_held3 (fun z => z.cell? ⟨gx, 0, none⟩ = some (.int .i64 xt) ∧ z.cell? ⟨gx, 1, none⟩ = some (.int .u32 xu) ∧ z.cell? ⟨gx, 2, none⟩ = some (.int .u32 xv))
            (first | exact ⟨k0, k1, k2⟩ | exact ⟨keepc k0 H7.out, keepc k1 H7.out, keepc k2 H7.out⟩ | exact ⟨keepc k0 H6.out, keepc k1 H6.out, keepc k2 H6.out⟩ | exact ⟨keepc k0 H5.out, keepc k1 H5.out, keepc k2 H5.out⟩)
            (first
              | (go_at_call 19; have hq := H6; clear hq; refine (HVi.out _).mono ?_; rintro r w7 ⟨rfl, hm7⟩; have H7 := Lib.hid (H6.out.trans hm7 (fun _ _ c => c)); clear hm7)
              | (go_at_call 19; have hq := H5; clear hq; refine (HUi.out _).mono ?_; rintro r w6 ⟨rfl, hm6⟩; have H6 := Lib.hid (H5.out.trans hm6 (fun _ _ c => c)); clear hm6)
              | (go_at_call 19; refine (HTi.out _).mono ?_; rintro r w5 ⟨rfl, hm5⟩; have H5 := Lib.hid (Mod.trans (Mod.drew (Mod.refl wc NoB)) hm5 (fun _ _ c => c)); clear hm5))
          have HH8 := Lib.hid (HH7.out.next H7.out)
          rw [HLn.out]
          clear HLn e1 e2 e3 e4 e5 e6
          go_wp2_with fail
          go_roundw
          case rel => exact ⟨k + 1, by omega, rfl, by go_num, HH8.out⟩
          case measure => simp [intOf]; omega
      · have hkl : k = F.length := by omega
        subst hkl
        rw [List.take_length]
        go_wp2_with fail
        go_ret2
        exact ⟨rfl, HI.out.mod⟩
  · have hne : ((R2 : Int) == 0) = false := beq_eq_false_iff_ne.2 (by omega)
    rw [if_neg hz] at hPS
    subst hPS
    go_wp2_with fail
    go_ret2
    exact ⟨rfl, HH1.out.mod⟩
end Go.Proofs.YtggnkefhegnokaaDoor
end
