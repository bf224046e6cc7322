/- Merged: TbPa TbRp -/
import Derived.Test.YtppambkffgmkgaaGreatDoorMg25
import Derived.Test.YtppambkffgmkgaaGreatDoorMg23
import Derived.Test.YtppambkffgmkgaaGreatDoorMg21
section
/- The contract of table.Parse. -/
namespace Go.Proofs.YtppambkffgmkgaaGreatDoor
open Go.RowKit
set_option linter.unusedVariables false

/-- What stands at the loop. -/
structure TLt (w wr : World) (g2 g3 gs : Nat) (n : Int) (oa : Option Addr) (oc : Nat) (X : List Lf) (st : SS) (k : Nat) (R : List Lf × (Int × Int) × Int) : Prop where
  m : TMm w wr g2 g3 gs oa oc X
  sc : ScA wr gs st
  pt : ptF n k X st = R
  lt : st.l.length < k
  sz : X.length + st.l.length ≤ 40000
  ok : AllLf n none X
  bd : ∀ x ∈ X, EdB x.e

set_option maxRecDepth 100000 in
set_option maxHeartbeats 8000000 in
theorem tparse_any (w : World) (s : ByteArray) (hs : s.size ≤ 40000) :
    Calls Tryz.prog 12 #[.string s] w fun e w' => ∃ a' cap', e = .returned (.tuple #[.agg #[.int .u64 (parseTN (L s)), .slice a' (parseTE (L s)).length cap'], .agg #[.int .i64 (parseT (L s)).2.1.1, .int .i64 (parseT (L s)).2.1.2], .int .i64 (parseT (L s)).2.2]) ∧ Evs w' a' (parseTE (L s)) ∧ Mod w w' NoB := by
  have hmx := mixed
  obtain ⟨R, hR⟩ : ∃ R, parseT (L s) = R := ⟨_, rfl⟩
  obtain ⟨hd, hhd⟩ : ∃ hd, hdT (L s) = hd := ⟨_, rfl⟩
  have hPN : parseTN (L s) = if R.2.2 = 0 then hd.1 else 0 := by unfold parseTN; rw [hR, hhd]
  have hPE : parseTE (L s) = if R.2.2 = 0 then putAll before (evs R.1) else [] := by unfold parseTE; rw [hR]
  have hPR : ptF hd.1 ((L s).length + 1) [] hd.2 = R := by rw [← hR, ← hhd]; rfl
  have hlen : hd.2.l.length ≤ s.size := by rw [← hhd, ← L_len]; exact hdT_len _
  have hNb := hdT_bd (L s)
  rw [hhd] at hNb
  rw [L_len] at hPR
  rw [hPN, hPE, hR]
  have HPR := Lib.hid hPR
  have HP0 := Lib.hid (PS0.start (w := w))
  clear hPN hPE hR hPR
  obtain ⟨g2, hg2⟩ : ∃ g2, g2 = w.heap.size := ⟨_, rfl⟩
  obtain ⟨g3, hg3⟩ : ∃ g3, g3 = w.heap.size + 1 := ⟨_, rfl⟩
  obtain ⟨W, hW⟩ : ∃ W, W = ((w.alloc (.cells #[.int .u64 0, .slice none 0 0] 25)).alloc (.cells #[.int .i64 0, .int .i64 0] 38)) := ⟨_, rfl⟩
  rw [← hW, ← hg3, ← hg2] at HP0
  unfold hdT at hhd
  dsimp only at hhd
  go_enter Tryz.func12, Tryz.ntmps12
  go_upto_region 1 with (fail)
  rw [← hW, ← hg3, ← hg2]
  clear hW hg2 hg3
  go_wp2_with fail
  refine (snew_sca _ s (by omega)).mono ?_
  rintro e w1 ⟨rfl, hsc, hm⟩
  obtain ⟨gs, hgs⟩ : ∃ gs, gs = W.heap.size := ⟨_, rfl⟩
  rw [← hgs] at hsc ⊢
  have hgK : w.heap.size ≤ gs ∧ gs ≠ g2 ∧ gs ≠ g3 := by have := HP0.out.lt; have := HP0.out.mod.size; omega
  have HS := Lib.hid hsc
  have HP : Hid (TMm w w1 g2 g3 gs none 0 []) := ⟨HP0.out.keep hm (fun q c => c.elim), World.ownsRow_nil _ _ _ _, (fun q hq => by cases hq), hgK, hsc.lt⟩
  clear hsc hm HP0 hgs
  go_wp2_with fail
  refine (sword_sca _ gs _ ⟨#[116, 97, 98, 108, 101]⟩ HS.out (by unfold maxLen; decide)).mono ?_
  rintro e w2 ⟨rfl, hsc, hm⟩
  rw [show L ⟨#[116, 97, 98, 108, 101]⟩ = [116, 97, 98, 108, 101] from rfl] at hsc ⊢
  obtain ⟨s1, hs1⟩ : ∃ x, (wordS [116, 97, 98, 108, 101] ⟨L s, (1, 1), 0⟩).2 = x := ⟨_, rfl⟩
  rw [hs1] at hhd hsc
  replace HS := Lib.hid hsc
  replace HP := Lib.hid (HP.out.keep hm (fun q c => c))
  clear hsc hm hs1
  go_wp2_with fail
  refine (sbyte_sca _ gs s1 32 32 rfl HS.out).mono ?_
  rintro e w3 ⟨rfl, hsc, hm⟩
  obtain ⟨s2, hs2⟩ : ∃ x, (wordS [32] s1).2 = x := ⟨_, rfl⟩
  rw [hs2] at hhd hsc
  replace HS := Lib.hid hsc
  replace HP := Lib.hid (HP.out.keep hm (fun q c => c))
  clear hsc hm hs2
  go_wp2_with fail
  refine (snum_sca _ gs s2 4294967296 HS.out (by decide)).mono ?_
  rintro e w4 ⟨rfl, hsc, hm⟩
  obtain ⟨n, hn⟩ : ∃ x, (numS 4294967296 s2).1 = x := ⟨_, rfl⟩
  obtain ⟨s3, hs3⟩ : ∃ x, (numS 4294967296 s2).2 = x := ⟨_, rfl⟩
  rw [hn] at hhd ⊢
  rw [hs3] at hhd hsc
  replace HS := Lib.hid hsc
  replace HP := Lib.hid (HP.out.keep hm (fun q c => c))
  clear hsc hm hs3 hn
  go_wp2_with fail
  refine (sbyte_sca _ gs s3 10 10 rfl HS.out).mono ?_
  rintro e w5 ⟨rfl, hsc, hm⟩
  obtain ⟨st0, hst0⟩ : ∃ x, (wordS [10] s3).2 = x := ⟨_, rfl⟩
  rw [hst0] at hhd hsc
  subst hhd
  replace HS := Lib.hid hsc
  replace HP := Lib.hid (HP.out.keep hm (fun q c => c))
  clear hsc hm hst0
  go_wp2_with fail
  refine (snext_sca _ gs st0 HS.out).mono ?_
  rintro e w6 ⟨rfl, rfl⟩
  unfold nextW
  have hNb2 : 0 ≤ n ∧ n ≤ 4294967296 := hNb
  have HL : Hid (TLt w w5 g2 g3 gs n none 0 [] st0 (s.size + 1) R) := ⟨HP.out, HS.out, HPR.out, by show st0.l.length < s.size + 1; have : st0.l.length ≤ s.size := hlen; omega, by show 0 + st0.l.length ≤ 40000; have : st0.l.length ≤ s.size := hlen; omega, trivial, by simp⟩
  clear HS HP HPR hlen hNb
  go_wp2_with fail
  go_loopw [7, 8, 10] (fun v7 v8 v10 wr => ∃ (oa : Option Addr) (oc : Nat) (X : List Lf) (st : SS) (k : Nat), v7 = .slice oa X.length oc ∧ v8 = .int .i64 (evCount X : Nat) ∧ v10 = .bool (nextS st).isSome ∧ Hid (TLt w wr g2 g3 gs n oa oc X st k R)) (fun _ _ _ wr => lenAt wr gs)
  case atStart => exact ⟨none, 0, [], st0, _, rfl, rfl, rfl, HL.out⟩
  case round =>
    obtain ⟨oa, oc, X, st, k, rfl, rfl, rfl, HI⟩ := hrel
    cases hns : (nextS st).isSome with
    | false =>
      have hRe := ptF_end HI.out.pt (by have := HI.out.lt; omega) hns
      by_cases he : st.er = 0
      · rw [if_pos he] at hRe
        subst hRe
        have hsz := HI.out.sz
        have HBk : Hid (∀ z, Lvs z oa X → Calls Tryz.prog 39 #[.int .u64 n, .slice oa X.length oc] z fun e w' => ∃ a' cap', e = .returned (.tuple #[.agg #[.int .u64 n, .slice a' (putAll before (evs X)).length cap'], .int .i64 0]) ∧ Evs w' a' (putAll before (evs X)) ∧ Mod z w' NoB ∧ (∀ p, a' = some p → z.heap.size ≤ p.block)) := fun z hz => by
          have h := back_yg z n oa oc X hz (by omega) HI.out.bd
          have h0 := lchk_all HI.out.ok hNb2.2 (by omega)
          have h1 : backN n X = n := if_pos (by rw [h0])
          have h2 : backE n X = putAll before (evs X) := if_pos (by rw [h0])
          rw [h0, h1, h2] at h
          exact h
        go_wp2_with fail
        refine (serr_sca _ gs st HI.out.sc).mono ?_
        rintro e w7 ⟨rfl, rfl⟩
        rw [he]
        go_wp2_with fail
        refine (HBk.out _ HI.out.m.lvs).mono ?_
        rintro e w8 ⟨a8, c8, rfl, hE, hm, hy⟩
        have HP8 := Lib.hid (HI.out.m.quiet hm)
        have HE8 : Hid (Evs w8 a8 (putAll before (evs X)) ∧ ∀ p, a8 = some p → p.block ≠ g2 ∧ p.block ≠ g3) := ⟨hE, fun p hp => by have := hy p hp; have := HI.out.m.ps.lt; omega⟩
        clear hE hm hy HBk
        go_upto_region 27 with (fail)
        have h0 : Mod w8 (w8.alloc (.cells #[.int .u64 n, .slice a8 (putAll before (evs X)).length c8] 25)) NoB := (Mod.refl _ _).alloc _
        have HP9 := Lib.hid (HP8.out.quiet h0)
        have HE9 := Lib.hid (And.intro (HE8.out.1.mod h0) HE8.out.2)
        have b0 : (w8.alloc (.cells #[.int .u64 n, .slice a8 (putAll before (evs X)).length c8] 25)).cell? ⟨w8.heap.size, 0, none⟩ = some (.int .u64 n) := World.cell?_alloc_at _ _ _ _ rfl
        have b1 : (w8.alloc (.cells #[.int .u64 n, .slice a8 (putAll before (evs X)).length c8] 25)).cell? ⟨w8.heap.size, 1, none⟩ = some (.slice a8 (putAll before (evs X)).length c8) := World.cell?_alloc_at _ _ _ _ rfl
        have hl8 := HP8.out.ps.lt
        obtain ⟨gb, hgb⟩ : ∃ gb, gb = w8.heap.size := ⟨_, rfl⟩
        obtain ⟨V, hV⟩ : ∃ V, V = w8.alloc (.cells #[.int .u64 n, .slice a8 (putAll before (evs X)).length c8] 25) := ⟨_, rfl⟩
        rw [← hV] at HP9 HE9
        rw [← hV, ← hgb] at b0 b1
        rw [← hV, ← hgb]
        have hb2 : ¬ g2 = gb := by omega
        have hb3 : ¬ g3 = gb := by omega
        clear hV hgb h0 hl8 HP8 HE8
        have z0 := HP9.out.ps.z0
        have z1 := HP9.out.ps.z1
        have p0 := HP9.out.ps.p0
        have p1 := HP9.out.ps.p1
        have f20 := HP9.out.ps.f2 0
        have f21 := HP9.out.ps.f2 1
        have f30 := HP9.out.ps.f3 0
        have f31 := HP9.out.ps.f3 1
        have d23 : ¬ g2 = g3 := HP9.out.ps.d
        have d32 : ¬ g3 = g2 := fun c => d23 c.symm
        have HF := Lib.hid (HP9.out.ps.fin n (.slice a8 (putAll before (evs X)).length c8) 0 0)
        have HEF := Lib.hid (evs_away HE9.out.1 HF.out.2.2 HE9.out.2)
        go_wp2_with fail
        obtain ⟨r0, r1, r2, r3⟩ := HF.out.1
        exact bodyPost_ret (v := .tuple #[.agg #[.int .u64 n, .slice a8 (putAll before (evs X)).length c8], .agg #[.int .i64 0, .int .i64 0], .int .i64 0]) (by simp [results, Tryz.results12, go_sem, r0, r1, r2, r3]) rfl ⟨a8, ⟨c8, rfl⟩, HEF.out, HF.out.2.1⟩
      · rw [if_neg he] at hRe
        subst hRe
        go_wp2_with fail
        refine (serr_sca _ gs st HI.out.sc).mono ?_
        rintro e w7 ⟨rfl, rfl⟩
        have hne : (st.er == 0) = false := beq_eq_false_iff_ne.2 he
        go_wp2_with fail
        refine (splace_sca _ gs st HI.out.sc).mono ?_
        rintro e w8 ⟨rfl, hm⟩
        have HP8 := Lib.hid (HI.out.m.quiet hm)
        clear hm
        have z0 := HP8.out.ps.z0
        have z1 := HP8.out.ps.z1
        have p0 := HP8.out.ps.p0
        have p1 := HP8.out.ps.p1
        have f20 := HP8.out.ps.f2 0
        have f21 := HP8.out.ps.f2 1
        have f30 := HP8.out.ps.f3 0
        have f31 := HP8.out.ps.f3 1
        have d23 : ¬ g2 = g3 := HP8.out.ps.d
        have d32 : ¬ g3 = g2 := fun c => d23 c.symm
        have HF := Lib.hid (HP8.out.ps.fin 0 (.slice none 0 0) st.p.1 st.p.2)
        go_wp2_with fail
        obtain ⟨r0, r1, r2, r3⟩ := HF.out.1
        exact bodyPost_ret (v := .tuple #[.agg #[.int .u64 0, .slice none 0 0], .agg #[.int .i64 st.p.1, .int .i64 st.p.2], .int .i64 st.er]) (by simp [results, Tryz.results12, go_sem, r0, r1, r2, r3]) rfl ⟨none, ⟨0, rfl⟩, Or.inl rfl, HF.out.2.1⟩
    | true =>
      obtain ⟨k', rfl⟩ : ∃ k', k = k' + 1 := ⟨k - 1, by have := HI.out.lt; omega⟩
      obtain ⟨M1, M2, M3⟩ := ptF_more HI.out.pt hns
      have HM1 := Lib.hid M1
      have HM2 := Lib.hid M2
      have HM3 := Lib.hid M3
      have hsz := HI.out.sz
      have hlt := HI.out.lt
      have hess := lfS_less (st := st)
      have hxbd := lfS_bd st
      obtain ⟨x, hx⟩ : ∃ x, (lfS st).1 = x := ⟨_, rfl⟩
      obtain ⟨s4, hs4⟩ : ∃ y, (lfS st).2 = y := ⟨_, rfl⟩
      rw [hs4] at HM1
      rw [hx, hs4] at HM2 HM3
      rw [hs4] at hess
      rw [hx] at hxbd
      have HX := Lib.hid (And.intro hess hxbd)
      have hec := evCount_le X
      clear M1 M2 M3 hess hxbd
      go_wp2_with fail
      refine (splace_sca _ gs st HI.out.sc).mono ?_
      rintro e w7 ⟨rfl, hm⟩
      have HP7 := Lib.hid (HI.out.m.quiet hm)
      have HS7 := Lib.hid (HI.out.sc.mod hm (by simp [NoB]))
      clear hm
      go_upto_region 12 with (fail)
      have h0 : Mod w7 (w7.alloc (.cells #[.int .i64 st.p.1, .int .i64 st.p.2] 38)) NoB := (Mod.refl _ _).alloc _
      have HP8 := Lib.hid (HP7.out.quiet h0)
      have HS8 := Lib.hid (HS7.out.mod h0 (by simp [NoB]))
      have HA8 : Hid ((w7.alloc (.cells #[.int .i64 st.p.1, .int .i64 st.p.2] 38)).cell? ⟨w7.heap.size, 0, none⟩ = some (.int .i64 st.p.1) ∧ (w7.alloc (.cells #[.int .i64 st.p.1, .int .i64 st.p.2] 38)).cell? ⟨w7.heap.size, 1, none⟩ = some (.int .i64 st.p.2)) := ⟨World.cell?_alloc_at _ _ _ _ rfl, World.cell?_alloc_at _ _ _ _ rfl⟩
      obtain ⟨ga, hga⟩ : ∃ ga, ga = w7.heap.size := ⟨_, rfl⟩
      obtain ⟨X8, hX8⟩ : ∃ X8, X8 = w7.alloc (.cells #[.int .i64 st.p.1, .int .i64 st.p.2] 38) := ⟨_, rfl⟩
      have hsep : ∀ q, (Value.slice oa X.length oc).ownBlock = some q → q ≠ ga := fun q hq => by have := (HP7.out.row.lt q hq).2; omega
      have HSep := Lib.hid hsep
      rw [← hX8] at HP8 HS8
      rw [← hX8, ← hga] at HA8
      rw [← hX8, ← hga]
      have hgas : ga ≠ gs := by have := HS7.out.lt; omega
      have hga2 : ¬ ga = g2 := by have := HP7.out.ps.lt; omega
      have hga3 : ¬ ga = g3 := by have := HP7.out.ps.lt; omega
      have hg2a : ¬ g2 = ga := fun c => hga2 c.symm
      have hg3a : ¬ g3 = ga := fun c => hga3 c.symm
      clear h0 hX8 hga HP7 HS7 hsep
      go_wp2_with fail
      refine (row_any _ gs st HS8.out).mono ?_
      rintro e w9 ⟨rfl, hsc, hm⟩
      rw [hx]
      rw [hs4] at hsc
      have HP9 := Lib.hid (HP8.out.keep hm (fun q c => c))
      have HA9 := Lib.hid (And.intro (keepS HA8.out.1 hm (fun c => hgas c)) (keepS HA8.out.2 hm (fun c => hgas c)))
      have HS9 := Lib.hid hsc
      clear hsc hm HP8 HS8 HA8 hx hs4
      go_upto_region 13 with (fail)
      have h0 : Mod w9 (w9.alloc (.cells #[.int .u32 x.e.u, .int .u32 x.e.v, .int .i64 x.fr, .int .i64 x.to] 81)) NoB := (Mod.refl _ _).alloc _
      have HP10 := Lib.hid (HP9.out.quiet h0)
      have HS10 := Lib.hid (HS9.out.mod h0 (by simp [NoB]))
      have HA10 := Lib.hid (And.intro (keepc HA9.out.1 h0) (keepc HA9.out.2 h0))
      have HX10 : Hid (LfAt (w9.alloc (.cells #[.int .u32 x.e.u, .int .u32 x.e.v, .int .i64 x.fr, .int .i64 x.to] 81)) w9.heap.size 0 x) := ⟨World.cell?_alloc_at _ _ _ _ rfl, World.cell?_alloc_at _ _ _ _ rfl, World.cell?_alloc_at _ _ _ _ rfl, World.cell?_alloc_at _ _ _ _ rfl⟩
      obtain ⟨gx, hgx⟩ : ∃ gx, gx = w9.heap.size := ⟨_, rfl⟩
      obtain ⟨X10, hX10⟩ : ∃ X10, X10 = w9.alloc (.cells #[.int .u32 x.e.u, .int .u32 x.e.v, .int .i64 x.fr, .int .i64 x.to] 81) := ⟨_, rfl⟩
      rw [← hX10] at HP10 HS10 HA10
      rw [← hX10, ← hgx] at HX10
      rw [← hX10, ← hgx]
      clear h0 hX10 hgx HP9 HS9 HA9
      go_wp2_with fail
      refine (serr_sca _ gs s4 HS10.out).mono ?_
      rintro e w11 ⟨rfl, rfl⟩
      by_cases he : s4.er = 0
      · rw [he]
        have HM2b := Lib.hid (HM2.out he)
        have HM3b := Lib.hid (HM3.out he)
        clear HM1 HM2 HM3
        obtain ⟨k0, k1, k2, k3⟩ := HX10.out
        simp only [Nat.zero_add] at k1 k2 k3
        have hec2 := evCount_snoc X x
        have hw1 : IntKind.i64.wrap ((evCount X : Int) + 1) = (evCount X : Int) + 1 := IntWalk.i64_in _ (by omega)
        have hw2 : IntKind.i64.wrap ((evCount X : Int) + 1 + 1) = (evCount X : Int) + 1 + 1 := IntWalk.i64_in _ (by omega)
        obtain ⟨i0, hi0, hz0, hz1, hz2⟩ := info_parts info_life
        have HB : Hid (X.length + 1 ≤ maxLen ∧ (X.length + 1) * 24 ≤ 140737488355328) := by
          unfold maxLen; exact ⟨by omega, by omega⟩
        have hone1 : ∀ u ∈ encL x, u.oneCell' = true := by simp [encL, Value.oneCell']
        obtain ⟨ec, hec'⟩ : ∃ ec, ec = evCount X := ⟨_, rfl⟩
        obtain ⟨ed, hed⟩ : ∃ ed, ed = evCount (X ++ [x]) := ⟨_, rfl⟩
        rw [← hec'] at hec hec2 hw1 hw2
        rw [← hed] at hec2
        have HED := Lib.hid hed
        rw [← hec']
        clear hec' hed
        by_cases hto : 0 ≤ x.to
        focus
          rw [if_pos hto] at hec2
          have hed2 : (ec : Int) + 2 = (ed : Int) := by omega
          have hed3 : (ec : Int) + 1 + 1 = (ed : Int) := by omega
          have htd : decide (0 ≤ x.to) = true := decide_eq_true hto
          replace hw2 : IntKind.i64.wrap ((ec : Int) + 1 + 1) = (ed : Int) := by rw [hw2]; exact hed3
          have HE3 := Lib.hid (And.intro hed2 hed3)
          clear hed2 hed3
          go_upto_region 17 with (fail)
          first | rw [HE3.out.2] | rw [HE3.out.1]
          clear htd hto HE3
        rotate_left
        focus
          rw [if_neg hto] at hec2
          have hed3 : (ec : Int) + 1 = (ed : Int) := by omega
          have htd : decide (0 ≤ x.to) = false := decide_eq_false hto
          replace hw1 : IntKind.i64.wrap ((ec : Int) + 1) = (ed : Int) := by rw [hw1]; exact hed3
          have HE3 := Lib.hid hed3
          clear hed3
          go_upto_region 17 with (fail)
          rw [HE3.out]
          clear htd hto HE3
        all_goals
          have hed4 : ed ≤ 90000 := by omega
          clear hw1 hw2 hec2
          go_upto_region 18 with (at_builtin; refine wpList_append_row _ rfl _ _ 50 rfl 81 i0 (.agg #[.int .u32 0, .int .u32 0, .int .i64 0, .int .i64 0]) 4 24 Tryz.underlying50 hi0 hz0 hz1 hz2 rfl (by decide) (.slice oa X.length oc) X.length _ rfl (HP10.out.row.alloc _) _ 1 _ (encL x) rfl rfl (fun j u hu => ⟨_, rfl, World.news_of_block (MapKept.heap_alloc _ _).1 j u hu⟩) hone1 HB.out.1 HB.out.2 ?_; intro v8 w14 hown8 hgrow8 hat8; obtain ⟨a8, c8, rfl⟩ := row_form hown8; have HAp := Lib.hid (HP10.out.app hown8 hgrow8 hat8); clear hown8 hgrow8 hat8)
          have hlen : (X ++ [x]).length = X.length + 1 := by simp
          obtain ⟨g, c8', hv, -, -, hc8, -⟩ := row_open HAp.out.1.row (by omega)
          have ha8 : a8 = some ⟨g, 0, none⟩ := by injection hv
          have hcc : c8 = c8' := by injection hv
          subst ha8 hcc
          clear hv
          have HS14 := Lib.hid (HS10.out.mod HAp.out.2 (fun c => (HP10.out.sep gs c).2.2.2 rfl))
          have HA14 := Lib.hid (And.intro (keepS HA10.out.1 HAp.out.2 (fun c => HSep.out ga c rfl)) (keepS HA10.out.2 HAp.out.2 (fun c => HSep.out ga c rfl)))
          obtain ⟨d, hd⟩ : ∃ d, d = X.length - 1 := ⟨_, rfl⟩
          obtain ⟨R5, hR5⟩ : ∃ R5, lfErr n X.getLast? x = R5 := ⟨_, rfl⟩
          have h2 := lchk_two (x := x) HI.out.ok hNb2.2 (by omega)
          rw [← hd, hR5] at h2
          have hdl : ((X ++ [x]).drop d).length = X.length + 1 - d := by simp
          have HCk : Hid (∀ z, Lvs z (some ⟨g, d * 4, none⟩) ((X ++ [x]).drop d) → ∃ R4, Calls Tryz.prog 38 #[.int .u64 n, .slice (some ⟨g, d * 4, none⟩) (X.length + 1 - d) (c8 - d)] z fun e w' => e = .returned (.tuple #[.int .i64 (R4 : Nat), .int .i64 (R5 : Nat)]) ∧ Mod z w' NoB) := fun z hz => by
            have h := lcheck_any z n _ (c8 - d) ((X ++ [x]).drop d) hz (by rw [hdl]; omega) (fun y hy => by
              have hy2 := List.mem_of_mem_drop hy
              rcases List.mem_append.1 hy2 with c | c
              · exact HI.out.bd y c
              · rw [List.mem_singleton.1 c]; exact HX.out.2.1)
            rw [h2, hdl] at h
            exact ⟨_, h⟩
          rw [hR5] at HM2b HM3b
          have hR5' := Lib.hid hR5
          have hmx0 : max ((X.length : Int) + 1 - 2) 0 = (d : Int) := by omega
          have hmx1 : max ((X.length : Int) - 1) 0 = (d : Int) := by omega
          have hw3 : IntKind.i64.wrap ((X.length : Int) + 1 - 2) = (X.length : Int) + 1 - 2 := IntWalk.i64_in _ (by omega)
          have hd0 : (0 : Int) ≤ (d : Int) := by omega
          have hd1 : (d : Int) ≤ (X.length : Int) + 1 := by omega
          have hd2 : (d : Int) ≤ (c8 : Int) := by omega
          have hd3 : (X.length : Int) + 1 ≤ (c8 : Int) := by omega
          have hd4 : ¬ c8 = d := by omega
          have hd5 : ¬ c8 - d = 0 := by omega
          obtain ⟨R4, HC4⟩ := HCk.out w14 (by
            have := HAp.out.1.lvs.drop d
            exact this)
          have HC := Lib.hid HC4
          clear HC4 hR5 h2 hdl HCk k0 k1 k2 k3 HX10 hd
          have HSz := Lib.hid (And.intro hsz (And.intro hlt hec))
          clear hsz hlt hec HB hs
          have hgt2 : ¬ (2147483648 : Int) < (ed : Int) := by omega
          clear hed4
          go_wp2_with fail
          refine HC.out.mono ?_
          rintro e w15 ⟨rfl, hm⟩
          have HP15 := Lib.hid (HAp.out.1.quiet hm)
          have HS15 := Lib.hid (HS14.out.mod hm (by simp [NoB]))
          have HA15 := Lib.hid (And.intro (keepc HA14.out.1 hm) (keepc HA14.out.2 hm))
          clear hm HC hmx0 hmx1 hw3 hd0 hd1 hd2 hd3 hd4 hd5 HS14 HA14 HAp HP10 HS10 HA10
          by_cases hv : R5 = 0
          · have HPl := Lib.hid (HM3b.out hv)
            have HOk := Lib.hid (allLf_snoc HI.out.ok (hR5'.out.trans hv))
            subst hv
            clear HM2b HM3b
            go_wp2_with fail
            refine (snext_sca _ gs s4 HS15.out).mono ?_
            rintro e w16 ⟨rfl, rfl⟩
            unfold nextW
            go_wp2_with fail
            go_roundw
            case rel => exact ⟨some ⟨g, 0, none⟩, c8, X ++ [x], s4, k', by rw [hlen], by rw [HED.out], rfl, HP15.out, HS15.out, HPl.out, by have := HX.out.1 he; have := HSz.out.2.1; omega, by have := HX.out.1 he; have := HSz.out.1; rw [hlen]; omega, HOk.out, fun y hy => by
              rcases List.mem_append.1 hy with c | c
              · exact HI.out.bd y c
              · rw [List.mem_singleton.1 c]; exact HX.out.2.1⟩
            case measure => rw [HS15.out.len, HI.out.sc.len]; exact HX.out.1 he
          · have hRe := HM2b.out hv
            subst hRe
            have hne : ((R5 : Int) == 0) = false := beq_eq_false_iff_ne.2 (by omega)
            have a0 := HA15.out.1
            have a1 := HA15.out.2
            have z0 := HP15.out.ps.z0
            have z1 := HP15.out.ps.z1
            have p0 := HP15.out.ps.p0
            have p1 := HP15.out.ps.p1
            have f20 := HP15.out.ps.f2 0
            have f21 := HP15.out.ps.f2 1
            have f30 := HP15.out.ps.f3 0
            have f31 := HP15.out.ps.f3 1
            have d23 : ¬ g2 = g3 := HP15.out.ps.d
            have d32 : ¬ g3 = g2 := fun c => d23 c.symm
            have hvi : ¬ ((R5 : Nat) : Int) = 0 := by omega
            have HF := Lib.hid (HP15.out.ps.fin 0 (.slice none 0 0) st.p.1 st.p.2)
            go_upto_region 22 with (fail)
            go_region
            all_goals
              go_wp2_with fail
              obtain ⟨r0, r1, r2, r3⟩ := HF.out.1
              exact bodyPost_ret (v := .tuple #[.agg #[.int .u64 0, .slice none 0 0], .agg #[.int .i64 st.p.1, .int .i64 st.p.2], .int .i64 R5]) (by simp [results, Tryz.results12, go_sem, r0, r1, r2, r3]) rfl ⟨none, ⟨0, rfl⟩, Or.inl rfl, HF.out.2.1.drew⟩
      · have hRe := HM1.out he
        subst hRe
        have hne : (s4.er == 0) = false := beq_eq_false_iff_ne.2 he
        go_wp2_with fail
        refine (serr_sca _ gs s4 HS10.out).mono ?_
        rintro e w12 ⟨rfl, rfl⟩
        go_wp2_with fail
        refine (splace_sca _ gs s4 HS10.out).mono ?_
        rintro e w13 ⟨rfl, hm⟩
        have HP13 := Lib.hid (HP10.out.quiet hm)
        clear hm
        have z0 := HP13.out.ps.z0
        have z1 := HP13.out.ps.z1
        have p0 := HP13.out.ps.p0
        have p1 := HP13.out.ps.p1
        have f20 := HP13.out.ps.f2 0
        have f21 := HP13.out.ps.f2 1
        have f30 := HP13.out.ps.f3 0
        have f31 := HP13.out.ps.f3 1
        have d23 : ¬ g2 = g3 := HP13.out.ps.d
        have d32 : ¬ g3 = g2 := fun c => d23 c.symm
        have HF := Lib.hid (HP13.out.ps.fin 0 (.slice none 0 0) s4.p.1 s4.p.2)
        go_wp2_with fail
        obtain ⟨r0, r1, r2, r3⟩ := HF.out.1
        exact bodyPost_ret (v := .tuple #[.agg #[.int .u64 0, .slice none 0 0], .agg #[.int .i64 s4.p.1, .int .i64 s4.p.2], .int .i64 s4.er]) (by simp [results, Tryz.results12, go_sem, r0, r1, r2, r3]) rfl ⟨none, ⟨0, rfl⟩, Or.inl rfl, HF.out.2.1⟩
end Go.Proofs.YtppambkffgmkgaaGreatDoor
end

section
/- The contract of the reference's ParseTable. -/
namespace Go.Proofs.YtppambkffgmkgaaGreatDoor
open Go.RowKit
set_option linter.unusedVariables false

/-- What stands at the loop. -/
structure TLr (w wr : World) (g2 g3 gs : Nat) (n : Int) (oa : Option Addr) (oc : Nat) (X : List Lf) (st : SS) (k : Nat) (R : List Lf × (Int × Int) × Int) : Prop where
  m : TMm w wr g2 g3 gs oa oc X
  sc : RsA wr gs st
  pt : ptF n k X st = R
  lt : st.l.length < k
  sz : X.length + st.l.length ≤ 40000
  ok : AllLf n none X
  bd : ∀ x ∈ X, EdB x.e

set_option maxRecDepth 100000 in
set_option maxHeartbeats 8000000 in
theorem trparse_any (w : World) (s : ByteArray) (hs : s.size ≤ 40000) :
    Calls Tryz.prog 16 #[.string s] w fun e w' => ∃ a' cap', e = .returned (.tuple #[.agg #[.int .u64 (parseTN (L s)), .slice a' (parseTE (L s)).length cap'], .agg #[.int .i64 (parseT (L s)).2.1.1, .int .i64 (parseT (L s)).2.1.2], .int .i64 (parseT (L s)).2.2]) ∧ Evs w' a' (parseTE (L s)) ∧ Mod w w' NoB := by
  have hmx := mixed
  obtain ⟨R, hR⟩ : ∃ R, parseT (L s) = R := ⟨_, rfl⟩
  obtain ⟨hd, hhd⟩ : ∃ hd, hdT (L s) = hd := ⟨_, rfl⟩
  have hPN : parseTN (L s) = if R.2.2 = 0 then hd.1 else 0 := by unfold parseTN; rw [hR, hhd]
  have hPE : parseTE (L s) = if R.2.2 = 0 then putAll before (evs R.1) else [] := by unfold parseTE; rw [hR]
  have hPR : ptF hd.1 ((L s).length + 1) [] hd.2 = R := by rw [← hR, ← hhd]; rfl
  have hlen : hd.2.l.length ≤ s.size := by rw [← hhd, ← L_len]; exact hdT_len _
  have hNb := hdT_bd (L s)
  rw [hhd] at hNb
  rw [L_len] at hPR
  rw [hPN, hPE, hR]
  have HPR := Lib.hid hPR
  have HP0 := Lib.hid (PS0.start (w := w))
  clear hPN hPE hR hPR
  obtain ⟨g2, hg2⟩ : ∃ g2, g2 = w.heap.size := ⟨_, rfl⟩
  obtain ⟨g3, hg3⟩ : ∃ g3, g3 = w.heap.size + 1 := ⟨_, rfl⟩
  obtain ⟨W, hW⟩ : ∃ W, W = ((w.alloc (.cells #[.int .u64 0, .slice none 0 0] 25)).alloc (.cells #[.int .i64 0, .int .i64 0] 38)) := ⟨_, rfl⟩
  rw [← hW, ← hg3, ← hg2] at HP0
  unfold hdT at hhd
  dsimp only at hhd
  go_enter Tryz.func16, Tryz.ntmps16
  go_upto_region 1 with (fail)
  rw [← hW, ← hg3, ← hg2]
  clear hW hg2 hg3
  go_wp2_with fail
  refine (rnew_rsa _ s (by omega)).mono ?_
  rintro e w1 ⟨rfl, hsc, hm⟩
  obtain ⟨gs, hgs⟩ : ∃ gs, gs = W.heap.size := ⟨_, rfl⟩
  rw [← hgs] at hsc ⊢
  have hgK : w.heap.size ≤ gs ∧ gs ≠ g2 ∧ gs ≠ g3 := by have := HP0.out.lt; have := HP0.out.mod.size; omega
  have HS := Lib.hid hsc
  have HP : Hid (TMm w w1 g2 g3 gs none 0 []) := ⟨HP0.out.keep hm (fun q c => c.elim), World.ownsRow_nil _ _ _ _, (fun q hq => by cases hq), hgK, hsc.lt⟩
  clear hsc hm HP0 hgs
  go_wp2_with fail
  refine (rword_rsa _ gs _ ⟨#[116, 97, 98, 108, 101]⟩ HS.out (by unfold maxLen; decide)).mono ?_
  rintro e w2 ⟨rfl, hsc, hm⟩
  rw [show L ⟨#[116, 97, 98, 108, 101]⟩ = [116, 97, 98, 108, 101] from rfl] at hsc ⊢
  obtain ⟨s1, hs1⟩ : ∃ x, (wordS [116, 97, 98, 108, 101] ⟨L s, (1, 1), 0⟩).2 = x := ⟨_, rfl⟩
  rw [hs1] at hhd hsc
  replace HS := Lib.hid hsc
  replace HP := Lib.hid (HP.out.keep hm (fun q c => c))
  clear hsc hm hs1
  go_wp2_with fail
  refine (rbyte_rsa _ gs s1 32 32 rfl HS.out).mono ?_
  rintro e w3 ⟨rfl, hsc, hm⟩
  obtain ⟨s2, hs2⟩ : ∃ x, (wordS [32] s1).2 = x := ⟨_, rfl⟩
  rw [hs2] at hhd hsc
  replace HS := Lib.hid hsc
  replace HP := Lib.hid (HP.out.keep hm (fun q c => c))
  clear hsc hm hs2
  go_wp2_with fail
  refine (rnum_rsa _ gs s2 4294967296 HS.out (by decide)).mono ?_
  rintro e w4 ⟨rfl, hsc, hm⟩
  obtain ⟨n, hn⟩ : ∃ x, (numS 4294967296 s2).1 = x := ⟨_, rfl⟩
  obtain ⟨s3, hs3⟩ : ∃ x, (numS 4294967296 s2).2 = x := ⟨_, rfl⟩
  rw [hn] at hhd ⊢
  rw [hs3] at hhd hsc
  replace HS := Lib.hid hsc
  replace HP := Lib.hid (HP.out.keep hm (fun q c => c))
  clear hsc hm hs3 hn
  go_wp2_with fail
  refine (rbyte_rsa _ gs s3 10 10 rfl HS.out).mono ?_
  rintro e w5 ⟨rfl, hsc, hm⟩
  obtain ⟨st0, hst0⟩ : ∃ x, (wordS [10] s3).2 = x := ⟨_, rfl⟩
  rw [hst0] at hhd hsc
  subst hhd
  replace HS := Lib.hid hsc
  replace HP := Lib.hid (HP.out.keep hm (fun q c => c))
  clear hsc hm hst0
  have hNb2 : 0 ≤ n ∧ n ≤ 4294967296 := hNb
  have HL : Hid (TLr w w5 g2 g3 gs n none 0 [] st0 (s.size + 1) R) := ⟨HP.out, HS.out, HPR.out, by show st0.l.length < s.size + 1; have : st0.l.length ≤ s.size := hlen; omega, by show 0 + st0.l.length ≤ 40000; have : st0.l.length ≤ s.size := hlen; omega, trivial, by simp⟩
  clear HS HP HPR hlen hNb
  go_wp2_with fail
  go_loopw [7] (fun v7 wr => ∃ (oa : Option Addr) (oc : Nat) (X : List Lf) (st : SS) (k : Nat), v7 = .slice oa X.length oc ∧ Hid (TLr w wr g2 g3 gs n oa oc X st k R)) (fun _ wr => lenR wr gs)
  case atStart => exact ⟨none, 0, [], st0, _, rfl, HL.out⟩
  case round =>
    obtain ⟨oa, oc, X, st, k, rfl, HI⟩ := hrel
    obtain ⟨t2, t3, t4⟩ := HI.out.sc.cells
    by_cases he : st.er = 0
    · have HE0 := Lib.hid he
      rw [he] at t4
      go_wp2_with fail
      refine (rnext_rsa _ gs st HI.out.sc).mono ?_
      rintro e w7 ⟨rfl, k7, rfl⟩
      have h7 : Mod wr (wr.drewN k7) NoB := (Mod.refl _ _).drewN _
      have HP7 := Lib.hid (HI.out.m.quiet h7)
      have HS7 := Lib.hid (HI.out.sc.mod h7 (by simp [NoB]))
      clear t2 t3 t4 h7
      obtain ⟨t2, t3, t4⟩ := HS7.out.cells
      rw [he] at t4
      obtain ⟨V7, hV7⟩ : ∃ V7, V7 = wr.drewN k7 := ⟨_, rfl⟩
      rw [← hV7] at HP7 HS7 t2 t3 t4 ⊢
      clear hV7
      unfold nextW
      cases hns : (nextS st).isSome with
      | false =>
        have hRe := ptF_end HI.out.pt (by have := HI.out.lt; omega) hns
        rw [if_pos he] at hRe
        subst hRe
        have hsz := HI.out.sz
        have HBk : Hid (∀ z, Lvs z oa X → Calls Tryz.prog 46 #[.int .u64 n, .slice oa X.length oc] z fun e w' => ∃ a' cap', e = .returned (.tuple #[.agg #[.int .u64 n, .slice a' (putAll before (evs X)).length cap'], .int .i64 0]) ∧ Evs w' a' (putAll before (evs X)) ∧ Mod z w' NoB ∧ (∀ p, a' = some p → z.heap.size ≤ p.block)) := fun z hz => by
          have h := rback_yg z n oa oc X hz (by omega) HI.out.bd
          have h0 := lchk_all HI.out.ok hNb2.2 (by omega)
          have h1 : backN n X = n := if_pos (by rw [h0])
          have h2 : backE n X = putAll before (evs X) := if_pos (by rw [h0])
          rw [h0, h1, h2] at h
          exact h
        clear he t2 t3 t4
        go_wp2_with fail
        refine (HBk.out _ HP7.out.lvs).mono ?_
        rintro e w8 ⟨a8, c8, rfl, hE, hm, hy⟩
        have HP8 := Lib.hid (HP7.out.quiet hm)
        have HE8 : Hid (Evs w8 a8 (putAll before (evs X)) ∧ ∀ p, a8 = some p → p.block ≠ g2 ∧ p.block ≠ g3) := ⟨hE, fun p hp => by have := hy p hp; have := HP7.out.ps.lt; omega⟩
        clear hE hm hy HBk
        go_upto_region 11 with (fail)
        have h0 : Mod w8 (w8.alloc (.cells #[.int .u64 n, .slice a8 (putAll before (evs X)).length c8] 25)) NoB := (Mod.refl _ _).alloc _
        have HP9 := Lib.hid (HP8.out.quiet h0)
        have HE9 := Lib.hid (And.intro (HE8.out.1.mod h0) HE8.out.2)
        have b0 : (w8.alloc (.cells #[.int .u64 n, .slice a8 (putAll before (evs X)).length c8] 25)).cell? ⟨w8.heap.size, 0, none⟩ = some (.int .u64 n) := World.cell?_alloc_at _ _ _ _ rfl
        have b1 : (w8.alloc (.cells #[.int .u64 n, .slice a8 (putAll before (evs X)).length c8] 25)).cell? ⟨w8.heap.size, 1, none⟩ = some (.slice a8 (putAll before (evs X)).length c8) := World.cell?_alloc_at _ _ _ _ rfl
        have hl8 := HP8.out.ps.lt
        obtain ⟨gb, hgb⟩ : ∃ gb, gb = w8.heap.size := ⟨_, rfl⟩
        obtain ⟨V, hV⟩ : ∃ V, V = w8.alloc (.cells #[.int .u64 n, .slice a8 (putAll before (evs X)).length c8] 25) := ⟨_, rfl⟩
        rw [← hV] at HP9 HE9
        rw [← hV, ← hgb] at b0 b1
        rw [← hV, ← hgb]
        have hb2 : ¬ g2 = gb := by omega
        have hb3 : ¬ g3 = gb := by omega
        clear hV hgb h0 hl8 HP8 HE8
        have z0 := HP9.out.ps.z0
        have z1 := HP9.out.ps.z1
        have p0 := HP9.out.ps.p0
        have p1 := HP9.out.ps.p1
        have f20 := HP9.out.ps.f2 0
        have f21 := HP9.out.ps.f2 1
        have f30 := HP9.out.ps.f3 0
        have f31 := HP9.out.ps.f3 1
        have d23 : ¬ g2 = g3 := HP9.out.ps.d
        have d32 : ¬ g3 = g2 := fun c => d23 c.symm
        have HF := Lib.hid (HP9.out.ps.fin n (.slice a8 (putAll before (evs X)).length c8) 0 0)
        have HEF := Lib.hid (evs_away HE9.out.1 HF.out.2.2 HE9.out.2)
        go_wp2_with fail
        obtain ⟨r0, r1, r2, r3⟩ := HF.out.1
        exact bodyPost_ret (v := .tuple #[.agg #[.int .u64 n, .slice a8 (putAll before (evs X)).length c8], .agg #[.int .i64 0, .int .i64 0], .int .i64 0]) (by simp [results, Tryz.results16, go_sem, r0, r1, r2, r3]) rfl ⟨a8, ⟨c8, rfl⟩, HEF.out, HF.out.2.1⟩
      | true =>
        obtain ⟨k', rfl⟩ : ∃ k', k = k' + 1 := ⟨k - 1, by have := HI.out.lt; omega⟩
        obtain ⟨M1, M2, M3⟩ := ptF_more HI.out.pt hns
        have HM1 := Lib.hid M1
        have HM2 := Lib.hid M2
        have HM3 := Lib.hid M3
        have hsz := HI.out.sz
        have hlt := HI.out.lt
        have hess := lfS_less (st := st)
        have hxbd := lfS_bd st
        obtain ⟨x, hx⟩ : ∃ x, (lfS st).1 = x := ⟨_, rfl⟩
        obtain ⟨s4, hs4⟩ : ∃ y, (lfS st).2 = y := ⟨_, rfl⟩
        rw [hs4] at HM1
        rw [hx, hs4] at HM2 HM3
        rw [hs4] at hess
        rw [hx] at hxbd
        have HX := Lib.hid (And.intro hess hxbd)
        clear M1 M2 M3 hess hxbd he
        go_upto_region 13 with (fail)
        have h0 : Mod V7 (V7.alloc (.cells #[.int .i64 st.p.1, .int .i64 st.p.2] 38)) NoB := (Mod.refl _ _).alloc _
        have HP8 := Lib.hid (HP7.out.quiet h0)
        have HS8 := Lib.hid (HS7.out.mod h0 (by simp [NoB]))
        have HA8 : Hid ((V7.alloc (.cells #[.int .i64 st.p.1, .int .i64 st.p.2] 38)).cell? ⟨V7.heap.size, 0, none⟩ = some (.int .i64 st.p.1) ∧ (V7.alloc (.cells #[.int .i64 st.p.1, .int .i64 st.p.2] 38)).cell? ⟨V7.heap.size, 1, none⟩ = some (.int .i64 st.p.2)) := ⟨World.cell?_alloc_at _ _ _ _ rfl, World.cell?_alloc_at _ _ _ _ rfl⟩
        obtain ⟨ga, hga⟩ : ∃ ga, ga = V7.heap.size := ⟨_, rfl⟩
        obtain ⟨X8, hX8⟩ : ∃ X8, X8 = V7.alloc (.cells #[.int .i64 st.p.1, .int .i64 st.p.2] 38) := ⟨_, rfl⟩
        have hsep : ∀ q, (Value.slice oa X.length oc).ownBlock = some q → q ≠ ga := fun q hq => by have := (HP7.out.row.lt q hq).2; omega
        have HSep := Lib.hid hsep
        rw [← hX8] at HP8 HS8
        rw [← hX8, ← hga] at HA8
        rw [← hX8, ← hga]
        have hgas : ga ≠ gs := by have := HS7.out.lt; omega
        have hga2 : ¬ ga = g2 := by have := HP7.out.ps.lt; omega
        have hga3 : ¬ ga = g3 := by have := HP7.out.ps.lt; omega
        have hg2a : ¬ g2 = ga := fun c => hga2 c.symm
        have hg3a : ¬ g3 = ga := fun c => hga3 c.symm
        clear h0 hX8 hga HP7 HS7 hsep t2 t3 t4
        go_wp2_with fail
        refine (rlife_any _ gs st HS8.out).mono ?_
        rintro e w9 ⟨rfl, hsc, hm⟩
        rw [hx]
        rw [hs4] at hsc
        have HP9 := Lib.hid (HP8.out.keep hm (fun q c => c))
        have HA9 := Lib.hid (And.intro (keepS HA8.out.1 hm (fun c => hgas c)) (keepS HA8.out.2 hm (fun c => hgas c)))
        have HS9 := Lib.hid hsc
        clear hsc hm HP8 HS8 HA8 hx hs4
        go_upto_region 14 with (fail)
        have h0 : Mod w9 (w9.alloc (.cells #[.int .u32 x.e.u, .int .u32 x.e.v, .int .i64 x.fr, .int .i64 x.to] 81)) NoB := (Mod.refl _ _).alloc _
        have HP10 := Lib.hid (HP9.out.quiet h0)
        have HS10 := Lib.hid (HS9.out.mod h0 (by simp [NoB]))
        have HA10 := Lib.hid (And.intro (keepc HA9.out.1 h0) (keepc HA9.out.2 h0))
        have HX10 : Hid (LfAt (w9.alloc (.cells #[.int .u32 x.e.u, .int .u32 x.e.v, .int .i64 x.fr, .int .i64 x.to] 81)) w9.heap.size 0 x) := ⟨World.cell?_alloc_at _ _ _ _ rfl, World.cell?_alloc_at _ _ _ _ rfl, World.cell?_alloc_at _ _ _ _ rfl, World.cell?_alloc_at _ _ _ _ rfl⟩
        obtain ⟨gx, hgx⟩ : ∃ gx, gx = w9.heap.size := ⟨_, rfl⟩
        obtain ⟨X10, hX10⟩ : ∃ X10, X10 = w9.alloc (.cells #[.int .u32 x.e.u, .int .u32 x.e.v, .int .i64 x.fr, .int .i64 x.to] 81) := ⟨_, rfl⟩
        rw [← hX10] at HP10 HS10 HA10
        rw [← hX10, ← hgx] at HX10
        rw [← hX10, ← hgx]
        clear h0 hX10 hgx HP9 HS9 HA9
        obtain ⟨t2, t3, t4⟩ := HS10.out.cells
        by_cases he : s4.er = 0
        · have HE4 := Lib.hid he
          rw [he] at t4
          have HM2b := Lib.hid (HM2.out he)
          have HM3b := Lib.hid (HM3.out he)
          obtain ⟨R5, hR5⟩ : ∃ R5, lfErr n X.getLast? x = R5 := ⟨_, rfl⟩
          rw [hR5] at HM2b HM3b
          have HR5 := Lib.hid hR5
          obtain ⟨k0, k1, k2, k3⟩ := HX10.out
          simp only [Nat.zero_add] at k1 k2 k3
          obtain ⟨i0, hi0, hz0, hz1, hz2⟩ := info_parts info_life
          have HB : Hid (X.length + 1 ≤ maxLen ∧ (X.length + 1) * 24 ≤ 140737488355328) := by
            unfold maxLen; exact ⟨by omega, by omega⟩
          have hone1 : ∀ u ∈ encL x, u.oneCell' = true := by simp [encL, Value.oneCell']
          clear HM1 HM2 HM3 hR5 he
          go_upto_region 16 with (at_builtin; refine wpList_append_row _ rfl _ _ 50 rfl 81 i0 (.agg #[.int .u32 0, .int .u32 0, .int .i64 0, .int .i64 0]) 4 24 Tryz.underlying50 hi0 hz0 hz1 hz2 rfl (by decide) (.slice oa X.length oc) X.length _ rfl (HP10.out.row.alloc _) _ 1 _ (encL x) rfl rfl (fun j u hu => ⟨_, rfl, World.news_of_block (MapKept.heap_alloc _ _).1 j u hu⟩) hone1 HB.out.1 HB.out.2 ?_; intro v8 w14 hown8 hgrow8 hat8; obtain ⟨a8, c8, rfl⟩ := row_form hown8; have HAp := Lib.hid (HP10.out.app hown8 hgrow8 hat8); clear hown8 hgrow8 hat8)
          have hlen : (X ++ [x]).length = X.length + 1 := by simp
          have HS14 := Lib.hid (HS10.out.mod HAp.out.2 (fun c => (HP10.out.sep gs c).2.2.2 rfl))
          have HA14 := Lib.hid (And.intro (keepS HA10.out.1 HAp.out.2 (fun c => HSep.out ga c rfl)) (keepS HA10.out.2 HAp.out.2 (fun c => HSep.out ga c rfl)))
          have hbd : ∀ y ∈ X ++ [x], EdB y.e := fun y hy => by
            rcases List.mem_append.1 hy with c | c
            · exact HI.out.bd y c
            · rw [List.mem_singleton.1 c]; exact HX.out.2.1
          have HBd := Lib.hid hbd
          have HCk : Hid (∃ c1 : Nat, Calls Tryz.prog 48 #[.int .u64 n, .slice a8 (X.length + 1) c8] w14 fun e w' => e = .returned (.tuple #[.int .i64 c1, .int .i64 (R5 : Nat)]) ∧ Mod w14 w' NoB) := by
            have h := rlcheck_any w14 n a8 c8 (X ++ [x]) HAp.out.1.lvs (by rw [hlen]; omega) HBd.out
            rw [lchk_snoc HI.out.ok hNb2.2 (by omega), HR5.out, hlen] at h
            exact ⟨_, h⟩
          obtain ⟨c1, hck⟩ := HCk.out
          have HCk2 := Lib.hid hck
          clear hck HCk k0 k1 k2 k3 t2 t3 t4 hone1 hbd HX10 HP10 HS10 HA10
          go_wp2_with fail
          refine HCk2.out.mono ?_
          rintro e w12 ⟨rfl, hm⟩
          have HP12 := Lib.hid (HAp.out.1.quiet hm)
          have HS12 := Lib.hid (HS14.out.mod hm (by simp [NoB]))
          have HA12 := Lib.hid (And.intro (keepc HA14.out.1 hm) (keepc HA14.out.2 hm))
          clear hm HAp HS14 HA14 HCk2
          by_cases hv : R5 = 0
          · have HPl := Lib.hid (HM3b.out hv)
            have HOk := Lib.hid (allLf_snoc HI.out.ok (HR5.out.trans hv))
            subst hv
            clear HM2b HM3b HR5
            go_wp2_with fail
            go_roundw
            case rel => exact ⟨a8, c8, X ++ [x], s4, k', by rw [hlen], HP12.out, HS12.out, HPl.out, by have := HX.out.1 HE4.out; omega, by have := HX.out.1 HE4.out; rw [hlen]; omega, HOk.out, HBd.out⟩
            case measure => rw [HS12.out.len, HI.out.sc.len]; exact HX.out.1 HE4.out
          · have hRe := HM2b.out hv
            subst hRe
            have hne : ((R5 : Int) == 0) = false := beq_eq_false_iff_ne.2 (by omega)
            have a0 := HA12.out.1
            have a1 := HA12.out.2
            have z0 := HP12.out.ps.z0
            have z1 := HP12.out.ps.z1
            have p0 := HP12.out.ps.p0
            have p1 := HP12.out.ps.p1
            have f20 := HP12.out.ps.f2 0
            have f21 := HP12.out.ps.f2 1
            have f30 := HP12.out.ps.f3 0
            have f31 := HP12.out.ps.f3 1
            have d23 : ¬ g2 = g3 := HP12.out.ps.d
            have d32 : ¬ g3 = g2 := fun c => d23 c.symm
            have s2 : ¬ gs = g2 := HP12.out.gk.2.1
            have s3 : ¬ gs = g3 := HP12.out.gk.2.2
            have s2' : ¬ g2 = gs := fun c => s2 c.symm
            have s3' : ¬ g3 = gs := fun c => s3 c.symm
            have HF := Lib.hid (HP12.out.ps.fin 0 (.slice none 0 0) st.p.1 st.p.2)
            go_upto_region 18 with (fail)
            go_region
            all_goals
              go_wp2_with fail
              obtain ⟨r0, r1, r2, r3⟩ := HF.out.1
              exact bodyPost_ret (v := .tuple #[.agg #[.int .u64 0, .slice none 0 0], .agg #[.int .i64 st.p.1, .int .i64 st.p.2], .int .i64 R5]) (by simp [results, Tryz.results16, go_sem, r0, r1, r2, r3]) rfl ⟨none, ⟨0, rfl⟩, Or.inl rfl, HF.out.2.1.drew⟩
        · have hRe := HM1.out he
          subst hRe
          have hne : (s4.er == 0) = false := beq_eq_false_iff_ne.2 he
          have z0 := HP10.out.ps.z0
          have z1 := HP10.out.ps.z1
          have p0 := HP10.out.ps.p0
          have p1 := HP10.out.ps.p1
          have f20 := HP10.out.ps.f2 0
          have f21 := HP10.out.ps.f2 1
          have f30 := HP10.out.ps.f3 0
          have f31 := HP10.out.ps.f3 1
          have d23 : ¬ g2 = g3 := HP10.out.ps.d
          have d32 : ¬ g3 = g2 := fun c => d23 c.symm
          have s2 : ¬ gs = g2 := HP10.out.gk.2.1
          have s3 : ¬ gs = g3 := HP10.out.gk.2.2
          have s2' : ¬ g2 = gs := fun c => s2 c.symm
          have s3' : ¬ g3 = gs := fun c => s3 c.symm
          have HF := Lib.hid (HP10.out.ps.fin 0 (.slice none 0 0) s4.p.1 s4.p.2)
          go_upto_region 19 with (fail)
          go_region
          all_goals
            go_wp2_with fail
            obtain ⟨r0, r1, r2, r3⟩ := HF.out.1
            exact bodyPost_ret (v := .tuple #[.agg #[.int .u64 0, .slice none 0 0], .agg #[.int .i64 s4.p.1, .int .i64 s4.p.2], .int .i64 s4.er]) (by simp [results, Tryz.results16, go_sem, r0, r1, r2, r3]) rfl ⟨none, ⟨0, rfl⟩, Or.inl rfl, HF.out.2.1.drew⟩
    · have hns : (nextS st).isSome = false := by unfold nextS; rw [if_neg he]; rfl
      have hRe := ptF_end HI.out.pt (by have := HI.out.lt; omega) hns
      rw [if_neg he] at hRe
      subst hRe
      have hne : (st.er == 0) = false := beq_eq_false_iff_ne.2 he
      have HP7 := Lib.hid HI.out.m
      have z0 := HP7.out.ps.z0
      have z1 := HP7.out.ps.z1
      have p0 := HP7.out.ps.p0
      have p1 := HP7.out.ps.p1
      have f20 := HP7.out.ps.f2 0
      have f21 := HP7.out.ps.f2 1
      have f30 := HP7.out.ps.f3 0
      have f31 := HP7.out.ps.f3 1
      have d23 : ¬ g2 = g3 := HP7.out.ps.d
      have d32 : ¬ g3 = g2 := fun c => d23 c.symm
      have s2 : ¬ gs = g2 := HP7.out.gk.2.1
      have s3 : ¬ gs = g3 := HP7.out.gk.2.2
      have s2' : ¬ g2 = gs := fun c => s2 c.symm
      have s3' : ¬ g3 = gs := fun c => s3 c.symm
      have HF := Lib.hid (HP7.out.ps.fin 0 (.slice none 0 0) st.p.1 st.p.2)
      go_upto_region 19 with (fail)
      go_region
      all_goals
        go_wp2_with fail
        obtain ⟨r0, r1, r2, r3⟩ := HF.out.1
        exact bodyPost_ret (v := .tuple #[.agg #[.int .u64 0, .slice none 0 0], .agg #[.int .i64 st.p.1, .int .i64 st.p.2], .int .i64 st.er]) (by simp [results, Tryz.results16, go_sem, r0, r1, r2, r3]) rfl ⟨none, ⟨0, rfl⟩, Or.inl rfl, HF.out.2.1.drew⟩
end Go.Proofs.YtppambkffgmkgaaGreatDoor
end
