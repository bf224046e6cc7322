/- Merged: LfLi LgPs LgPa -/
import Derived.Test.YtppambkffgmkgaaGreatDoorMg20
import Derived.Test.YtppambkffgmkgaaGreatDoorMg21
import Derived.Test.YtppambkffgmkgaaGreatDoorMg14
import Derived.Test.YtppambkffgmkgaaGreatDoorMg19
section
/- The reference: Lives of a history. -/
namespace Go.Proofs.YtppambkffgmkgaaGreatDoor
open Go.RowKit
set_option linter.unusedVariables false

/-- The lives that the first i events begin. -/
def rawI : List Ev → Nat → List Lf
  | [], _ => []
  | _, 0 => []
  | y :: l, i + 1 => (if y.add = true then [⟨y.e, y.t, nextT y.e l⟩] else []) ++ rawI l i
theorem rawI_zero : ∀ l : List Ev, rawI l 0 = []
  | [] => rfl
  | _ :: _ => rfl
theorem rawI_all : ∀ l : List Ev, rawI l l.length = raw l
  | [] => rfl
  | y :: l => by
    simp only [List.length_cons, rawI, raw, rawI_all l]
    split <;> simp
theorem rawI_succ : ∀ {l : List Ev} {i : Nat} {x : Ev}, l[i]? = some x → rawI l (i + 1) = rawI l i ++ (if x.add = true then [⟨x.e, x.t, nextT x.e (l.drop (i + 1))⟩] else [])
  | [], i, x, h => by simp at h
  | y :: l, 0, x, h => by
    cases h
    simp only [rawI, rawI_zero, List.append_nil, List.nil_append, Nat.zero_add, List.drop_succ_cons, List.drop_zero]
  | y :: l, i + 1, x, h => by
    have ih := rawI_succ (l := l) (i := i) (x := x) (by simpa using h)
    show (if y.add = true then [⟨y.e, y.t, nextT y.e l⟩] else []) ++ rawI l (i + 1) = ((if y.add = true then [⟨y.e, y.t, nextT y.e l⟩] else []) ++ rawI l i) ++ _
    rw [ih, List.append_assoc, List.drop_succ_cons]
theorem rawI_len : ∀ (l : List Ev) (i : Nat), (rawI l i).length ≤ i
  | [], i => by simp [rawI]
  | _ :: _, 0 => by simp [rawI]
  | y :: l, i + 1 => by
    have := rawI_len l i
    simp only [rawI, List.length_append]
    split <;> simp <;> omega
/-- The time at which an edge is told of next, found so far. -/
theorem nextT_skip {x : Ed} {y : Ev} {l : List Ev} (h : y.e ≠ x) : nextT x (y :: l) = nextT x l := by simp [nextT, h]
theorem nextT_hit {x : Ed} {y : Ev} {l : List Ev} (h : y.e = x) : nextT x (y :: l) = y.t := by simp [nextT, h]

/-- Lives, kept beside a change of a young block. -/
theorem Lvs.young {w w' : World} {S : Nat → Prop} {a : Option Addr} {l : List Lf} (h : Lvs w a l) (hm : Mod w w' S) (hs : ∀ q, S q → w.heap.size ≤ q) : Lvs w' a l := by
  rcases h with h | ⟨b, off, rfl, hb, h⟩
  · exact Or.inl h
  · have hn : ¬ S b := fun c => Nat.not_lt.2 (hs b c) hb
    exact Or.inr ⟨b, off, rfl, Nat.lt_of_lt_of_le hb hm.size, fun i x hx => ⟨keepS (h i x hx).1 hm hn, keepS (h i x hx).2.1 hm hn, keepS (h i x hx).2.2.1 hm hn, keepS (h i x hx).2.2.2 hm hn⟩⟩
theorem HAt.young {w wr w' : World} {S : Nat → Prop} {h0 len cap : Nat} {n : Int} {a : Option Addr} {l : List Ev} (h : HAt w wr h0 n a len cap l) (hm : Mod wr w' S) (hs : ∀ q, S q → wr.heap.size ≤ q) : HAt w w' h0 n a len cap l := by
  have l0 := World.block_lt_of_cell? _ _ h.c0
  have hn : ¬ S h0 := fun c => Nat.not_lt.2 (hs h0 c) l0
  exact ⟨h.mod.trans hm (fun i hi c => absurd (Nat.lt_of_lt_of_le hi h.mod.size) (Nat.not_lt.2 (hs i c))), keepS h.c0 hm hn, keepS h.c1 hm hn, h.evs.young hm hs⟩
/-- What stands at the start of a round. -/
structure OSt2 (w wr : World) (h0 : Nat) (n : Int) (a : Option Addr) (len cap : Nat) (l : List Ev) (oa : Option Addr) (oc : Nat) (X : List Lf) : Prop where
  h : HAt w wr h0 n a len cap l
  lvs : Lvs wr oa X
  plain : Plain oa
  cap : X.length ≤ oc
theorem OSt2.young {w wr w' : World} {S : Nat → Prop} {h0 len cap oc : Nat} {n : Int} {a oa : Option Addr} {l : List Ev} {X : List Lf} (h : OSt2 w wr h0 n a len cap l oa oc X) (hm : Mod wr w' S) (hs : ∀ q, S q → wr.heap.size ≤ q) : OSt2 w w' h0 n a len cap l oa oc X :=
  ⟨h.h.young hm hs, h.lvs.young hm hs, h.plain, h.cap⟩
/-- The life that is looked for, in a block of its own. -/
structure JSt (V wr : World) (g8 g9 : Nat) (x : Ev) (t : Int) : Prop where
  mod : Mod V wr (OneB g9)
  young : V.heap.size ≤ g9
  e : EvAt wr g8 0 x
  y : LfAt wr g9 0 ⟨x.e, x.t, t⟩
  fz : wr.frozen? ⟨g9, 3, none⟩ = false
  ne : g8 ≠ g9
theorem JSt.quiet {V wr w' : World} {g8 g9 : Nat} {x : Ev} {t : Int} (h : JSt V wr g8 g9 x t) (hm : Mod wr w' NoB) : JSt V w' g8 g9 x t :=
  ⟨h.mod.trans hm (fun _ _ c => c.elim), h.young, h.e.mod hm, h.y.mod hm, (hm.frozen (p := ⟨g9, 3, none⟩) (World.block_lt_of_cell? _ _ h.y.2.2.2) (by simp [NoB])).trans h.fz, h.ne⟩
theorem JSt.set {V wr : World} {g8 g9 : Nat} {x : Ev} {t : Int} (h : JSt V wr g8 g9 x t) (t' : Int) : JSt V (wr.setCell ⟨g9, 3, none⟩ (.int .i64 t')) g8 g9 x t' := by
  have hm : Mod wr (wr.setCell ⟨g9, 3, none⟩ (.int .i64 t')) (OneB g9) := Mod.set1 wr g9 3 _
  have nx : ¬ OneB g9 g8 := fun c => h.ne c
  refine ⟨h.mod.trans hm (fun _ _ c => c), h.young, ⟨keepS h.e.1 hm nx, keepS h.e.2.1 hm nx, keepS h.e.2.2.1 hm nx, keepS h.e.2.2.2 hm nx⟩, ⟨?_, ?_, ?_, ?_⟩, by rw [World.frozen?_setCell]; exact h.fz, h.ne⟩
  · rw [World.cell?_setCell_other _ _ _ _ (by simp)]; exact h.y.1
  · rw [World.cell?_setCell_other _ _ _ _ (by simp)]; exact h.y.2.1
  · rw [World.cell?_setCell_other _ _ _ _ (by simp)]; exact h.y.2.2.1
  · exact World.cell?_setCell_same _ _ _ h.y.2.2.2

theorem putAll_app {α : Type} {lt : α → α → Prop} [DecidableRel lt] (l : List α) (x : α) : putAll lt (l ++ [x]) = putR lt x (putAll lt l) := by
  unfold putAll
  rw [List.foldl_append]
  rfl
theorem JSt.start {V : World} {x : Ev} (ha : x.add = true) : JSt V ((V.alloc (.cells #[.int .i64 x.t, .int .u32 x.e.u, .int .u32 x.e.v, .bool true] 62)).alloc (.cells #[.int .u32 x.e.u, .int .u32 x.e.v, .int .i64 x.t, .int .i64 (-1)] 81)) V.heap.size (V.heap.size + 1) x (-1) := by
  have hs1 : (V.alloc (.cells #[.int .i64 x.t, .int .u32 x.e.u, .int .u32 x.e.v, .bool true] 62)).heap.size = V.heap.size + 1 := by simp
  have lt : V.heap.size < (V.alloc (.cells #[.int .i64 x.t, .int .u32 x.e.u, .int .u32 x.e.v, .bool true] 62)).heap.size := by rw [hs1]; omega
  have a1 : ∀ j, ((V.alloc (.cells #[.int .i64 x.t, .int .u32 x.e.u, .int .u32 x.e.v, .bool true] 62)).alloc (.cells #[.int .u32 x.e.u, .int .u32 x.e.v, .int .i64 x.t, .int .i64 (-1)] 81)).cell? ⟨V.heap.size, j, none⟩ = (#[.int .i64 x.t, .int .u32 x.e.u, .int .u32 x.e.v, .bool true] : Array Value)[j]? := fun j =>
    (World.cell?_alloc_lt _ _ _ lt).trans (World.cell?_alloc_at _ _ _ _ rfl)
  have a2 : ∀ j, ((V.alloc (.cells #[.int .i64 x.t, .int .u32 x.e.u, .int .u32 x.e.v, .bool true] 62)).alloc (.cells #[.int .u32 x.e.u, .int .u32 x.e.v, .int .i64 x.t, .int .i64 (-1)] 81)).cell? ⟨V.heap.size + 1, j, none⟩ = (#[.int .u32 x.e.u, .int .u32 x.e.v, .int .i64 x.t, .int .i64 (-1)] : Array Value)[j]? := fun j =>
    World.cell?_alloc_at _ _ _ _ hs1.symm
  refine ⟨((Mod.refl _ _).alloc _).alloc _, Nat.le_succ _, ⟨(a1 0).trans rfl, (a1 1).trans rfl, (a1 2).trans rfl, (a1 3).trans (by rw [ha]; rfl)⟩, ⟨(a2 0).trans rfl, (a2 1).trans rfl, (a2 2).trans rfl, (a2 3).trans rfl⟩, ?_, by omega⟩
  have hh := (MapKept.heap_alloc (V.alloc (.cells #[.int .i64 x.t, .int .u32 x.e.u, .int .u32 x.e.v, .bool true] 62)) (.cells #[.int .u32 x.e.u, .int .u32 x.e.v, .int .i64 x.t, .int .i64 (-1)] 81)).1
  rw [hs1] at hh
  unfold World.frozen?
  rw [hh]
  rfl

set_option maxRecDepth 100000 in
set_option maxHeartbeats 4000000 in
theorem lives_any (w : World) (n : Int) (a : Option Addr) (cap : Nat) (l : List Ev) (hE : Evs w a l) (hl : l.length ≤ 40000) (hb : ∀ x ∈ l, EvB x) :
    Calls Tryz.prog 17 #[.agg #[.int .u64 n, .slice a l.length cap]] w fun e w' => ∃ a' cap', e = .returned (.tuple #[.slice a' (ofL n l).length cap', .int .i64 (chk n l).2]) ∧ Lvs w' a' (ofL n l) ∧ Mod w w' NoB := by
  have HH0 := Lib.hid (HAt.start (n := n) (len := l.length) (cap := cap) hE)
  have HCK : Hid (∀ z, Evs z a l → Calls Tryz.prog 49 #[.agg #[.int .u64 n, .slice a l.length cap]] z fun e w' => e = .returned (.tuple #[.int .i64 (chk n l).1, .int .i64 (chk n l).2]) ∧ Mod z w' NoB) := fun z hz => rcheck_any z n a cap l hz (by omega) hb
  obtain ⟨h0, hh0⟩ : ∃ h0, h0 = w.heap.size := ⟨_, rfl⟩
  obtain ⟨W, hW⟩ : ∃ W, W = w.alloc (.cells #[.int .u64 n, .slice a l.length cap] 25) := ⟨_, rfl⟩
  rw [← hW, ← hh0] at HH0
  have hmx := mixed
  clear hE hb
  have c0 := HH0.out.c0
  have c1 := HH0.out.c1
  by_cases hz : (chk n l).2 = 0
  · have hof : ofL n l = putAll lfLt (raw l) := by unfold ofL; rw [if_pos hz]
    obtain ⟨r1, hr1⟩ : ∃ r1, (chk n l).1 = r1 := ⟨_, rfl⟩
    rw [hof, hz]
    rw [hr1, hz] at HCK
    have HT0 : Hid (∀ y ∈ l, 0 ≤ y.t) := by
      have h2 := hz
      unfold chk at h2
      split at h2
      · cases h2
      · exact allOk_t0 (allOk_of h2)
    clear hof hr1
    go_enter Tryz.func17, Tryz.ntmps17
    go_wp2_with fail
    rw [← hW, ← hh0]
    clear hW hh0
    refine (HCK.out _ HH0.out.evs).mono ?_
    rintro e w1 ⟨rfl, hm⟩
    have HH1 := Lib.hid (HH0.out.next hm)
    clear hm c0 c1 HCK HH0
    go_wp2_with fail
    go_loopw [6, 7] (fun v6 v7 wr => ∃ (i : Nat) (oa : Option Addr) (oc : Nat), i ≤ l.length ∧ v6 = .slice oa (putAll lfLt (rawI l i)).length oc ∧ v7 = .int .i64 i ∧ Hid (OSt2 w wr h0 n a l.length cap l oa oc (putAll lfLt (rawI l i)))) (fun _ v7 _ => l.length - (intOf v7).toNat)
    case atStart => exact ⟨0, none, 0, Nat.zero_le _, by rw [rawI_zero]; rfl, rfl, HH1.out, by rw [rawI_zero]; exact Or.inl rfl, Or.inl rfl, by rw [rawI_zero]; exact Nat.le_refl _⟩
    case round =>
      obtain ⟨i, oa, oc, hi, rfl, rfl, HI⟩ := hrel
      have ch1 := HI.out.h.c1
      by_cases hlt : i < l.length
      · obtain ⟨b, off, x, rfl, hbw, hx, hC⟩ := HI.out.h.evs.at hlt
        have hki : (i : Int) < l.length := by omega
        have HX := Lib.hid hx
        have hs := rawI_succ hx
        obtain ⟨c0, c1, c2, c3⟩ := hC
        clear hx hbw
        cases hadd : x.add with
        | false =>
          rw [hadd] at c3 hs
          have HS : Hid (rawI l (i + 1) = rawI l i) := by show _ = _; rw [hs]; simp
          clear hs
          go_wp2_with fail
          go_roundw
          case rel => exact ⟨i + 1, oa, oc, by omega, by rw [HS.out], by go_num, by rw [HS.out]; exact HI.out.young (S := NoB) ((Mod.refl _ _).alloc _) (fun _ c => c.elim)⟩
          case measure => simp [intOf]; omega
        | true =>
          rw [hadd] at c3 hs
          have HS : Hid (rawI l (i + 1) = rawI l i ++ [⟨x.e, x.t, nextT x.e (l.drop (i + 1))⟩]) := by show _ = _; rw [hs]; simp
          clear hs
          obtain ⟨X, hX⟩ : ∃ X, putAll lfLt (rawI l i) = X := ⟨_, rfl⟩
          have hX40 : X.length ≤ 40000 := by rw [← hX, (putAll_perm _).length_eq]; have := rawI_len l i; omega
          rw [hX] at HI ⊢
          go_upto_block 2 with (fail)
          have HJ0 := Lib.hid (JSt.start (V := wr) hadd)
          obtain ⟨g8, hg8⟩ : ∃ g8, g8 = wr.heap.size := ⟨_, rfl⟩
          obtain ⟨Z, hZ⟩ : ∃ Z, Z = ((wr.alloc (.cells #[.int .i64 x.t, .int .u32 x.e.u, .int .u32 x.e.v, .bool true] 62)).alloc (.cells #[.int .u32 x.e.u, .int .u32 x.e.v, .int .i64 x.t, .int .i64 (-1)] 81)) := ⟨_, rfl⟩
          rw [← hZ, ← hg8] at HJ0 ⊢
          clear hZ hg8
          obtain ⟨tg, htg⟩ : ∃ tg, nextT x.e (l.drop (i + 1)) = tg := ⟨_, rfl⟩
          rw [htg] at HS
          have hyg := HJ0.out.young
          have HTG := Lib.hid htg
          clear htg c0 c1 c2 c3 ch1 hadd
          go_cut [10] (fun v10 wq => Hid (JSt wr wq g8 (g8 + 1) x tg))
          case first =>
            go_wp2_with fail
            go_loopw [10] (fun v10 wq => ∃ (k : Nat) (t : Int), i < k ∧ k ≤ l.length ∧ v10 = .int .i64 k ∧ Hid (JSt wr wq g8 (g8 + 1) x t ∧ ((t = -1 ∧ nextT x.e (l.drop k) = tg) ∨ (0 ≤ t ∧ t = tg)))) (fun v10 _ => l.length - (intOf v10).toNat)
            case atStart => exact ⟨i + 1, -1, by omega, by omega, by go_num, HJ0.out, Or.inl ⟨rfl, HTG.out⟩⟩
            case round =>
              obtain ⟨k, t, hik, hk, rfl, HK⟩ := hrel
              have HO : Hid (OSt2 w _ h0 n _ l.length cap l oa oc X) := HI.out.young HK.out.1.mod (fun q c => by have : q = g8 + 1 := c; omega)
              have d1 := HO.out.h.c1
              obtain ⟨e0, e1, e2, e3⟩ := HK.out.1.e
              obtain ⟨y0, y1, y2, y3⟩ := HK.out.1.y
              simp only [Nat.zero_add] at e1 e2 e3 y1 y2 y3
              by_cases hkl : k < l.length
              · have hkl2 : (k : Int) < l.length := by omega
                by_cases ht : t < 0
                · have tn : t = -1 ∧ nextT x.e (l.drop k) = tg := by
                    rcases HK.out.2 with c | ⟨c, _⟩
                    · exact c
                    · omega
                  obtain ⟨b', off', y, hab, _, hy, hCy⟩ := HO.out.h.evs.at hkl
                  cases hab
                  obtain ⟨q0, q1, q2, q3⟩ := hCy
                  have hdr : l.drop k = y :: l.drop (k + 1) := by
                    obtain ⟨p1, p2⟩ := List.getElem?_eq_some_iff.1 hy
                    rw [List.drop_eq_getElem_cons p1, p2]
                  have TN := Lib.hid tn.2
                  have HT1 : Hid (0 ≤ y.t) := HT0.out y (List.mem_of_getElem? hy)
                  have HDR := Lib.hid hdr
                  have htm := tn.1
                  clear hdr hy tn
                  by_cases hu : y.e.u = x.e.u
                  · by_cases hv : y.e.v = x.e.v
                    · have HTT : Hid (y.t = tg) := by show _ = _; rw [← TN.out, HDR.out, nextT_hit (Ed.ext' hu hv)]
                      rw [hu] at q1
                      rw [hv] at q2
                      clear hu hv
                      go_upto_region 14 with (fail)
                      go_quiet (fail)
                      generalize hzz : World.drewN _ _ = z
                      have H6 : Mod wr z NoB := by rw [← hzz]; exact (Mod.refl _ _).drewN _
                      have HK6 := Lib.hid (HK.out.1.quiet H6)
                      have r0 := keepc q0 H6
                      have r1' := keepc d1 H6
                      have r3 := HK6.out.y.2.2.2
                      have rf := HK6.out.fz
                      simp only [Nat.zero_add] at r3
                      clear hzz H6 q0 q1 q2 q3 e0 e1 e2 e3 y0 y1 y2 y3 d1
                      go_wp2_with fail
                      go_roundw
                      case rel => exact ⟨k + 1, y.t, by omega, by omega, by go_num, HK6.out.set y.t, Or.inr ⟨HT1.out, HTT.out⟩⟩
                      case measure => simp [intOf]; omega
                    · have HN : Hid (nextT x.e (l.drop (k + 1)) = tg) := by show _ = _; rw [← TN.out, HDR.out, nextT_skip (fun c => hv (by rw [c]))]
                      have hvb : (y.e.v == x.e.v) = false := by simp [hv]
                      rw [hu] at q1
                      clear hu hv
                      go_upto_region 14 with (fail)
                      go_quiet (fail)
                      go_wp2_with fail
                      go_roundw
                      case rel => exact ⟨k + 1, t, by omega, by omega, by go_num, HK.out.1.quiet ((Mod.refl _ _).drewN _), Or.inl ⟨htm, HN.out⟩⟩
                      case measure => simp [intOf]; omega
                  · have HN : Hid (nextT x.e (l.drop (k + 1)) = tg) := by show _ = _; rw [← TN.out, HDR.out, nextT_skip (fun c => hu (by rw [c]))]
                    have hub : (y.e.u == x.e.u) = false := by simp [hu]
                    clear hu
                    go_upto_region 14 with (fail)
                    go_quiet (fail)
                    go_wp2_with fail
                    go_roundw
                    case rel => exact ⟨k + 1, t, by omega, by omega, by go_num, HK.out.1.quiet ((Mod.refl _ _).drewN _), Or.inl ⟨htm, HN.out⟩⟩
                    case measure => simp [intOf]; omega
                · have htt : t = tg := by
                    rcases HK.out.2 with c | c
                    · omega
                    · exact c.2
                  subst htt
                  have ht2 : 0 ≤ t := by omega
                  have HK1 := Lib.hid HK.out.1
                  go_wp2_with fail
                  go_meet
                  exact HK1.out
              · have hkk : k = l.length := by omega
                have htt : t = tg := by
                  rcases HK.out.2 with c | c
                  · rw [hkk, List.drop_length] at c
                    rw [c.1, ← c.2]; rfl
                  · exact c.2
                subst htt
                have HK1 := Lib.hid HK.out.1
                clear hkk
                go_wp2_with fail
                go_meet
                exact HK1.out
          case rest =>
            have HO : Hid (OSt2 w wc h0 n (some ⟨b, off, none⟩) l.length cap l oa oc X) := HI.out.young hcut.out.mod (fun q c => by have : q = g8 + 1 := c; omega)
            obtain ⟨g9, hg9⟩ : ∃ g9, g8 + 1 = g9 := ⟨_, rfl⟩
            rw [hg9] at hcut ⊢
            obtain ⟨yy, hyy⟩ : ∃ yy : Lf, (⟨x.e, x.t, tg⟩ : Lf) = yy := ⟨_, rfl⟩
            have HW : Hid (Mod wc wc NoB ∧ LfAt wc g9 0 yy ∧ True) := by
              show _ ∧ _ ∧ _
              rw [← hyy]; exact ⟨Mod.refl _ _, hcut.out.y, trivial⟩
            have HQ : Hid (putAll lfLt (rawI l (i + 1)) = putR lfLt yy X) := by
              show _ = _
              rw [HS.out, putAll_app, hX, hyy]
            have hcapo := HO.out.cap
            obtain ⟨i0, hi0, hz0, hz1, hz2⟩ := info_parts info_life2
            clear hcut hyy HS hX HJ0 HTG hyg hg9
            rcases HO.out.plain with hoa | ⟨bo, oo, hoa⟩
            · have hX0 : X = [] := by
                rcases HO.out.lvs with c | ⟨b2, o2, c, _⟩
                · exact c
                · rw [hoa] at c; cases c
              subst hX0
              subst hoa
              simp only [List.length_nil]
              go_wp2_with fail
              go_loopw [11] (fun v11 wr => v11 = .int .i64 0 ∧ Hid (Mod wc wr NoB ∧ LfAt wr g9 0 yy)) (fun v11 _ => 0)
              case atStart => exact ⟨rfl, HW.out.1, HW.out.2.1⟩
              case round =>
                  obtain ⟨rfl, HI⟩ := hrel
                  obtain ⟨s0, s1, s2, s3⟩ := HI.out.2
                  simp only [Nat.zero_add] at s1 s2 s3
                  have HB : Hid (0 + 0 ≤ maxLen ∧ (0 + 0) * 24 ≤ 140737488355328 ∧ 0 + 1 ≤ maxLen ∧ (0 + 1) * 24 ≤ 140737488355328) := by
                    unfold maxLen; exact ⟨by omega, by omega, by omega, by omega⟩
                  have hone : ∀ u ∈ encL yy, u.oneCell' = true := by simp [encL, Value.oneCell']
                  go_upto_region 17 with (fail)
                  go_quiet (fail)
                  generalize hzz : World.drewN wr _ = z3
                  have H6a : Hid (Mod wr z3 NoB) := by rw [← hzz]; exact (Mod.refl _ _).drewN _
                  clear hzz
                  have H2 : Hid (Mod wc z3 NoB) := HI.out.1.trans H6a.out (fun _ _ h => h)
                  have t0 := keepc s0 H6a.out
                  have t1 := keepc s1 H6a.out
                  have t2 := keepc s2 H6a.out
                  have t3 := keepc s3 H6a.out
                  clear s0 s1 s2 s3
                  go_upto_region 19 with (fail)
                  go_region_held3 (fun z => z.cell? ⟨g9, 0, none⟩ = some (.int .u32 yy.e.u) ∧ z.cell? ⟨g9, 1, none⟩ = some (.int .u32 yy.e.v) ∧ z.cell? ⟨g9, 2, none⟩ = some (.int .i64 yy.fr) ∧ z.cell? ⟨g9, 3, none⟩ = some (.int .i64 yy.to))
                    (first | exact ⟨t0, t1, t2, t3⟩ | exact ⟨keepc t0 ((Mod.drew (Mod.refl z3 NoB)).alloc _), keepc t1 ((Mod.drew (Mod.refl z3 NoB)).alloc _), keepc t2 ((Mod.drew (Mod.refl z3 NoB)).alloc _), keepc t3 ((Mod.drew (Mod.refl z3 NoB)).alloc _)⟩ | exact ⟨keepc t0 (H8.out.mod), keepc t1 (H8.out.mod), keepc t2 (H8.out.mod), keepc t3 (H8.out.mod)⟩ | exact ⟨keepc t0 (H7.out.mod), keepc t1 (H7.out.mod), keepc t2 (H7.out.mod), keepc t3 (H7.out.mod)⟩ | exact ⟨keepc t0 (H6.out.mod), keepc t1 (H6.out.mod), keepc t2 (H6.out.mod), keepc t3 (H6.out.mod)⟩ | exact ⟨keepc t0 (H6.out.mod.alloc _), keepc t1 (H6.out.mod.alloc _), keepc t2 (H6.out.mod.alloc _), keepc t3 (H6.out.mod.alloc _)⟩)
                    (first
                    | (refine step_append_row _ rfl _ _ 50 rfl 81 i0 (.agg #[.int .u32 0, .int .u32 0, .int .i64 0, .int .i64 0]) 4 24 Tryz.underlying50 hi0 hz0 hz1 hz2 rfl (by decide) (.slice none 0 0) 0 [] rfl (World.ownsRow_nil _ _ _ _) _ 0 _ [] rfl rfl (no_news rfl) (fun u hu => by cases hu) HB.out.1 HB.out.2.1 ?_
                       intro v6 w6 hown6 hgrow6 hat6
                       have H6 := Lib.hid ((New.first hown6 hgrow6 hat6).from (Mod.drew (Mod.refl z3 NoB)))
                       clear hown6 hgrow6 hat6)
                    | (refine step_append_row _ rfl _ _ 50 rfl 81 i0 (.agg #[.int .u32 0, .int .u32 0, .int .i64 0, .int .i64 0]) 4 24 Tryz.underlying50 hi0 hz0 hz1 hz2 rfl (by decide) (.slice none 0 0) 0 [] rfl (World.ownsRow_nil _ _ _ _) _ 0 _ [] rfl rfl (no_news rfl) (fun u hu => by cases hu) HB.out.1 HB.out.2.1 ?_
                       intro v6 w6 hown6 hgrow6 hat6
                       have HBk := Lib.hid (built_kept (w := z3) hgrow6)
                       have H6 := Lib.hid ((New.first hown6 hgrow6 hat6).from (Mod.drew (Mod.alloc (Mod.refl z3 NoB) _)))
                       clear hown6 hgrow6 hat6)
                    | (refine step_append_row _ rfl _ _ 50 rfl 81 i0 (.agg #[.int .u32 0, .int .u32 0, .int .i64 0, .int .i64 0]) 4 24 Tryz.underlying50 hi0 hz0 hz1 hz2 rfl (by decide) v6 0 _ rfl (H6.out.row.alloc _) _ 1 _ (encL yy) rfl rfl (fun j u hu => ⟨_, rfl, World.news_of_block (MapKept.heap_alloc _ _).1 j u hu⟩) hone HB.out.2.2.1 HB.out.2.2.2 ?_
                       intro v7 w7 hown7 hgrow7 hat7
                       have H7 := Lib.hid ((H6.out.alloc _).more hown7 hgrow7 hat7)
                       clear hown7 hgrow7 hat7)
                    | (refine step_append_row _ rfl _ _ 50 rfl 81 i0 (.agg #[.int .u32 0, .int .u32 0, .int .i64 0, .int .i64 0]) 4 24 Tryz.underlying50 hi0 hz0 hz1 hz2 rfl (by decide) v6 0 _ rfl H6.out.row _ 1 _ (encL yy) rfl rfl (fun j u hu => ⟨_, rfl, World.news_of_block HBk.out j u hu⟩) hone HB.out.2.2.1 HB.out.2.2.2 ?_
                       intro v7 w7 hown7 hgrow7 hat7
                       have H7 := Lib.hid (H6.out.more hown7 hgrow7 hat7)
                       clear hown7 hgrow7 hat7)
                    | (refine step_append_row _ rfl _ _ 50 rfl 81 i0 (.agg #[.int .u32 0, .int .u32 0, .int .i64 0, .int .i64 0]) 4 24 Tryz.underlying50 hi0 hz0 hz1 hz2 rfl (by decide) v7 (0 + 1) _ rfl H7.out.row _ 0 _ [] rfl rfl (no_news rfl) (fun u hu => by cases hu) HB.out.2.2.1 HB.out.2.2.2 ?_
                       intro v8 w8 hown8 hgrow8 hat8
                       have H8 := Lib.hid (H7.out.more hown8 hgrow8 hat8)
                       clear hown8 hgrow8 hat8))
                  all_goals
                    rw [show (([] : List Value) ++ encL yy) ++ [] = [yy].flatMap encL by simp] at H8
                    obtain ⟨a', oc', rfl, k1, k2, k3⟩ := H8.out.lives rfl
                    have HF8 := Lib.hid (And.intro k1 (And.intro k2 (And.intro k3 H8.out.mod)))
                    clear k1 k2 k3
                    go_wp2_with fail
                    go_roundw
                    case rel => exact ⟨i + 1, a', oc', by omega, by rw [HQ.out]; rfl, by go_num, by rw [HQ.out]; exact ⟨HO.out.h.next (H2.out.trans HF8.out.2.2.2 (fun _ _ h => h)), HF8.out.1, HF8.out.2.1.1, HF8.out.2.2.1⟩⟩
                    case measure => simp [intOf]; omega
            · subst hoa
              have HL := Lib.hid HO.out.lvs
              go_wp2_with fail
              go_loopw [11] (fun v11 wr => ∃ k : Nat, k ≤ X.length ∧ v11 = .int .i64 k ∧ Hid (Mod wc wr NoB ∧ LfAt wr g9 0 yy ∧ ∀ (j : Nat) (y : Lf), k ≤ j → X[j]? = some y → lfLt yy y)) (fun v11 _ => (intOf v11).toNat)
              case atStart => exact ⟨X.length, Nat.le_refl _, rfl, HW.out.1, HW.out.2.1, fun j y hj hy => by rw [List.getElem?_eq_none hj] at hy; cases hy⟩
              case round =>
                obtain ⟨k, hk, rfl, HI⟩ := hrel
                obtain ⟨s0, s1, s2, s3⟩ := HI.out.2.1
                simp only [Nat.zero_add] at s1 s2 s3
                by_cases hcont : ∃ (j : Nat) (y : Lf), k = j + 1 ∧ X[j]? = some y ∧ lfLt yy y
                · obtain ⟨j, y, hkj, hy, hlt⟩ := hcont
                  subst hkj
                  have hjl := (List.getElem?_eq_some_iff.1 hy).1
                  obtain ⟨bo', oo', y', hab, hbw, hy', hC⟩ := (HL.out.mod HI.out.1).at hjl
                  cases hab
                  have : y' = y := Option.some.inj (hy'.symm.trans hy)
                  subst this
                  obtain ⟨c0, c1, c2, c3⟩ := hC
                  have hji : (j : Int) < X.length := by omega
                  have hkp : (0 : Int) < (j : Int) + 1 := by omega
                  have hkd : decide ((0 : Int) < (j : Int) + 1) = true := decide_eq_true hkp
                  have hw1 : IntKind.i64.wrap ((j : Int) + 1 - 1) = (j : Int) := by rw [IntWalk.i64_in _ (by omega)]; omega
                  have hw2 : IntKind.i64.wrap (j : Int) = (j : Int) := IntWalk.i64_in _ (by omega)
                  have HB : Hid (∀ z, Calls Tryz.prog 50 #[.agg #[.int .u32 yy.e.u, .int .u32 yy.e.v, .int .i64 yy.fr, .int .i64 yy.to], .agg #[.int .u32 y'.e.u, .int .u32 y'.e.v, .int .i64 y'.fr, .int .i64 y'.to]] z fun r w' => r = .returned (.bool true) ∧ Grw z w') := fun z => by
                    have := lfless_grw z yy.e.u yy.e.v yy.fr yy.to y'.e.u y'.e.v y'.fr y'.to
                    rwa [show decide (lfLt ⟨⟨yy.e.u, yy.e.v⟩, yy.fr, yy.to⟩ ⟨⟨y'.e.u, y'.e.v⟩, y'.fr, y'.to⟩) = true by simpa using hlt] at this
                  have HN : Hid (∀ (i : Nat) (y : Lf), j ≤ i → X[i]? = some y → lfLt yy y) := fun i z hj hz => by
                    rcases Nat.lt_or_ge j i with h | h
                    · exact HI.out.2.2 i z (by omega) hz
                    · have : i = j := by omega
                      subst this; rw [hy] at hz; cases hz; exact hlt
                  have g0 := cg c0
                  have g1 := cg c1
                  have g2 := cg c2
                  have g3 := cg c3
                  have f0 := cg s0
                  have f1 := cg s1
                  have f2 := cg s2
                  have f3 := cg s3
                  clear hy hy' hlt hbw
                  go_upto_region 17 with (fail)
                  go_quiet_grown ((go_at_call 50; exact Calls.byGrw (HB.out _)))
                  have H6 := Lib.hid (Grw.grown wr nq osq).mod
                  go_wp2_with fail
                  go_roundw
                  case rel => exact ⟨j, by omega, rfl, HI.out.1.trans H6.out (fun _ _ h => h), HI.out.2.1.mod H6.out, HN.out⟩
                  case measure => simp [intOf]
                · have hsp : putR lfLt yy X = X.take k ++ yy :: X.drop k := putR_split hk HI.out.2.2 (fun j y hj hy hlt => hcont ⟨j, y, hj, hy, hlt⟩)
                  have HER : Hid (((X.take k).flatMap encL ++ encL yy) ++ (X.drop k).flatMap encL = (putR lfLt yy X).flatMap encL ∧ k + 1 + (X.length - k) = (putR lfLt yy X).length) := by
                    rw [hsp]
                    refine ⟨by simp, by simp; omega⟩
                  have HB : Hid (0 + k ≤ maxLen ∧ (0 + k) * 24 ≤ 140737488355328 ∧ k + 1 ≤ maxLen ∧ (k + 1) * 24 ≤ 140737488355328 ∧ k + 1 + (X.length - k) ≤ maxLen ∧ (k + 1 + (X.length - k)) * 24 ≤ 140737488355328) := by
                    unfold maxLen; exact ⟨by omega, by omega, by omega, by omega, by omega, by omega⟩
                  have hone : ∀ u ∈ encL yy, u.oneCell' = true := by simp [encL, Value.oneCell']
                  have hout : Hid (∀ (j : Nat) (y : Lf), k = j + 1 → X[j]? = some y → ¬ lfLt yy y) := fun j y hj hy hlt => hcont ⟨j, y, hj, hy, hlt⟩
                  clear hcont hsp
                  go_upto_region 17 with (fail)
                  by_cases hk0 : 0 < k
                  focus
                    obtain ⟨j, hkj⟩ : ∃ j, k = j + 1 := ⟨k - 1, by omega⟩
                    subst hkj
                    obtain ⟨bo', oo', y, hab, hbw, hy, hC⟩ := (HL.out.mod HI.out.1).at (show j < X.length by omega)
                    cases hab
                    obtain ⟨c0, c1, c2, c3⟩ := hC
                    have hji : (j : Int) < X.length := by omega
                    have hkp : (0 : Int) < (j : Int) + 1 := by omega
                    have hkd : decide ((0 : Int) < (j : Int) + 1) = true := decide_eq_true hkp
                    have hw1 : IntKind.i64.wrap ((j : Int) + 1 - 1) = (j : Int) := by rw [IntWalk.i64_in _ (by omega)]; omega
                    have hw2 : IntKind.i64.wrap (j : Int) = (j : Int) := IntWalk.i64_in _ (by omega)
                    have HLs : Hid (∀ z, Calls Tryz.prog 50 #[.agg #[.int .u32 yy.e.u, .int .u32 yy.e.v, .int .i64 yy.fr, .int .i64 yy.to], .agg #[.int .u32 y.e.u, .int .u32 y.e.v, .int .i64 y.fr, .int .i64 y.to]] z fun r w' => r = .returned (.bool false) ∧ Grw z w') := fun z => by
                      have := lfless_grw z yy.e.u yy.e.v yy.fr yy.to y.e.u y.e.v y.fr y.to
                      rwa [show decide (lfLt ⟨⟨yy.e.u, yy.e.v⟩, yy.fr, yy.to⟩ ⟨⟨y.e.u, y.e.v⟩, y.fr, y.to⟩) = false by simpa using hout.out j y rfl hy] at this
                    have g0 := cg c0
                    have g1 := cg c1
                    have g2 := cg c2
                    have g3 := cg c3
                    have f0 := cg s0
                    have f1 := cg s1
                    have f2 := cg s2
                    have f3 := cg s3
                    have HY := Lib.hid hy
                    clear hbw hy
                    go_quiet_grown ((go_at_call 50; exact Calls.byGrw (HLs.out _)))
                    generalize hzz : Go.Sort.grow (World.drewN wr _) _ = z3
                    have H6 : Hid (Mod wr z3 NoB) := by rw [← hzz]; exact (Grw.grown wr _ _).mod
                    clear hzz g0 g1 g2 g3 f0 f1 f2 f3
                  rotate_left
                  focus
                    have hkd : decide ((0 : Int) < (k : Int)) = false := decide_eq_false (by omega)
                    have hkd2 : decide (0 < k) = false := decide_eq_false hk0
                    go_quiet (fail)
                    generalize hzz : World.drewN wr _ = z3
                    have H6 : Hid (Mod wr z3 NoB) := by rw [← hzz]; exact (Mod.refl _ _).drewN _
                    clear hzz
                  rotate_left
                  focus
                    have H2 : Hid (Mod wc z3 NoB) := HI.out.1.trans H6.out (fun _ _ h => h)
                    have t0 := keepc s0 H6.out
                    have t1 := keepc s1 H6.out
                    have t2 := keepc s2 H6.out
                    have t3 := keepc s3 H6.out
                    clear s0 s1 s2 s3 H6
                    go_upto_region 19 with (fail)
                    have HE : Hid (∀ z, Mod z3 z NoB → ∀ (i : Nat) (y : Lf), X[i]? = some y → LfAt z bo (oo + i * 4) y) := fun z hz i y hx => by
                      rcases (HL.out.mod H2.out).mod hz with h | ⟨bo', oo', hab, _, h⟩
                      · rw [h] at hx; simp at hx
                      · cases hab; exact h i y hx
                    obtain ⟨q, hq⟩ : ∃ q : Nat, j + 1 = q := ⟨_, rfl⟩
                    rw [show ((j : Int) + 1) = (q : Int) by omega]
                    rw [hq] at HER HB hk
                    have hkc : q ≤ oc := by omega
                    have hkci : (q : Int) ≤ oc := by omega
                    have hkl2 : (q : Int) ≤ X.length := by omega
                    have hk0' : (0 : Int) ≤ (q : Int) := by omega
                    have hlc : (X.length : Int) ≤ oc := by omega
                    have HN : Hid (((X.take q).flatMap encL).length = q * 4 ∧ (∀ z, Mod z3 z NoB → ∀ (j : Nat) (u : Value), ((X.take q).flatMap encL)[j]? = some u → ∃ ad, (some ⟨bo, oo, none⟩ : Option Addr) = some ad ∧ z.cell? (ad.add j) = some u) ∧
                        ((X.drop q).flatMap encL).length = (X.length - q) * 4 ∧ (∀ z, Mod z3 z NoB → ∀ (j : Nat) (u : Value), ((X.drop q).flatMap encL)[j]? = some u → ∃ ad, (if oc = q then some ⟨bo, oo, none⟩ else some ⟨bo, oo + q * 4, none⟩ : Option Addr) = some ad ∧ z.cell? (ad.add j) = some u)) := by
                      refine ⟨by rw [enc4_len encL_len]; simp; omega, fun z hz => lvs_news (p := 0) (HE.out z hz) (by omega), by rw [enc4_len encL_len]; simp, fun z hz j u hu => ?_⟩
                      by_cases hce : oc = q
                      · rw [List.drop_eq_nil_of_le (by omega)] at hu; simp at hu
                      · have := lvs_news (p := q) (m := X.length) (HE.out z hz) rfl j u
                        rw [List.take_of_length_le (by simp)] at this
                        rw [if_neg hce]
                        exact this hu
                    go_region_held3 (fun z => z.cell? ⟨g9, 0, none⟩ = some (.int .u32 yy.e.u) ∧ z.cell? ⟨g9, 1, none⟩ = some (.int .u32 yy.e.v) ∧ z.cell? ⟨g9, 2, none⟩ = some (.int .i64 yy.fr) ∧ z.cell? ⟨g9, 3, none⟩ = some (.int .i64 yy.to))
                      (first | exact ⟨t0, t1, t2, t3⟩ | exact ⟨keepc t0 ((Mod.drew (Mod.refl z3 NoB)).alloc _), keepc t1 ((Mod.drew (Mod.refl z3 NoB)).alloc _), keepc t2 ((Mod.drew (Mod.refl z3 NoB)).alloc _), keepc t3 ((Mod.drew (Mod.refl z3 NoB)).alloc _)⟩ | exact ⟨keepc t0 (H8.out.mod), keepc t1 (H8.out.mod), keepc t2 (H8.out.mod), keepc t3 (H8.out.mod)⟩ | exact ⟨keepc t0 (H7.out.mod), keepc t1 (H7.out.mod), keepc t2 (H7.out.mod), keepc t3 (H7.out.mod)⟩ | exact ⟨keepc t0 (H6.out.mod), keepc t1 (H6.out.mod), keepc t2 (H6.out.mod), keepc t3 (H6.out.mod)⟩ | exact ⟨keepc t0 (H6.out.mod.alloc _), keepc t1 (H6.out.mod.alloc _), keepc t2 (H6.out.mod.alloc _), keepc t3 (H6.out.mod.alloc _)⟩)
                      (first
                      | (refine step_append_row _ rfl _ _ 50 rfl 81 i0 (.agg #[.int .u32 0, .int .u32 0, .int .i64 0, .int .i64 0]) 4 24 Tryz.underlying50 hi0 hz0 hz1 hz2 rfl (by decide) (.slice none 0 0) 0 [] rfl (World.ownsRow_nil _ _ _ _) _ q _ ((X.take q).flatMap encL) rfl HN.out.1 (HN.out.2.1 _ (Mod.drew (Mod.refl _ _))) (encL_one _) HB.out.1 HB.out.2.1 ?_
                         intro v6 w6 hown6 hgrow6 hat6
                         have H6 := Lib.hid ((New.first hown6 hgrow6 hat6).from (Mod.drew (Mod.refl z3 NoB)))
                         clear hown6 hgrow6 hat6)
                      | (refine step_append_row _ rfl _ _ 50 rfl 81 i0 (.agg #[.int .u32 0, .int .u32 0, .int .i64 0, .int .i64 0]) 4 24 Tryz.underlying50 hi0 hz0 hz1 hz2 rfl (by decide) (.slice none 0 0) 0 [] rfl (World.ownsRow_nil _ _ _ _) _ q _ ((X.take q).flatMap encL) rfl HN.out.1 (HN.out.2.1 _ (Mod.drew (Mod.alloc (Mod.refl _ _) _))) (encL_one _) HB.out.1 HB.out.2.1 ?_
                         intro v6 w6 hown6 hgrow6 hat6
                         have HBk := Lib.hid (built_kept (w := z3) hgrow6)
                         have H6 := Lib.hid ((New.first hown6 hgrow6 hat6).from (Mod.drew (Mod.alloc (Mod.refl z3 NoB) _)))
                         clear hown6 hgrow6 hat6)
                      | (refine step_append_row _ rfl _ _ 50 rfl 81 i0 (.agg #[.int .u32 0, .int .u32 0, .int .i64 0, .int .i64 0]) 4 24 Tryz.underlying50 hi0 hz0 hz1 hz2 rfl (by decide) v6 q _ rfl (H6.out.row.alloc _) _ 1 _ (encL yy) rfl rfl (fun j u hu => ⟨_, rfl, World.news_of_block (MapKept.heap_alloc _ _).1 j u hu⟩) hone HB.out.2.2.1 HB.out.2.2.2.1 ?_
                         intro v7 w7 hown7 hgrow7 hat7
                         have H7 := Lib.hid ((H6.out.alloc _).more hown7 hgrow7 hat7)
                         clear hown7 hgrow7 hat7)
                      | (refine step_append_row _ rfl _ _ 50 rfl 81 i0 (.agg #[.int .u32 0, .int .u32 0, .int .i64 0, .int .i64 0]) 4 24 Tryz.underlying50 hi0 hz0 hz1 hz2 rfl (by decide) v6 q _ rfl H6.out.row _ 1 _ (encL yy) rfl rfl (fun j u hu => ⟨_, rfl, World.news_of_block HBk.out j u hu⟩) hone HB.out.2.2.1 HB.out.2.2.2.1 ?_
                         intro v7 w7 hown7 hgrow7 hat7
                         have H7 := Lib.hid (H6.out.more hown7 hgrow7 hat7)
                         clear hown7 hgrow7 hat7)
                      | (refine step_append_row _ rfl _ _ 50 rfl 81 i0 (.agg #[.int .u32 0, .int .u32 0, .int .i64 0, .int .i64 0]) 4 24 Tryz.underlying50 hi0 hz0 hz1 hz2 rfl (by decide) v7 (q + 1) _ rfl H7.out.row _ (X.length - q) _ ((X.drop q).flatMap encL) rfl HN.out.2.2.1 (HN.out.2.2.2 _ H7.out.mod) (encL_one _) HB.out.2.2.2.2.1 HB.out.2.2.2.2.2 ?_
                         intro v8 w8 hown8 hgrow8 hat8
                         have H8 := Lib.hid (H7.out.more hown8 hgrow8 hat8)
                         clear hown8 hgrow8 hat8))
                    all_goals
                      rw [HER.out.1] at H8
                      obtain ⟨a', oc', rfl, k1, k2, k3⟩ := H8.out.lives HER.out.2
                      have HF8 := Lib.hid (And.intro k1 (And.intro k2 (And.intro k3 H8.out.mod)))
                      clear k1 k2 k3
                      go_wp2_with fail
                      go_roundw
                      case rel => exact ⟨i + 1, a', oc', by omega, by rw [HQ.out], by go_num, by rw [HQ.out]; exact ⟨HO.out.h.next (H2.out.trans HF8.out.2.2.2 (fun _ _ h => h)), HF8.out.1, HF8.out.2.1.1, HF8.out.2.2.1⟩⟩
                      case measure => simp [intOf]; omega
                  focus
                    have H2 : Hid (Mod wc z3 NoB) := HI.out.1.trans H6.out (fun _ _ h => h)
                    have t0 := keepc s0 H6.out
                    have t1 := keepc s1 H6.out
                    have t2 := keepc s2 H6.out
                    have t3 := keepc s3 H6.out
                    clear s0 s1 s2 s3 H6
                    go_upto_region 19 with (fail)
                    have HE : Hid (∀ z, Mod z3 z NoB → ∀ (i : Nat) (y : Lf), X[i]? = some y → LfAt z bo (oo + i * 4) y) := fun z hz i y hx => by
                      rcases (HL.out.mod H2.out).mod hz with h | ⟨bo', oo', hab, _, h⟩
                      · rw [h] at hx; simp at hx
                      · cases hab; exact h i y hx
                    obtain ⟨q, hq⟩ : ∃ q : Nat, k = q := ⟨_, rfl⟩
                    rw [show ((k : Int)) = (q : Int) by omega]
                    rw [hq] at HER HB hk
                    have hkc : q ≤ oc := by omega
                    have hkci : (q : Int) ≤ oc := by omega
                    have hkl2 : (q : Int) ≤ X.length := by omega
                    have hk0' : (0 : Int) ≤ (q : Int) := by omega
                    have hlc : (X.length : Int) ≤ oc := by omega
                    have HN : Hid (((X.take q).flatMap encL).length = q * 4 ∧ (∀ z, Mod z3 z NoB → ∀ (j : Nat) (u : Value), ((X.take q).flatMap encL)[j]? = some u → ∃ ad, (some ⟨bo, oo, none⟩ : Option Addr) = some ad ∧ z.cell? (ad.add j) = some u) ∧
                        ((X.drop q).flatMap encL).length = (X.length - q) * 4 ∧ (∀ z, Mod z3 z NoB → ∀ (j : Nat) (u : Value), ((X.drop q).flatMap encL)[j]? = some u → ∃ ad, (if oc = q then some ⟨bo, oo, none⟩ else some ⟨bo, oo + q * 4, none⟩ : Option Addr) = some ad ∧ z.cell? (ad.add j) = some u)) := by
                      refine ⟨by rw [enc4_len encL_len]; simp; omega, fun z hz => lvs_news (p := 0) (HE.out z hz) (by omega), by rw [enc4_len encL_len]; simp, fun z hz j u hu => ?_⟩
                      by_cases hce : oc = q
                      · rw [List.drop_eq_nil_of_le (by omega)] at hu; simp at hu
                      · have := lvs_news (p := q) (m := X.length) (HE.out z hz) rfl j u
                        rw [List.take_of_length_le (by simp)] at this
                        rw [if_neg hce]
                        exact this hu
                    go_region_held3 (fun z => z.cell? ⟨g9, 0, none⟩ = some (.int .u32 yy.e.u) ∧ z.cell? ⟨g9, 1, none⟩ = some (.int .u32 yy.e.v) ∧ z.cell? ⟨g9, 2, none⟩ = some (.int .i64 yy.fr) ∧ z.cell? ⟨g9, 3, none⟩ = some (.int .i64 yy.to))
                      (first | exact ⟨t0, t1, t2, t3⟩ | exact ⟨keepc t0 ((Mod.drew (Mod.refl z3 NoB)).alloc _), keepc t1 ((Mod.drew (Mod.refl z3 NoB)).alloc _), keepc t2 ((Mod.drew (Mod.refl z3 NoB)).alloc _), keepc t3 ((Mod.drew (Mod.refl z3 NoB)).alloc _)⟩ | exact ⟨keepc t0 (H8.out.mod), keepc t1 (H8.out.mod), keepc t2 (H8.out.mod), keepc t3 (H8.out.mod)⟩ | exact ⟨keepc t0 (H7.out.mod), keepc t1 (H7.out.mod), keepc t2 (H7.out.mod), keepc t3 (H7.out.mod)⟩ | exact ⟨keepc t0 (H6.out.mod), keepc t1 (H6.out.mod), keepc t2 (H6.out.mod), keepc t3 (H6.out.mod)⟩ | exact ⟨keepc t0 (H6.out.mod.alloc _), keepc t1 (H6.out.mod.alloc _), keepc t2 (H6.out.mod.alloc _), keepc t3 (H6.out.mod.alloc _)⟩)
                      (first
                      | (refine step_append_row _ rfl _ _ 50 rfl 81 i0 (.agg #[.int .u32 0, .int .u32 0, .int .i64 0, .int .i64 0]) 4 24 Tryz.underlying50 hi0 hz0 hz1 hz2 rfl (by decide) (.slice none 0 0) 0 [] rfl (World.ownsRow_nil _ _ _ _) _ q _ ((X.take q).flatMap encL) rfl HN.out.1 (HN.out.2.1 _ (Mod.drew (Mod.refl _ _))) (encL_one _) HB.out.1 HB.out.2.1 ?_
                         intro v6 w6 hown6 hgrow6 hat6
                         have H6 := Lib.hid ((New.first hown6 hgrow6 hat6).from (Mod.drew (Mod.refl z3 NoB)))
                         clear hown6 hgrow6 hat6)
                      | (refine step_append_row _ rfl _ _ 50 rfl 81 i0 (.agg #[.int .u32 0, .int .u32 0, .int .i64 0, .int .i64 0]) 4 24 Tryz.underlying50 hi0 hz0 hz1 hz2 rfl (by decide) (.slice none 0 0) 0 [] rfl (World.ownsRow_nil _ _ _ _) _ q _ ((X.take q).flatMap encL) rfl HN.out.1 (HN.out.2.1 _ (Mod.drew (Mod.alloc (Mod.refl _ _) _))) (encL_one _) HB.out.1 HB.out.2.1 ?_
                         intro v6 w6 hown6 hgrow6 hat6
                         have HBk := Lib.hid (built_kept (w := z3) hgrow6)
                         have H6 := Lib.hid ((New.first hown6 hgrow6 hat6).from (Mod.drew (Mod.alloc (Mod.refl z3 NoB) _)))
                         clear hown6 hgrow6 hat6)
                      | (refine step_append_row _ rfl _ _ 50 rfl 81 i0 (.agg #[.int .u32 0, .int .u32 0, .int .i64 0, .int .i64 0]) 4 24 Tryz.underlying50 hi0 hz0 hz1 hz2 rfl (by decide) v6 q _ rfl (H6.out.row.alloc _) _ 1 _ (encL yy) rfl rfl (fun j u hu => ⟨_, rfl, World.news_of_block (MapKept.heap_alloc _ _).1 j u hu⟩) hone HB.out.2.2.1 HB.out.2.2.2.1 ?_
                         intro v7 w7 hown7 hgrow7 hat7
                         have H7 := Lib.hid ((H6.out.alloc _).more hown7 hgrow7 hat7)
                         clear hown7 hgrow7 hat7)
                      | (refine step_append_row _ rfl _ _ 50 rfl 81 i0 (.agg #[.int .u32 0, .int .u32 0, .int .i64 0, .int .i64 0]) 4 24 Tryz.underlying50 hi0 hz0 hz1 hz2 rfl (by decide) v6 q _ rfl H6.out.row _ 1 _ (encL yy) rfl rfl (fun j u hu => ⟨_, rfl, World.news_of_block HBk.out j u hu⟩) hone HB.out.2.2.1 HB.out.2.2.2.1 ?_
                         intro v7 w7 hown7 hgrow7 hat7
                         have H7 := Lib.hid (H6.out.more hown7 hgrow7 hat7)
                         clear hown7 hgrow7 hat7)
                      | (refine step_append_row _ rfl _ _ 50 rfl 81 i0 (.agg #[.int .u32 0, .int .u32 0, .int .i64 0, .int .i64 0]) 4 24 Tryz.underlying50 hi0 hz0 hz1 hz2 rfl (by decide) v7 (q + 1) _ rfl H7.out.row _ (X.length - q) _ ((X.drop q).flatMap encL) rfl HN.out.2.2.1 (HN.out.2.2.2 _ H7.out.mod) (encL_one _) HB.out.2.2.2.2.1 HB.out.2.2.2.2.2 ?_
                         intro v8 w8 hown8 hgrow8 hat8
                         have H8 := Lib.hid (H7.out.more hown8 hgrow8 hat8)
                         clear hown8 hgrow8 hat8))
                    all_goals
                      rw [HER.out.1] at H8
                      obtain ⟨a', oc', rfl, k1, k2, k3⟩ := H8.out.lives HER.out.2
                      have HF8 := Lib.hid (And.intro k1 (And.intro k2 (And.intro k3 H8.out.mod)))
                      clear k1 k2 k3
                      go_wp2_with fail
                      go_roundw
                      case rel => exact ⟨i + 1, a', oc', by omega, by rw [HQ.out], by go_num, by rw [HQ.out]; exact ⟨HO.out.h.next (H2.out.trans HF8.out.2.2.2 (fun _ _ h => h)), HF8.out.1, HF8.out.2.1.1, HF8.out.2.2.1⟩⟩
                      case measure => simp [intOf]; omega

      · have hil : i = l.length := by omega
        subst hil
        go_wp2_with fail
        rw [rawI_all] at HI
        go_ret2
        exact ⟨oa, oc, by rw [rawI_all]; rfl, HI.out.lvs, HI.out.h.mod⟩
  · have hof : ofL n l = [] := by unfold ofL; rw [if_neg hz]
    obtain ⟨r1, hr1⟩ : ∃ r1, (chk n l).1 = r1 := ⟨_, rfl⟩
    obtain ⟨r2, hr2⟩ : ∃ r2, (chk n l).2 = r2 := ⟨_, rfl⟩
    rw [hof, hr2]
    rw [hr1, hr2] at HCK
    have hne : ((r2 : Int) != 0) = true := by rw [← hr2]; simpa using hz
    clear hof hr1 hr2 hz
    go_enter Tryz.func17, Tryz.ntmps17
    go_wp2_with fail
    rw [← hW, ← hh0]
    clear hW hh0
    refine (HCK.out _ HH0.out.evs).mono ?_
    rintro e w1 ⟨rfl, hm⟩
    have HM := Lib.hid (HH0.out.mod.trans hm (fun _ _ c => c))
    clear hm c0 c1 HCK HH0
    go_wp2_with fail
    go_ret2
    exact ⟨none, 0, rfl, Or.inl rfl, HM.out⟩
end Go.Proofs.YtppambkffgmkgaaGreatDoor
end

section
/- What a parser keeps in memory: its results' blocks, its history, whose events lie in a row of its own. -/
namespace Go.Proofs.YtppambkffgmkgaaGreatDoor
open Go.RowKit
set_option linter.unusedVariables false

structure PSt (w wr : World) (g2 g3 g6 : Nat) (K : Nat → Prop) (n : Int) (oa : Option Addr) (oc : Nat) (F : List Ev) : Prop where
  z0 : wr.cell? ⟨g2, 0, none⟩ = some (.int .u64 0)
  z1 : wr.cell? ⟨g2, 1, none⟩ = some (.slice none 0 0)
  p0 : wr.cell? ⟨g3, 0, none⟩ = some (.int .i64 0)
  p1 : wr.cell? ⟨g3, 1, none⟩ = some (.int .i64 0)
  q0 : wr.cell? ⟨g6, 0, none⟩ = some (.int .u64 n)
  q1 : wr.cell? ⟨g6, 1, none⟩ = some (.slice oa F.length oc)
  f2 : ∀ j, wr.frozen? ⟨g2, j, none⟩ = false
  f3 : ∀ j, wr.frozen? ⟨g3, j, none⟩ = false
  f6 : ∀ j, wr.frozen? ⟨g6, j, none⟩ = false
  row : wr.ownsRow 0 62 4 (.slice oa F.length oc) F.length (F.flatMap encV)
  mod : Mod w wr NoB
  sep : ∀ q, (Value.slice oa F.length oc).ownBlock = some q → w.heap.size ≤ q ∧ q ≠ g2 ∧ q ≠ g3 ∧ q ≠ g6 ∧ ¬ K q
  y : w.heap.size ≤ g2 ∧ w.heap.size ≤ g3 ∧ w.heap.size ≤ g6
  d : g2 ≠ g3 ∧ g2 ≠ g6 ∧ g3 ≠ g6
  ky : ∀ q, K q → w.heap.size ≤ q ∧ q < wr.heap.size ∧ q ≠ g2 ∧ q ≠ g3 ∧ q ≠ g6
theorem frozenS {S : Nat → Prop} {w w' : World} (hm : Mod w w' S) {g j : Nat} {v : Value} {i : Nat} (c : w.cell? ⟨g, i, none⟩ = some v) (hs : ¬ S g) (h : w.frozen? ⟨g, j, none⟩ = false) : w'.frozen? ⟨g, j, none⟩ = false :=
  (hm.frozen (p := ⟨g, j, none⟩) (by have := World.block_lt_of_cell? _ _ c; exact this) hs).trans h
theorem PSt.keep {S : Nat → Prop} {w wr w' : World} {g2 g3 g6 : Nat} {K : Nat → Prop} {n : Int} {oa : Option Addr} {oc : Nat} {F : List Ev} (h : PSt w wr g2 g3 g6 K n oa oc F) (hm : Mod wr w' S) (hS : ∀ q, S q → K q) : PSt w w' g2 g3 g6 K n oa oc F := by
  have n2 : ¬ S g2 := fun c => (h.ky g2 (hS _ c)).2.2.1 rfl
  have n3 : ¬ S g3 := fun c => (h.ky g3 (hS _ c)).2.2.2.1 rfl
  have n6 : ¬ S g6 := fun c => (h.ky g6 (hS _ c)).2.2.2.2 rfl
  exact ⟨keepS h.z0 hm n2, keepS h.z1 hm n2, keepS h.p0 hm n3, keepS h.p1 hm n3, keepS h.q0 hm n6, keepS h.q1 hm n6, fun j => frozenS hm h.z0 n2 (h.f2 j), fun j => frozenS hm h.p0 n3 (h.f3 j), fun j => frozenS hm h.q0 n6 (h.f6 j),
    hm.row h.row (fun q hq c => (h.sep q hq).2.2.2.2 (hS _ c)), h.mod.trans hm (fun i hi c => absurd hi (Nat.not_lt.2 (h.ky i (hS _ c)).1)), h.sep, h.y, h.d, fun q hq => ⟨(h.ky q hq).1, Nat.lt_of_lt_of_le (h.ky q hq).2.1 hm.size, (h.ky q hq).2.2⟩⟩
theorem PSt.evs {w wr : World} {g2 g3 g6 : Nat} {K : Nat → Prop} {n : Int} {oa : Option Addr} {oc : Nat} {F : List Ev} (h : PSt w wr g2 g3 g6 K n oa oc F) : Evs wr oa F := evs_of_row rfl h.row
/-- One event more. -/
theorem PSt.app {w wr w8 : World} {g2 g3 g6 : Nat} {K : Nat → Prop} {n : Int} {oa a8 : Option Addr} {oc c8 : Nat} {F : List Ev} {x : Ev} {o : Obj} (h : PSt w wr g2 g3 g6 K n oa oc F)
    (hown : w8.ownsRow 0 62 4 (.slice a8 (F.length + 1) c8) (F.length + 1) (F.flatMap encV ++ encV x)) (hgrow : (wr.alloc o).grownBy w8 (Value.slice oa F.length oc).ownBlock) (hat : (Value.slice a8 (F.length + 1) c8).ownBlock = (Value.slice oa F.length oc).ownBlock ∨ (Value.slice a8 (F.length + 1) c8).ownBlock = some (wr.alloc o).heap.size) :
    PSt w (w8.setCell ⟨g6, 1, none⟩ (.slice a8 (F.length + 1) c8)) g2 g3 g6 K n a8 c8 (F ++ [x]) := by
  have hm8 : Mod wr w8 (fun q => (Value.slice oa F.length oc).ownBlock = some q) := ((Mod.refl _ _).alloc o).grown hgrow (fun k hk _ => hk)
  have l2 : g2 < wr.heap.size := by have := World.block_lt_of_cell? _ _ h.z0; exact this
  have l3 : g3 < wr.heap.size := by have := World.block_lt_of_cell? _ _ h.p0; exact this
  have l6 : g6 < wr.heap.size := by have := World.block_lt_of_cell? _ _ h.q0; exact this
  have n2 : ¬ (Value.slice oa F.length oc).ownBlock = some g2 := fun c => (h.sep _ c).2.1 rfl
  have n3 : ¬ (Value.slice oa F.length oc).ownBlock = some g3 := fun c => (h.sep _ c).2.2.1 rfl
  have n6 : ¬ (Value.slice oa F.length oc).ownBlock = some g6 := fun c => (h.sep _ c).2.2.2.1 rfl
  have e8 : ∀ q, (Value.slice a8 (F.length + 1) c8).ownBlock = some q → w.heap.size ≤ q ∧ q ≠ g2 ∧ q ≠ g3 ∧ q ≠ g6 ∧ ¬ K q := by
    intro q hq
    rcases hat with c | c
    · exact h.sep q (c.symm.trans hq)
    · have e1 : q = (wr.alloc o).heap.size := Option.some.inj (hq.symm.trans c)
      have e2 : (wr.alloc o).heap.size = wr.heap.size + 1 := by simp
      have e3 := h.mod.size
      exact ⟨by omega, by omega, by omega, by omega, fun hk => by have := (h.ky q hk).2.1; omega⟩
  have hs : Mod w8 (w8.setCell ⟨g6, 1, none⟩ (.slice a8 (F.length + 1) c8)) (OneB g6) := Mod.set1 w8 g6 1 _
  have m2 : ¬ OneB g6 g2 := fun c => h.d.2.1 c
  have m3 : ¬ OneB g6 g3 := fun c => h.d.2.2 c
  have hlen : (F ++ [x]).length = F.length + 1 := by simp
  refine ⟨keepS (keepS h.z0 hm8 n2) hs m2, keepS (keepS h.z1 hm8 n2) hs m2, keepS (keepS h.p0 hm8 n3) hs m3, keepS (keepS h.p1 hm8 n3) hs m3, ?_, ?_, fun j => by rw [World.frozen?_setCell]; exact frozenS hm8 h.z0 n2 (h.f2 j), fun j => by rw [World.frozen?_setCell]; exact frozenS hm8 h.p0 n3 (h.f3 j),
    fun j => by rw [World.frozen?_setCell]; exact frozenS hm8 h.q0 n6 (h.f6 j), ?_, ?_, ?_, h.y, h.d, fun q hq => ⟨(h.ky q hq).1, Nat.lt_of_lt_of_le (h.ky q hq).2.1 (Nat.le_trans hm8.size hs.size), (h.ky q hq).2.2⟩⟩
  · rw [World.cell?_setCell_other _ _ _ _ (by simp)]; exact keepS h.q0 hm8 n6
  · rw [hlen]; exact World.cell?_setCell_same _ _ _ (keepS h.q1 hm8 n6)
  · rw [hlen, List.flatMap_append]
    have : ([x] : List Ev).flatMap encV = encV x := by simp
    rw [this]
    exact hs.row hown (fun q hq c => (e8 q hq).2.2.2.1 c)
  · refine (h.mod.trans hm8 (fun i hi c => absurd hi (Nat.not_lt.2 (h.sep i c).1))).trans hs (fun i hi c => ?_)
    have e : i = g6 := c
    have := h.y.2.2
    omega
  · rw [hlen]; exact e8
/-- What an append leaves alone. -/
theorem PSt.appc {w wr w8 : World} {g2 g3 g6 : Nat} {K : Nat → Prop} {n : Int} {oa : Option Addr} {oc : Nat} {F : List Ev} {o : Obj} (h : PSt w wr g2 g3 g6 K n oa oc F)
    (hgrow : (wr.alloc o).grownBy w8 (Value.slice oa F.length oc).ownBlock) : w8.cell? ⟨g6, 1, none⟩ = some (.slice oa F.length oc) ∧ w8.frozen? ⟨g6, 1, none⟩ = false ∧ Mod wr w8 (fun q => (Value.slice oa F.length oc).ownBlock = some q) := by
  have hm8 : Mod wr w8 (fun q => (Value.slice oa F.length oc).ownBlock = some q) := ((Mod.refl _ _).alloc o).grown hgrow (fun k hk _ => hk)
  have n6 : ¬ (Value.slice oa F.length oc).ownBlock = some g6 := fun c => (h.sep _ c).2.2.2.1 rfl
  exact ⟨keepS h.q1 hm8 n6, frozenS hm8 h.q0 n6 (h.f6 1), hm8⟩
end Go.Proofs.YtppambkffgmkgaaGreatDoor
end

section
/- The contract of logfmt.Parse. -/
namespace Go.Proofs.YtppambkffgmkgaaGreatDoor
open Go.RowKit
set_option linter.unusedVariables false

/-- The results' blocks at the start. -/
structure PS0 (w wr : World) (g2 g3 : Nat) : Prop where
  z0 : wr.cell? ⟨g2, 0, none⟩ = some (.int .u64 0)
  z1 : wr.cell? ⟨g2, 1, none⟩ = some (.slice none 0 0)
  p0 : wr.cell? ⟨g3, 0, none⟩ = some (.int .i64 0)
  p1 : wr.cell? ⟨g3, 1, none⟩ = some (.int .i64 0)
  f2 : ∀ j, wr.frozen? ⟨g2, j, none⟩ = false
  f3 : ∀ j, wr.frozen? ⟨g3, j, none⟩ = false
  mod : Mod w wr NoB
  y : w.heap.size ≤ g2 ∧ w.heap.size ≤ g3
  d : g2 ≠ g3
theorem PS0.keep {S : Nat → Prop} {w wr w' : World} {g2 g3 : Nat} (h : PS0 w wr g2 g3) (hm : Mod wr w' S) (hS : ∀ q, S q → w.heap.size ≤ q ∧ q ≠ g2 ∧ q ≠ g3) : PS0 w w' g2 g3 := by
  have n2 : ¬ S g2 := fun c => (hS g2 c).2.1 rfl
  have n3 : ¬ S g3 := fun c => (hS g3 c).2.2 rfl
  exact ⟨keepS h.z0 hm n2, keepS h.z1 hm n2, keepS h.p0 hm n3, keepS h.p1 hm n3, fun j => frozenS hm h.z0 n2 (h.f2 j), fun j => frozenS hm h.p0 n3 (h.f3 j), h.mod.trans hm (fun i hi c => absurd hi (Nat.not_lt.2 (hS i c).1)), h.y, h.d⟩
theorem PS0.start {w : World} : PS0 w ((w.alloc (.cells #[.int .u64 0, .slice none 0 0] 25)).alloc (.cells #[.int .i64 0, .int .i64 0] 38)) w.heap.size (w.heap.size + 1) := by
  have hs1 : (w.alloc (.cells #[.int .u64 0, .slice none 0 0] 25)).heap.size = w.heap.size + 1 := by simp
  have lt : w.heap.size < (w.alloc (.cells #[.int .u64 0, .slice none 0 0] 25)).heap.size := by rw [hs1]; omega
  exact ⟨(World.cell?_alloc_lt _ _ _ lt).trans (World.cell?_alloc_at _ _ _ _ rfl), (World.cell?_alloc_lt _ _ _ lt).trans (World.cell?_alloc_at _ _ _ _ rfl), World.cell?_alloc_at _ _ _ _ hs1.symm, World.cell?_alloc_at _ _ _ _ hs1.symm,
    fun j => (((Mod.refl _ NoB).alloc _).frozen (p := ⟨w.heap.size, j, none⟩) lt (by simp [NoB])).trans (frozen_alloc_at _ _ _ _ _ rfl), fun j => frozen_alloc_at _ _ _ _ _ hs1.symm, ((Mod.refl _ _).alloc _).alloc _, ⟨Nat.le_refl _, Nat.le_succ _⟩, by omega⟩
theorem PS0.lt {w wr : World} {g2 g3 : Nat} (h : PS0 w wr g2 g3) : g2 < wr.heap.size ∧ g3 < wr.heap.size := ⟨World.block_lt_of_cell? _ _ h.z0, World.block_lt_of_cell? _ _ h.p0⟩
/-- The history's own block is laid. -/
theorem PS0.pst {w wr : World} {g2 g3 : Nat} (h : PS0 w wr g2 g3) (n : Int) (K : Nat → Prop) (hK : ∀ q, K q → w.heap.size ≤ q ∧ q < wr.heap.size ∧ q ≠ g2 ∧ q ≠ g3) : PSt w (wr.alloc (.cells #[.int .u64 n, .slice none 0 0] 25)) g2 g3 wr.heap.size K n none 0 [] := by
  have hm : Mod wr (wr.alloc (.cells #[.int .u64 n, .slice none 0 0] 25)) NoB := (Mod.refl _ _).alloc _
  have hh := h.keep hm (fun q c => c.elim)
  have hl := h.lt
  exact ⟨hh.z0, hh.z1, hh.p0, hh.p1, World.cell?_alloc_at _ _ _ _ rfl, World.cell?_alloc_at _ _ _ _ rfl, hh.f2, hh.f3, fun j => frozen_alloc_at _ _ _ _ _ rfl, World.ownsRow_nil _ _ _ _, hh.mod, (fun q hq => by cases hq), ⟨h.y.1, h.y.2, h.mod.size⟩, ⟨h.d, by omega, by omega⟩,
    fun q hq => ⟨(hK q hq).1, Nat.lt_of_lt_of_le (hK q hq).2.1 hm.size, (hK q hq).2.2.1, (hK q hq).2.2.2, by have := (hK q hq).2.1; omega⟩⟩
/-- What goes out at last. -/
theorem PSt.fin {w wr : World} {g2 g3 g6 : Nat} {K : Nat → Prop} {n : Int} {oa : Option Addr} {oc : Nat} {F : List Ev} (h : PSt w wr g2 g3 g6 K n oa oc F) (u : Int) (v : Value) (a b : Int) :
    let W := (((wr.setCell ⟨g2, 0, none⟩ (.int .u64 u)).setCell ⟨g2, 1, none⟩ v).setCell ⟨g3, 0, none⟩ (.int .i64 a)).setCell ⟨g3, 1, none⟩ (.int .i64 b)
    (W.cell? ⟨g2, 0, none⟩ = some (.int .u64 u) ∧ W.cell? ⟨g2, 1, none⟩ = some v ∧ W.cell? ⟨g3, 0, none⟩ = some (.int .i64 a) ∧ W.cell? ⟨g3, 1, none⟩ = some (.int .i64 b)) ∧ Mod w W NoB ∧ Evs W oa F := by
  intro W
  have hm : Mod wr W (fun q => q = g2 ∨ q = g3) := ((((Mod.refl wr (fun q => q = g2 ∨ q = g3)).setS (i := 0) (Or.inl rfl) _).setS (i := 1) (Or.inl rfl) _).setS (i := 0) (Or.inr rfl) _).setS (i := 1) (Or.inr rfl) _
  have o : ∀ (z : World) (g g' i j : Nat) (v : Value), (g ≠ g' ∨ i ≠ j) → (z.setCell ⟨g, i, none⟩ v).cell? ⟨g', j, none⟩ = z.cell? ⟨g', j, none⟩ := fun z g g' i j v hij => World.cell?_setCell_other _ _ _ _ (by intro c; cases c; rcases hij with c | c <;> exact c rfl)
  refine ⟨⟨?_, ?_, ?_, ?_⟩, h.mod.trans hm (fun i hi c => by
    have h1 := h.y.1
    have h2 := h.y.2.1
    rcases c with c | c
    · omega
    · omega), ?_⟩
  · rw [o _ g3 g2 1 0 _ (Or.inl h.d.1.symm), o _ g3 g2 0 0 _ (Or.inl h.d.1.symm), o _ g2 g2 1 0 _ (Or.inr (by decide))]; exact World.cell?_setCell_same _ _ _ h.z0
  · rw [o _ g3 g2 1 1 _ (Or.inl h.d.1.symm), o _ g3 g2 0 1 _ (Or.inl h.d.1.symm)]; exact World.cell?_setCell_same _ _ _ ((o _ g2 g2 0 1 _ (Or.inr (by decide))).trans h.z1)
  · rw [o _ g3 g3 1 0 _ (Or.inr (by decide))]; exact World.cell?_setCell_same _ _ _ ((o _ g2 g3 1 0 _ (Or.inl h.d.1)).trans ((o _ g2 g3 0 0 _ (Or.inl h.d.1)).trans h.p0))
  · exact World.cell?_setCell_same _ _ _ ((o _ g3 g3 0 1 _ (Or.inr (by decide))).trans ((o _ g2 g3 1 1 _ (Or.inl h.d.1)).trans ((o _ g2 g3 0 1 _ (Or.inl h.d.1)).trans h.p1)))
  · refine evs_of_row rfl (hm.row h.row (fun q hq c => ?_))
    rcases c with c | c
    · exact (h.sep q hq).2.1 c
    · exact (h.sep q hq).2.2.1 c
/-- How much text is left, told by the memory. -/
def lenAt (w : World) (g : Nat) : Nat := match w.cell? ⟨g, 0, none⟩ with | some (.string t) => t.size | _ => 0
theorem ScA.len {w : World} {g : Nat} {st : SS} (h : ScA w g st) : lenAt w g = st.l.length := by
  obtain ⟨s, h1, h2⟩ := h
  unfold lenAt
  rw [h1.cells.1, ← h2, L_len]

/-- What stands at the loop. -/
structure LSt (w wr : World) (g2 g3 g6 gs m : Nat) (n : Int) (oa : Option Addr) (oc : Nat) (F : List Ev) (st : SS) (k : Nat) (R : List Ev × (Int × Int) × Int) : Prop where
  pst : PSt w wr g2 g3 g6 (fun q => q = gs ∨ q = m) n oa oc F
  sc : ScA wr gs st
  map : EMap wr m (.bool false) (fun e => .bool (thereOf F e))
  pl : plF n k F st = R
  lt : st.l.length < k
  sz : F.length + st.l.length ≤ 40000

end Go.Proofs.YtppambkffgmkgaaGreatDoor
end
