/- The law TreapTurns: the walk. -/
import Derived.Test.YtlmbkmjjiebpbaaTrT
import Derived.Test.YtlmbkmjjiebpbaaArgs
import Derived.Deep.RegionHeld3
namespace Go.Proofs.Ytlmbkmjjiebpbaa
open Go.RowKit
set_option linter.unusedVariables false

theorem RowT.cells {w : World} {v : Value} {l : List Nat} {T : Nat → Prop} (h : RowT v l w T) (hl : 0 < l.length) :
    ∃ b cap, v = .slice (some ⟨b, 0, none⟩) l.length cap ∧ b < w.heap.size ∧ l.length ≤ cap ∧ cap ≤ 2 ^ 63 - 1 ∧ ∀ j, j < l.length → w.cell? ⟨b, j, none⟩ = some (.int .i64 ((l.getD j 0 : Nat) : Int)) := by
  obtain ⟨b, cap, rfl, hc, _, h1, h2⟩ := row_open h.1 hl
  have key : ∀ j, j < l.length → w.cell? ⟨b, j, none⟩ = some (.int .i64 ((l.getD j 0 : Nat) : Int)) := fun j hj => hc j _ (by simp [nums, hj])
  exact ⟨b, cap, rfl, World.block_lt_of_cell? _ _ (key 0 hl), h1, by unfold maxLen at h2; exact h2, key⟩

theorem RowT.at {w : World} {b n cap : Nat} {l : List Nat} {T : Nat → Prop} (h : RowT (.slice (some ⟨b, 0, none⟩) n cap) l w T) (hn : n = l.length) {j : Nat} (hj : j < l.length) : w.cell? ⟨b, j, none⟩ = some (.int .i64 ((l.getD j 0 : Nat) : Int)) := by
  subst hn
  rw [World.ownsRow.cellAt h.1 j (by omega)]
  simp [nums, hj]

theorem ints_row {w0 w : World} {g n : Nat} {L : List (List Nat)} {v u : Value} {l : List Nat} {U : Nat → Prop} (h : Duo w0 w (ArT g n L) (RowT u l)) (hv : Rd w U v l) :
    Calls Try.prog 21 #[v, u] w fun e w' => e = .returned (.bool true) ∧ ∃ k, w' = w.drewN k := by
  obtain ⟨T, hT⟩ := h.swap.left
  obtain ⟨_, _, _, hl, _⟩ := id hv
  exact ints_eq _ _ _ _ _ l hv (hT.1.rd hl)

theorem nums_one (l : List Nat) : ∀ u ∈ nums l, u.oneCell' = true := fun u hu => by
  obtain ⟨x, _, rfl⟩ := List.mem_map.1 hu
  rfl

theorem turned {w0 w5 w6 w7 : World} {P : World → (Nat → Prop) → Prop} (hP : Framed P) {v : Value} {l l' : List Nat} {g1 g2 n cap2 : Nat} (h : Duo w0 w5 P (RowT v l)) (hg1 : w5.drew.grownBy w6 none) (hat1 : g1 = w5.heap.size)
    (hown2 : w7.ownsRow 0 3 1 (.slice (some ⟨g2, 0, none⟩) n cap2) n (nums l')) (hl' : l'.length = n) (hg2 : w6.grownBy w7 (some g1)) (hat2 : some g1 = some g2 ∨ g2 = w6.heap.size) (hlt2 : g2 < w7.heap.size) :
    Duo w0 w7 P (RowT (.slice (some ⟨g2, 0, none⟩) n cap2) l') := by
  have h6 : Mod w5 w6 NoB := ⟨hg1.os, hg1.tape, hg1.output, hg1.size, fun k hk _ => hg1.block k hk (by simp)⟩
  have h7 : Mod w5 w7 NoB := h6.grown hg2 (fun k hk hlt => by simp at hk; omega)
  subst hl'
  refine h.drop.beside hP (T := fun k => w5.heap.size ≤ k ∧ k < w7.heap.size) h7 ⟨hown2, fun k hk => ?_⟩ (fun _ h => h)
  simp [Value.ownBlock] at hk
  subst hk
  refine ⟨?_, hlt2⟩
  rcases hat2 with e | e
  · simp at e; omega
  · have := h6.size; omega

set_option maxHeartbeats 8000000 in
set_option maxRecDepth 100000 in
theorem turns_walk (a0 : Int) (a1 : Int) (a2 : Option Addr) (len2 cap2 : Nat) (z2 : List Int) (w : World) (w1 : (Lit.int .u8 a1).wf = true) (w2 : IsRow .u8 w a2 len2 cap2 z2) (h40 : len2 ≤ 40) :
    Calls Try.prog 4 #[.int .u64 a0, .int .u8 a1, .slice a2 len2 cap2] w fun e w' => e = .returned (.bool true) ∧ Below w.heap.size w w' := by
  obtain ⟨b10, b11⟩ := bounds_u8 w1
  have hd0 : decide ((40 : Int) < (len2 : Int)) = false := by simp; omega
  have HA := Lib.hid w2
  clear w1 w2
  obtain ⟨k, hk⟩ : ∃ k : Nat, (k : Int) = a1 % 60 + 1 := ⟨(a1 % 60 + 1).toNat, by omega⟩
  have hk1 : 1 ≤ k := by omega
  have hk2 : k ≤ 60 := by omega
  have htm : (a1).tmod 60 = a1 % 60 := Int.tmod_eq_emod_of_nonneg b10
  obtain ⟨i0, hi, hz0, hz1, hz2⟩ := info_parts info_int
  have hone : ∀ (x : Int), ∀ u ∈ [Value.int .i64 x], u.oneCell' = true := fun x => by simp [Value.oneCell']
  go_enter Try.func4, Try.ntmps4
  go_wp2_with fail
  refine (known_any _).mono ?_
  rintro e w1 ⟨rfl, hM1⟩
  have HM1 := Lib.hid hM1
  clear hM1
  go_wp2_with fail
  refine (d_new w _ HM1.out _).mono ?_
  rintro e w2 ⟨g, rfl, h1, -, -⟩
  have H : Hid (Duo w w2 (ArT g 0 []) (RowT (.slice none 0 0) [])) := h1.beside (ArT.framed _ _ _) (Mod.refl _ _) (T := NoB) ⟨World.ownsRow_nil _ _ _ _, by simp [Value.ownBlock]⟩ (by simp [NoB])
  clear h1 HM1
  rw [← hk]
  clear hk htm
  go_wp2_with fail
  go_loopw [9, 10] (fun v0 i wr => ∃ (v : Value) (j : Nat), v = v0 ∧ j ≤ k ∧ i = .int .i64 j ∧ Hid (Duo w wr (ArT g j (chain j)) (RowT v (seg 0 j)))) (fun _ i _ => k - (intOf i).toNat)
  case atStart => exact ⟨_, 0, rfl, Nat.zero_le _, rfl, H.out⟩
  case round =>
    clear H
    obtain ⟨v, j, rfl, hj, rfl, HR⟩ := hrel
    by_cases hlt : j < k
    · have hlt2 : (j : Int) < k := by omega
      have hjj : ((j : Int) != (j : Int)) = false := by simp
      have hlen : (seg 0 j).length = j := by rw [seg_len]; omega
      have hB1 : j + 1 ≤ maxLen := by unfold maxLen; omega
      have hB2 : (j + 1) * 8 ≤ 140737488355328 := by omega
      by_cases h0 : j = 0
      focus
        have H0 : Hid (Duo w wr (ArT g 0 []) (RowT v (seg 0 j))) := by
          have := HR.out; rw [h0] at this ⊢; exact this
        have hj0 : (j : Int) = 0 := by omega
        have hdj : decide ((0 : Int) < (j : Int)) = false := by simp; omega
        have hdj2 : decide (0 < j) = false := by simp; omega
        have hdj3 : ¬ (0 < j) := by omega
        have HJ := Lib.hid h0
        have HJ0 := Lib.hid hj0
        clear h0 hj0
        go_wp2_with fail
        refine (j_node H0.out (RowT.framed _ _) (by omega) (m := (j : Int)) (by rw [HJ0.out]; rfl) (n' := 1) rfl (L' := [[0]]) rfl).mono ?_
        rintro e w5 ⟨rfl, h1⟩
        have H5 : Hid (Duo w w5 (ArT g (j + 1) (chain (j + 1))) (RowT v (seg 0 j))) := by rw [HJ.out]; rw [HJ.out] at h1; exact h1
        clear h1 H0 HR
      rotate_left
      focus
        have hdj : decide ((0 : Int) < (j : Int)) = true := by simp; omega
        have hch := chain_succ (i := j) (by omega) 0 (by omega) 0 (j : Int) rfl rfl
        have HC := Lib.hid hch
        have hj1 : 0 < (j : Int) := by omega
        clear h0 hch
        go_wp2_with fail
        refine (d_node HR.out (RowT.framed _ _) (by omega)).mono ?_
        rintro e w4 ⟨rfl, h1⟩
        have H4 := Lib.hid h1
        clear h1
        go_wp2_with fail
        refine (j_join H4.out (RowT.framed _ _) HC.out).mono ?_
        rintro e w5 ⟨rfl, h1⟩
        have H5 := Lib.hid h1
        clear h1 H4 HR
      all_goals
        obtain ⟨T, hT⟩ := H5.out.swap.left
        have HT := Lib.hid hT.1
        clear hT
        go_wp2_with (at_builtin; refine wpList_append_lies _ rfl _ _ 37 rfl 0 3 i0 (.int .i64 0) 1 8 Try.underlying37 hi hz0 hz1 hz2 rfl (by decide) v j _ rfl (OutRow.at (HT.out.alloc _) hlen) ⟨w5.heap.size, 0, none⟩ 1 1 [.int .i64 (j : Int)] rfl rfl (cell_one_new _ _ _) (hone _) (by decide) hB1 hB2 (Nat.zero_le _) (w5.heap.size + 1) (by simp) ?_; intro g1 cap1 w6 hown hgrow hat hlt6; have H6 := Lib.hid (Duo.push (ArT.framed _ _ _) hlen H5.out hown hgrow hat hlt6); clear hown hgrow hat hlt6)
        go_roundw
        case rel => exact ⟨_, j + 1, rfl, by omega, by go_num, by rw [← seg_snoc (Nat.zero_le j)]; exact H6.out⟩
        case measure => simp [intOf]; omega
    · have H6 : Hid (Duo w wr (ArT g k (chain k)) (RowT v (seg 0 k))) := by
        have hjk : j = k := by omega
        rw [hjk] at HR; exact HR
      have H7 : Hid (∃ l, Turn k l ∧ Duo w wr (ArT g k [l]) (RowT v l)) := ⟨_, Turn.start (by omega), by rw [← chain_pos (by omega)]; exact H6.out⟩
      have hge : ¬ (j : Int) < k := by omega
      clear HR H6
      go_wp2_with fail
      go_loopw [9, 12] (fun v0 i wr => ∃ (v : Value) (m : Nat), v = v0 ∧ m ≤ len2 ∧ i = .int .i64 m ∧ Hid (∃ l, Turn k l ∧ Duo w wr (ArT g k [l]) (RowT v l))) (fun _ i _ => len2 - (intOf i).toNat)
      case atStart => exact ⟨_, 0, rfl, Nat.zero_le _, rfl, H7.out⟩
      case round =>
        clear H7
        obtain ⟨v, m, rfl, hm, rfl, HR⟩ := hrel
        obtain ⟨l, hl, hD⟩ := HR.out
        have hll := hl.len
        obtain ⟨T, hT⟩ := hD.swap.left
        obtain ⟨b, cap, rfl, hbw, hc1, hc2, hcell⟩ := hT.cells (by omega)
        have HL := Lib.hid (And.intro hl (And.intro hD hT))
        rw [hll] at hc1 hcell
        clear HR hl hD hT
        by_cases hlt : m < len2
        · obtain ⟨b2, off, rfl, hbw2, hz0, hwf⟩ := isrow_at HA.out hlt
          have cz : wr.cell? ⟨b2, off + m, none⟩ = some (.int .u8 (z2.getD m 0)) := (HL.out.2.1.mod.cell hbw2 (by simp [NoB])).trans hz0
          obtain ⟨z, hz⟩ : ∃ z, z = z2.getD m 0 := ⟨_, rfl⟩
          rw [← hz] at cz hwf
          obtain ⟨bz0, bz1⟩ := bounds_u8 hwf
          obtain ⟨c, hc⟩ : ∃ c : Nat, z % (k : Int) = c := ⟨(z % (k : Int)).toNat, by have := Int.emod_nonneg z (show (k : Int) ≠ 0 by omega); omega⟩
          have hck : (c : Int) < k := by have := Int.emod_lt_of_pos z (show 0 < (k : Int) by omega); omega
          have tz : z.tmod (k : Int) = (c : Int) := by rw [Int.tmod_eq_emod_of_nonneg bz0]; exact hc
          have hkz : ((k : Int) == 0) = false := by simp; omega
          clear hz hz0 hwf hc
          have cc := hcell c (by omega)
          have c0 := hcell 0 (by omega)
          obtain ⟨x, hx⟩ : ∃ x : Int, ((l.getD c 0 : Nat) : Int) = x := ⟨_, rfl⟩
          obtain ⟨y, hy⟩ : ∃ y : Int, ((l.getD 0 0 : Nat) : Int) = y := ⟨_, rfl⟩
          rw [hx] at cc
          rw [hy] at c0
          have HX := Lib.hid (And.intro hx hy)
          have HC := Lib.hid hcell
          clear hx hy hcell
          go_upto_region 19 with (fail)
          go_cut [14, 15] (fun v1 v2 wc => v1 = .int .i64 x ∧ v2 = .int .i64 y ∧ ∃ n, wc = wr.drewN n)
          case first =>
            go_wp2_with fail
            go_quiet (fail)
            go_wp2_with fail
            go_meet
            case rel => exact ⟨rfl, rfl, _, rfl⟩
          case rest =>
            obtain ⟨rfl, rfl, n1, rfl⟩ := hcut
            have H6 := Lib.hid (HL.out.2.1.drewN (RowT.framed _ _) n1)
            clear cz tz hkz cc c0
            by_cases h0 : c = 0
            focus
              have q1 : ¬ (0 < c) := by omega
              have q2 : decide (0 < c) = false := by simp; omega
              have e1 : ct [l] x = (false, [l]) := by rw [← HX.out.1, h0]; exact turn_cut0 HL.out.1 (by omega)
              have e2 : l.drop c ++ l.take c = l := by rw [h0]; simp
              have HE := Lib.hid (And.intro e1 e2)
              clear h0 e1 e2
              go_wp2_with fail
              refine (j_cut H6.out (RowT.framed _ _) HE.out.1).mono ?_
              rintro e w5 ⟨rfl, h1⟩
              have H8 : Hid (Duo w w5 (ArT g k [l.drop c ++ l.take c]) (RowT (.slice (some ⟨b, 0, none⟩) l.length cap) l)) := by rw [HE.out.2]; exact h1
              clear h1 H6
            rotate_left
            focus
              have q1 : 0 < c := by omega
              have q2 : decide (0 < c) = true := by simp; omega
              have e1 : ct [l] x = (true, [l.take c, l.drop c]) := by rw [← HX.out.1]; exact turn_cut HL.out.1 q1 (by omega)
              have e2 : jn [l.take c, l.drop c] x y = (true, [l.drop c ++ l.take c]) := by rw [← HX.out.1, ← HX.out.2]; exact turn_join HL.out.1 q1 (by omega)
              have HE := Lib.hid (And.intro e1 e2)
              clear h0 e1 e2
              go_wp2_with fail
              refine (j_cut H6.out (RowT.framed _ _) HE.out.1).mono ?_
              rintro e w4 ⟨rfl, h1⟩
              have H7 := Lib.hid h1
              clear h1 H6
              go_wp2_with fail
              refine (j_join H7.out (RowT.framed _ _) HE.out.2).mono ?_
              rintro e w5 ⟨rfl, h1⟩
              have H8 := Lib.hid h1
              clear h1 H7
            all_goals
              obtain ⟨T5, hT5⟩ := H8.out.swap.left
              have hll := HL.out.1.len
              have hn1 : c ≤ k := by omega
              have hn2 : c ≤ cap := by omega
              have hn3 : c < k := by omega
              have hn4 : ¬ cap = c := by omega
              have hB1 : 0 + (k - c) ≤ maxLen := by unfold maxLen; omega
              have hB2 : (0 + (k - c)) * 8 ≤ 140737488355328 := by omega
              have hB3 : (k - c) + c ≤ maxLen := by unfold maxLen; omega
              have hB4 : ((k - c) + c) * 8 ≤ 140737488355328 := by omega
              have hB5 : 0 < 0 + (k - c) := by omega
              have hB6 : 0 < (k - c) + c := by omega
              have hl1 : (nums (l.drop c)).length = k - c := by simp [nums, hll]
              have hl2 : (nums (l.take c)).length = c := by simp [nums, hll]; omega
              have o1 : ∀ u ∈ nums (l.drop c), u.oneCell' = true := nums_one _
              have o2 : ∀ u ∈ nums (l.take c), u.oneCell' = true := nums_one _
              have k1 : ∀ j u, (nums (l.drop c))[j]? = some u → w5.drew.cell? ((⟨b, c, none⟩ : Addr).add j) = some u := fun j u hu => by
                have hadd : (⟨b, c, none⟩ : Addr).add j = ⟨b, c + j, none⟩ := by unfold Addr.add; split <;> simp_all
                have hj : c + j < l.length := by
                  rcases Nat.lt_or_ge (c + j) l.length with e | e
                  · exact e
                  · rw [List.getElem?_eq_none (by rw [hl1]; omega)] at hu; cases hu
                rw [hadd]
                refine (hT5.at rfl hj).trans ?_
                rw [← hu]; simp [nums, hj, List.getElem?_drop]
              have k2 : ∀ j u, (nums (l.take c))[j]? = some u → w5.drew.cell? ((⟨b, 0, none⟩ : Addr).add j) = some u := fun j u hu => by
                have hadd : (⟨b, 0, none⟩ : Addr).add j = ⟨b, j, none⟩ := by unfold Addr.add; split <;> simp_all
                have hj : j < c := by
                  rcases Nat.lt_or_ge j c with e | e
                  · exact e
                  · rw [List.getElem?_eq_none (by rw [hl2]; omega)] at hu; cases hu
                have hjl : j < l.length := by omega
                rw [hadd]
                refine (hT5.at rfl hjl).trans ?_
                rw [← hu]; simp [nums, hjl, hj]
              have hb5 : b < w5.heap.size := World.block_lt_of_cell? _ _ (hT5.at rfl (show 0 < l.length by omega))
              have HK1 := Lib.hid (And.intro k1 k2)
              have HO := Lib.hid (And.intro o1 o2)
              have HLN := Lib.hid (And.intro hl1 hl2)
              have HB := Lib.hid (And.intro hB1 (And.intro hB2 (And.intro hB3 (And.intro hB4 (And.intro hB5 hB6)))))
              clear hT5 k1 k2 o1 o2 hl1 hl2 hB1 hB2 hB3 hB4 hB5 hB6
              go_wp2_with fail
              go_region_law (first
                  | (refine step_append_own0 _ rfl _ _ 37 rfl 3 i0 (.int .i64 0) 8 Try.underlying37 hi hz0 hz1 hz2 rfl (.slice none 0 0) 0 [] rfl (World.ownsRow_nil _ _ _ _) ⟨b, c, none⟩ (k - c) (cap - c) (nums (l.drop c)) rfl HLN.out.1 HK1.out.1 HO.out.1 HB.out.2.2.2.2.1 HB.out.1 HB.out.2.1 ?_
                     intro g1 cap1 w6 hown1 hgrow1 hat1 hlt1
                     have hk6 : ∀ j u, (nums (l.take c))[j]? = some u → w6.cell? ((⟨b, 0, none⟩ : Addr).add j) = some u := fun j u hu => by
                       rw [← HK1.out.2 j u hu]
                       refine World.cell?_of_block (hgrow1.block _ ?_ (by simp [Value.ownBlock]))
                       rw [show ((⟨b, 0, none⟩ : Addr).add j).block = b by unfold Addr.add; split <;> simp_all]
                       exact hb5
                     have hr6 : w6.ownsRow 0 3 1 (.slice (some ⟨g1, 0, none⟩) (k - c) cap1) (k - c) (nums (l.drop c)) := by simpa using hown1
                     have ha6 : g1 = w5.heap.size := by simpa [Value.ownBlock] using hat1
                     have H9 := Lib.hid (And.intro hk6 (And.intro hr6 (And.intro ha6 hgrow1)))
                     clear hown1 hgrow1 hat1 hlt1 hk6 hr6 ha6)
                  | (refine step_append_own0 _ rfl _ _ 37 rfl 3 i0 (.int .i64 0) 8 Try.underlying37 hi hz0 hz1 hz2 rfl (.slice (some ⟨g1, 0, none⟩) (k - c) cap1) (k - c) _ rfl H9.out.2.1 ⟨b, 0, none⟩ c cap (nums (l.take c)) rfl HLN.out.2 H9.out.1 HO.out.2 HB.out.2.2.2.2.2 HB.out.2.2.1 HB.out.2.2.2.1 ?_
                     intro g2 cap2 w7 hown2 hgrow2 hat2 hlt2
                     have hr7 : w7.ownsRow 0 3 1 (.slice (some ⟨g2, 0, none⟩) k cap2) k (nums (l.drop c ++ l.take c)) := by
                       rw [Nat.sub_add_cancel hn1] at hown2
                       simpa [nums] using hown2
                     have H10 := Lib.hid (turned (ArT.framed _ _ _) H8.out H9.out.2.2.2 H9.out.2.2.1 hr7 (by simp [hll]; omega) hgrow2 hat2 hlt2)
                     clear hown2 hgrow2 hat2 hlt2 hr7))
              all_goals
                go_wp2_with fail
                go_roundw
                case rel => exact ⟨_, m + 1, rfl, by omega, by go_num, _, HL.out.1.turn c, H10.out⟩
                case measure => simp [intOf]; omega
        · have HD : Hid (Duo w wr (ArT g k [l]) (RowT (.slice (some ⟨b, 0, none⟩) k cap) l)) := by
            have hd := HL.out.2.1
            rw [hll] at hd; exact hd
          have c0 := hcell 0 (by omega)
          obtain ⟨y, hy⟩ : ∃ y : Int, ((l.getD 0 0 : Nat) : Int) = y := ⟨_, rfl⟩
          rw [hy] at c0
          have hlen2 : ((lst [l] ((k : Int) - 1)).length : Int) = k := by
            have := turn_lst HL.out.1 HL.out.1.last
            rw [show (((k - 1 : Nat)) : Int) = (k : Int) - 1 by omega] at this
            rw [this, hll]
          have hlst : lst [l] 0 = l := turn_lst HL.out.1 HL.out.1.first
          have hat : atL (lst [l] 0) 0 = y := by
            rw [hlst]; unfold atL
            rw [if_pos ⟨by omega, by omega⟩, ← hy]; rfl
          have hyy : (y == y) = true := by simp
          have hkk : ((k : Int) == (k : Int)) = true := by simp
          have HE := Lib.hid (And.intro hlen2 (And.intro hlst hat))
          have hk1' : 1 ≤ (k : Int) := by omega
          have hwr : IntKind.i64.wrap ((k : Int) - 1) = (k : Int) - 1 := IntWalk.i64_in _ (by omega)
          have hk0i : (0 : Int) < (k : Int) := by omega
          have hk0n : 0 < k := by omega
          clear hlen2 hlst hat hy hcell
          go_wp2_with fail
          go_region_held3 (fun u => u.cell? ⟨b, 0, none⟩ = some (.int .i64 y)) (first | exact c0 | exact H7.out.1 | exact H6.out.1)
            (first
            | (go_at_call 22; refine (j_list (HD.out.drew (RowT.framed _ _)) (RowT.framed _ _) HE.out.2.1).mono ?_; rintro e w6 ⟨v1, rfl, h1, r1, m1⟩; have H6 := Lib.hid (And.intro ((m1.cell (p := ⟨b, 0, none⟩) hbw (by simp [NoB])).trans c0) (And.intro h1 r1)); clear h1 r1 m1)
            | (go_at_call 21; refine (ints_row H6.out.2.1 H6.out.2.2).mono ?_; rintro e w7 ⟨rfl, k7, hw7⟩; have H7 : Hid (w7.cell? ⟨b, 0, none⟩ = some (.int .i64 y) ∧ Duo w w7 (ArT g k [l]) (RowT (.slice (some ⟨b, 0, none⟩) k cap) l)) := (by rw [hw7]; exact ⟨H6.out.1, H6.out.2.1.drewN (RowT.framed _ _) k7⟩); clear hw7)
            | (go_at_call 19; refine (j_len H7.out.2 HE.out.1).mono ?_; rintro e w8 ⟨rfl, rfl⟩)
            | (go_at_call 23; refine (j_at H7.out.2 HE.out.2.2).mono ?_; rintro e w9 ⟨rfl, rfl⟩))
          all_goals
            go_wp2_with fail
            go_ret
            exact ⟨rfl, H7.out.2.mod.below (Nat.le_refl _) (by simp [NoB])⟩

set_option maxRecDepth 100000 in
theorem turns_all (a0 : Int) (a1 : Int) (a2 : Option Addr) (len2 cap2 : Nat) (z2 : List Int) (w : World) (w0 : (Lit.int .u64 a0).wf = true) (w1 : (Lit.int .u8 a1).wf = true) (w2 : IsRow .u8 w a2 len2 cap2 z2) :
    Calls Try.prog 4 #[.int .u64 a0, .int .u8 a1, .slice a2 len2 cap2] w fun e w' => e = .returned (.bool true) ∧ Below w.heap.size w w' := by
  by_cases h40 : len2 ≤ 40
  · exact turns_walk a0 a1 a2 len2 cap2 z2 w w1 w2 h40
  · have hd0 : decide ((40 : Int) < (len2 : Int)) = true := by simp; omega
    clear w0 w1 w2
    go_enter Try.func4, Try.ntmps4
    go_wp2_with fail
    refine (known_any _).mono ?_
    rintro e w1 ⟨rfl, hM1⟩
    have HM1 := Lib.hid hM1
    clear hM1
    go_wp2_with fail
    go_ret
    exact ⟨rfl, HM1.out.below (Nat.le_refl _) (by simp [NoB])⟩
end Go.Proofs.Ytlmbkmjjiebpbaa
