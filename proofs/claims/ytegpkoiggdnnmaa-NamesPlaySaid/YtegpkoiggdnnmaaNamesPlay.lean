/- The law NamesPlay: the walk. -/
import Derived.Test.YtegpkoiggdnnmaaNamesMany
import Derived.Deep.RegionWith
namespace Go.Proofs.Ytegpkoiggdnnmaa
open Go.RowKit Go.Maps Go.ChangeMaps
set_option linter.unusedVariables false

/-- Both, side by side: the names at g, the reference's at h, of one list. -/
structure Both (w0 w : World) (g h : Nat) (l : List Int) (S T : Nat → Prop) : Prop where
  n : NRep w g S l
  r : RRep w h T l
  mod : Mod w0 w NoB
  sl : ∀ k, S k → k < w.heap.size
  tl : ∀ k, T k → k < w.heap.size
  sg : ∀ k, S k → w0.heap.size ≤ k
  tg : ∀ k, T k → w0.heap.size ≤ k
  st : ∀ k, S k → ¬ T k

/-- Behind Of of the names. -/
theorem both_n {w0 w w1 : World} {g h : Nat} {l l' : List Int} {S T : Nat → Prop} (hb : Both w0 w g h l S T) (h1 : NPost w w1 g S (Fresh S w w1) l') :
    RRep w1 h T l ∧ (∀ k, T k → k < w1.heap.size) :=
  ⟨hb.r.mod h1.mod hb.tl (fun k hk hs => hb.st k hs hk), fun k hk => Nat.lt_of_lt_of_le (hb.tl k hk) h1.mod.size⟩

/-- .. and behind the reference's. -/
theorem both_nr {w0 w w1 w2 : World} {g h : Nat} {l l' : List Int} {S T : Nat → Prop} (hb : Both w0 w g h l S T) (h1 : NPost w w1 g S (Fresh S w w1) l') (h2 : RPost w1 w2 h T (Fresh T w1 w2) l') :
    Both w0 w2 g h l' (Fresh S w w1) (Fresh T w1 w2) := by
  have hd : ∀ k, Fresh S w w1 k → ¬ T k := Fresh.apart hb.st hb.tl
  have hd2 : ∀ k, Fresh T w1 w2 k → ¬ Fresh S w w1 k := Fresh.apart (fun k hk hs => hd k hs hk) h1.lt
  refine ⟨h1.rep.mod h2.mod h1.lt hd, h2.rep, (hb.mod.trans h1.mod (fun i hi hS => absurd (hb.sg i hS) (by omega))).trans h2.mod (fun i hi hT => absurd (hb.tg i hT) (by omega)), fun k hk => Nat.lt_of_lt_of_le (h1.lt k hk) h2.mod.size, h2.lt, ?_, ?_, fun k hk hT => hd2 k hT hk⟩
  · exact Fresh.ge hb.sg hb.mod.size
  · exact Fresh.ge hb.tg (Nat.le_trans hb.mod.size h1.mod.size)

theorem Both.drew {w0 w : World} {g h : Nat} {l : List Int} {S T : Nat → Prop} (hb : Both w0 w g h l S T) : Both w0 w.drew g h l S T :=
  ⟨hb.n, hb.r, hb.mod.drew, hb.sl, hb.tl, hb.sg, hb.tg, hb.st⟩

theorem Both.drewN {w0 w : World} {g h : Nat} {l : List Int} {S T : Nat → Prop} (hb : Both w0 w g h l S T) (n : Nat) : Both w0 (w.drewN n) g h l S T :=
  ⟨hb.n, hb.r, hb.mod.drewN n, hb.sl, hb.tl, hb.sg, hb.tg, hb.st⟩

theorem Both.alloc {w0 w : World} {g h : Nat} {l : List Int} {S T : Nat → Prop} (hb : Both w0 w g h l S T) (o : Obj) : Both w0 (w.alloc o) g h l S T :=
  ⟨hb.n.mod ((Mod.refl _ NoB).alloc o) hb.sl (by simp [NoB]), hb.r.mod ((Mod.refl _ NoB).alloc o) hb.tl (by simp [NoB]), hb.mod.alloc o, fun k hk => by have := hb.sl k hk; simp; omega, fun k hk => by have := hb.tl k hk; simp; omega, hb.sg, hb.tg, hb.st⟩

theorem rrep_cell {w : World} {h : Nat} {T : Nat → Prop} {l : List Int} (hr : RRep w h T l) : ∃ a cap, w.cell? ⟨h, 0, none⟩ = some (.slice a l.length cap) := by
  obtain ⟨v, c0, _, hrow, _⟩ := hr
  obtain ⟨a, cap, rfl⟩ := row_form hrow
  exact ⟨a, cap, c0⟩

theorem rrep_row {w : World} {h : Nat} {T : Nat → Prop} {l : List Int} (hr : RRep w h T l) (hl : 0 < l.length) : ∃ sb cap, w.cell? ⟨h, 0, none⟩ = some (.slice (some ⟨sb, 0, none⟩) l.length cap) ∧ ∀ j, j < l.length → w.cell? ⟨sb, j, none⟩ = some (.int .u32 (l.getD j 0)) := by
  obtain ⟨v, c0, _, hrow, _⟩ := hr
  obtain ⟨sb, cap, rfl, hcs, _⟩ := row_open hrow hl
  exact ⟨sb, cap, c0, fun j hj => hcs j _ (by simp [hj])⟩

theorem rem8_wf {v : Int} (h : (Lit.int .u32 v).wf = true) : (Lit.int .u32 (v % 8)).wf = true ∧ (Lit.int .u32 (v % 9)).wf = true := by
  simp [Lit.wf, IntKind.min, IntKind.max, IntKind.signed, IntKind.bits] at h ⊢
  omega

theorem isrow_at {q : IntKind} {w : World} {a : Option Addr} {len cap : Nat} {zs : List Int} (h : IsRow q w a len cap zs) {k : Nat} (hk : k < len) :
    ∃ b off, a = some ⟨b, off, none⟩ ∧ b < w.heap.size ∧ w.cell? ⟨b, off + k, none⟩ = some (.int q (zs.getD k 0)) ∧ (Lit.int q (zs.getD k 0)).wf = true := by
  rcases h with ⟨_, h0, _⟩ | ⟨x, rfl, hlc, hcm, hz, hcell, hwf⟩
  · omega
  · obtain ⟨b, off, rfl, hcs⟩ := ints_at hcell (by omega)
    have hkz : k < zs.length := by omega
    have hc := hcs k hkz
    exact ⟨b, off, rfl, World.block_lt_of_cell? _ _ hc, hc, hwf _ (by simp [hkz])⟩

set_option maxRecDepth 100000 in
theorem play_long (a0 : Option Addr) (len0 cap0 : Nat) (a1 : Option Addr) (len1 cap1 : Nat) (a2 : Int) (w : World) (h : 60 < len0 ∨ (len0 ≤ 60 ∧ 20 < len1)) :
    Calls Try.prog 3 #[.slice a0 len0 cap0, .slice a1 len1 cap1, .int .i64 a2] w fun e w' => e = .returned (.bool true) ∧ Below w.heap.size w w' := by
  rcases h with h | ⟨h, h1⟩
  · have hd : decide ((60 : Int) < (len0 : Int)) = true := by simp; omega
    go_enter Try.func3, Try.ntmps3
    go_wp2_with fail
    refine (known_any _).mono ?_
    rintro e w1 ⟨rfl, hM1⟩
    go_wp2_with fail
    go_ret
    exact ⟨rfl, hM1.below (Nat.le_refl _) (by simp [NoB])⟩
  · have hd : decide ((60 : Int) < (len0 : Int)) = false := by simp; omega
    have hd1 : decide ((20 : Int) < (len1 : Int)) = true := by simp; omega
    go_enter Try.func3, Try.ntmps3
    go_wp2_with fail
    refine (known_any _).mono ?_
    rintro e w1 ⟨rfl, hM1⟩
    go_wp2_with fail
    go_ret
    exact ⟨rfl, hM1.below (Nat.le_refl _) (by simp [NoB])⟩

set_option maxHeartbeats 4000000 in
set_option maxRecDepth 100000 in
theorem play_walk (a0 : Option Addr) (len0 cap0 : Nat) (z0 : List Int) (a1 : Option Addr) (len1 cap1 : Nat) (z1 : List Int) (a2 : Int) (w : World) (w0 : IsRow .u32 w a0 len0 cap0 z0) (w1' : IsRow .u32 w a1 len1 cap1 z1) (w2' : (Lit.int .i64 a2).wf = true)
    (h60 : len0 ≤ 60) (h20 : len1 ≤ 20) :
    Calls Try.prog 3 #[.slice a0 len0 cap0, .slice a1 len1 cap1, .int .i64 a2] w fun e w' => e = .returned (.bool true) ∧ Below w.heap.size w w' := by
  have hd0 : decide ((60 : Int) < (len0 : Int)) = false := by simp; omega
  have hd1 : decide ((20 : Int) < (len1 : Int)) = false := by simp; omega
  go_enter Try.func3, Try.ntmps3
  go_wp2_with fail
  refine (known_any _).mono ?_
  rintro e w1 ⟨rfl, hM1⟩
  go_wp2_with fail
  refine (new_post _).mono ?_
  rintro e w2 ⟨rfl, h2⟩
  obtain ⟨g, hg⟩ : ∃ g, g = w1.heap.size + 1 := ⟨_, rfl⟩
  rw [← hg] at h2 ⊢
  clear hg
  have H2 : Hid (Mod w w2 NoB) := hM1.trans h2.mod (by simp [NoB])
  have HN := Lib.hid h2
  have HM1 := Lib.hid hM1.size
  have HA := Lib.hid w0
  have HB := Lib.hid w1'
  clear h2 hM1 w0 w1'
  go_wp2_with fail
  obtain ⟨h, hh⟩ : ∃ h, h = w2.heap.size := ⟨_, rfl⟩
  have hB0 : ∃ S T, Both w (w2.alloc (.cells #[.slice none 0 0] 28)) g h [] S T := by
    refine ⟨Fresh NoB w1 w2, OneB h, ?_, ⟨.slice none 0 0, by simp [hh], by simp [hh], World.ownsRow_nil _ _ _ _, rfl, by simp [Value.ownBlock], by simp [Value.ownBlock]⟩, H2.out.alloc _, ?_, ?_, ?_, ?_, ?_⟩
    · exact HN.out.rep.mod ((Mod.refl _ NoB).alloc _) HN.out.lt (by simp [NoB])
    · intro k hk; have := HN.out.lt k hk; simp; omega
    · intro k hk; simp [OneB] at hk; simp; omega
    · intro k hk
      rcases hk with h | ⟨h, _⟩
      · exact absurd h (by simp [NoB])
      · exact Nat.le_trans HM1.out h
    · intro k hk; simp [OneB] at hk; have := H2.out.size; omega
    · intro k hk hT; simp [OneB] at hT; have := HN.out.lt k hk; omega
  have HB0 := Lib.hid hB0
  rw [← hh]
  clear hB0 hh
  go_loopw [9] (fun i wr => ∃ (k : Nat) (l : List Int), k ≤ len0 ∧ i = .int .i64 k ∧ Hid (l.length ≤ k ∧ ∃ S T, Both w wr g h l S T)) (fun i _ => len0 - (intOf i).toNat)
  case atStart => exact ⟨0, [], Nat.zero_le _, rfl, Nat.le_refl _, HB0.out⟩
  case round =>
    clear HB0 H2 HN HM1
    obtain ⟨k, l, hk, rfl, HL⟩ := hrel
    by_cases hlt : k < len0
    · obtain ⟨hlk, S, T, hb⟩ := HL.out
      obtain ⟨b, off, rfl, hbw, hc0, hwf⟩ := isrow_at HA.out hlt
      have hc : wr.cell? ⟨b, off + k, none⟩ = some (.int .u32 (z0.getD k 0)) := (hb.mod.cell hbw (by simp [NoB])).trans hc0
      obtain ⟨y, hy⟩ : ∃ y, y = z0.getD k 0 := ⟨_, rfl⟩
      rw [← hy] at hc hwf
      have hl60 : l.length < 1000000 := by omega
      have HB1 := Lib.hid hb
      have HLK := Lib.hid hlk
      clear hy hc0 hb hlk HL
      have hy0 : 0 ≤ y := (bounds_u32 hwf).1
      by_cases hm : (k : Int) % 4 > 0
      all_goals
        go_wp2_with fail
        first
        | (obtain ⟨v, hv⟩ : ∃ v, v = y % 8 := ⟨_, rfl⟩
           have wv : (Lit.int .u32 v).wf = true := by rw [hv]; exact (rem8_wf hwf).1
           rw [← hv]
           clear hv)
        | (obtain ⟨v, hv⟩ : ∃ v, v = y := ⟨_, rfl⟩
           have wv : (Lit.int .u32 v).wf = true := by rw [hv]; exact hwf
           rw [← hv]
           clear hv)
        have HB2 := Lib.hid HB1.out.drew
        clear hc hwf HB1
        go_region_with (first | (go_at_call 8; refine (of_any _ _ _ _ _ HB2.out.n HB2.out.sl wv hl60).mono ?_; rintro e w3 ⟨rfl, h3⟩; have H3 := Lib.hid h3; have HR3 := Lib.hid (both_n HB2.out h3); clear h3) | (go_at_call 9; refine (rof_any _ _ _ _ _ HR3.out.1 HR3.out.2 hl60).mono ?_; rintro e w4 ⟨rfl, h4⟩; have H4 := Lib.hid (both_nr HB2.out H3.out h4); obtain ⟨ra, rcap, hrc⟩ := rrep_cell h4.rep; clear h4) | (go_at_call 10; refine (len_any _ _ _ _ H4.out.n).mono ?_; rintro e w5 ⟨rfl, rfl⟩))
        all_goals
          clear HR3 H3 HB2
          go_wp2_with fail
          go_roundw
          case rel => exact ⟨k + 1, ofl l v, by omega, by go_num, by have := HLK.out; have := ofl_len l v; omega, _, _, H4.out⟩
          case measure => simp [intOf]; omega
    · obtain ⟨hlk, S, T, hb⟩ := HL.out
      have hll : l.length < 1000000 := by omega
      have HB1 := Lib.hid hb
      clear hb hlk HL
      obtain ⟨wo, rfl⟩ : ∃ wo : World, wo = wr := ⟨_, rfl⟩
      go_wp2_with fail
      go_loopw [11] (fun i wx => ∃ (j : Nat), j ≤ len1 ∧ i = .int .i64 j ∧ Hid (Both w wx g h l S T)) (fun i _ => len1 - (intOf i).toNat)
      case atStart => exact ⟨0, Nat.zero_le _, rfl, HB1.out⟩
      case round =>
        clear HB1
        obtain ⟨j, hj, rfl, HB1⟩ := hrel
        by_cases hlt : j < len1
        · obtain ⟨b, off, rfl, hbw, hc0, hwf⟩ := isrow_at HB.out hlt
          have hc : wr.cell? ⟨b, off + j, none⟩ = some (.int .u32 (z1.getD j 0)) := (HB1.out.mod.cell hbw (by simp [NoB])).trans hc0
          obtain ⟨y, hy⟩ : ∃ y, y = z1.getD j 0 := ⟨_, rfl⟩
          rw [← hy] at hc hwf
          have hy0 : 0 ≤ y := (bounds_u32 hwf).1
          clear hy hc0
          go_wp2_with fail
          go_region
          go_wp2_with fail
          clear hc
          obtain ⟨wa, hwa⟩ : ∃ wa, wa = (wr.alloc (.cells #[.int .u32 y, .int .u32 (y % 9)] 29)).drew := ⟨_, rfl⟩
          have hBa : Both w wa g h l S T := by rw [hwa]; exact (HB1.out.alloc _).drew
          have q0 : wa.cell? ⟨wr.heap.size, 0, none⟩ = some (.int .u32 y) := by rw [hwa]; simp
          have q1 : wa.cell? ⟨wr.heap.size, 1, none⟩ = some (.int .u32 (y % 9)) := by rw [hwa]; simp
          have HBa := Lib.hid hBa
          have Q := Lib.hid (And.intro q0 q1)
          rw [← hwa]
          clear hwa q0 q1 hBa HB1
          obtain ⟨lb, hlb⟩ : ∃ lb, lb = wr.heap.size := ⟨_, rfl⟩
          rw [← hlb] at Q ⊢
          clear hlb
          obtain ⟨wp, rfl⟩ : ∃ wp : World, wp = wr := ⟨_, rfl⟩
          go_loopw [85] (fun i wx => ∃ (x : Nat), x ≤ 2 ∧ i = .int .i64 x ∧ ∃ n, wx = wa.drewN n) (fun i _ => 2 - (intOf i).toNat)
          case atStart => exact ⟨0, Nat.zero_le _, rfl, 0, rfl⟩
          case round =>
            obtain ⟨x, hx, rfl, n, rfl⟩ := hrel
            by_cases hx2 : x < 2
            · obtain ⟨v, hv, wv⟩ : ∃ v, wa.cell? ⟨lb, x, none⟩ = some (.int .u32 v) ∧ (Lit.int .u32 v).wf = true := by
                rcases (by omega : x = 0 ∨ x = 1) with rfl | rfl
                · exact ⟨_, Q.out.1, hwf⟩
                · exact ⟨_, Q.out.2, (rem8_wf hwf).2⟩
              go_wp2_with fail
              refine (find_any _ _ _ _ _ (HBa.out.drewN n).n wv).mono ?_
              rintro e w5 ⟨rfl, rfl⟩
              by_cases hin : v ∈ l
              all_goals
                first | rw [fres_in hin rfl] | rw [fres_out hin]
                go_wp2_with fail
                refine (rfind_any _ _ _ _ _ (HBa.out.drewN n).r hll).mono ?_
                rintro e w5 ⟨rfl, rfl⟩
                first | rw [fres_in hin rfl] | rw [fres_out hin]
                obtain ⟨ra, rcap, hrc⟩ := rrep_cell HBa.out.r
                go_wp2_with fail
                go_quiet ((go_at_call 10; exact quiet_left2 (len_any _ _ _ _ (HBa.out.drewN _).n)))
                go_wp2_with fail
                go_roundw
                case rel => exact ⟨x + 1, by omega, by go_num, _, rfl⟩
                case measure => simp [intOf]; omega
            · go_wp2_with fail
              go_roundw
              case rel => exact ⟨j + 1, by omega, by go_num, HBa.out.drewN n⟩
              case measure => simp [intOf]; omega
        · obtain ⟨wp, rfl⟩ : ∃ wp : World, wp = wr := ⟨_, rfl⟩
          obtain ⟨ra, rcap, hrc⟩ := rrep_cell HB1.out.r
          go_wp2_with fail
          go_loopw [18] (fun i wx => ∃ (x : Nat), x ≤ l.length ∧ i = .int .i64 x ∧ wx = wp) (fun i _ => l.length - (intOf i).toNat)
          case atStart => exact ⟨0, Nat.zero_le _, rfl, rfl⟩
          case round =>
            obtain ⟨x, hx, rfl, rfl⟩ := hrel
            have hll2 : (l.length : Int) ≤ 1000000 := by omega
            by_cases hx2 : x < l.length
            · obtain ⟨sb, scap, hsc, hsr⟩ := rrep_row HB1.out.r (by omega)
              obtain rfl : ra = some ⟨sb, 0, none⟩ := by rw [hrc] at hsc; simpa using congrArg (fun o => match o with | some (Value.slice a _ _) => a | _ => none) hsc
              have hc := hsr x hx2
              clear hsc hsr
              obtain ⟨y, hy⟩ : ∃ y, y = l.getD x 0 := ⟨_, rfl⟩
              rw [← hy] at hc
              have HY := Lib.hid hy
              clear hy
              go_wp2_with fail
              refine (at_in _ _ _ l x HB1.out.n hx2).mono ?_
              rintro e w5 ⟨rfl, rfl⟩
              rw [← HY.out]
              go_wp2_with fail
              go_roundw
              case rel => exact ⟨x + 1, by omega, by go_num, by first | rfl | trivial⟩
              case measure => simp [intOf]; omega
            · by_cases hin : 0 ≤ a2 ∧ a2 < l.length
              · obtain ⟨i, hi⟩ : ∃ i : Nat, a2 = i := ⟨a2.toNat, by omega⟩
                subst hi
                have hil : i < l.length := by omega
                go_wp2_with fail
                refine (at_in _ _ _ l i HB1.out.n hil).mono ?_
                rintro e w5 ⟨rfl, rfl⟩
                go_wp2_with fail
                go_ret
                exact ⟨rfl, HB1.out.mod.below (Nat.le_refl _) (by simp [NoB])⟩
              · have ho : a2 < 0 ∨ (l.length : Int) ≤ a2 := by omega
                have HO := Lib.hid ho
                clear ho hin
                by_cases h0 : 0 ≤ a2
                · have h6 : decide (a2 < (l.length : Int)) = false := by have := HO.out; simp; omega
                  go_wp2_with fail
                  refine (at_out _ _ _ l a2 HB1.out.n hll HO.out).mono ?_
                  rintro e w5 ⟨rfl, rfl⟩
                  go_wp2_with fail
                  go_ret
                  exact ⟨rfl, HB1.out.mod.below (Nat.le_refl _) (by simp [NoB])⟩
                · go_wp2_with fail
                  refine (at_out _ _ _ l a2 HB1.out.n hll HO.out).mono ?_
                  rintro e w5 ⟨rfl, rfl⟩
                  go_wp2_with fail
                  go_ret
                  exact ⟨rfl, HB1.out.mod.below (Nat.le_refl _) (by simp [NoB])⟩

theorem play_all (a0 : Option Addr) (len0 cap0 : Nat) (z0 : List Int) (a1 : Option Addr) (len1 cap1 : Nat) (z1 : List Int) (a2 : Int) (w : World) (w0 : IsRow .u32 w a0 len0 cap0 z0) (w1' : IsRow .u32 w a1 len1 cap1 z1) (w2' : (Lit.int .i64 a2).wf = true) :
    Calls Try.prog 3 #[.slice a0 len0 cap0, .slice a1 len1 cap1, .int .i64 a2] w fun e w' => e = .returned (.bool true) ∧ Below w.heap.size w w' := by
  by_cases h60 : len0 ≤ 60
  · by_cases h20 : len1 ≤ 20
    · exact play_walk a0 len0 cap0 z0 a1 len1 cap1 z1 a2 w w0 w1' w2' h60 h20
    · exact play_long a0 len0 cap0 a1 len1 cap1 a2 w (Or.inr ⟨h60, by omega⟩)
  · exact play_long a0 len0 cap0 a1 len1 cap1 a2 w (Or.inl (by omega))
end Go.Proofs.Ytegpkoiggdnnmaa
