/- Merged: LgCq LgCr LgCu -/
import Derived.Test.YtggnkefhegnokaaDoorMg22
import Derived.Test.YtggnkefhegnokaaDoorMg21
import Derived.Test.YtggnkefhegnokaaDoorMg20
import Derived.Test.YtggnkefhegnokaaDoorMg09
import Derived.Test.YtggnkefhegnokaaDoorMg10
import Derived.Test.YtggnkefhegnokaaDoorMg16
import Derived.WalkKit
section
/- Plain: LogCuts' law: a log that is cut short. -/
namespace Go.Proofs.YtggnkefhegnokaaDoor
set_option linter.unusedVariables false

def sgF (st : SS) : SS := (if nextS st = some 43 then wordS [43] st else (false, (wordS [45] st).2)).2
def sgC (b : Bool) : UInt8 := if b = true then 43 else 45
theorem sgF_err : cutErr sgF := fun st h => by
  unfold sgF
  split
  · rw [wordS_err h]
  · show (wordS [45] st).2 = st
    rw [wordS_err h]
theorem sgF_mid (b : Bool) : cutMid sgF [sgC b] := by
  intro y p h hne
  left
  cases y with
  | nil => simp [sgF, nextS, wordS, wordOut, SS.go, adv]
  | cons c y =>
    rw [List.cons_prefix_cons] at h
    exact absurd (by rw [h.1, List.prefix_nil.1 h.2]) hne
theorem sgF_full (b : Bool) (z : List UInt8) : cutFull sgF [sgC b] z := by
  intro p
  have hn : nextS ⟨sgC b :: z, p, 0⟩ = some (sgC b) := by simp [nextS]
  show sgF ⟨sgC b :: z, p, 0⟩ = _
  unfold sgF
  rw [hn]
  cases b with
  | true =>
    rw [if_pos (by rfl)]
    rw [show sgC true = 43 from rfl, byte_there (by decide)]
    rfl
  | false =>
    rw [if_neg (by decide)]
    rw [show sgC false = 45 from rfl]
    show (wordS [45] _).2 = _
    rw [byte_there (by decide)]
    rfl
def evSteps (e : Ev) : List ((SS → SS) × List UInt8) :=
  [(fun st => (numS 4611686018427387903 st).2, decL e.t.toNat), (fun st => (wordS [32] st).2, [32]), (sgF, [sgC e.add]), (fun st => (wordS [32] st).2, [32]),
   (fun st => (numS 4294967295 st).2, decL e.e.u.toNat), (fun st => (wordS [32] st).2, [32]), (fun st => (numS 4294967295 st).2, decL e.e.v.toNat), (fun st => (wordS [10] st).2, [10])]
theorem evSteps_run (e : Ev) (st : SS) : runC (evSteps e) st = (evS st).2 := rfl
theorem evSteps_words (e : Ev) : wordsC (evSteps e) = lineL e := by
  cases h : e.add <;> simp [wordsC, evSteps, lineL, sgnL, sgC, h]
theorem byte_mid (c : UInt8) : cutMid (fun st => (wordS [c] st).2) [c] := fun y p h hn => Or.inl (word_cutLast [c] y p h hn)
theorem decL_ne (n : Nat) : decL n ≠ [] := fun e => by have := (decL_len n).1; rw [e] at this; simp at this
theorem evSteps_ok (e : Ev) (ht : 0 ≤ e.t ∧ e.t ≤ 4611686018427387903) (hb : EvB e) : OkC (evSteps e) := by
  have b1 := hb.1
  have b2 := hb.2
  have h1 : (e.t.toNat : Int) ≤ 4611686018427387903 := by omega
  have h2 : (e.e.u.toNat : Int) ≤ 4294967295 := by omega
  have h3 : (e.e.v.toNat : Int) ≤ 4294967295 := by omega
  unfold evSteps
  refine ⟨decL_ne _, num_cutErr _, ?_, by simp, word_cutErr _, ?_, by simp, sgF_err, ?_, by simp, word_cutErr _, ?_, decL_ne _, num_cutErr _, ?_, by simp, word_cutErr _, ?_, decL_ne _, num_cutErr _, ?_, by simp, word_cutErr _, ?_, trivial⟩
  · rw [if_neg (by simp)]; exact ⟨num_cutMid (by decide) h1, fun z hz => num_full (by decide) h1 32 _ z (by decide) hz⟩
  · rw [if_neg (by simp)]; exact ⟨byte_mid _, fun z _ => byte_full (by decide) z⟩
  · rw [if_neg (by simp)]; exact ⟨sgF_mid _, fun z _ => sgF_full _ z⟩
  · rw [if_neg (by simp)]; exact ⟨byte_mid _, fun z _ => byte_full (by decide) z⟩
  · rw [if_neg (by simp)]; exact ⟨num_cutMid (by decide) h2, fun z hz => num_full (by decide) h2 32 _ z (by decide) hz⟩
  · rw [if_neg (by simp)]; exact ⟨byte_mid _, fun z _ => byte_full (by decide) z⟩
  · rw [if_neg (by simp)]; exact ⟨num_cutMid (by decide) h3, fun z hz => num_full (by decide) h3 10 _ z (by decide) hz⟩
  · rw [if_pos rfl]; exact word_cutLast _
theorem evS_cut (e : Ev) (ht : 0 ≤ e.t ∧ e.t ≤ 4611686018427387903) (hb : EvB e) (y : List UInt8) (p : Int × Int) (h : y <+: lineL e) (hn : y ≠ lineL e) :
    (evS ⟨y, p, 0⟩).2.er = 20 ∧ (evS ⟨y, p, 0⟩).2.p.1 = p.1 ∧ (evS ⟨y, p, 0⟩).2.p.2 ≤ p.2 + y.length := by
  have := runC_cut (evSteps e) (evSteps_ok e ht hb) y p (by rw [evSteps_words]; exact h) (by rw [evSteps_words]; exact hn)
  rw [evSteps_run] at this
  exact this
def hdSteps (n : Nat) : List ((SS → SS) × List UInt8) :=
  [(fun st => (wordS [108, 111, 103] st).2, [108, 111, 103]), (fun st => (wordS [32] st).2, [32]), (fun st => (numS 4294967296 st).2, decL n), (fun st => (wordS [10] st).2, [10])]
theorem hdSteps_ok (n : Nat) (hn : n ≤ 4294967296) : OkC (hdSteps n) := by
  have h1 : (n : Int) ≤ 4294967296 := by omega
  unfold hdSteps
  refine ⟨by simp, word_cutErr _, ?_, by simp, word_cutErr _, ?_, decL_ne _, num_cutErr _, ?_, by simp, word_cutErr _, ?_, trivial⟩
  · rw [if_neg (by simp)]
    refine ⟨fun y p h hn => Or.inl (word_cutLast _ y p h hn), fun z _ p => ?_⟩
    show (wordS [108, 111, 103] ⟨[108, 111, 103] ++ z, p, 0⟩).2 = _
    rw [wordS_there]
    simp [adv]
    omega
  · rw [if_neg (by simp)]; exact ⟨byte_mid _, fun z _ => byte_full (by decide) z⟩
  · rw [if_neg (by simp)]; exact ⟨num_cutMid (by decide) h1, fun z hz => num_full (by decide) h1 10 _ z (by decide) hz⟩
  · rw [if_pos rfl]; exact word_cutLast _
theorem hdS_cut (n : Nat) (hn : n ≤ 4294967296) (y : List UInt8) (h : y <+: [108, 111, 103, 32] ++ decL n ++ [10]) (hne : y ≠ [108, 111, 103, 32] ++ decL n ++ [10]) :
    (hdS y).2.er = 20 ∧ (hdS y).2.p.1 = 1 ∧ (hdS y).2.p.2 ≤ 1 + y.length := by
  have hw : wordsC (hdSteps n) = [108, 111, 103, 32] ++ decL n ++ [10] := by simp [wordsC, hdSteps]
  exact runC_cut (hdSteps n) (hdSteps_ok n hn) y (1, 1) (by rw [hw]; exact h) (by rw [hw]; exact hne)
end Go.Proofs.YtggnkefhegnokaaDoor
end

section
/- Plain: LogCuts' law: what the text of a log is read as that ends ahead of its end. -/
namespace Go.Proofs.YtggnkefhegnokaaDoor
set_option linter.unusedVariables false

theorem allOk_tk {n : Int} : ∀ {l : List Ev} {prev : Option Ev} {there : Ed → Bool} (k : Nat), AllOk n prev there l → AllOk n prev there (l.take k)
  | [], _, _, k, h => by simpa using h
  | x :: l, _, _, 0, h => trivial
  | x :: l, _, _, k + 1, h => ⟨h.1, allOk_tk k h.2⟩
theorem chk_take {n : Int} {F : List Ev} (h : (chk n F).2 = 0) (k : Nat) : (chk n (F.take k)).2 = 0 := by
  unfold chk at h ⊢
  by_cases c : maxN < n ∨ 2147483648 < F.length
  · rw [if_pos c] at h; simp at h
  · rw [if_neg c] at h
    rw [if_neg (by rw [List.length_take]; omega)]
    rw [chkFrom_allOk (allOk_tk k (allOk_of h))]
theorem adv_no10 : ∀ (l : List UInt8) (p : Int × Int), (∀ c ∈ l, c.toNat ≠ 10) → adv p l = (p.1, p.2 + l.length)
  | [], p, _ => by simp [adv]
  | c :: l, p, h => by
    show adv (if c.toNat = 10 then (p.1 + 1, 1) else (p.1, p.2 + 1)) l = _
    rw [if_neg (h c (by simp)), adv_no10 l _ (fun d hd => h d (by simp [hd]))]
    refine Prod.ext rfl ?_
    show p.2 + 1 + (l.length : Int) = p.2 + ((l.length + 1 : Nat) : Int)
    omega
theorem decL_no10 (n : Nat) : ∀ c ∈ decL n, c.toNat ≠ 10 := fun c hc => by
  have := decL_digits n c hc
  simp [isD] at this
  omega
def lineA (e : Ev) : List UInt8 := decL e.t.toNat ++ sgnL e.add ++ decL e.e.u.toNat ++ [32] ++ decL e.e.v.toNat
theorem lineA_no10 (e : Ev) : ∀ c ∈ lineA e, c.toNat ≠ 10 := by
  intro c hc
  unfold lineA at hc
  simp only [List.mem_append] at hc
  rcases hc with (((hc | hc) | hc) | hc) | hc
  · exact decL_no10 _ c hc
  · unfold sgnL at hc
    split at hc <;> simp at hc <;> rcases hc with rfl | rfl | rfl <;> decide
  · exact decL_no10 _ c hc
  · simp at hc; subst hc; decide
  · exact decL_no10 _ c hc
def headA (n : Nat) : List UInt8 := [108, 111, 103, 32] ++ decL n
theorem headA_no10 (n : Nat) : ∀ c ∈ headA n, c.toNat ≠ 10 := by
  intro c hc
  unfold headA at hc
  simp only [List.mem_append] at hc
  rcases hc with hc | hc
  · simp at hc; rcases hc with rfl | rfl | rfl | rfl <;> decide
  · exact decL_no10 _ c hc
/-- Cut within a line: the place goes on in it. -/
theorem adv_cut {A y : List UInt8} (hA : ∀ c ∈ A, c.toNat ≠ 10) (h : y <+: A ++ [10]) (hn : y ≠ A ++ [10]) (p : Int × Int) : adv p y = (p.1, p.2 + y.length) := by
  refine adv_no10 y p fun c hc => ?_
  rcases prefix_split h with ⟨h1, _⟩ | ⟨z, rfl, hz⟩
  · exact hA c (h1.subset hc)
  · cases z with
    | nil => rw [List.append_nil] at hc; exact hA c hc
    | cons d z =>
      rw [List.cons_prefix_cons] at hz
      exact absurd (by rw [hz.1, List.prefix_nil.1 hz.2]) hn
theorem adv_full {A : List UInt8} (hA : ∀ c ∈ A, c.toNat ≠ 10) (p : Int × Int) : adv p (A ++ [10]) = (p.1 + 1, 1) := by
  rw [adv_snoc, if_pos (by rfl), adv_no10 A p hA]
theorem adv_lines : ∀ (G : List Ev) (a : Int), adv (a, 1) (G.flatMap lineL) = (a + G.length, 1)
  | [], a => by simp [adv]
  | e :: G, a => by
    rw [List.flatMap_cons, adv_append]
    have : lineL e = lineA e ++ [10] := rfl
    rw [this, adv_full (lineA_no10 e)]
    rw [adv_lines G (a + 1)]
    refine Prod.ext ?_ rfl
    show a + 1 + (G.length : Int) = a + ((G.length + 1 : Nat) : Int)
    omega
theorem adv_log (n : Int) (G : List Ev) : adv (1, 1) (logL n G) = ((G.length : Int) + 2, 1) := by
  have : logL n G = (headA n.toNat ++ [10]) ++ G.flatMap lineL := by simp [logL, headA]
  rw [this, adv_append, adv_full (headA_no10 _), adv_lines]
  refine Prod.ext ?_ rfl
  show (1 : Int) + 1 + G.length = G.length + 2
  omega
theorem cut_lines : ∀ (F : List Ev) (y : List UInt8), y <+: F.flatMap lineL → ∃ k z, y = (F.take k).flatMap lineL ++ z ∧ k ≤ F.length ∧ (z = [] ∨ ∃ e, F[k]? = some e ∧ z <+: lineL e ∧ z ≠ lineL e ∧ z ≠ [])
  | [], y, h => ⟨0, [], by simpa using h, by simp, Or.inl rfl⟩
  | e :: F, y, h => by
    rw [List.flatMap_cons] at h
    rcases prefix_split h with ⟨h1, h2⟩ | ⟨w, rfl, hw⟩
    · by_cases hy : y = []
      · exact ⟨0, [], by simp [hy], by simp, Or.inl rfl⟩
      · exact ⟨0, y, by simp, by simp, Or.inr ⟨e, rfl, h1, h2, hy⟩⟩
    · obtain ⟨k, z, rfl, hk, hz⟩ := cut_lines F w hw
      exact ⟨k + 1, z, by simp, by simp; omega, by simpa using hz⟩
/-- A log that is cut short. -/
theorem cut_plain {n : Int} {F : List Ev} (hn0 : 0 ≤ n) (hz : (chk n F).2 = 0) (hb : ∀ x ∈ F, EvB x) (x : List UInt8) (hx : x <+: logL n F) :
    ((1 < (adv (1, 1) x).1 ∧ (adv (1, 1) x).2 = 1) → (parseR x).2.2 = 0) ∧
    (¬ (1 < (adv (1, 1) x).1 ∧ (adv (1, 1) x).2 = 1) → (parseR x).2.2 = 20 ∧ (parseR x).2.1.1 = (adv (1, 1) x).1 ∧ (parseR x).2.1.2 ≤ (adv (1, 1) x).2) := by
  obtain ⟨hnN, hok⟩ := chk_ok_bd hz
  have hlog : logL n F = (headA n.toNat ++ [10]) ++ F.flatMap lineL := by simp [logL, headA]
  rw [hlog] at hx
  rcases prefix_split hx with ⟨h1, h2⟩ | ⟨w, rfl, hw⟩
  · have ha := adv_cut (headA_no10 _) h1 h2 (1, 1)
    obtain ⟨c1, c2, c3⟩ := hdS_cut n.toNat (by omega) x h1 h2
    have hR : parseR x = ([], (hdS x).2.p, (hdS x).2.er) := by
      have := plF_end (n := (hdS x).1) (k := x.length + 1) (F := []) (st := (hdS x).2) (R := parseR x) rfl (by omega) (by unfold nextS; rw [if_neg (by rw [c1]; decide)]; rfl)
      rw [if_neg (by rw [c1]; decide)] at this
      exact this
    rw [hR, ha]
    refine ⟨fun c => absurd c.1 (by simp), fun _ => ⟨c1, c2, c3⟩⟩
  · obtain ⟨k, z, rfl, hk, hzz⟩ := cut_lines F w hw
    have hck := chk_take hz k
    have hbk : ∀ y ∈ F.take k, EvB y := fun y hy => hb y (List.mem_of_mem_take hy)
    have hxl : headA n.toNat ++ [10] ++ ((F.take k).flatMap lineL ++ z) = logL n (F.take k) ++ z := by simp [logL, headA]
    rw [hxl]
    rcases hzz with rfl | ⟨e, he, hp, hne, hz0⟩
    · rw [List.append_nil, adv_log]
      have h := (parse_log hn0 hck hbk).1
      refine ⟨fun _ => by rw [h], fun c => absurd ⟨by show (1 : Int) < ((F.take k).length : Int) + 2; omega, rfl⟩ c⟩
    · have hem : e ∈ F := List.mem_of_getElem? he
      have hA : lineL e = lineA e ++ [10] := rfl
      rw [adv_append, adv_log, adv_cut (lineA_no10 e) (by rw [← hA]; exact hp) (by rw [← hA]; exact hne)]
      obtain ⟨j, hj, hR, _⟩ := parse_behind hn0 hck hbk z
      obtain ⟨j, rfl⟩ : ∃ i, j = i + 1 := ⟨j - 1, by omega⟩
      have hs : (nextS ⟨z, (((F.take k).length : Int) + 2, 1), 0⟩).isSome = true := by
        cases z with
        | nil => exact absurd rfl hz0
        | cons c z => simp [nextS]
      obtain ⟨c1, c2, c3⟩ := evS_cut e (allOk_tt hok e hem) (hb e hem) z (((F.take k).length : Int) + 2, 1) hp hne
      have hE := (plF_more (n := n) (k := j) (F := F.take k) rfl hs).1 (by rw [c1]; decide)
      rw [hR, hE]
      have hl : 0 < z.length := List.length_pos_iff.2 hz0
      refine ⟨fun c => absurd c.2 (by show ¬ ((1 : Int) + z.length = 1); omega), fun _ => ⟨c1, c2, c3⟩⟩
end Go.Proofs.YtggnkefhegnokaaDoor
end

section
/- The walk of LogCuts. -/
namespace Go.Proofs.YtggnkefhegnokaaDoor
open Go.RowKit Go.Maps
set_option linter.unusedVariables false

set_option maxRecDepth 100000 in
set_option maxHeartbeats 4000000 in
theorem lcuts_any (w : World) (k cut : Int) (a1 : Option Addr) (len1 cap1 : Nat) (z1 : List Int) (hk : 0 ≤ k ∧ k ≤ 255) (hcut : 0 ≤ cut ∧ cut ≤ 65535) (hA : IsRow .u8 w a1 len1 cap1 z1) (htab : Lib.TabIs Tryd.prog w "internal/strconv.uint64pow10" .u64 Lib.pow10Tab) :
    Calls Tryd.prog 5 #[.int .u8 k, .slice a1 len1 cap1, .int .u16 cut] w fun e w' => e = .returned (.bool true) ∧ Mod w w' NoB := by
  have hmx := mixed
  have HA := Lib.hid hA
  have HT := Lib.hid htab
  clear hA htab
  go_enter Tryd.func5, Tryd.ntmps5
  go_wp2_with fail
  refine (lknown_any _ HT.out).mono ?_
  rintro e w1 ⟨rfl, hm⟩
  have H1 := Lib.hid hm
  clear hm
  by_cases h45 : len1 ≤ 45
  rotate_left
  · have h45' : (45 : Int) < len1 := by omega
    go_wp2_with fail
    go_ret
    exact ⟨rfl, H1.out⟩
  have h45' : ¬ (45 : Int) < len1 := by omega
  go_wp2_with fail
  refine (hist_any _ k a1 len1 cap1 z1 hk (HA.out.mod H1.out) (by omega)).mono ?_
  rintro r w2 ⟨T, top, a, cap, rfl, hT, htop, hT40, hE, hpl, hcap, hm⟩
  have hnb := vertsOf_bd k.toNat
  obtain ⟨n, hn⟩ : ∃ n, vertsOf k.toNat = n := ⟨_, rfl⟩
  rw [hn] at hT hnb ⊢
  obtain ⟨F, hF⟩ : ∃ F, flag (fun _ => false) T = F := ⟨_, rfl⟩
  have hFT : T.length = F.length := by rw [← hF, flag_len]
  have hevb : ∀ x ∈ F, EvB x := by rw [← hF]; exact flag_evb hT hnb.2
  have hchk : chk n F = (0, 0) := by rw [← hF]; exact chk_flag hT htop hnb.2 (by omega)
  rw [hFT] at hT40 hcap ⊢
  rw [hF] at hE
  have H2 := Lib.hid (H1.out.trans hm (fun _ _ c => c))
  have HE := Lib.hid (And.intro hE hevb)
  have HC := Lib.hid (And.intro hchk hnb)
  clear hm hT htop hF hFT hevb hpl hE hn hnb H1 hchk h45 h45'
  go_upto_region 6 with (fail)
  obtain ⟨Y, hY⟩ : ∃ Y, Y = w2.alloc (.cells #[.int .u64 n, .slice a F.length cap] 25) := ⟨_, rfl⟩
  obtain ⟨g7, hg7⟩ : ∃ g, g = w2.heap.size := ⟨_, rfl⟩
  have HY2 : Hid (HAt w2 Y g7 n a F.length cap F) := by
    show HAt _ _ _ _ _ _ _ _
    rw [hY, hg7]
    exact HAt.start HE.out.1
  rw [← hY, ← hg7]
  clear hY hg7
  have HY1 := Lib.hid (H2.out.trans HY2.out.mod (fun _ _ c => c))
  have c0 := HY2.out.c0
  have c1 := HY2.out.c1
  have HP := print_any Y n a cap F (by have := HC.out.2; omega) HY2.out.evs (by omega) HE.out.2 (tab_mod HT.out HY1.out)
  rw [HC.out.1] at HP
  have hpr : prS n F = ⟨(logL n F).toArray⟩ := by unfold prS; rw [HC.out.1]; rfl
  rw [hpr] at HP
  obtain ⟨s, hs⟩ : ∃ s : ByteArray, s = ⟨(logL n F).toArray⟩ := ⟨_, rfl⟩
  rw [← hs] at HP
  have hsL : L s = logL n F := by rw [hs]; simp [L]
  have hs0 : 0 < s.size := by rw [hs]; show 0 < (logL n F).toArray.size; simp [logL]
  have hsz : s.size ≤ 25 + 65 * 40 := by
    rw [hs]
    show (logL n F).toArray.size ≤ _
    have hbd := chk_ok_bd (n := n) (F := F) (by rw [HC.out.1])
    have := logL_len (n := n) (F := F) ⟨by have := HC.out.2; omega, hbd.1⟩ (fun y hy => ⟨allOk_tt hbd.2 y hy, HE.out.2 y hy⟩)
    simp only [List.size_toArray]
    omega
  have HPh := Lib.hid HP
  have HSL := Lib.hid hsL
  clear hs hsL hpr HP
  go_wp2_with fail
  refine HPh.out.mono ?_
  rintro e w3 ⟨rfl, hm⟩
  have H3 := Lib.hid (HY1.out.trans hm (fun _ _ c => c))
  clear hm HPh HY1 HY2 c0 c1 H2
  go_upto_region 9 with (fail)
  have hs0' : (0 : Int) < s.size := by omega
  obtain ⟨m, hm⟩ : ∃ m, m = cut.toNat % s.size := ⟨_, rfl⟩
  have hml : m < s.size := by rw [hm]; exact Nat.mod_lt _ hs0
  have hmt : Int.tmod cut s.size = (m : Int) := by
    rw [Int.tmod_eq_emod_of_nonneg hcut.1, hm, Int.natCast_emod, Int.toNat_of_nonneg hcut.1]
  clear hm
  go_upto_region 10 with (fail)
  obtain ⟨x, hx⟩ : ∃ x, x = s.extract 0 m := ⟨_, rfl⟩
  rw [← hx]
  have hxL : L x = (logL n F).take m := by rw [hx, ← HSL.out]; simp [L]
  have hxz : x.size ≤ 40000 := by rw [hx, ByteArray.size_extract]; omega
  have HCP := Lib.hid (cut_plain (n := n) (F := F) (by have := HC.out.2; omega) (by rw [HC.out.1]) HE.out.2 (L x) (by rw [hxL]; exact List.take_prefix _ _))
  obtain ⟨R, hR⟩ : ∃ R, R = parseR (L x) := ⟨_, rfl⟩
  obtain ⟨N, hN⟩ : ∃ N, N = parseN (L x) := ⟨_, rfl⟩
  have HPa := parse_any w3 x hxz
  rw [← hR, ← hN] at HPa
  rw [← hR] at HCP
  have HPb := Lib.hid HPa
  clear hR hN HPa hx hxL HSL hmt hml hs0 hs0' hsz HE HC
  go_wp2_with fail
  refine HPb.out.mono ?_
  rintro e w4 ⟨a4, c4, rfl, _, hm4⟩
  have H4 := Lib.hid (H3.out.trans hm4 (fun _ _ c => c))
  clear hm4 HPb H3
  go_upto_region 11 with (fail)
  have HB := Lib.hid (HPl.start (w := w4) (n := N) (v := .slice a4 R.1.length c4) (x := R.2.1.1) (y := R.2.1.2))
  obtain ⟨g1, hg1⟩ : ∃ g, g = w4.heap.size := ⟨_, rfl⟩
  obtain ⟨g2, hg2⟩ : ∃ g, g = w4.heap.size + 1 := ⟨_, rfl⟩
  obtain ⟨W5, hW5⟩ : ∃ W, W = ((w4.alloc (.cells #[.int .u64 N, .slice a4 R.1.length c4] 25)).alloc (.cells #[.int .i64 R.2.1.1, .int .i64 R.2.1.2] 38)) := ⟨_, rfl⟩
  rw [← hW5, ← hg2, ← hg1] at HB ⊢
  clear hW5 hg2 hg1
  have H5 := Lib.hid (H4.out.trans HB.out.mod (fun _ _ c => c))
  obtain ⟨er, her⟩ : ∃ er, er = R.2.2 := ⟨_, rfl⟩
  rw [← her] at HCP ⊢
  clear her
  go_wp2_with fail
  go_loopw [14, 15, 16] (fun v14 v15 v16 wr => ∃ j : Nat, j ≤ x.size ∧ v14 = .int .i64 (advK 1 1 x j).1 ∧ v15 = .int .i64 (advK 1 1 x j).2 ∧ v16 = .int .i64 j ∧ Hid (HPl w4 wr g1 g2 N (.slice a4 R.1.length c4) R.2.1.1 R.2.1.2)) (fun _ _ v16 _ => x.size - (intOf v16).toNat)
  case atStart => exact ⟨0, Nat.zero_le _, rfl, rfl, rfl, HB⟩
  case round =>
    obtain ⟨j, hj, rfl, rfl, rfl, HI⟩ := hrel
    have hadv := advK_bd 1 1 x j hj (by decide)
    by_cases hlt : j < x.size
    · have hji : (j : Int) < x.size := by omega
      have hsucc := advK_succ 1 1 x j hlt
      by_cases h10 : x[j].toNat = 10
      · rw [if_pos h10] at hsucc
        have hsc := Lib.hid hsucc
        clear hsucc
        have h10' : ((x[j].toNat : Nat) : Int) = 10 := by omega
        go_wp2_with fail
        go_roundw
        case rel => exact ⟨j + 1, by omega, by rw [hsc.out], by rw [hsc.out], by go_num, HI⟩
        case measure => simp [intOf]; omega
      · rw [if_neg h10] at hsucc
        have hsc := Lib.hid hsucc
        clear hsucc
        have h10' : ¬ ((x[j].toNat : Nat) : Int) = 10 := by omega
        go_wp2_with fail
        go_roundw
        case rel => exact ⟨j + 1, by omega, by rw [hsc.out], by rw [hsc.out], by go_num, HI⟩
        case measure => simp [intOf]; omega
    · have hje : j = x.size := by omega
      subst hje
      have hend : advK 1 1 x x.size = adv (1, 1) (L x) := by
        unfold advK L
        rw [List.take_of_length_le (by rw [Array.length_toList]; exact Nat.le_refl _)]
      have hcp := HCP.out
      rw [← hend] at hcp
      obtain ⟨la, hla⟩ : ∃ la, la = (advK 1 1 x x.size).1 := ⟨_, rfl⟩
      obtain ⟨ca, hca⟩ : ∃ ca, ca = (advK 1 1 x x.size).2 := ⟨_, rfl⟩
      rw [← hla, ← hca] at hcp hadv ⊢
      have p0 := HI.out.p0
      have p1 := HI.out.p1
      obtain ⟨pl, hpl⟩ : ∃ pl, pl = R.2.1.1 := ⟨_, rfl⟩
      obtain ⟨pc, hpc⟩ : ∃ pc, pc = R.2.1.2 := ⟨_, rfl⟩
      rw [← hpl] at hcp p0
      rw [← hpc] at hcp p1
      have HM := Lib.hid (Mod.trans (show Mod w w4 NoB from H4.out) HI.out.mod (fun _ _ c => c))
      clear hend hla hca hpl hpc HCP HI HB hadv
      by_cases hw : 1 < la ∧ ca = 1
      · have her := hcp.1 hw
        obtain ⟨hw1, hw2⟩ := hw
        subst her
        subst hw2
        clear hcp
        go_wp2_with fail
        go_ret
        exact ⟨rfl, HM.out⟩
      · obtain ⟨her, e1, e2⟩ := hcp.2 hw
        subst her
        subst e1
        clear hcp
        by_cases hw1 : 1 < pl
        · have hw2 : ¬ ca = 1 := fun c => hw ⟨hw1, c⟩
          clear hw
          go_wp2_with fail
          go_ret
          exact ⟨rfl, HM.out⟩
        · clear hw
          go_wp2_with fail
          go_ret
          exact ⟨rfl, HM.out⟩
end Go.Proofs.YtggnkefhegnokaaDoor
end
