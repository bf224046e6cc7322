/- Merged: LgCp LgCq LgCr -/
import Derived.Test.YtppambkffgmkgaaGreatDoorMg28
section
/- Plain: what the text of a log is read as that is cut short. -/
namespace Go.Proofs.YtppambkffgmkgaaGreatDoor
set_option linter.unusedVariables false

/-- A step of a reading: it does nothing behind an error; it is short where its word is cut. -/
def cutErr (f : SS → SS) : Prop := ∀ st, st.er ≠ 0 → f st = st
def cutFull (f : SS → SS) (u r : List UInt8) : Prop := ∀ p, f ⟨u ++ r, p, 0⟩ = ⟨r, (p.1, p.2 + u.length), 0⟩
def cutMid (f : SS → SS) (u : List UInt8) : Prop := ∀ y p, y <+: u → y ≠ u → f ⟨y, p, 0⟩ = ⟨y, p, 20⟩ ∨ f ⟨y, p, 0⟩ = ⟨[], (p.1, p.2 + y.length), 0⟩
def cutLast (f : SS → SS) (u : List UInt8) : Prop := ∀ y p, y <+: u → y ≠ u → f ⟨y, p, 0⟩ = ⟨y, p, 20⟩
def runC : List ((SS → SS) × List UInt8) → SS → SS
  | [], st => st
  | x :: r, st => runC r (x.1 st)
def wordsC (S : List ((SS → SS) × List UInt8)) : List UInt8 := S.flatMap Prod.snd
def OkC : List ((SS → SS) × List UInt8) → Prop
  | [] => True
  | x :: r => x.2 ≠ [] ∧ cutErr x.1 ∧ (if r = [] then cutLast x.1 x.2 else cutMid x.1 x.2 ∧ ∀ z, z <+: wordsC r → cutFull x.1 x.2 z) ∧ OkC r
theorem runC_err : ∀ (S : List ((SS → SS) × List UInt8)), OkC S → ∀ st, st.er ≠ 0 → runC S st = st
  | [], _, st, _ => rfl
  | x :: r, h, st, he => by
    show runC r (x.1 st) = st
    rw [h.2.1 st he]
    exact runC_err r h.2.2.2 st he
theorem prefix_split {y a b : List UInt8} (h : y <+: a ++ b) : (y <+: a ∧ y ≠ a) ∨ ∃ z, y = a ++ z ∧ z <+: b := by
  induction a generalizing y with
  | nil => exact Or.inr ⟨y, rfl, h⟩
  | cons c a ih =>
    cases y with
    | nil => exact Or.inl ⟨List.nil_prefix, by simp⟩
    | cons d y =>
      rw [List.cons_append, List.cons_prefix_cons] at h
      obtain ⟨rfl, h⟩ := h
      rcases ih h with ⟨h1, h2⟩ | ⟨z, rfl, hz⟩
      · exact Or.inl ⟨by rw [List.cons_prefix_cons]; exact ⟨rfl, h1⟩, by simpa using h2⟩
      · exact Or.inr ⟨z, rfl, hz⟩
/-- A text that ends within the words is short there. -/
theorem runC_cut : ∀ (S : List ((SS → SS) × List UInt8)), OkC S → ∀ (y : List UInt8) (p : Int × Int), y <+: wordsC S → y ≠ wordsC S →
    (runC S ⟨y, p, 0⟩).er = 20 ∧ (runC S ⟨y, p, 0⟩).p.1 = p.1 ∧ (runC S ⟨y, p, 0⟩).p.2 ≤ p.2 + y.length
  | [], _, y, p, h, hn => by
    exact absurd (List.prefix_nil.1 h) hn
  | x :: r, h, y, p, hy, hn => by
    obtain ⟨hne, herr, hc, hr⟩ := h
    have hw : wordsC (x :: r) = x.2 ++ wordsC r := by simp [wordsC]
    rw [hw] at hy hn
    have short : x.1 ⟨y, p, 0⟩ = ⟨y, p, 20⟩ → (runC (x :: r) ⟨y, p, 0⟩).er = 20 ∧ (runC (x :: r) ⟨y, p, 0⟩).p.1 = p.1 ∧ (runC (x :: r) ⟨y, p, 0⟩).p.2 ≤ p.2 + y.length := by
      intro e
      have : runC (x :: r) ⟨y, p, 0⟩ = ⟨y, p, 20⟩ := by
        show runC r (x.1 ⟨y, p, 0⟩) = _
        rw [e]
        exact runC_err r hr _ (show (20 : Int) ≠ 0 by decide)
      rw [this]
      exact ⟨rfl, rfl, by show p.2 ≤ p.2 + (y.length : Int); omega⟩
    by_cases hr0 : r = []
    · rw [if_pos hr0] at hc
      subst hr0
      have hw0 : wordsC [] = [] := rfl
      rw [hw0, List.append_nil] at hy hn
      exact short (hc y p hy hn)
    · rw [if_neg hr0] at hc
      rcases prefix_split hy with ⟨h1, h2⟩ | ⟨z, rfl, hz⟩
      · rcases hc.1 y p h1 h2 with e | e
        · exact short e
        · have hrun : runC (x :: r) ⟨y, p, 0⟩ = runC r ⟨[], (p.1, p.2 + y.length), 0⟩ := by show runC r (x.1 ⟨y, p, 0⟩) = _; rw [e]
          have ih := runC_cut r hr [] (p.1, p.2 + y.length) List.nil_prefix (by
            cases r with
            | nil => exact absurd rfl hr0
            | cons a r => intro e0; have := hr.1; simp [wordsC] at e0; exact this e0.1)
          rw [hrun]
          refine ⟨ih.1, ih.2.1, ?_⟩
          have := ih.2.2
          simpa using this
      · have hrun : runC (x :: r) ⟨x.2 ++ z, p, 0⟩ = runC r ⟨z, (p.1, p.2 + x.2.length), 0⟩ := by show runC r (x.1 ⟨x.2 ++ z, p, 0⟩) = _; rw [hc.2 z hz p]
        have ih := runC_cut r hr z (p.1, p.2 + x.2.length) hz (fun e => hn (by rw [e]))
        rw [hrun]
        refine ⟨ih.1, ih.2.1, ?_⟩
        have := ih.2.2
        rw [List.length_append]
        have h3 : ((x.2.length + z.length : Nat) : Int) = (x.2.length : Int) + z.length := by omega
        rw [h3]
        simp only at this
        omega
/-- The steps. -/
theorem word_cutLast (u : List UInt8) : cutLast (fun st => (wordS u st).2) u := by
  intro y p h hn
  have h2 : ¬ u <+: y := fun c => hn (h.eq_of_length (Nat.le_antisymm h.length_le c.length_le))
  simp [wordS, wordOut, SS.go, h, h2, adv]
theorem word_cutErr (u : List UInt8) : cutErr (fun st => (wordS u st).2) := fun st h => by show (wordS u st).2 = st; rw [wordS_err h]
theorem num_cutErr (m : Int) : cutErr (fun st => (numS m st).2) := fun st h => by show (numS m st).2 = st; rw [numS_err h]
theorem dec_prefix (n : Nat) : ∀ y, y <+: decL n → y ≠ [] → ∃ m, m ≤ n ∧ y = decL m := by
  induction n using Nat.strongRecOn with
  | _ n ih =>
    intro y hy hn
    by_cases h : n < 10
    · refine ⟨n, Nat.le_refl _, ?_⟩
      have h1 := (decL_small h)
      rw [h1] at hy ⊢
      cases y with
      | nil => exact absurd rfl hn
      | cons c y =>
        rw [List.cons_prefix_cons] at hy
        rw [hy.1, List.prefix_nil.1 hy.2]
    · have h1 := decL_big h
      by_cases he : y = decL n
      · exact ⟨n, Nat.le_refl _, he⟩
      · rw [h1] at hy he
        rcases prefix_split hy with ⟨h2, _⟩ | ⟨z, rfl, hz⟩
        · obtain ⟨m, hm, e⟩ := ih (n / 10) (by omega) y h2 hn
          exact ⟨m, by omega, e⟩
        · cases z with
          | nil =>
            obtain ⟨m, hm, e⟩ := ih (n / 10) (by omega) (decL (n / 10) ++ []) (by simp) hn
            exact ⟨m, by omega, e⟩
          | cons c z =>
            rw [List.cons_prefix_cons] at hz
            exact absurd (by rw [hz.1, List.prefix_nil.1 hz.2]) he
theorem num_cutMid {m : Int} (h0 : 0 ≤ m) {n : Nat} (hn : (n : Int) ≤ m) : cutMid (fun st => (numS m st).2) (decL n) := by
  intro y p h hne
  by_cases hy : y = []
  · subst hy
    left
    simp [numS, numOut, numErr, SS.go, adv]
  · right
    obtain ⟨k, hk, rfl⟩ := dec_prefix n y h hy
    have := numS_dec (most := m) h0 (n := k) (by omega) [] p (by simp)
    rw [List.append_nil] at this
    show (numS m ⟨decL k, p, 0⟩).2 = _
    rw [this]
theorem num_full {m : Int} (h0 : 0 ≤ m) {n : Nat} (hn : (n : Int) ≤ m) (c : UInt8) (t z : List UInt8) (hc : isD c = false) (hz : z <+: c :: t) : cutFull (fun st => (numS m st).2) (decL n) z := by
  intro p
  show (numS m ⟨decL n ++ z, p, 0⟩).2 = _
  rw [numS_dec h0 hn z p (by
    intro d hd
    cases z with
    | nil => simp at hd
    | cons e z =>
      rw [List.cons_prefix_cons] at hz
      simp at hd
      rw [← hd, hz.1]; exact hc)]
theorem byte_full {c : UInt8} (hc : c.toNat ≠ 10) (z : List UInt8) : cutFull (fun st => (wordS [c] st).2) [c] z := by
  intro p
  show (wordS [c] ⟨c :: z, p, 0⟩).2 = _
  rw [byte_there hc]
  rfl
end Go.Proofs.YtppambkffgmkgaaGreatDoor
end

section
/- Plain: LogCuts' law: a log that is cut short. -/
namespace Go.Proofs.YtppambkffgmkgaaGreatDoor
set_option linter.unusedVariables false

def sgF (st : SS) : SS := (if nextS st = some 43 then wordS [43] st else (false, (wordS [45] st).2)).2
def sgC (b : Bool) : UInt8 := if b = true then 43 else 45
theorem sgF_err : cutErr sgF := fun st h => by
  unfold sgF
  split
  · rw [wordS_err h]
  · show (wordS [45] st).2 = st
    rw [wordS_err h]
theorem sgF_mid (b : Bool) : cutMid sgF [sgC b] := by
  intro y p h hne
  left
  cases y with
  | nil => simp [sgF, nextS, wordS, wordOut, SS.go, adv]
  | cons c y =>
    rw [List.cons_prefix_cons] at h
    exact absurd (by rw [h.1, List.prefix_nil.1 h.2]) hne
theorem sgF_full (b : Bool) (z : List UInt8) : cutFull sgF [sgC b] z := by
  intro p
  have hn : nextS ⟨sgC b :: z, p, 0⟩ = some (sgC b) := by simp [nextS]
  show sgF ⟨sgC b :: z, p, 0⟩ = _
  unfold sgF
  rw [hn]
  cases b with
  | true =>
    rw [if_pos (by rfl)]
    rw [show sgC true = 43 from rfl, byte_there (by decide)]
    rfl
  | false =>
    rw [if_neg (by decide)]
    rw [show sgC false = 45 from rfl]
    show (wordS [45] _).2 = _
    rw [byte_there (by decide)]
    rfl
def evSteps (e : Ev) : List ((SS → SS) × List UInt8) :=
  [(fun st => (numS 4611686018427387903 st).2, decL e.t.toNat), (fun st => (wordS [32] st).2, [32]), (sgF, [sgC e.add]), (fun st => (wordS [32] st).2, [32]),
   (fun st => (numS 4294967295 st).2, decL e.e.u.toNat), (fun st => (wordS [32] st).2, [32]), (fun st => (numS 4294967295 st).2, decL e.e.v.toNat), (fun st => (wordS [10] st).2, [10])]
theorem evSteps_run (e : Ev) (st : SS) : runC (evSteps e) st = (evS st).2 := rfl
theorem evSteps_words (e : Ev) : wordsC (evSteps e) = lineL e := by
  cases h : e.add <;> simp [wordsC, evSteps, lineL, sgnL, sgC, h]
theorem byte_mid (c : UInt8) : cutMid (fun st => (wordS [c] st).2) [c] := fun y p h hn => Or.inl (word_cutLast [c] y p h hn)
theorem decL_ne (n : Nat) : decL n ≠ [] := fun e => by have := (decL_len n).1; rw [e] at this; simp at this
theorem evSteps_ok (e : Ev) (ht : 0 ≤ e.t ∧ e.t ≤ 4611686018427387903) (hb : EvB e) : OkC (evSteps e) := by
  have b1 := hb.1
  have b2 := hb.2
  have h1 : (e.t.toNat : Int) ≤ 4611686018427387903 := by omega
  have h2 : (e.e.u.toNat : Int) ≤ 4294967295 := by omega
  have h3 : (e.e.v.toNat : Int) ≤ 4294967295 := by omega
  unfold evSteps
  refine ⟨decL_ne _, num_cutErr _, ?_, by simp, word_cutErr _, ?_, by simp, sgF_err, ?_, by simp, word_cutErr _, ?_, decL_ne _, num_cutErr _, ?_, by simp, word_cutErr _, ?_, decL_ne _, num_cutErr _, ?_, by simp, word_cutErr _, ?_, trivial⟩
  · rw [if_neg (by simp)]; exact ⟨num_cutMid (by decide) h1, fun z hz => num_full (by decide) h1 32 _ z (by decide) hz⟩
  · rw [if_neg (by simp)]; exact ⟨byte_mid _, fun z _ => byte_full (by decide) z⟩
  · rw [if_neg (by simp)]; exact ⟨sgF_mid _, fun z _ => sgF_full _ z⟩
  · rw [if_neg (by simp)]; exact ⟨byte_mid _, fun z _ => byte_full (by decide) z⟩
  · rw [if_neg (by simp)]; exact ⟨num_cutMid (by decide) h2, fun z hz => num_full (by decide) h2 32 _ z (by decide) hz⟩
  · rw [if_neg (by simp)]; exact ⟨byte_mid _, fun z _ => byte_full (by decide) z⟩
  · rw [if_neg (by simp)]; exact ⟨num_cutMid (by decide) h3, fun z hz => num_full (by decide) h3 10 _ z (by decide) hz⟩
  · rw [if_pos rfl]; exact word_cutLast _
theorem evS_cut (e : Ev) (ht : 0 ≤ e.t ∧ e.t ≤ 4611686018427387903) (hb : EvB e) (y : List UInt8) (p : Int × Int) (h : y <+: lineL e) (hn : y ≠ lineL e) :
    (evS ⟨y, p, 0⟩).2.er = 20 ∧ (evS ⟨y, p, 0⟩).2.p.1 = p.1 ∧ (evS ⟨y, p, 0⟩).2.p.2 ≤ p.2 + y.length := by
  have := runC_cut (evSteps e) (evSteps_ok e ht hb) y p (by rw [evSteps_words]; exact h) (by rw [evSteps_words]; exact hn)
  rw [evSteps_run] at this
  exact this
def hdSteps (n : Nat) : List ((SS → SS) × List UInt8) :=
  [(fun st => (wordS [108, 111, 103] st).2, [108, 111, 103]), (fun st => (wordS [32] st).2, [32]), (fun st => (numS 4294967296 st).2, decL n), (fun st => (wordS [10] st).2, [10])]
theorem hdSteps_ok (n : Nat) (hn : n ≤ 4294967296) : OkC (hdSteps n) := by
  have h1 : (n : Int) ≤ 4294967296 := by omega
  unfold hdSteps
  refine ⟨by simp, word_cutErr _, ?_, by simp, word_cutErr _, ?_, decL_ne _, num_cutErr _, ?_, by simp, word_cutErr _, ?_, trivial⟩
  · rw [if_neg (by simp)]
    refine ⟨fun y p h hn => Or.inl (word_cutLast _ y p h hn), fun z _ p => ?_⟩
    show (wordS [108, 111, 103] ⟨[108, 111, 103] ++ z, p, 0⟩).2 = _
    rw [wordS_there]
    simp [adv]
    omega
  · rw [if_neg (by simp)]; exact ⟨byte_mid _, fun z _ => byte_full (by decide) z⟩
  · rw [if_neg (by simp)]; exact ⟨num_cutMid (by decide) h1, fun z hz => num_full (by decide) h1 10 _ z (by decide) hz⟩
  · rw [if_pos rfl]; exact word_cutLast _
theorem hdS_cut (n : Nat) (hn : n ≤ 4294967296) (y : List UInt8) (h : y <+: [108, 111, 103, 32] ++ decL n ++ [10]) (hne : y ≠ [108, 111, 103, 32] ++ decL n ++ [10]) :
    (hdS y).2.er = 20 ∧ (hdS y).2.p.1 = 1 ∧ (hdS y).2.p.2 ≤ 1 + y.length := by
  have hw : wordsC (hdSteps n) = [108, 111, 103, 32] ++ decL n ++ [10] := by simp [wordsC, hdSteps]
  exact runC_cut (hdSteps n) (hdSteps_ok n hn) y (1, 1) (by rw [hw]; exact h) (by rw [hw]; exact hne)
end Go.Proofs.YtppambkffgmkgaaGreatDoor
end

section
/- Plain: LogCuts' law: what the text of a log is read as that ends ahead of its end. -/
namespace Go.Proofs.YtppambkffgmkgaaGreatDoor
set_option linter.unusedVariables false

theorem allOk_tk {n : Int} : ∀ {l : List Ev} {prev : Option Ev} {there : Ed → Bool} (k : Nat), AllOk n prev there l → AllOk n prev there (l.take k)
  | [], _, _, k, h => by simpa using h
  | x :: l, _, _, 0, h => trivial
  | x :: l, _, _, k + 1, h => ⟨h.1, allOk_tk k h.2⟩
theorem chk_take {n : Int} {F : List Ev} (h : (chk n F).2 = 0) (k : Nat) : (chk n (F.take k)).2 = 0 := by
  unfold chk at h ⊢
  by_cases c : maxN < n ∨ 2147483648 < F.length
  · rw [if_pos c] at h; simp at h
  · rw [if_neg c] at h
    rw [if_neg (by rw [List.length_take]; omega)]
    rw [chkFrom_allOk (allOk_tk k (allOk_of h))]
theorem adv_no10 : ∀ (l : List UInt8) (p : Int × Int), (∀ c ∈ l, c.toNat ≠ 10) → adv p l = (p.1, p.2 + l.length)
  | [], p, _ => by simp [adv]
  | c :: l, p, h => by
    show adv (if c.toNat = 10 then (p.1 + 1, 1) else (p.1, p.2 + 1)) l = _
    rw [if_neg (h c (by simp)), adv_no10 l _ (fun d hd => h d (by simp [hd]))]
    refine Prod.ext rfl ?_
    show p.2 + 1 + (l.length : Int) = p.2 + ((l.length + 1 : Nat) : Int)
    omega
theorem decL_no10 (n : Nat) : ∀ c ∈ decL n, c.toNat ≠ 10 := fun c hc => by
  have := decL_digits n c hc
  simp [isD] at this
  omega
def lineA (e : Ev) : List UInt8 := decL e.t.toNat ++ sgnL e.add ++ decL e.e.u.toNat ++ [32] ++ decL e.e.v.toNat
theorem lineA_no10 (e : Ev) : ∀ c ∈ lineA e, c.toNat ≠ 10 := by
  intro c hc
  unfold lineA at hc
  simp only [List.mem_append] at hc
  rcases hc with (((hc | hc) | hc) | hc) | hc
  · exact decL_no10 _ c hc
  · unfold sgnL at hc
    split at hc <;> simp at hc <;> rcases hc with rfl | rfl | rfl <;> decide
  · exact decL_no10 _ c hc
  · simp at hc; subst hc; decide
  · exact decL_no10 _ c hc
def headA (n : Nat) : List UInt8 := [108, 111, 103, 32] ++ decL n
theorem headA_no10 (n : Nat) : ∀ c ∈ headA n, c.toNat ≠ 10 := by
  intro c hc
  unfold headA at hc
  simp only [List.mem_append] at hc
  rcases hc with hc | hc
  · simp at hc; rcases hc with rfl | rfl | rfl | rfl <;> decide
  · exact decL_no10 _ c hc
/-- Cut within a line: the place goes on in it. -/
theorem adv_cut {A y : List UInt8} (hA : ∀ c ∈ A, c.toNat ≠ 10) (h : y <+: A ++ [10]) (hn : y ≠ A ++ [10]) (p : Int × Int) : adv p y = (p.1, p.2 + y.length) := by
  refine adv_no10 y p fun c hc => ?_
  rcases prefix_split h with ⟨h1, _⟩ | ⟨z, rfl, hz⟩
  · exact hA c (h1.subset hc)
  · cases z with
    | nil => rw [List.append_nil] at hc; exact hA c hc
    | cons d z =>
      rw [List.cons_prefix_cons] at hz
      exact absurd (by rw [hz.1, List.prefix_nil.1 hz.2]) hn
theorem adv_full {A : List UInt8} (hA : ∀ c ∈ A, c.toNat ≠ 10) (p : Int × Int) : adv p (A ++ [10]) = (p.1 + 1, 1) := by
  rw [adv_snoc, if_pos (by rfl), adv_no10 A p hA]
theorem adv_lines : ∀ (G : List Ev) (a : Int), adv (a, 1) (G.flatMap lineL) = (a + G.length, 1)
  | [], a => by simp [adv]
  | e :: G, a => by
    rw [List.flatMap_cons, adv_append]
    have : lineL e = lineA e ++ [10] := rfl
    rw [this, adv_full (lineA_no10 e)]
    rw [adv_lines G (a + 1)]
    refine Prod.ext ?_ rfl
    show a + 1 + (G.length : Int) = a + ((G.length + 1 : Nat) : Int)
    omega
theorem adv_log (n : Int) (G : List Ev) : adv (1, 1) (logL n G) = ((G.length : Int) + 2, 1) := by
  have : logL n G = (headA n.toNat ++ [10]) ++ G.flatMap lineL := by simp [logL, headA]
  rw [this, adv_append, adv_full (headA_no10 _), adv_lines]
  refine Prod.ext ?_ rfl
  show (1 : Int) + 1 + G.length = G.length + 2
  omega
theorem cut_lines : ∀ (F : List Ev) (y : List UInt8), y <+: F.flatMap lineL → ∃ k z, y = (F.take k).flatMap lineL ++ z ∧ k ≤ F.length ∧ (z = [] ∨ ∃ e, F[k]? = some e ∧ z <+: lineL e ∧ z ≠ lineL e ∧ z ≠ [])
  | [], y, h => ⟨0, [], by simpa using h, by simp, Or.inl rfl⟩
  | e :: F, y, h => by
    rw [List.flatMap_cons] at h
    rcases prefix_split h with ⟨h1, h2⟩ | ⟨w, rfl, hw⟩
    · by_cases hy : y = []
      · exact ⟨0, [], by simp [hy], by simp, Or.inl rfl⟩
      · exact ⟨0, y, by simp, by simp, Or.inr ⟨e, rfl, h1, h2, hy⟩⟩
    · obtain ⟨k, z, rfl, hk, hz⟩ := cut_lines F w hw
      exact ⟨k + 1, z, by simp, by simp; omega, by simpa using hz⟩
/-- A log that is cut short. -/
theorem cut_plain {n : Int} {F : List Ev} (hn0 : 0 ≤ n) (hz : (chk n F).2 = 0) (hb : ∀ x ∈ F, EvB x) (x : List UInt8) (hx : x <+: logL n F) :
    ((1 < (adv (1, 1) x).1 ∧ (adv (1, 1) x).2 = 1) → (parseR x).2.2 = 0) ∧
    (¬ (1 < (adv (1, 1) x).1 ∧ (adv (1, 1) x).2 = 1) → (parseR x).2.2 = 20 ∧ (parseR x).2.1.1 = (adv (1, 1) x).1 ∧ (parseR x).2.1.2 ≤ (adv (1, 1) x).2) := by
  obtain ⟨hnN, hok⟩ := chk_ok_bd hz
  have hlog : logL n F = (headA n.toNat ++ [10]) ++ F.flatMap lineL := by simp [logL, headA]
  rw [hlog] at hx
  rcases prefix_split hx with ⟨h1, h2⟩ | ⟨w, rfl, hw⟩
  · have ha := adv_cut (headA_no10 _) h1 h2 (1, 1)
    obtain ⟨c1, c2, c3⟩ := hdS_cut n.toNat (by omega) x h1 h2
    have hR : parseR x = ([], (hdS x).2.p, (hdS x).2.er) := by
      have := plF_end (n := (hdS x).1) (k := x.length + 1) (F := []) (st := (hdS x).2) (R := parseR x) rfl (by omega) (by unfold nextS; rw [if_neg (by rw [c1]; decide)]; rfl)
      rw [if_neg (by rw [c1]; decide)] at this
      exact this
    rw [hR, ha]
    refine ⟨fun c => absurd c.1 (by simp), fun _ => ⟨c1, c2, c3⟩⟩
  · obtain ⟨k, z, rfl, hk, hzz⟩ := cut_lines F w hw
    have hck := chk_take hz k
    have hbk : ∀ y ∈ F.take k, EvB y := fun y hy => hb y (List.mem_of_mem_take hy)
    have hxl : headA n.toNat ++ [10] ++ ((F.take k).flatMap lineL ++ z) = logL n (F.take k) ++ z := by simp [logL, headA]
    rw [hxl]
    rcases hzz with rfl | ⟨e, he, hp, hne, hz0⟩
    · rw [List.append_nil, adv_log]
      have h := (parse_log hn0 hck hbk).1
      refine ⟨fun _ => by rw [h], fun c => absurd ⟨by show (1 : Int) < ((F.take k).length : Int) + 2; omega, rfl⟩ c⟩
    · have hem : e ∈ F := List.mem_of_getElem? he
      have hA : lineL e = lineA e ++ [10] := rfl
      rw [adv_append, adv_log, adv_cut (lineA_no10 e) (by rw [← hA]; exact hp) (by rw [← hA]; exact hne)]
      obtain ⟨j, hj, hR, _⟩ := parse_behind hn0 hck hbk z
      obtain ⟨j, rfl⟩ : ∃ i, j = i + 1 := ⟨j - 1, by omega⟩
      have hs : (nextS ⟨z, (((F.take k).length : Int) + 2, 1), 0⟩).isSome = true := by
        cases z with
        | nil => exact absurd rfl hz0
        | cons c z => simp [nextS]
      obtain ⟨c1, c2, c3⟩ := evS_cut e (allOk_tt hok e hem) (hb e hem) z (((F.take k).length : Int) + 2, 1) hp hne
      have hE := (plF_more (n := n) (k := j) (F := F.take k) rfl hs).1 (by rw [c1]; decide)
      rw [hR, hE]
      have hl : 0 < z.length := List.length_pos_iff.2 hz0
      refine ⟨fun c => absurd c.2 (by show ¬ ((1 : Int) + z.length = 1); omega), fun _ => ⟨c1, c2, c3⟩⟩
end Go.Proofs.YtppambkffgmkgaaGreatDoor
end
