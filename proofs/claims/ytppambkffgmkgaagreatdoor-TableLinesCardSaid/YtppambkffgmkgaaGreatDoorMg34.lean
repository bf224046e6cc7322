/- Merged: TbLp TbLn -/
import Derived.Test.YtppambkffgmkgaaGreatDoorMg31
import Derived.Test.YtppambkffgmkgaaGreatDoorMg18
import Derived.Test.YtppambkffgmkgaaGreatDoorMg19
import Derived.Test.YtppambkffgmkgaaGreatDoorMg22
import Derived.Test.YtppambkffgmkgaaGreatDoorMg27
import Derived.WalkKit
section
/- Plain: a table's lines, and two of them that have changed places. -/
namespace Go.Proofs.YtppambkffgmkgaaGreatDoor
set_option linter.unusedVariables false

/-- Bytes, cut at their line ends: whole lines, and what is left. -/
def splS (s : List (List UInt8) × List UInt8) (x : UInt8) : List (List UInt8) × List UInt8 := if x.toNat = 10 then (s.1 ++ [s.2 ++ [10]], []) else (s.1, s.2 ++ [x])
def spl (l : List UInt8) : List (List UInt8) × List UInt8 := l.foldl splS ([], [])
theorem spl_snoc (l : List UInt8) (x : UInt8) : spl (l ++ [x]) = splS (spl l) x := by simp [spl, List.foldl_append]
theorem spl_at {l : List UInt8} {j : Nat} {x : UInt8} (h : l[j]? = some x) : spl (l.take (j + 1)) = splS (spl (l.take j)) x := by
  obtain ⟨h1, h2⟩ := List.getElem?_eq_some_iff.1 h
  rw [List.take_succ_eq_append_getElem h1, h2, spl_snoc]
theorem spl_go (l : List UInt8) : ∀ s : List (List UInt8) × List UInt8, (l.foldl splS s).1.flatten ++ (l.foldl splS s).2 = s.1.flatten ++ s.2 ++ l := by
  induction l with
  | nil => intro s; simp
  | cons x l ih =>
    intro s
    rw [List.foldl_cons, ih]
    unfold splS
    split
    · rename_i h
      have : x = 10 := UInt8.toNat_inj.1 h
      subst this
      simp
    · simp
theorem spl_flat (l : List UInt8) : (spl l).1.flatten ++ (spl l).2 = l := by
  have h := spl_go l ([], [])
  rw [List.flatten_nil, List.nil_append, List.nil_append] at h
  exact h
theorem spl_ne {D : List (List UInt8)} (l : List UInt8) (h : (spl l).1 = D) : ∀ x ∈ D, x ≠ [] := by
  have key : ∀ (l : List UInt8) (s : List (List UInt8) × List UInt8), (∀ x ∈ s.1, x ≠ []) → ∀ x ∈ (l.foldl splS s).1, x ≠ [] := by
    intro l
    induction l with
    | nil => intro s h; exact h
    | cons y l ih =>
      intro s h
      rw [List.foldl_cons]
      apply ih
      unfold splS
      split
      · intro x hx
        rcases List.mem_append.1 hx with c | c
        · exact h x c
        · rw [List.mem_singleton.1 c]; simp
      · exact h
  subst h
  exact key l ([], []) (fun x hx => by cases hx)
theorem spl_quiet : ∀ (c : List UInt8) (s : List (List UInt8) × List UInt8), (∀ x ∈ c, x.toNat ≠ 10) → c.foldl splS s = (s.1, s.2 ++ c)
  | [], s, _ => by simp
  | x :: c, s, h => by
    have h1 : splS s x = (s.1, s.2 ++ [x]) := if_neg (h x (by simp))
    rw [List.foldl_cons, h1, spl_quiet c _ (fun y hy => h y (by simp [hy]))]
    simp
theorem spl_line (c : List UInt8) (D : List (List UInt8)) (h : ∀ x ∈ c, x.toNat ≠ 10) : (c ++ [10]).foldl splS (D, []) = (D ++ [c ++ [10]], []) := by
  rw [List.foldl_append, spl_quiet c _ h]
  rfl
theorem spl_rows : ∀ (X : List Lf) (D : List (List UInt8)), (X.flatMap rowT).foldl splS (D, []) = (D ++ X.map rowT, [])
  | [], D => by simp
  | x :: X, D => by
    have e : rowT x = rowA x ++ [10] := rfl
    rw [List.flatMap_cons, List.foldl_append, e, spl_line _ _ (rowA_no10 x), spl_rows X, ← e]
    simp
/-- A table's lines. -/
def linT (n : Int) (X : List Lf) : List (List UInt8) := (headT n.toNat ++ [10]) :: X.map rowT
theorem spl_tbl (n : Int) (X : List Lf) : spl (tblL n X) = (linT n X, []) := by
  have e : tblL n X = (headT n.toNat ++ [10]) ++ X.flatMap rowT := by unfold tblL headT; simp
  unfold spl
  rw [e, List.foldl_append, spl_line _ _ (headT_no10 _), spl_rows]
  rfl
theorem linT_flat (n : Int) (X : List Lf) : (linT n X).flatten = tblL n X := by
  unfold linT tblL headT
  simp [List.flatMap_def]
theorem linT_len (n : Int) (X : List Lf) : (linT n X).length = X.length + 1 := by simp [linT]

/-- Lives that may be: each by itself, and each behind all that are ahead of it. -/
def vld (n : Int) (x : Lf) : Prop := ¬ (x.fr < 0 ∨ maxT < x.fr ∨ maxT < x.to) ∧ right x.e n ∧ ¬ (0 ≤ x.to ∧ x.to ≤ x.fr)
theorem lfErr_vld {n : Int} {prev : Option Lf} {x : Lf} (h : lfErr n prev x = 0) : vld n x ∧ ∀ p, prev = some p → follows p x := by
  unfold lfErr at h
  split at h
  · cases h
  · rename_i h1
    split at h
    · cases h
    · rename_i h2
      split at h
      · cases h
      · rename_i h3
        refine ⟨⟨h1, Classical.not_not.1 h2, fun c => h3 (Or.inl c)⟩, fun p hp => ?_⟩
        subst hp
        by_cases hf : follows p x
        · exact hf
        · exact absurd (Or.inr (by simpa using hf)) h3
theorem lfErr_yes {n : Int} {prev : Option Lf} {x : Lf} (h : vld n x) (hp : ∀ p, prev = some p → follows p x) : lfErr n prev x = 0 := by
  unfold lfErr
  rw [if_neg h.1, if_neg (Classical.not_not.2 h.2.1), if_neg]
  rintro (c | c)
  · exact h.2.2 c
  · cases prev with
    | none => cases c
    | some p => exact absurd (hp p rfl) (by simpa using c)
theorem lfErr_bad {n : Int} {p x : Lf} (h : vld n x) (hp : ¬ follows p x) : lfErr n (some p) x = 23 := by
  unfold lfErr
  rw [if_neg h.1, if_neg (Classical.not_not.2 h.2.1), if_pos]
  exact Or.inr (by simpa using hp)
theorem follows_trans {n : Int} {a b c : Lf} (hb : vld n b) (h : follows a b) (k : follows b c) : follows a c := by
  have hb2 := hb.2.2
  rcases h with h | ⟨h1, h2, h3⟩
  · rcases k with k | ⟨k1, k2, k3⟩
    · exact Or.inl (edLt_trans h k)
    · rw [k1] at h; exact Or.inl h
  · rcases k with k | ⟨k1, k2, k3⟩
    · rw [← h1] at k; exact Or.inl k
    · exact Or.inr ⟨h1.trans k1, h2, by omega⟩
theorem follows_anti {n : Int} {a b : Lf} (ha : vld n a) (hb : vld n b) (h : follows a b) : ¬ follows b a := by
  intro k
  have h1 := ha.2.2
  have h2 := hb.2.2
  rcases h with h | ⟨h1, h2, h3⟩
  · rcases k with k | ⟨k1, k2, k3⟩
    · exact edLt_irrefl _ (edLt_trans h k)
    · rw [k1] at h; exact edLt_irrefl _ h
  · rcases k with k | ⟨k1, k2, k3⟩
    · rw [h1] at k; exact edLt_irrefl _ k
    · omega
theorem allLf_pw {n : Int} : ∀ {X : List Lf} {prev : Option Lf}, AllLf n prev X → (∀ x ∈ X, vld n x) ∧ X.Pairwise follows ∧ ∀ p, prev = some p → ∀ y ∈ X, follows p y
  | [], prev, _ => by simp
  | x :: X, prev, h => by
    obtain ⟨v, hp⟩ := lfErr_vld h.1
    obtain ⟨i1, i2, i3⟩ := allLf_pw (prev := some x) h.2
    refine ⟨?_, List.pairwise_cons.2 ⟨fun y hy => i3 x rfl y hy, i2⟩, fun p he y hy => ?_⟩
    · intro y hy
      rcases List.mem_cons.1 hy with rfl | hy
      · exact v
      · exact i1 y hy
    · rcases List.mem_cons.1 hy with rfl | hy
      · exact hp p he
      · exact follows_trans v (hp p he) (i3 x rfl y hy)
/-- Two lines have changed places. -/
theorem swap_plain {n : Int} {X : List Lf} (hn : 0 ≤ n ∧ n ≤ 4294967296) (hok : AllLf n none X) (hb : ∀ x ∈ X, LfB x) {A B : Nat} {xa xb : Lf} (hA : X[A]? = some xa) (hB : X[B]? = some xb) (hAB : A < B) :
    parseT ((((linT n X).set (A + 1) (rowT xb)).set (B + 1) (rowT xa)).flatten) = ([], ((A : Int) + 3, 1), 23) := by
  obtain ⟨lA, eA⟩ := List.getElem?_eq_some_iff.1 hA
  obtain ⟨lB, eB⟩ := List.getElem?_eq_some_iff.1 hB
  obtain ⟨v, pw, -⟩ := allLf_pw hok
  have pwi := List.pairwise_iff_getElem.1 pw
  obtain ⟨X', hX'⟩ : ∃ X', X' = (X.set A xb).set B xa := ⟨_, rfl⟩
  have hl' : X'.length = X.length := by rw [hX']; simp
  have hlin : ((linT n X).set (A + 1) (rowT xb)).set (B + 1) (rowT xa) = linT n X' := by
    unfold linT
    rw [List.set_cons_succ, List.set_cons_succ, hX', List.map_set, List.map_set]
  rw [hlin, linT_flat]
  have hA1 : A + 1 < X'.length := by omega
  have hmem : ∀ x ∈ X', x ∈ X := by
    rw [hX']
    intro x hx
    rcases List.mem_or_eq_of_mem_set hx with h | h
    · rcases List.mem_or_eq_of_mem_set h with h | h
      · exact h
      · rw [h]; exact List.mem_of_getElem? hB
    · rw [h]; exact List.mem_of_getElem? hA
  obtain ⟨z, hz⟩ : ∃ z, z = X'[A + 1] := ⟨_, rfl⟩
  have hzm : z ∈ X := hmem z (by rw [hz]; exact List.getElem_mem _)
  have hzf : follows z xb := by
    by_cases h1 : B = A + 1
    · have : z = xa := by rw [hz]; subst h1; simp [hX']
      rw [this, ← eA, ← eB]
      exact pwi A B lA lB hAB
    · have : z = X[A + 1] := by
        rw [hz]
        simp only [hX']
        rw [List.getElem_set_ne (by omega), List.getElem_set_ne (by omega)]
      rw [this, ← eB]
      exact pwi (A + 1) B _ lB (by omega)
  have htk : X'.take (A + 1) = X.take A ++ [xb] := by
    rw [List.take_succ_eq_append_getElem (by omega)]
    congr 1
    · rw [hX', List.take_set, List.take_set]
      rw [List.set_eq_of_length_le (by simp; omega), List.set_eq_of_length_le (by simp; omega)]
    · simp only [hX']
      rw [List.getElem_set_ne (by omega)]
      simp
  have hsplit : tblL n X' = tblL n (X.take A ++ [xb]) ++ (rowT z ++ (X'.drop (A + 2)).flatMap rowT) := by
    have h2 : X' = (X.take A ++ [xb]) ++ z :: X'.drop (A + 2) := by
      rw [← htk, hz, ← List.drop_eq_getElem_cons hA1, List.take_append_drop]
    conv => lhs; rw [h2]
    unfold tblL
    simp only [List.flatMap_append, List.flatMap_cons, List.append_assoc]
  have hYok : AllLf n none (X.take A ++ [xb]) := by
    refine allLf_snoc (allLf_take A hok) (lfErr_yes (v xb (List.mem_of_getElem? hB)) fun p hp => ?_)
    rw [List.getLast?_eq_getElem?] at hp
    obtain ⟨l1, e1⟩ := List.getElem?_eq_some_iff.1 hp
    have hlt : (X.take A).length = A := by rw [List.length_take]; omega
    rw [List.getElem_take] at e1
    rw [← e1, ← eB]
    exact pwi _ B _ lB (by omega)
  have hYb : ∀ x ∈ X.take A ++ [xb], LfB x := by
    intro x hx
    rcases List.mem_append.1 hx with h | h
    · exact hb x (List.mem_of_mem_take h)
    · rw [List.mem_singleton.1 h]; exact hb xb (List.mem_of_getElem? hB)
  have herr : lfErr n (X.take A ++ [xb]).getLast? z = 23 := by
    rw [List.getLast?_concat]
    exact lfErr_bad (v z hzm) (follows_anti (v z hzm) (v xb (List.mem_of_getElem? hB)) hzf)
  rw [hsplit, parseT_badline hn hYok hYb z (hb z hzm) _ (by rw [herr]; decide), herr]
  have hlen : (X.take A ++ [xb]).length = A + 1 := by rw [List.length_append, List.length_take, List.length_singleton]; omega
  rw [hlen]
  refine Prod.ext rfl (Prod.ext (Prod.ext ?_ rfl) rfl)
  show ((A + 1 : Nat) : Int) + 2 = (A : Int) + 3
  omega
/-- A line has changed places with itself. -/
theorem same_plain {n : Int} {X : List Lf} {A : Nat} {xa : Lf} (hA : X[A]? = some xa) : (((linT n X).set (A + 1) (rowT xa)).set (A + 1) (rowT xa)).flatten = tblL n X := by
  obtain ⟨lA, eA⟩ := List.getElem?_eq_some_iff.1 hA
  have hlin : ((linT n X).set (A + 1) (rowT xa)).set (A + 1) (rowT xa) = linT n ((X.set A xa).set A xa) := by
    unfold linT
    rw [List.set_cons_succ, List.set_cons_succ, List.map_set, List.map_set]
  rw [hlin, linT_flat]
  have : X.set A xa = X := by rw [← eA]; exact List.set_getElem_self lA
  rw [this, this]
end Go.Proofs.YtppambkffgmkgaaGreatDoor
end

section
/- The walk of TableLines. -/
namespace Go.Proofs.YtppambkffgmkgaaGreatDoor
open Go.RowKit Go.Maps
set_option linter.unusedVariables false

theorem info_str : (Tryz.prog.info? 9).map (fun i => (i.zero, i.size, i.bytes)) = some (some (.string ⟨#[]⟩), 1, 16) := by kernel_rfl
/-- A line as a string's value. -/
def encS (l : List UInt8) : Value := .string ⟨l.toArray⟩
structure LnW (w wr : World) (oa : Option Addr) (oc : Nat) (D : List (List UInt8)) : Prop where
  mod : Mod w wr NoB
  row : wr.ownsRow 0 9 1 (.slice oa D.length oc) D.length (D.map encS)
  sep : ∀ q, (Value.slice oa D.length oc).ownBlock = some q → w.heap.size ≤ q
theorem LnW.quiet {w wr w' : World} {oa : Option Addr} {oc : Nat} {D : List (List UInt8)} (h : LnW w wr oa oc D) (hm : Mod wr w' NoB) : LnW w w' oa oc D :=
  ⟨h.mod.trans hm (fun _ _ c => c), hm.row h.row (fun _ _ c => c), h.sep⟩
theorem LnW.app {w wr w8 : World} {oa a8 : Option Addr} {oc c8 : Nat} {D : List (List UInt8)} {x : List UInt8} {o : Obj} (h : LnW w wr oa oc D)
    (hown : w8.ownsRow 0 9 1 (.slice a8 (D.length + 1) c8) (D.length + 1) (D.map encS ++ [encS x])) (hgrow : (wr.alloc o).grownBy w8 (Value.slice oa D.length oc).ownBlock) (hat : (Value.slice a8 (D.length + 1) c8).ownBlock = (Value.slice oa D.length oc).ownBlock ∨ (Value.slice a8 (D.length + 1) c8).ownBlock = some (wr.alloc o).heap.size) :
    LnW w w8 a8 c8 (D ++ [x]) := by
  have hm8 : Mod wr w8 (fun q => (Value.slice oa D.length oc).ownBlock = some q) := ((Mod.refl _ _).alloc o).grown hgrow (fun k hk _ => hk)
  have hlen : (D ++ [x]).length = D.length + 1 := by simp
  refine ⟨h.mod.trans hm8 (fun i hi c => by have := h.sep i c; omega), ?_, ?_⟩
  · rw [hlen, List.map_append]; exact hown
  · rw [hlen]
    intro q hq
    rcases hat with c | c
    · exact h.sep q (c.symm.trans hq)
    · have e1 : q = (wr.alloc o).heap.size := Option.some.inj (hq.symm.trans c)
      have e2 : (wr.alloc o).heap.size = wr.heap.size + 1 := by simp
      have e3 := h.mod.size
      omega
theorem map_set_enc (D : List (List UInt8)) (i : Nat) (x : List UInt8) : (D.set i x).map encS = (D.map encS).set i (encS x) := List.map_set
/-- Two lines put. -/
theorem LnW.two {w wr : World} {g oc : Nat} {D : List (List UInt8)} (h : LnW w wr (some ⟨g, 0, none⟩) oc D) (i j : Nat) (x y : List UInt8) : LnW w ((wr.setCell ⟨g, i, none⟩ (encS x)).setCell ⟨g, j, none⟩ (encS y)) (some ⟨g, 0, none⟩) oc ((D.set i x).set j y) := by
  have hg : w.heap.size ≤ g := h.sep g rfl
  have hlen : ((D.set i x).set j y).length = D.length := by simp
  refine ⟨h.mod.trans ((Mod.set1 wr g i _).trans (Mod.set1 _ g j _) (fun _ _ c => c)) (fun k hk c => by have : k = g := c; omega), ?_, ?_⟩
  · rw [hlen, map_set_enc, map_set_enc]
    exact row_set j _ (row_set i _ h.row)
  · rw [hlen]; exact h.sep
theorem LnW.cell {w wr : World} {g oc : Nat} {D : List (List UInt8)} (h : LnW w wr (some ⟨g, 0, none⟩) oc D) {i : Nat} {x : List UInt8} (hx : D[i]? = some x) : wr.cell? ⟨g, i, none⟩ = some (.string ⟨x.toArray⟩) ∧ wr.frozen? ⟨g, i, none⟩ = false ∧ i < oc ∧ D.length ≤ oc := by
  have hl := (List.getElem?_eq_some_iff.1 hx).1
  obtain ⟨g', c', hv, h1, h2, h3, -⟩ := row_open h.row (by omega)
  cases hv
  exact ⟨h1 i (encS x) (by rw [List.getElem?_map, hx]; rfl), h2 i, by omega, h3⟩
theorem LnW.some {w wr : World} {oa : Option Addr} {oc : Nat} {D : List (List UInt8)} (h : LnW w wr oa oc D) (hl : 0 < D.length) : ∃ g, oa = some ⟨g, 0, none⟩ := by
  obtain ⟨g', c', hv, -⟩ := row_open h.row hl
  exact ⟨g', by injection hv⟩
theorem flat_le {m : Nat} : ∀ D : List (List UInt8), (∀ l ∈ D, l.length ≤ m) → D.flatten.length ≤ m * D.length
  | [], _ => by simp
  | l :: D, h => by
    have h1 := flat_le D (fun x hx => h x (by simp [hx]))
    have h2 := h l (by simp)
    rw [List.flatten_cons, List.length_append, List.length_cons, Nat.mul_succ]
    omega
theorem linT_le {n : Int} {X : List Lf} (hn : 0 ≤ n ∧ n ≤ 4294967296) (hb : ∀ x ∈ X, LfB x) : ∀ l ∈ linT n X, l.length ≤ 85 := by
  intro l hl
  unfold linT at hl
  rcases List.mem_cons.1 hl with rfl | hl
  · have h1 := decL_len20 n.toNat (by omega)
    unfold headT
    simp only [List.length_append, List.length_cons, List.length_nil]
    omega
  · obtain ⟨x, hx, rfl⟩ := List.mem_map.1 hl
    exact rowT_len (hb x hx)
theorem take_flat (D : List (List UInt8)) (k : Nat) : (D.take k).flatten.length ≤ D.flatten.length := by
  have : D.flatten = (D.take k).flatten ++ (D.drop k).flatten := by rw [← List.flatten_append, List.take_append_drop]
  rw [this, List.length_append]
  omega
/-- The line that ends at a byte. -/
theorem line_ex (s : ByteArray) (f c : Nat) (D : List (List UInt8)) (C : List UInt8) (hc : c < s.size) (h : spl ((L s).take c) = (D, C)) (hf : f + C.length = c) (h10 : (s[c]'hc).toNat = 10) : s.extract f (c + 1) = ⟨(C ++ [10]).toArray⟩ := by
  have hfl := spl_flat ((L s).take c)
  rw [h] at hfl
  dsimp only at hfl
  have hlen : D.flatten.length + C.length = c := by
    have := congrArg List.length hfl
    rw [List.length_append, List.length_take, L_len] at this
    omega
  have hat : (L s)[c]? = some (s[c]'hc) := by
    unfold L
    rw [Array.getElem?_toList]
    exact Array.getElem?_eq_getElem _
  obtain ⟨k1, k2⟩ := List.getElem?_eq_some_iff.1 hat
  have htk : (L s).take (c + 1) = D.flatten ++ (C ++ [10]) := by
    rw [List.take_succ_eq_append_getElem k1, k2, ← hfl]
    have : s[c]'hc = 10 := UInt8.toNat_inj.1 h10
    rw [this]
    simp
  apply str_eq
  have e1 : L (s.extract f (c + 1)) = ((L s).take (c + 1)).drop f := by
    simp [L, List.drop_take]
  rw [e1, htk, List.drop_left' (by omega)]
  simp [L]
theorem at_L (s : ByteArray) (c : Nat) (hc : c < s.size) : (L s)[c]? = some (s[c]'hc) := by
  unfold L
  rw [Array.getElem?_toList]
  exact Array.getElem?_eq_getElem _

set_option maxRecDepth 100000 in
set_option maxHeartbeats 8000000 in
theorem tlines_any (w : World) (k i j : Int) (a1 : Option Addr) (len1 cap1 : Nat) (z1 : List Int) (hk : 0 ≤ k ∧ k ≤ 255) (hi : 0 ≤ i ∧ i ≤ 255) (hj : 0 ≤ j ∧ j ≤ 255) (hA : IsRow .u8 w a1 len1 cap1 z1) (htab : Lib.TabIs Tryz.prog w "internal/strconv.uint64pow10" .u64 Lib.pow10Tab) :
    Calls Tryz.prog 5 #[.int .u8 k, .slice a1 len1 cap1, .int .u8 i, .int .u8 j] w fun e w' => e = .returned (.bool true) ∧ Mod w w' NoB := by
  have hmx := mixed
  have HA := Lib.hid hA
  have HT := Lib.hid htab
  clear hA htab
  go_enter Tryz.func5, Tryz.ntmps5
  go_wp2_with fail
  refine (tknown_any _ HT.out).mono ?_
  rintro e w1 ⟨rfl, hm⟩
  have H1 := Lib.hid hm
  clear hm
  by_cases h60 : len1 ≤ 60
  rotate_left
  · have h60' : (60 : Int) < len1 := by omega
    go_wp2_with fail
    go_ret
    exact ⟨rfl, H1.out⟩
  have h60' : ¬ (60 : Int) < len1 := by omega
  go_wp2_with fail
  refine (hist_any _ k a1 len1 cap1 z1 hk (HA.out.mod H1.out) (by omega)).mono ?_
  rintro r w2 ⟨T, top, a, cap, rfl, hT, htop, hT40, hE, hpl, hcap, hm⟩
  have hnb := vertsOf_bd k.toNat
  obtain ⟨n, hn⟩ : ∃ n, vertsOf k.toNat = n := ⟨_, rfl⟩
  rw [hn] at hT hnb ⊢
  obtain ⟨F, hF⟩ : ∃ F, flag (fun _ => false) T = F := ⟨_, rfl⟩
  have hFT : T.length = F.length := by rw [← hF, flag_len]
  have hevb : ∀ x ∈ F, EvB x := by rw [← hF]; exact flag_evb hT hnb.2
  have hchk : chk n F = (0, 0) := by rw [← hF]; exact chk_flag hT htop hnb.2 (by omega)
  rw [hFT] at hT40 hcap ⊢
  rw [hF] at hE
  have H2 := Lib.hid (H1.out.trans hm (fun _ _ c => c))
  have HE := Lib.hid (And.intro hE hevb)
  have HC := Lib.hid (And.intro hchk hnb)
  clear hm hT htop hF hFT hevb hpl hE hn hnb H1 hchk h60 h60'
  go_upto_region 6 with (fail)
  obtain ⟨Y, hY⟩ : ∃ Y, Y = w2.alloc (.cells #[.int .u64 n, .slice a F.length cap] 25) := ⟨_, rfl⟩
  obtain ⟨g7, hg7⟩ : ∃ g, g = w2.heap.size := ⟨_, rfl⟩
  have HY2 : Hid (HAt w2 Y g7 n a F.length cap F) := by
    show HAt _ _ _ _ _ _ _ _
    rw [hY, hg7]
    exact HAt.start HE.out.1
  rw [← hY, ← hg7]
  clear hY hg7
  have HY1 := Lib.hid (H2.out.trans HY2.out.mod (fun _ _ c => c))
  have c0 := HY2.out.c0
  have c1 := HY2.out.c1
  have HP := tprint_any Y n a cap F (by have := HC.out.2; omega) HY2.out.evs (by omega) HE.out.2 (tab_mod HT.out HY1.out)
  rw [HC.out.1] at HP
  obtain ⟨ol1, ol2, ol3, -, ol5⟩ := ofL_ok (n := n) (F := F) (by rw [HC.out.1]) (by omega) HE.out.2
  have hpr : prT n F = ⟨(tblL n (ofL n F)).toArray⟩ := by unfold prT; rw [HC.out.1]; rfl
  rw [hpr] at HP
  have HLi : Hid (∀ z, Evs z a F → Calls Tryz.prog 17 #[.agg #[.int .u64 n, .slice a F.length cap]] z fun e w' => ∃ a' cap', e = .returned (.tuple #[.slice a' (ofL n F).length cap', .int .i64 0]) ∧ Lvs w' a' (ofL n F) ∧ Mod z w' NoB) := fun z hz => by
    have h := lives_any z n a cap F hz (by omega) HE.out.2
    rw [HC.out.1] at h
    exact h
  obtain ⟨X, hX⟩ : ∃ X, X = ofL n F := ⟨_, rfl⟩
  rw [← hX] at HP ol1 ol2 ol3 HLi
  have HOL := Lib.hid (And.intro ol1 (And.intro ol2 ol5))
  have hXl : X.length ≤ 40 := by omega
  obtain ⟨s, hs⟩ : ∃ s : ByteArray, s = ⟨(tblL n X).toArray⟩ := ⟨_, rfl⟩
  rw [← hs] at HP
  have hsL : L s = tblL n X := by rw [hs]; simp [L]
  have hsz : s.size ≤ 27 + 85 * 40 := by
    rw [hs]
    show (tblL n X).toArray.size ≤ _
    have := tblL_len (n := n) (X := X) ⟨by have := HC.out.2; omega, ol5⟩ ol2
    simp only [List.size_toArray]
    omega
  have HPh := Lib.hid HP
  have HSL := Lib.hid hsL
  have HN := Lib.hid (show 0 ≤ n ∧ n ≤ 4294967296 from ⟨by have := HC.out.2; omega, ol5⟩)
  clear hs hsL hpr HP hX ol1 ol2 ol3 ol5 HC hcap
  go_wp2_with fail
  refine HPh.out.mono ?_
  rintro e w3 ⟨rfl, hm⟩
  have HY3 := Lib.hid (HY2.out.next hm)
  have H3 := Lib.hid (HY1.out.trans hm (fun _ _ c => c))
  clear hm HPh HY1 HY2 c0 c1 H2
  have c0 := HY3.out.c0
  have c1 := HY3.out.c1
  go_wp2_with fail
  refine (HLi.out _ HY3.out.evs).mono ?_
  rintro e w4 ⟨xa', xc, rfl, -, hm⟩
  have H4 := Lib.hid (H3.out.trans hm (fun _ _ c => c))
  clear hm HLi HY3 c0 c1 H3 HE
  have HL0 : Hid (LnW w w4 none 0 (spl ((L s).take 0)).1) := ⟨H4.out, World.ownsRow_nil _ _ _ _, fun q hq => by cases hq⟩
  go_wp2_with fail
  go_loopw [14, 15, 16] (fun v14 v15 v16 wr => ∃ (oa : Option Addr) (oc f c : Nat) (D : List (List UInt8)) (C : List UInt8), v14 = .slice oa D.length oc ∧ v15 = .int .i64 f ∧ v16 = .int .i64 c ∧ c ≤ s.size ∧ Hid (LnW w wr oa oc D ∧ spl ((L s).take c) = (D, C) ∧ f + C.length = c)) (fun _ _ v16 _ => s.size - (intOf v16).toNat)
  case atStart => exact ⟨none, 0, 0, 0, [], [], rfl, rfl, rfl, Nat.zero_le _, HL0.out, rfl, rfl⟩
  case round =>
    obtain ⟨oa, oc, f, c, D, C, rfl, rfl, rfl, hc, HI⟩ := hrel
    by_cases hlt : c < s.size
    · have hci : (c : Int) < s.size := by omega
      have hsp := spl_at (at_L s c hlt)
      rw [HI.out.2.1] at hsp
      have hDl : D.length ≤ 40000 := by
        have h1 := spl_flat ((L s).take c)
        rw [HI.out.2.1] at h1
        dsimp only at h1
        have h3 : ∀ E : List (List UInt8), (∀ l ∈ E, l ≠ []) → E.length ≤ E.flatten.length := by
          intro E
          induction E with
          | nil => intro _; simp
          | cons l E ih =>
            intro h
            have h1 := ih (fun x hx => h x (by simp [hx]))
            have h2 : 0 < l.length := List.length_pos_iff.2 (h l (by simp))
            rw [List.flatten_cons, List.length_append, List.length_cons]
            omega
        have h4 := h3 D (spl_ne _ (by rw [HI.out.2.1]))
        have h5 := congrArg List.length h1
        rw [List.length_append, List.length_take, L_len] at h5
        omega
      by_cases h10 : s[c].toNat = 10
      · have h10' : ((s[c].toNat : Nat) : Int) = 10 := by omega
        have hsp2 : spl ((L s).take (c + 1)) = (D ++ [C ++ [10]], []) := by rw [hsp]; exact if_pos h10
        have hsl : ∀ W : World, (Instr.slice 9 (.string s) (some (.int .i64 (f : Int))) (some (.int .i64 ((c : Int) + 1))) none).run Tryz.prog W = .ok (.string ⟨(C ++ [10]).toArray⟩) W := fun W => by
          have h9 := run_slice_string (P := Tryz.prog) (w := W) 9 s .i64 .i64 (f : Int) ((c : Int) + 1) Tryz.underlying9 (by omega) (by have := HI.out.2.2; omega) (by omega)
          rw [Int.toNat_natCast, show ((c : Int) + 1).toNat = c + 1 by omega, line_ex s f c D C hlt HI.out.2.1 HI.out.2.2 h10] at h9
          exact h9
        have hw1 : IntKind.i64.wrap ((c : Int) + 1) = (c : Int) + 1 := IntWalk.i64_in _ (by omega)
        obtain ⟨ln, hln⟩ : ∃ ln : ByteArray, ln = ⟨(C ++ [10]).toArray⟩ := ⟨_, rfl⟩
        rw [← hln] at hsl
        have HLN : Hid (encS (C ++ [10]) = .string ln) := by show encS (C ++ [10]) = .string ln; rw [hln]; rfl
        have HSP := Lib.hid hsp2
        obtain ⟨i0, hi0, hz0, hz1, hz2⟩ := info_parts info_str
        have HB : Hid (D.length + 1 ≤ maxLen ∧ (D.length + 1) * 16 ≤ 140737488355328) := by
          unfold maxLen; exact ⟨by omega, by omega⟩
        have hone1 : ∀ u ∈ [Value.string ln], u.oneCell' = true := by simp [Value.oneCell']
        have HIl := Lib.hid HI.out.1
        clear hsp hsp2 hln h10 HI hDl
        go_upto_region 12 with (at_builtin; refine wpList_append_row _ rfl _ _ 46 rfl 9 i0 (.string ⟨#[]⟩) 1 16 Tryz.underlying46 hi0 hz0 hz1 hz2 rfl (by decide) (.slice oa D.length oc) D.length _ rfl (HIl.out.row.alloc _) _ 1 _ [.string ln] rfl rfl (fun j u hu => ⟨_, rfl, World.news_of_block (MapKept.heap_alloc _ _).1 j u hu⟩) hone1 HB.out.1 HB.out.2 ?_; intro v8 w14 hown8 hgrow8 hat8; obtain ⟨a8, c8, rfl⟩ := row_form hown8; have HAp := Lib.hid (HIl.out.app (x := C ++ [10]) (by rw [HLN.out]; exact hown8) hgrow8 hat8); clear hown8 hgrow8 hat8)
        have hlen : (D ++ [C ++ [10]]).length = D.length + 1 := by simp
        go_wp2_with fail
        go_roundw
        case rel => exact ⟨a8, c8, c + 1, c + 1, D ++ [C ++ [10]], [], by rw [hlen], by go_num, by go_num, by omega, HAp.out, HSP.out, rfl⟩
        case measure => simp [intOf]; omega
      · have h10' : ¬ ((s[c].toNat : Nat) : Int) = 10 := by omega
        have hsp2 : spl ((L s).take (c + 1)) = (D, C ++ [s[c]]) := by rw [hsp]; exact if_neg h10
        have HSP := Lib.hid (And.intro hsp2 (show f + (C ++ [s[c]]).length = c + 1 by have := HI.out.2.2; simp; omega))
        have HIl := Lib.hid HI.out.1
        clear hsp hsp2 h10 HI hDl
        go_wp2_with fail
        go_roundw
        case rel => exact ⟨oa, oc, f, c + 1, D, C ++ [s[c]], rfl, rfl, by go_num, by omega, HIl.out, HSP.out.1, HSP.out.2⟩
        case measure => simp [intOf]; omega
    · have hce : c = s.size := by omega
      subst hce
      have hD : D = linT n X ∧ C = [] := by
        have h := HI.out.2.1
        rw [List.take_of_length_le (by rw [L_len]; exact Nat.le_refl _), HSL.out, spl_tbl] at h
        exact ⟨(congrArg Prod.fst h).symm, (congrArg Prod.snd h).symm⟩
      obtain ⟨hD1, hC1⟩ := hD
      subst hD1 hC1
      have hfc : f = s.size := HI.out.2.2
      subst hfc
      have HIl := Lib.hid HI.out.1
      have hll := linT_len n X
      rw [hll]
      clear HI hc hlt
      have hw1 : IntKind.i64.wrap ((X.length : Int) + 1) = (X.length : Int) + 1 := IntWalk.i64_in _ (by omega)
      by_cases hx2 : X.length < 2
      · have hx2' : (X.length : Int) < 2 := by omega
        go_wp2_with fail
        go_ret
        exact ⟨rfl, HIl.out.mod⟩
      have hx2' : ¬ (X.length : Int) < 2 := by omega
      have hm0 : ((X.length : Int) == 0) = false := beq_eq_false_iff_ne.2 (by omega)
      have hm0' : ¬ (X.length : Int) = 0 := by omega
      have hm0n : ¬ X.length = 0 := by omega
      obtain ⟨p, hp⟩ : ∃ p, p = i.toNat % X.length := ⟨_, rfl⟩
      obtain ⟨q, hq⟩ : ∃ q, q = j.toNat % X.length := ⟨_, rfl⟩
      have hpl : p < X.length := by rw [hp]; exact Nat.mod_lt _ (by omega)
      have hql : q < X.length := by rw [hq]; exact Nat.mod_lt _ (by omega)
      have hpt : Int.tmod i X.length = (p : Int) := by
        rw [Int.tmod_eq_emod_of_nonneg hi.1, hp, Int.natCast_emod, Int.toNat_of_nonneg hi.1]
      have hqt : Int.tmod j X.length = (q : Int) := by
        rw [Int.tmod_eq_emod_of_nonneg hj.1, hq, Int.natCast_emod, Int.toNat_of_nonneg hj.1]
      have hwp : IntKind.i64.wrap ((p : Int) + 1) = (p : Int) + 1 := IntWalk.i64_in _ (by omega)
      have hwq : IntKind.i64.wrap ((q : Int) + 1) = (q : Int) + 1 := IntWalk.i64_in _ (by omega)
      have hwi : IntKind.i64.wrap i = i := IntWalk.i64_in _ (by omega)
      have hwj : IntKind.i64.wrap j = j := IntWalk.i64_in _ (by omega)
      clear hp hq
      go_upto_region 19 with (fail)
      go_quiet (fail)
      generalize hzz : World.drewN wr _ = z
      have HZ := Lib.hid (show LnW w z oa oc (linT n X) by rw [← hzz]; exact HIl.out.quiet ((Mod.refl _ _).drewN _))
      clear hzz HIl hpt hqt hwi hwj hm0 hm0' hm0n
      by_cases hpq : q < p
      focus
        have hpq1 : (q : Int) + 1 < (p : Int) + 1 := by omega
        go_upto_region 22 with (fail)
        have hAB : q ≤ p := Nat.le_of_lt hpq
        obtain ⟨A, hAq⟩ : ∃ A, A = q := ⟨_, rfl⟩
        obtain ⟨B, hBp⟩ : ∃ B, B = p := ⟨_, rfl⟩
        rw [← hAq, ← hBp] at hAB ⊢
        rw [← hBp] at hpl
        rw [← hAq] at hql
        have hBl : B < X.length := hpl
        clear hpq hpq1 hAq hBp hpl hql hwp hwq
      rotate_left
      focus
        have hpq1 : ¬ (q : Int) + 1 < (p : Int) + 1 := by omega
        go_upto_region 22 with (fail)
        have hAB : p ≤ q := by omega
        obtain ⟨A, hAq⟩ : ∃ A, A = p := ⟨_, rfl⟩
        obtain ⟨B, hBp⟩ : ∃ B, B = q := ⟨_, rfl⟩
        rw [← hAq, ← hBp] at hAB ⊢
        rw [← hBp] at hql
        have hBl : B < X.length := hql
        clear hpq hpq1 hAq hBp hpl hql hwp hwq
      all_goals
        obtain ⟨g, rfl⟩ := HZ.out.some (by rw [hll]; omega)
        have hAl : A < X.length := by omega
        obtain ⟨xa, hxa⟩ : ∃ x, X[A]? = some x := ⟨_, List.getElem?_eq_getElem hAl⟩
        obtain ⟨xb, hxb⟩ : ∃ x, X[B]? = some x := ⟨_, List.getElem?_eq_getElem hBl⟩
        have hla : (linT n X)[A + 1]? = some (rowT xa) := by unfold linT; rw [List.getElem?_cons_succ, List.getElem?_map, hxa]; rfl
        have hlb : (linT n X)[B + 1]? = some (rowT xb) := by unfold linT; rw [List.getElem?_cons_succ, List.getElem?_map, hxb]; rfl
        obtain ⟨M, hM⟩ : ∃ M, M = ((linT n X).set (A + 1) (rowT xb)).set (B + 1) (rowT xa) := ⟨_, rfl⟩
        have hMl : M.length = X.length + 1 := by rw [hM]; simp [linT_len]
        have hM85 : ∀ l ∈ M, l.length ≤ 85 := by
          have h0 := linT_le (n := n) (X := X) HN.out HOL.out.2.1
          rw [hM]
          intro l hl
          rcases List.mem_or_eq_of_mem_set hl with h | h
          · rcases List.mem_or_eq_of_mem_set h with h | h
            · exact h0 l h
            · rw [h]; exact h0 _ (List.mem_of_getElem? hlb)
          · rw [h]; exact h0 _ (List.mem_of_getElem? hla)
        have hMf := flat_le M hM85
        have hPe : A = B → (parseT M.flatten).2.2 = 0 := fun e => by
          subst e
          have : xa = xb := by rw [hxa] at hxb; injection hxb
          subst this
          rw [hM, same_plain hxa, (parse_table HN.out HOL.out.1 HOL.out.2.1).1]
        have hPn : A < B → parseT M.flatten = ([], ((A : Int) + 3, 1), 23) := fun e => by
          rw [hM]
          exact swap_plain HN.out HOL.out.1 HOL.out.2.1 hxa hxb e
        have HPE := Lib.hid (And.intro hPe hPn)
        have HMM := Lib.hid (And.intro hM85 hMf)
        have HTW := Lib.hid (HZ.out.two (A + 1) (B + 1) (rowT xb) (rowT xa))
        rw [← hM] at HTW
        obtain ⟨k1, f1, o1, ol⟩ := HZ.out.cell hla
        obtain ⟨k2, f2, o2, -⟩ := HZ.out.cell hlb
        obtain ⟨sa, hsa⟩ : ∃ sa : ByteArray, sa = ⟨(rowT xa).toArray⟩ := ⟨_, rfl⟩
        obtain ⟨sb, hsb⟩ : ∃ sb : ByteArray, sb = ⟨(rowT xb).toArray⟩ := ⟨_, rfl⟩
        have hea : encS (rowT xa) = .string sa := by rw [hsa]; rfl
        have heb : encS (rowT xb) = .string sb := by rw [hsb]; rfl
        rw [hea, heb] at HTW
        rw [← hsa] at k1
        rw [← hsb] at k2
        clear hM hPe hPn hM85 hMf hsa hsb hea heb hla hlb hxa hxb hll HZ
        have b1 : (A : Int) < X.length := by omega
        have b2 : (B : Int) < X.length := by omega
        have b3 : (0 : Int) ≤ (A : Int) + 1 := by omega
        have b4 : (0 : Int) ≤ (B : Int) + 1 := by omega
        by_cases hab : A = B
        focus
          subst hab
          have hss : sb = sa := by rw [k1] at k2; injection k2 with h; injection h with h; exact h.symm
          subst hss
          go_region
          obtain ⟨z9, hz9⟩ : ∃ z9, z9 = ((z.setCell ⟨g, A + 1, none⟩ (.string sb)).setCell ⟨g, A + 1, none⟩ (.string sb)).drew := ⟨_, rfl⟩
          have HZ9 := Lib.hid (HTW.out.quiet (Mod.drew (Mod.refl _ _)))
          rw [← hz9] at HZ9
          rw [← hz9]
          clear hz9 HTW k1 k2 f1 f2 o1 o2 b1 b2 b3 b4
          go_wp2_with fail
          go_loopw [19, 20] (fun v19 v20 wr => ∃ c : Nat, c ≤ X.length + 1 ∧ v19 = .string ⟨((M.take c).flatten).toArray⟩ ∧ v20 = .int .i64 c ∧ Hid (LnW w wr (some ⟨g, 0, none⟩) oc M)) (fun _ v20 _ => X.length + 1 - (intOf v20).toNat)
          case atStart => exact ⟨0, Nat.zero_le _, rfl, rfl, HZ9.out⟩
          case round =>
            obtain ⟨c, hc, rfl, rfl, HI⟩ := hrel
            by_cases hlt : c < X.length + 1
            · have hci : (c : Int) < (X.length : Int) + 1 := by omega
              obtain ⟨l, hl⟩ : ∃ l, M[c]? = some l := ⟨_, List.getElem?_eq_getElem (by omega)⟩
              obtain ⟨kc, -, oc1, oc2⟩ := HI.out.cell hl
              obtain ⟨hcl, hce⟩ := List.getElem?_eq_some_iff.1 hl
              obtain ⟨ln, hln⟩ : ∃ ln : ByteArray, ln = ⟨l.toArray⟩ := ⟨_, rfl⟩
              obtain ⟨t0, ht0⟩ : ∃ t0 : ByteArray, t0 = ⟨((M.take c).flatten).toArray⟩ := ⟨_, rfl⟩
              have htk : (⟨((M.take (c + 1)).flatten).toArray⟩ : ByteArray) = t0 ++ ln := by
                apply str_eq
                rw [app_L, ht0, hln, List.take_succ_eq_append_getElem hcl, hce]
                simp [L]
              have z1 : t0.size ≤ 40000 := by
                rw [ht0]
                show ((M.take c).flatten).toArray.size ≤ _
                have h1 := take_flat M c
                have h2 := HMM.out.2
                rw [hMl] at h2
                simp only [List.size_toArray]
                omega
              have z2 : ln.size ≤ 85 := by
                rw [hln]
                show l.toArray.size ≤ _
                have := HMM.out.1 l (List.mem_of_getElem? hl)
                simp only [List.size_toArray]
                omega
              have ea := sadd (P := Tryz.prog) t0 ln (by omega)
              rw [← ht0]
              rw [← hln] at kc
              have HTK := Lib.hid htk
              clear htk ht0 hln hl hce hcl z1 z2 hc
              go_wp2_with fail
              go_roundw
              case rel => exact ⟨c + 1, by omega, by rw [HTK.out], by go_num, HI.out⟩
              case measure => simp [intOf]; omega
            · have hce : c = X.length + 1 := by omega
              subst hce
              rw [List.take_of_length_le (by omega)]
              obtain ⟨t, ht⟩ : ∃ t : ByteArray, t = ⟨(M.flatten).toArray⟩ := ⟨_, rfl⟩
              have htl : L t = M.flatten := by rw [ht]; simp [L]
              have htz : t.size ≤ 40000 := by
                have h2 := HMM.out.2
                rw [hMl] at h2
                rw [← L_len, htl]
                omega
              rw [← ht]
              have HPa := tparse_any wr t htz
              rw [htl] at HPa
              obtain ⟨N, hN⟩ : ∃ N, N = parseTN M.flatten := ⟨_, rfl⟩
              obtain ⟨E, hE⟩ : ∃ E, E = parseTE M.flatten := ⟨_, rfl⟩
              rw [← hN, ← hE] at HPa
              obtain ⟨R, hR⟩ : ∃ R, R = parseT M.flatten := ⟨_, rfl⟩
              have hR0 : (parseT M.flatten).2.2 = 0 := by first | exact HPE.out.1 trivial | exact HPE.out.1 rfl
              rw [← hR] at HPa hR0
              rw [hR0] at HPa
              obtain ⟨pl, hpl⟩ : ∃ p, p = R.2.1.1 := ⟨_, rfl⟩
              obtain ⟨pc, hpc⟩ : ∃ p, p = R.2.1.2 := ⟨_, rfl⟩
              rw [← hpl, ← hpc] at HPa
              clear hpl hpc hR hR0
              have HPb := Lib.hid HPa
              clear HPa ht htl htz hN hE hc hlt
              go_wp2_with fail
              refine HPb.out.mono ?_
              rintro e w5 ⟨a5, c5, rfl, -, hm⟩
              have H5 := Lib.hid (HI.out.mod.trans hm (fun _ _ c => c))
              clear hm HPb
              go_upto_region 29 with (fail)
              have HB := Lib.hid (HPl.start (w := w5) (n := N) (v := .slice a5 E.length c5) (x := pl) (y := pc))
              obtain ⟨g1, hg1⟩ : ∃ g, g = w5.heap.size := ⟨_, rfl⟩
              obtain ⟨g2, hg2⟩ : ∃ g, g = w5.heap.size + 1 := ⟨_, rfl⟩
              obtain ⟨W6, hW6⟩ : ∃ W, W = ((w5.alloc (.cells #[.int .u64 N, .slice a5 E.length c5] 25)).alloc (.cells #[.int .i64 pl, .int .i64 pc] 38)) := ⟨_, rfl⟩
              rw [← hW6, ← hg2, ← hg1] at HB ⊢
              clear hW6 hg1 hg2
              have H6 := Lib.hid (H5.out.trans HB.out.mod (fun _ _ c => c))
              go_wp2_with fail
              go_ret
              exact ⟨rfl, H6.out⟩
        focus
          have hab2 : ¬ B = A := fun c => hab c.symm
          go_region
          have hlt2 : A < B := by omega
          obtain ⟨z9, hz9⟩ : ∃ z9, z9 = ((z.setCell ⟨g, A + 1, none⟩ (.string sb)).setCell ⟨g, B + 1, none⟩ (.string sa)).drew := ⟨_, rfl⟩
          have HZ9 := Lib.hid (HTW.out.quiet (Mod.drew (Mod.refl _ _)))
          rw [← hz9] at HZ9
          rw [← hz9]
          clear hz9 HTW k1 k2 f1 f2 o1 o2 b1 b2 b3 b4
          go_wp2_with fail
          go_loopw [19, 20] (fun v19 v20 wr => ∃ c : Nat, c ≤ X.length + 1 ∧ v19 = .string ⟨((M.take c).flatten).toArray⟩ ∧ v20 = .int .i64 c ∧ Hid (LnW w wr (some ⟨g, 0, none⟩) oc M)) (fun _ v20 _ => X.length + 1 - (intOf v20).toNat)
          case atStart => exact ⟨0, Nat.zero_le _, rfl, rfl, HZ9.out⟩
          case round =>
            obtain ⟨c, hc, rfl, rfl, HI⟩ := hrel
            by_cases hlt : c < X.length + 1
            · have hci : (c : Int) < (X.length : Int) + 1 := by omega
              obtain ⟨l, hl⟩ : ∃ l, M[c]? = some l := ⟨_, List.getElem?_eq_getElem (by omega)⟩
              obtain ⟨kc, -, oc1, oc2⟩ := HI.out.cell hl
              obtain ⟨hcl, hce⟩ := List.getElem?_eq_some_iff.1 hl
              obtain ⟨ln, hln⟩ : ∃ ln : ByteArray, ln = ⟨l.toArray⟩ := ⟨_, rfl⟩
              obtain ⟨t0, ht0⟩ : ∃ t0 : ByteArray, t0 = ⟨((M.take c).flatten).toArray⟩ := ⟨_, rfl⟩
              have htk : (⟨((M.take (c + 1)).flatten).toArray⟩ : ByteArray) = t0 ++ ln := by
                apply str_eq
                rw [app_L, ht0, hln, List.take_succ_eq_append_getElem hcl, hce]
                simp [L]
              have z1 : t0.size ≤ 40000 := by
                rw [ht0]
                show ((M.take c).flatten).toArray.size ≤ _
                have h1 := take_flat M c
                have h2 := HMM.out.2
                rw [hMl] at h2
                simp only [List.size_toArray]
                omega
              have z2 : ln.size ≤ 85 := by
                rw [hln]
                show l.toArray.size ≤ _
                have := HMM.out.1 l (List.mem_of_getElem? hl)
                simp only [List.size_toArray]
                omega
              have ea := sadd (P := Tryz.prog) t0 ln (by omega)
              rw [← ht0]
              rw [← hln] at kc
              have HTK := Lib.hid htk
              clear htk ht0 hln hl hce hcl z1 z2 hc
              go_wp2_with fail
              go_roundw
              case rel => exact ⟨c + 1, by omega, by rw [HTK.out], by go_num, HI.out⟩
              case measure => simp [intOf]; omega
            · have hce : c = X.length + 1 := by omega
              subst hce
              rw [List.take_of_length_le (by omega)]
              obtain ⟨t, ht⟩ : ∃ t : ByteArray, t = ⟨(M.flatten).toArray⟩ := ⟨_, rfl⟩
              have htl : L t = M.flatten := by rw [ht]; simp [L]
              have htz : t.size ≤ 40000 := by
                have h2 := HMM.out.2
                rw [hMl] at h2
                rw [← L_len, htl]
                omega
              rw [← ht]
              have HPa := tparse_any wr t htz
              rw [htl] at HPa
              obtain ⟨N, hN⟩ : ∃ N, N = parseTN M.flatten := ⟨_, rfl⟩
              obtain ⟨E, hE⟩ : ∃ E, E = parseTE M.flatten := ⟨_, rfl⟩
              rw [← hN, ← hE] at HPa
              obtain ⟨pl, hpl⟩ : ∃ p, p = (A : Int) + 3 := ⟨_, rfl⟩
              rw [HPE.out.2 hlt2] at HPa
              dsimp only at HPa
              rw [← hpl] at HPa
              have g1' : (A : Int) + 1 + 1 < pl := by omega
              have g2' : pl ≤ (B : Int) + 1 + 1 := by omega
              clear hpl
              have HPb := Lib.hid HPa
              clear HPa ht htl htz hN hE hc hlt
              go_wp2_with fail
              refine HPb.out.mono ?_
              rintro e w5 ⟨a5, c5, rfl, -, hm⟩
              have H5 := Lib.hid (HI.out.mod.trans hm (fun _ _ c => c))
              clear hm HPb
              go_upto_region 29 with (fail)
              have HB := Lib.hid (HPl.start (w := w5) (n := N) (v := .slice a5 E.length c5) (x := pl) (y := 1))
              obtain ⟨g1, hg1⟩ : ∃ g, g = w5.heap.size := ⟨_, rfl⟩
              obtain ⟨g2, hg2⟩ : ∃ g, g = w5.heap.size + 1 := ⟨_, rfl⟩
              obtain ⟨W6, hW6⟩ : ∃ W, W = ((w5.alloc (.cells #[.int .u64 N, .slice a5 E.length c5] 25)).alloc (.cells #[.int .i64 pl, .int .i64 1] 38)) := ⟨_, rfl⟩
              rw [← hW6, ← hg2, ← hg1] at HB ⊢
              clear hW6 hg1 hg2
              have H6 := Lib.hid (H5.out.trans HB.out.mod (fun _ _ c => c))
              have p0 := HB.out.p0
              have p1 := HB.out.p1
              have hwA : IntKind.i64.wrap ((A : Int) + 1 + 1) = (A : Int) + 1 + 1 := IntWalk.i64_in _ (by omega)
              have hwB : IntKind.i64.wrap ((B : Int) + 1 + 1) = (B : Int) + 1 + 1 := IntWalk.i64_in _ (by omega)
              have habi : ¬ (A : Int) = (B : Int) := by omega
              go_wp2_with fail
              go_ret
              exact ⟨rfl, H6.out⟩

theorem tlines_all (a0 : Int) (a1 : Option Addr) (len1 cap1 : Nat) (z1 : List Int) (a2 a3 : Int) (w : World) (w0 : (Lit.int .u8 a0).wf = true) (w1 : IsRow .u8 w a1 len1 cap1 z1) (w2 : (Lit.int .u8 a2).wf = true) (w3 : (Lit.int .u8 a3).wf = true) (htab : Lib.TabIs Tryz.prog w "internal/strconv.uint64pow10" .u64 Lib.pow10Tab) :
    Calls Tryz.prog 5 #[.int .u8 a0, .slice a1 len1 cap1, .int .u8 a2, .int .u8 a3] w fun e w' => e = .returned (.bool true) ∧ Below w.heap.size w w' :=
  (tlines_any w a0 a2 a3 a1 len1 cap1 z1 (bounds_u8 w0) (bounds_u8 w2) (bounds_u8 w3) w1 htab).mono fun e w' h => ⟨h.1, h.2.below (Nat.le_refl _) (fun k hk => hk.elim)⟩
end Go.Proofs.YtppambkffgmkgaaGreatDoor
end
