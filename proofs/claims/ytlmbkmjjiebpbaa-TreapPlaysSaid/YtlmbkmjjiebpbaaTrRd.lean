/- Both arenas side by side: what the reference's calls come to. -/
import Derived.Test.YtlmbkmjjiebpbaaTrR5
import Derived.Test.YtlmbkmjjiebpbaaTrR7
import Derived.Test.YtlmbkmjjiebpbaaTrK
namespace Go.Proofs.Ytlmbkmjjiebpbaa
open Go.RowKit
set_option linter.unusedVariables false

/-- The arena at g and the reference's at h tell the same; L has at most k lists, of n nodes. -/
structure Bth (w0 w : World) (g h n : Nat) (L : List (List Nat)) (k : Nat) : Prop where
  duo : Duo w0 w (ArT g n L) (RA h n L)
  nb : n ≤ k
  lb : L.length ≤ k

theorem RA.fr (h n : Nat) (L : List (List Nat)) : Framed (RA h n L) := RA.framed h n L

theorem Ar.sum_le {w : World} {g : Nat} {S : Nat → Prop} {n : Nat} {L : List (List Nat)} (h : Ar w g S n L) {i k : Nat} (hik : i ≠ k) : (L.getD i []).length + (L.getD k []).length ≤ 1048576 := by
  obtain ⟨f, ts, sd, v, c0, c1, f0, f1, hr, hF, rfl, htop, _⟩ := h
  by_cases hi : i < ts.length
  · by_cases hk : k < ts.length
    · have ei : ts[i]? = some ts[i] := List.getElem?_eq_getElem hi
      have ek : ts[k]? = some ts[k] := List.getElem?_eq_getElem hk
      rw [seqs_get ei, seqs_get ek]
      have wi := hF.whole i _ ei
      have wk := hF.whole k _ ek
      have hnd : (ts[i].ids ++ ts[k].ids).Nodup := List.nodup_append.2 ⟨wi.nd, wk.nd, fun z hz z' hz' e => hF.apart i k _ _ hik ei ek z hz (e ▸ hz')⟩
      have := nodup_len n _ hnd (fun z hz => by
        rcases List.mem_append.1 hz with h | h
        · exact wi.lt z h
        · exact wk.lt z h)
      simp at this; omega
    · have hz : (seqs ts).getD k [] = [] := by rw [List.getD_eq_getElem?_getD, List.getElem?_eq_none (by simp [seqs]; omega)]; rfl
      have ei : ts[i]? = some ts[i] := List.getElem?_eq_getElem hi
      rw [hz, seqs_get ei]
      have wi := hF.whole i _ ei
      have := nodup_len n _ wi.nd wi.lt
      simp; omega
  · have hz : (seqs ts).getD i [] = [] := by rw [List.getD_eq_getElem?_getD, List.getElem?_eq_none (by simp [seqs]; omega)]; rfl
    rw [hz]
    by_cases hk : k < ts.length
    · have ek : ts[k]? = some ts[k] := List.getElem?_eq_getElem hk
      rw [seqs_get ek]
      have wk := hF.whole k _ ek
      have := nodup_len n _ wk.nd wk.lt
      simp; omega
    · have hz2 : (seqs ts).getD k [] = [] := by rw [List.getD_eq_getElem?_getD, List.getElem?_eq_none (by simp [seqs]; omega)]; rfl
      rw [hz2]; simp

theorem jn_len (L : List (List Nat)) (x y : Int) : (jn L x y).2.length ≤ L.length := by
  unfold jn
  cases fnd L x with
  | none => simp
  | some p =>
    cases fnd L y with
    | none => simp
    | some q =>
      simp only
      split
      · exact Nat.le_refl _
      · exact Nat.le_trans (List.length_eraseIdx_le _ _) (by simp)
theorem ct_len (L : List (List Nat)) (x : Int) : (ct L x).2.length ≤ L.length + 1 := by
  unfold ct
  cases fnd L x with
  | none => simp
  | some p =>
    simp only
    split
    · simp
    · simp

section
variable {w0 w : World} {g h n k : Nat} {L L' : List (List Nat)}

theorem r_join (hD : Duo w0 w (ArT g n L') (RA h n L)) (hL : L.length < 1048576) (x y : Int) (hs : ∀ i k, i ≠ k → (L.getD i []).length + (L.getD k []).length ≤ 1048576) {b : Bool} {L2 : List (List Nat)} (hj : jn L x y = (b, L2)) :
    Calls Try.prog 12 #[.pointer (some ⟨h, 0, none⟩), .int .i64 x, .int .i64 y] w fun e w' => e = .returned (.bool b) ∧ Duo w0 w' (ArT g n L') (RA h n L2) := by
  have hc : ∀ T, RA h n L w T → Calls Try.prog 12 #[.pointer (some ⟨h, 0, none⟩), .int .i64 x, .int .i64 y] w fun e w' => e = .returned (.bool b) ∧ RA h n L2 w' (Fresh T w w') ∧ Mod w w' T := fun T hR => by
    cases b with
    | false =>
      have h2 : L2 = L := by
        unfold jn at hj
        cases hf : fnd L x with
        | none => rw [hf] at hj; simp at hj; exact hj.symm
        | some p =>
          cases hg : fnd L y with
          | none => rw [hf, hg] at hj; simp at hj; exact hj.symm
          | some q => rw [hf, hg] at hj; simp only at hj; split at hj <;> simp at hj; exact hj.symm
      subst h2
      refine (rjoin_not w T h n L2 x y hR (by rw [hj])).mono ?_
      rintro e w1 ⟨rfl, rfl⟩
      exact ⟨rfl, RA.mono hR (fun q hq => Or.inl hq), Mod.refl _ _⟩
    | true =>
      unfold jn at hj
      cases hf : fnd L x with
      | none => rw [hf] at hj; simp at hj
      | some p =>
        cases hg : fnd L y with
        | none => rw [hf, hg] at hj; simp at hj
        | some q =>
          rw [hf, hg] at hj
          simp only at hj
          by_cases e : p.1 = q.1
          · rw [if_pos e] at hj; simp at hj
          · rw [if_neg e] at hj
            obtain ⟨i, i2⟩ := p
            obtain ⟨m, m2⟩ := q
            simp only [Prod.mk.injEq, true_and] at hj
            rw [← hj]
            exact rjoin_half w T h n L x y i i2 m m2 hR hf hg e hL (hs i m e)
  have := hD.swap.call (R := fun e _ => e = .returned (.bool b)) (P' := RA h n L2) (ArT.framed _ _ _) hc
  exact this.mono (fun e w' hh => ⟨hh.1, hh.2.swap⟩)
theorem r_cut (hD : Duo w0 w (ArT g n L') (RA h n L)) (hL : L.length < 1048576) (x : Int) {b : Bool} {L2 : List (List Nat)} (hj : ct L x = (b, L2)) :
    Calls Try.prog 14 #[.pointer (some ⟨h, 0, none⟩), .int .i64 x] w fun e w' => e = .returned (.bool b) ∧ Duo w0 w' (ArT g n L') (RA h n L2) := by
  have hc : ∀ T, RA h n L w T → Calls Try.prog 14 #[.pointer (some ⟨h, 0, none⟩), .int .i64 x] w fun e w' => e = .returned (.bool b) ∧ RA h n L2 w' (Fresh T w w') ∧ Mod w w' T := fun T hR => by
    by_cases hi : 0 < idx L x
    · unfold ct at hj
      cases hf : fnd L x with
      | none => unfold idx at hi; rw [hf] at hi; simp at hi
      | some p =>
        obtain ⟨i, m⟩ := p
        have hm : 0 < m := by unfold idx at hi; rw [hf] at hi; simp at hi; omega
        rw [hf] at hj
        simp only at hj
        rw [if_neg (by omega)] at hj
        simp only [Prod.mk.injEq] at hj
        rw [← hj.1, ← hj.2]
        exact rcut_yes w T h n L x i m hR hf hm hL
    · have h1 : ct L x = (false, L) := by
        unfold idx at hi
        unfold ct
        cases hf : fnd L x with
        | none => rfl
        | some p => rw [hf] at hi; simp only at hi ⊢; rw [if_pos (by omega)]
      rw [h1] at hj
      simp only [Prod.mk.injEq] at hj
      rw [← hj.1, ← hj.2]
      refine (rcut_not w T h n L x hR hi).mono ?_
      rintro e w1 ⟨rfl, rfl⟩
      exact ⟨rfl, RA.mono hR (fun q hq => Or.inl hq), Mod.refl _ _⟩
  have := hD.swap.call (R := fun e _ => e = .returned (.bool b)) (P' := RA h n L2) (ArT.framed _ _ _) hc
  exact this.mono (fun e w' hh => ⟨hh.1, hh.2.swap⟩)
theorem r_node {n' : Nat} (hD : Duo w0 w (ArT g n' L') (RA h n L)) (hn : n < 1048576) (hL : L.length < 1048576) :
    Calls Try.prog 10 #[.pointer (some ⟨h, 0, none⟩)] w fun e w' => e = .returned (.int .i64 n) ∧ Duo w0 w' (ArT g n' L') (RA h (n + 1) (L ++ [[n]])) := by
  have := hD.swap.call (R := fun e _ => e = .returned (.int .i64 n)) (P' := RA h (n + 1) (L ++ [[n]])) (ArT.framed _ _ _) (fun T hR => rnode_any w T h n L hR hn hL)
  exact this.mono (fun e w' hh => ⟨hh.1, hh.2.swap⟩)
theorem r_same (hD : Duo w0 w (ArT g n L') (RA h n L)) {x y : Int} {b : Bool} (hj : same L x y = b) :
    Calls Try.prog 16 #[.pointer (some ⟨h, 0, none⟩), .int .i64 x, .int .i64 y] w fun e w' => e = .returned (.bool b) ∧ w = w' := by
  obtain ⟨T, hT⟩ := hD.swap.left
  exact hj ▸ rsame_any w T h n L x y hT
theorem r_index (hD : Duo w0 w (ArT g n L') (RA h n L)) {x m : Int} (hj : idx L x = m) :
    Calls Try.prog 18 #[.pointer (some ⟨h, 0, none⟩), .int .i64 x] w fun e w' => e = .returned (.int .i64 m) ∧ w = w' := by
  obtain ⟨T, hT⟩ := hD.swap.left
  exact hj ▸ rindex_any w T h n L x hT
theorem r_at (hD : Duo w0 w (ArT g n L') (RA h n L)) {x i m : Int} (hj : atL (lst L x) i = m) :
    Calls Try.prog 24 #[.pointer (some ⟨h, 0, none⟩), .int .i64 x, .int .i64 i] w fun e w' => e = .returned (.int .i64 m) ∧ w = w' := by
  obtain ⟨T, hT⟩ := hD.swap.left
  exact hj ▸ rat_any w T h n L x i hT
theorem r_list (hD : Duo w0 w (ArT g n L') (RA h n L)) {x : Int} {l : List Nat} {z : Nat} (hl : lst L x = l) (hz : l.length = z) :
    Calls Try.prog 20 #[.pointer (some ⟨h, 0, none⟩), .int .i64 x] w fun e w' => ∃ a cap, e = .returned (.slice a z cap) ∧ (∃ U, Rd w U (.slice a z cap) l) ∧ w = w' := by
  obtain ⟨T, hT⟩ := hD.swap.left
  subst hl hz
  refine (rlist_any w T h n L x hT).mono ?_
  rintro e w' ⟨a, cap, rfl, hr, rfl⟩
  exact ⟨a, cap, rfl, ⟨T, hr⟩, rfl⟩
end
end Go.Proofs.Ytlmbkmjjiebpbaa
