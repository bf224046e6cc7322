/- A row turned about: plain facts, and appends to a row that lives beside an arena. -/
import Derived.Test.YtlmbkmjjiebpbaaTrK
import Derived.Test.YtlmbkmjjiebpbaaTrM
import Derived.Maps.AppendAt
namespace Go.Proofs.Ytlmbkmjjiebpbaa
open Go.RowKit
set_option linter.unusedVariables false

/-- A row of its own, as a thing that lives beside others. -/
def RowT (v : Value) (l : List Nat) : World → (Nat → Prop) → Prop := fun w T => OutRow w v l ∧ ∀ k, v.ownBlock = some k → T k
theorem RowT.framed (v : Value) (l : List Nat) : Framed (RowT v l) := fun _ _ _ _ h hm hs => ⟨hm.row h.1 (fun k hk => hs k (h.2 k hk)), h.2⟩

theorem Duo.push {w0 w w' : World} {P : World → (Nat → Prop) → Prop} (hP : Framed P) {v : Value} {l : List Nat} {x n g1 cap1 : Nat} {o : Obj} (hn : l.length = n) (h : Duo w0 w P (RowT v l))
    (hown : w'.ownsRow 0 3 1 (.slice (some ⟨g1, 0, none⟩) (n + 1) cap1) (n + 1) (nums l ++ [.int .i64 (x : Int)])) (hg : (w.alloc o).grownBy w' v.ownBlock) (hat : v.ownBlock = some g1 ∨ g1 = w.heap.size + 1) (hlt : g1 < w'.heap.size) :
    Duo w0 w' P (RowT (.slice (some ⟨g1, 0, none⟩) (n + 1) cap1) (l ++ [x])) := by
  subst hn
  obtain ⟨S, T, h1, h2, h3, h4, h5, h6⟩ := h
  have hm : Mod w w' T := ((Mod.refl w T).alloc o).grown hg (fun k hk _ => h2.2 k hk)
  refine ⟨S, Fresh T w w', hP _ _ _ _ h1 hm (fun k hk ht => h6 k hk ht), ⟨?_, fun k hk => ?_⟩, h3.trans hm (fun k hk ht => by have := (h5 k ht).1; omega), fun k hk => ⟨(h4 k hk).1, Nat.lt_of_lt_of_le (h4 k hk).2 hm.size⟩, fun k hk => ?_, fun k hk ht => ?_⟩
  · unfold OutRow
    rw [show (l ++ [x]).length = l.length + 1 by simp, show nums (l ++ [x]) = nums l ++ [.int .i64 (x : Int)] by simp [nums]]
    exact hown
  · simp [Value.ownBlock] at hk
    subst hk
    rcases hat with e | e
    · exact Or.inl (h2.2 _ e)
    · exact Or.inr ⟨by omega, hlt⟩
  · rcases hk with hk | ⟨a, b⟩
    · exact ⟨(h5 k hk).1, Nat.lt_of_lt_of_le (h5 k hk).2 hm.size⟩
    · exact ⟨by have := h3.size; omega, b⟩
  · rcases ht with ht | ⟨a, b⟩
    · exact h6 k hk ht
    · have := (h4 k hk).2; omega

/-- append as a step of a region that draws its order: what is appended may be nothing. -/
theorem step_append_own0 {P : Program} (w : World) {ops : Array Oper} {o : Oper} {a : Act} {K : Act → World → Prop} {Q : Exit → Act → World → Prop} {E : Prop} (hgd : o.guard = none) (s x : Operand) (t : TypeId)
    (ho : o.op = .call { callee := .builtin .append, args := #[s, x], argTypes := #[t, t] })
    (e : TypeId) (i : TypeInfo) (z : Value) (bytes : Nat) (ht : P.underlying t = some (.slice e)) (hi : P.info? e = some i) (hz : i.zero = some z)
    (hsize : i.size = 1) (hby : i.bytes = bytes) (hzs : z.cells.size = 1)
    (v : Value) (n : Nat) (xs : List Value) (hs : a.eval s = v) (hown : w.ownsRow 0 e 1 v n xs)
    (ad : Addr) (m c : Nat) (news : List Value) (hx : a.eval x = .slice (some ad) m c) (hl : news.length = m) (hnews : ∀ j u, news[j]? = some u → w.cell? (ad.add j) = some u) (h1 : ∀ u ∈ news, u.oneCell' = true)
    (hm : 0 < n + m) (h63 : n + m ≤ maxLen) (hbytes : (n + m) * bytes ≤ 140737488355328)
    (h : ∀ g cap w', w'.ownsRow 0 e 1 (.slice (some ⟨g, 0, none⟩) (n + m) cap) (n + m) (xs ++ news) → w.grownBy w' v.ownBlock → (v.ownBlock = some g ∨ g = w.heap.size) → g < w'.heap.size → K (a.put o.dst (.slice (some ⟨g, 0, none⟩) (n + m) cap)) w') :
    if Region.wanted o (yielded ops a.tmps) = true then Oper.wp P o a w K Q else E := by
  have hw : Region.wanted o (yielded ops a.tmps) = true := by simp [Region.wanted, hgd]
  rw [if_pos hw]
  obtain ⟨v', w', hr, h2, h3, _, h5⟩ := run_append_own_at (P := P) w 0 t o.type e i z 1 bytes ht hi hz hsize hby hzs (by decide) v n xs hown ad m c news (by simpa using hl) hnews h1 h63 hbytes (Nat.zero_le _)
  obtain ⟨g, cap, rfl, _, hlt⟩ := h2.form hm
  have hat : v.ownBlock = some g ∨ g = w.heap.size := by
    rcases h5 with h5 | h5
    · exact .inl (by rw [← h5]; rfl)
    · right; simpa [Value.ownBlock] using h5
  unfold Oper.wp execOp
  simp only [ho, resolve, invoke, builtin, Sem.run_bind, Sem.run_pure, Result.andThen_ok, List.map_toArray, List.map_cons, List.map_nil, hs, hx, hr]
  exact h g cap w' h2 h3 hat hlt

/-! ### Plain facts -/
theorem pos_nd {l : List Nat} (hn : l.Nodup) {c : Nat} (hc : c < l.length) : pos l ((l.getD c 0 : Nat) : Int) = some c := by
  have hg : l.getD c 0 = l[c] := by rw [List.getD_eq_getElem?_getD, List.getElem?_eq_getElem hc]; rfl
  refine pos_at (y := l.getD c 0) (by rw [hg]; exact List.getElem?_eq_getElem hc) rfl (fun j hj z hz e => ?_)
  have hjl : j < l.length := by omega
  rw [List.getElem?_eq_getElem hjl] at hz
  have hz2 : l[j] = z := by simpa using hz
  have : l[j] = l[c] := by omega
  have := (List.getElem_inj hn (h₀ := hjl) (h₁ := hc)).1 this
  omega

/-- What turns keep. -/
structure Turn (k : Nat) (l : List Nat) : Prop where
  len : l.length = k
  nd : l.Nodup
  first : 0 ∈ l
  last : (k - 1) ∈ l

theorem Turn.start {k : Nat} (hk : 0 < k) : Turn k (seg 0 k) := by
  refine ⟨by rw [seg_len]; omega, by unfold seg; exact List.nodup_range', ?_, ?_⟩
  · unfold seg; simp; omega
  · unfold seg; simp; omega
theorem Turn.turn {k : Nat} {l : List Nat} (h : Turn k l) (c : Nat) : Turn k (l.drop c ++ l.take c) := by
  have hp : (l.drop c ++ l.take c).Perm l := by
    have := List.perm_append_comm (l₁ := l.drop c) (l₂ := l.take c)
    rwa [List.take_append_drop] at this
  exact ⟨hp.length_eq.trans h.len, hp.nodup_iff.2 h.nd, hp.mem_iff.2 h.first, hp.mem_iff.2 h.last⟩

theorem turn_cut0 {k : Nat} {l : List Nat} (h : Turn k l) (hk : 0 < k) : ct [l] ((l.getD 0 0 : Nat) : Int) = (false, [l]) := by
  unfold ct; rw [fnd1 (pos_nd h.nd (by have := h.len; omega))]; simp
theorem turn_cut {k : Nat} {l : List Nat} (h : Turn k l) {c : Nat} (h0 : 0 < c) (hc : c < k) : ct [l] ((l.getD c 0 : Nat) : Int) = (true, [l.take c, l.drop c]) := by
  unfold ct; rw [fnd1 (pos_nd h.nd (by have := h.len; omega))]
  simp only
  rw [if_neg (by omega)]
  simp
theorem turn_join {k : Nat} {l : List Nat} (h : Turn k l) {c : Nat} (h0 : 0 < c) (hc : c < k) : jn [l.take c, l.drop c] ((l.getD c 0 : Nat) : Int) ((l.getD 0 0 : Nat) : Int) = (true, [l.drop c ++ l.take c]) := by
  have hl := h.len
  have hnt : (l.take c).Nodup := h.nd.sublist (List.take_sublist _ _)
  have hnd : (l.drop c).Nodup := h.nd.sublist (List.drop_sublist _ _)
  have e0 : (l.take c).getD 0 0 = l.getD 0 0 := by rw [List.getD_eq_getElem?_getD, List.getD_eq_getElem?_getD, List.getElem?_take, if_pos h0]
  have e1 : (l.drop c).getD 0 0 = l.getD c 0 := by rw [List.getD_eq_getElem?_getD, List.getD_eq_getElem?_getD, List.getElem?_drop]; rfl
  have f0 : fnd [l.take c, l.drop c] ((l.getD 0 0 : Nat) : Int) = some (0, 0) := fnd1 (by rw [← e0]; exact pos_nd hnt (by simp; omega))
  have hno : pos (l.take c) ((l.getD c 0 : Nat) : Int) = none := pos_none (fun y hy e => by
    have hgc : l.getD c 0 = l[c]'(by omega) := by rw [List.getD_eq_getElem?_getD, List.getElem?_eq_getElem (by omega)]; rfl
    have hyc : y = l[c]'(by omega) := by omega
    have hin : l[c]'(by omega) ∈ l.drop c := by
      rw [List.mem_iff_getElem?]; exact ⟨0, by rw [List.getElem?_drop]; simp⟩
    have := List.take_append_drop c l ▸ h.nd
    exact (List.nodup_append.1 this).2.2 y hy _ hin hyc)
  have fc : fnd [l.take c, l.drop c] ((l.getD c 0 : Nat) : Int) = some (1, 0) := fnd2 (i := 0) hno (fnd1 (by rw [← e1]; exact pos_nd hnd (by simp; omega)))
  unfold jn
  rw [fc, f0]
  simp

theorem turn_lst {k : Nat} {l : List Nat} (h : Turn k l) {x : Nat} (hx : x ∈ l) : lst [l] x = l := by
  obtain ⟨c, hc, e⟩ := List.getElem_of_mem hx
  have : fnd [l] (x : Int) = some (0, c) := fnd1 (by
    have := pos_nd h.nd hc
    rwa [show l.getD c 0 = x by rw [List.getD_eq_getElem?_getD, List.getElem?_eq_getElem hc]; exact e] at this)
  unfold lst; rw [this]; rfl
end Go.Proofs.Ytlmbkmjjiebpbaa
