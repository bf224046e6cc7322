/- The library's sort of a row of structs: what it takes, and what it leaves. Nothing of the program in it. -/
import Derived.Shelf.SlSortCmp.WholeK
import Derived.Test.YthncgmmfnghliaaMem
namespace Go.Proofs.Ythncgmmfnghliaa
open Go.Shelf Go.RowKit Go.Lib Go.Sort
set_option linter.unusedVariables false

section
variable {α : Type} [Inhabited α] {enc : α → List Value} {k : Nat}

theorem flat_get (hk : ∀ x, (enc x).length = k) (k0 : 0 < k) : ∀ (l : List α) (t : Nat), t < l.length * k → (l.flatMap enc)[t]? = some ((enc (l[t / k]!))[t % k]!)
  | [], t, h => by simp at h
  | x :: l, t, h => by
    rw [List.flatMap_cons]
    by_cases ht : t < k
    · have hlt : t < (enc x).length := by rw [hk]; exact ht
      rw [List.getElem?_append_left hlt, Nat.div_eq_of_lt ht, Nat.mod_eq_of_lt ht, List.getElem?_eq_getElem hlt]
      simp [hlt]
    · obtain ⟨u, rfl⟩ : ∃ u, t = k + u := ⟨t - k, by omega⟩
      have hu : u < l.length * k := by
        simp only [List.length_cons, Nat.add_mul, Nat.one_mul] at h
        omega
      rw [List.getElem?_append_right (by rw [hk]; omega), hk, Nat.add_sub_cancel_left, flat_get hk k0 l u hu, Nat.add_div_left _ k0, Nat.add_mod_left]
      simp

omit [Inhabited α] in
theorem flatMap_len (hk : ∀ x, (enc x).length = k) : ∀ l : List α, (l.flatMap enc).length = l.length * k
  | [] => by simp
  | x :: l => by rw [List.flatMap_cons, List.length_append, flatMap_len hk l, hk, List.length_cons, Nat.add_mul, Nat.one_mul, Nat.add_comm]

theorem flatK_list (hk : ∀ x, (enc x).length = k) (k0 : 0 < k) (d : Array α) : (flatK enc k d).toList = d.toList.flatMap enc := by
  apply List.ext_getElem?
  intro t
  by_cases ht : t < d.size * k
  · rw [flat_get hk k0 d.toList t (by simpa using ht)]
    have h2 := get_flatK enc k d t ht
    have h3 : t < (flatK enc k d).size := by simpa using ht
    rw [getElem!_pos _ t h3] at h2
    rw [Array.getElem?_toList, Array.getElem?_eq_getElem h3, h2]
    rw [Array.getElem!_toList (xs := d)]
  · rw [List.getElem?_eq_none (by simp; omega), List.getElem?_eq_none (by rw [flatMap_len hk]; simp; omega)]

theorem row_holdsK (hk : ∀ x, (enc x).length = k) (k0 : 0 < k) {w : World} {base g n cap : Nat} {e : TypeId} {d : Array α} (hd : d.size = n)
    (h : w.ownsRow base e k (.slice (some ⟨g, 0, none⟩) n cap) n (d.toList.flatMap enc)) : HoldsK enc k w g 0 d := by
  intro j hj
  have hj' : j < d.size * k := by simpa using hj
  have hn : 0 < n := by
    rcases Nat.eq_zero_or_pos n with c | c
    · rw [hd, c] at hj'; simp at hj'
    · exact c
  obtain ⟨g', cap', hv, h1, h2, _⟩ := row_open h hn
  cases hv
  have hf : (flatK enc k d).toList[j]? = some ((flatK enc k d)[j]!) := by
    rw [Array.getElem?_toList, Array.getElem?_eq_getElem hj, getElem!_pos _ j hj]
  rw [flatK_list hk k0] at hf
  rw [Nat.zero_add]
  exact ⟨h1 j _ hf, h2 j⟩

theorem sorted_row (hk : ∀ x, (enc x).length = k) (k0 : 0 < k) {w : World} {base g n cap m : Nat} {e : TypeId} {d d' : Array α} {os : Array Obj} (hd : d.size = n) (hd' : d'.size = n)
    (h : w.ownsRow base e k (.slice (some ⟨g, 0, none⟩) n cap) n (d.toList.flatMap enc)) :
    (sortWorldK enc k w g 0 m d' os).ownsRow base e k (.slice (some ⟨g, 0, none⟩) n cap) n (d'.toList.flatMap enc) ∧ Mod w (sortWorldK enc k w g 0 m d' os) (OneB g) := by
  rcases h.2 with ⟨hv, _⟩ | ⟨g', cap', cur, hv, hb, hg, h1, h2, h3, h4⟩
  · cases hv
  · cases hv
    have hlt : g < w.heap.size := (Array.getElem?_eq_some_iff.1 hg).1
    have hfs : (flatK enc k d').size = n * k := by simp [hd']
    refine ⟨⟨by rw [flatMap_len hk]; simp [hd'], Or.inr ⟨g, cap, putCells id 0 (flatK enc k d') cur, rfl, hb, ?_, h1, h2, by simp [putCells, h3], ?_⟩⟩, rfl, rfl, rfl, by simp [sortWorldK, putRowK, putRow, mapBlock], fun i hi hn => ?_⟩
    · show (w.heap.modify g (onCells (putCells id 0 (flatK enc k d'))) ++ os)[g]? = _
      rw [Array.getElem?_append_left (by simpa using hlt), Array.getElem?_modify, if_pos rfl, hg]
      rfl
    · rw [← flatK_list hk k0]
      apply List.ext_getElem?
      intro t
      by_cases ht : t < n * k
      · have h5 : n * k ≤ cap * k := Nat.mul_le_mul_right k h1
        have h6 : t < cur.size := by omega
        rw [List.getElem?_take, if_pos ht, Array.getElem?_toList, Array.getElem?_toList, putCells, Array.getElem?_mapIdx, Array.getElem?_eq_getElem h6, Option.map_some, if_pos ⟨by omega, by omega⟩, Nat.sub_zero,
          Array.getElem?_eq_getElem (show t < (flatK enc k d').size by omega), getElem!_pos _ t (by omega)]
        rfl
      · rw [List.getElem?_take, if_neg ht, Array.getElem?_toList, Array.getElem?_eq_none (by omega)]
    · show (w.heap.modify g (onCells (putCells id 0 (flatK enc k d'))) ++ os)[i]? = _
      have hne : g ≠ i := fun c => hn c.symm
      rw [Array.getElem?_append_left (by simpa using hi), Array.getElem?_modify, if_neg hne]

theorem perm_list {d d' : Array α} (h : PermIn 0 d.size d d') : d'.size = d.size ∧ d'.toList.Perm d.toList := by
  obtain ⟨h1, _, h2⟩ := h
  refine ⟨h1, ?_⟩
  have e1 : d'.extract 0 d.size = d' := by rw [← h1]; simp
  have e2 : d.extract 0 d.size = d := by simp
  rwa [e1, e2] at h2

theorem sorted_list {lt : α → α → Bool} {d : Array α} {n : Nat} (hn : d.size = n) (h : SortedIn lt 0 n d) : d.toList.Pairwise (fun a b => lt b a = false) := by
  refine List.pairwise_iff_getElem.2 (fun i j hi hj hij => ?_)
  have hj' : j < d.size := by simpa using hj
  have hi' : i < d.size := by simpa using hi
  have := h i j (Nat.zero_le _) hij (by omega)
  rw [getElem!_pos d j hj', getElem!_pos d i hi'] at this
  simpa using this

end
end Go.Proofs.Ythncgmmfnghliaa
