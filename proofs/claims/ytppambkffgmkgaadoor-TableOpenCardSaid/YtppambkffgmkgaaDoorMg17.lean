/- Merged: LfS LfLay LfW -/
import Derived.Shelf.SlSortCmp.WholeK
import Derived.Test.YtppambkffgmkgaaDoorMg01
import Derived.Test.YtppambkffgmkgaaDoorProg
import Derived.Shelf.SlSortCmp.NoneTotal
import Derived.Test.YtppambkffgmkgaaDoorMg06
section
/- The library's sort of a row of structs: what it takes, and what it leaves. Nothing of the program in it. -/
namespace Go.Proofs.YtppambkffgmkgaaDoor
open Go.Shelf Go.RowKit Go.Lib Go.Sort
set_option linter.unusedVariables false

section
variable {α : Type} [Inhabited α] {enc : α → List Value} {k : Nat}

theorem flat_get (hk : ∀ x, (enc x).length = k) (k0 : 0 < k) : ∀ (l : List α) (t : Nat), t < l.length * k → (l.flatMap enc)[t]? = some ((enc (l[t / k]!))[t % k]!)
  | [], t, h => by simp at h
  | x :: l, t, h => by
    rw [List.flatMap_cons]
    by_cases ht : t < k
    · have hlt : t < (enc x).length := by rw [hk]; exact ht
      rw [List.getElem?_append_left hlt, Nat.div_eq_of_lt ht, Nat.mod_eq_of_lt ht, List.getElem?_eq_getElem hlt]
      simp [hlt]
    · obtain ⟨u, rfl⟩ : ∃ u, t = k + u := ⟨t - k, by omega⟩
      have hu : u < l.length * k := by
        simp only [List.length_cons, Nat.add_mul, Nat.one_mul] at h
        omega
      rw [List.getElem?_append_right (by rw [hk]; omega), hk, Nat.add_sub_cancel_left, flat_get hk k0 l u hu, Nat.add_div_left _ k0, Nat.add_mod_left]
      simp

omit [Inhabited α] in
theorem flatMap_len (hk : ∀ x, (enc x).length = k) : ∀ l : List α, (l.flatMap enc).length = l.length * k
  | [] => by simp
  | x :: l => by rw [List.flatMap_cons, List.length_append, flatMap_len hk l, hk, List.length_cons, Nat.add_mul, Nat.one_mul, Nat.add_comm]

theorem flatK_list (hk : ∀ x, (enc x).length = k) (k0 : 0 < k) (d : Array α) : (flatK enc k d).toList = d.toList.flatMap enc := by
  apply List.ext_getElem?
  intro t
  by_cases ht : t < d.size * k
  · rw [flat_get hk k0 d.toList t (by simpa using ht)]
    have h2 := get_flatK enc k d t ht
    have h3 : t < (flatK enc k d).size := by simpa using ht
    rw [getElem!_pos _ t h3] at h2
    rw [Array.getElem?_toList, Array.getElem?_eq_getElem h3, h2]
    rw [Array.getElem!_toList (xs := d)]
  · rw [List.getElem?_eq_none (by simp; omega), List.getElem?_eq_none (by rw [flatMap_len hk]; simp; omega)]

theorem row_holdsK (hk : ∀ x, (enc x).length = k) (k0 : 0 < k) {w : World} {base g n cap : Nat} {e : TypeId} {d : Array α} (hd : d.size = n)
    (h : w.ownsRow base e k (.slice (some ⟨g, 0, none⟩) n cap) n (d.toList.flatMap enc)) : HoldsK enc k w g 0 d := by
  intro j hj
  have hj' : j < d.size * k := by simpa using hj
  have hn : 0 < n := by
    rcases Nat.eq_zero_or_pos n with c | c
    · rw [hd, c] at hj'; simp at hj'
    · exact c
  obtain ⟨g', cap', hv, h1, h2, _⟩ := row_open h hn
  cases hv
  have hf : (flatK enc k d).toList[j]? = some ((flatK enc k d)[j]!) := by
    rw [Array.getElem?_toList, Array.getElem?_eq_getElem hj, getElem!_pos _ j hj]
  rw [flatK_list hk k0] at hf
  rw [Nat.zero_add]
  exact ⟨h1 j _ hf, h2 j⟩

theorem sorted_row (hk : ∀ x, (enc x).length = k) (k0 : 0 < k) {w : World} {base g n cap m : Nat} {e : TypeId} {d d' : Array α} {os : Array Obj} (hd : d.size = n) (hd' : d'.size = n)
    (h : w.ownsRow base e k (.slice (some ⟨g, 0, none⟩) n cap) n (d.toList.flatMap enc)) :
    (sortWorldK enc k w g 0 m d' os).ownsRow base e k (.slice (some ⟨g, 0, none⟩) n cap) n (d'.toList.flatMap enc) ∧ Mod w (sortWorldK enc k w g 0 m d' os) (OneB g) := by
  rcases h.2 with ⟨hv, _⟩ | ⟨g', cap', cur, hv, hb, hg, h1, h2, h3, h4⟩
  · cases hv
  · cases hv
    have hlt : g < w.heap.size := (Array.getElem?_eq_some_iff.1 hg).1
    have hfs : (flatK enc k d').size = n * k := by simp [hd']
    refine ⟨⟨by rw [flatMap_len hk]; simp [hd'], Or.inr ⟨g, cap, putCells id 0 (flatK enc k d') cur, rfl, hb, ?_, h1, h2, by simp [putCells, h3], ?_⟩⟩, rfl, rfl, rfl, by simp [sortWorldK, putRowK, putRow, mapBlock], fun i hi hn => ?_⟩
    · show (w.heap.modify g (onCells (putCells id 0 (flatK enc k d'))) ++ os)[g]? = _
      rw [Array.getElem?_append_left (by simpa using hlt), Array.getElem?_modify, if_pos rfl, hg]
      rfl
    · rw [← flatK_list hk k0]
      apply List.ext_getElem?
      intro t
      by_cases ht : t < n * k
      · have h5 : n * k ≤ cap * k := Nat.mul_le_mul_right k h1
        have h6 : t < cur.size := by omega
        rw [List.getElem?_take, if_pos ht, Array.getElem?_toList, Array.getElem?_toList, putCells, Array.getElem?_mapIdx, Array.getElem?_eq_getElem h6, Option.map_some, if_pos ⟨by omega, by omega⟩, Nat.sub_zero,
          Array.getElem?_eq_getElem (show t < (flatK enc k d').size by omega), getElem!_pos _ t (by omega)]
        rfl
      · rw [List.getElem?_take, if_neg ht, Array.getElem?_toList, Array.getElem?_eq_none (by omega)]
    · show (w.heap.modify g (onCells (putCells id 0 (flatK enc k d'))) ++ os)[i]? = _
      have hne : g ≠ i := fun c => hn c.symm
      rw [Array.getElem?_append_left (by simpa using hi), Array.getElem?_modify, if_neg hne]

theorem perm_list {d d' : Array α} (h : PermIn 0 d.size d d') : d'.size = d.size ∧ d'.toList.Perm d.toList := by
  obtain ⟨h1, _, h2⟩ := h
  refine ⟨h1, ?_⟩
  have e1 : d'.extract 0 d.size = d' := by rw [← h1]; simp
  have e2 : d.extract 0 d.size = d := by simp
  rwa [e1, e2] at h2

theorem sorted_list {lt : α → α → Bool} {d : Array α} {n : Nat} (hn : d.size = n) (h : SortedIn lt 0 n d) : d.toList.Pairwise (fun a b => lt b a = false) := by
  refine List.pairwise_iff_getElem.2 (fun i j hi hj hij => ?_)
  have hj' : j < d.size := by simpa using hj
  have hi' : i < d.size := by simpa using hi
  have := h i j (Nat.zero_le _) hij (by omega)
  rw [getElem!_pos d j hj', getElem!_pos d i hi'] at this
  simpa using this

end
end Go.Proofs.YtppambkffgmkgaaDoor
end

section
/- The library's sort at this program's types: the shelf's laying, in plain words. -/
namespace Go.Proofs.YtppambkffgmkgaaDoor
open Go.Shelf
def sortLf_ren : Go.Shelf.Ren := ⟨fun | 6 => 39 | 15 => 56 | 14 => 55 | 28 => 75 | 29 => 76 | 20 => 67 | 21 => 68 | 22 => 69 | 23 => 70 | 24 => 71 | 25 => 72 | 26 => 73 | 27 => 74 | 46 => 90 | 47 => 91 | 48 => 92 | 49 => 93 | 50 => 94 | 57 => 100 | n => n, fun | 22 => 55 | 24 => 67 | 25 => 95 | 3 => 3 | 39 => 109 | 0 => 0 | 53 => 39 | 55 => 25 | 4 => 4 | 46 => 124 | 45 => 123 | 50 => 128 | 5 => 5 | 9 => 9 | 66 => 142 | 70 => 146 | 76 => 150 | 77 => 151 | n => n, fun | n => n⟩
theorem sortLf : Go.Proofs.SlLaysF0.n6 Tryd.prog sortLf_ren := {
  mixed := by kernel_rfl
  f6 := ⟨Tryd.f39.name, by decide, Tryd.func39.trans (congrArg some (by kernel_rfl))⟩
  f14 := ⟨Tryd.f55.name, by decide, Tryd.func55.trans (congrArg some (by kernel_rfl))⟩
  f15 := Tryd.func56.trans (congrArg some (by kernel_rfl))
  f20 := ⟨Tryd.f67.name, by decide, Tryd.func67.trans (congrArg some (by kernel_rfl))⟩
  f21 := ⟨Tryd.f68.name, by decide, Tryd.func68.trans (congrArg some (by kernel_rfl))⟩
  f22 := ⟨Tryd.f69.name, by decide, Tryd.func69.trans (congrArg some (by kernel_rfl))⟩
  f23 := ⟨Tryd.f70.name, by decide, Tryd.func70.trans (congrArg some (by kernel_rfl))⟩
  f24 := ⟨Tryd.f71.name, by decide, Tryd.func71.trans (congrArg some (by kernel_rfl))⟩
  f25 := ⟨Tryd.f72.name, by decide, Tryd.func72.trans (congrArg some (by kernel_rfl))⟩
  f26 := ⟨Tryd.f73.name, by decide, Tryd.func73.trans (congrArg some (by kernel_rfl))⟩
  f27 := ⟨Tryd.f74.name, by decide, Tryd.func74.trans (congrArg some (by kernel_rfl))⟩
  f28 := Tryd.func75.trans (congrArg some (by kernel_rfl))
  f29 := Tryd.func76.trans (congrArg some (by kernel_rfl))
  f46 := ⟨Tryd.f90.name, by decide, Tryd.func90.trans (congrArg some (by kernel_rfl))⟩
  f47 := Tryd.func91.trans (congrArg some (by kernel_rfl))
  f48 := Tryd.func92.trans (congrArg some (by kernel_rfl))
  f49 := ⟨Tryd.f93.name, by decide, Tryd.func93.trans (congrArg some (by kernel_rfl))⟩
  f50 := ⟨Tryd.f94.name, by decide, Tryd.func94.trans (congrArg some (by kernel_rfl))⟩
  f57 := ⟨Tryd.f100.name, by decide, Tryd.func100.trans (congrArg some (by kernel_rfl))⟩
  t0 := Tryd.underlying0
  a0 := Tryd.isAgg0
  z0 := Tryd.sizeOf0
  v0 := Tryd.zeroValue0
  t3 := Tryd.underlying3
  a3 := Tryd.isAgg3
  z3 := Tryd.sizeOf3
  v3 := Tryd.zeroValue3
  t4 := Tryd.underlying4
  a4 := Tryd.isAgg4
  z4 := Tryd.sizeOf4
  v4 := Tryd.zeroValue4
  t5 := Tryd.underlying5
  a5 := Tryd.isAgg5
  z5 := Tryd.sizeOf5
  v5 := Tryd.zeroValue5
  t9 := Tryd.underlying9
  a9 := Tryd.isAgg9
  z9 := Tryd.sizeOf9
  v9 := Tryd.zeroValue9
  t22 := Tryd.underlying55
  a22 := Tryd.isAgg55
  z22 := Tryd.sizeOf55
  v22 := Tryd.zeroValue55
  t25 := Tryd.underlying95
  a25 := Tryd.isAgg95
  z25 := Tryd.sizeOf95
  v25 := Tryd.zeroValue95
  t39 := Tryd.underlying109
  a39 := Tryd.isAgg109
  z39 := Tryd.sizeOf109
  v39 := Tryd.zeroValue109
  t45 := Tryd.underlying123
  a45 := Tryd.isAgg123
  z45 := Tryd.sizeOf123
  v45 := Tryd.zeroValue123
  t46 := Tryd.underlying124
  a46 := Tryd.isAgg124
  z46 := Tryd.sizeOf124
  v46 := Tryd.zeroValue124
  t50 := Tryd.underlying128
  a50 := Tryd.isAgg128
  z50 := Tryd.sizeOf128
  v50 := Tryd.zeroValue128
  t53 := Tryd.underlying39
  a53 := Tryd.isAgg39
  z53 := Tryd.sizeOf39
  v53 := Tryd.zeroValue39
  t55 := Tryd.underlying25
  a55 := Tryd.isAgg25
  z55 := Tryd.sizeOf25
  v55 := Tryd.zeroValue25
  t66 := Tryd.underlying142
  a66 := Tryd.isAgg142
  z66 := Tryd.sizeOf142
  v66 := Tryd.zeroValue142
  t70 := Tryd.underlying146
  a70 := Tryd.isAgg146
  z70 := Tryd.sizeOf146
  v70 := Tryd.zeroValue146
  t76 := Tryd.underlying150
  a76 := Tryd.isAgg150
  z76 := Tryd.sizeOf150
  v76 := Tryd.zeroValue150
  t77 := Tryd.underlying151
  a77 := Tryd.isAgg151
  z77 := Tryd.sizeOf151
  v77 := Tryd.zeroValue151 }
def sortEv_ren : Go.Shelf.Ren := ⟨fun | 6 => 51 | 15 => 56 | 14 => 64 | 28 => 75 | 29 => 76 | 20 => 81 | 21 => 82 | 22 => 83 | 23 => 84 | 24 => 85 | 25 => 86 | 26 => 87 | 27 => 88 | 46 => 97 | 47 => 91 | 48 => 92 | 49 => 98 | 50 => 99 | 57 => 101 | n => n, fun | 22 => 26 | 24 => 43 | 25 => 105 | 3 => 3 | 39 => 109 | 0 => 0 | 53 => 39 | 55 => 25 | 4 => 4 | 46 => 124 | 45 => 123 | 50 => 128 | 5 => 5 | 9 => 9 | 66 => 142 | 70 => 146 | 76 => 150 | 77 => 151 | n => n, fun | n => n⟩
theorem sortEv : Go.Proofs.SlLaysF0.n6 Tryd.prog sortEv_ren := {
  mixed := by kernel_rfl
  f6 := ⟨Tryd.f51.name, by decide, Tryd.func51.trans (congrArg some (by kernel_rfl))⟩
  f14 := ⟨Tryd.f64.name, by decide, Tryd.func64.trans (congrArg some (by kernel_rfl))⟩
  f15 := Tryd.func56.trans (congrArg some (by kernel_rfl))
  f20 := ⟨Tryd.f81.name, by decide, Tryd.func81.trans (congrArg some (by kernel_rfl))⟩
  f21 := ⟨Tryd.f82.name, by decide, Tryd.func82.trans (congrArg some (by kernel_rfl))⟩
  f22 := ⟨Tryd.f83.name, by decide, Tryd.func83.trans (congrArg some (by kernel_rfl))⟩
  f23 := ⟨Tryd.f84.name, by decide, Tryd.func84.trans (congrArg some (by kernel_rfl))⟩
  f24 := ⟨Tryd.f85.name, by decide, Tryd.func85.trans (congrArg some (by kernel_rfl))⟩
  f25 := ⟨Tryd.f86.name, by decide, Tryd.func86.trans (congrArg some (by kernel_rfl))⟩
  f26 := ⟨Tryd.f87.name, by decide, Tryd.func87.trans (congrArg some (by kernel_rfl))⟩
  f27 := ⟨Tryd.f88.name, by decide, Tryd.func88.trans (congrArg some (by kernel_rfl))⟩
  f28 := Tryd.func75.trans (congrArg some (by kernel_rfl))
  f29 := Tryd.func76.trans (congrArg some (by kernel_rfl))
  f46 := ⟨Tryd.f97.name, by decide, Tryd.func97.trans (congrArg some (by kernel_rfl))⟩
  f47 := Tryd.func91.trans (congrArg some (by kernel_rfl))
  f48 := Tryd.func92.trans (congrArg some (by kernel_rfl))
  f49 := ⟨Tryd.f98.name, by decide, Tryd.func98.trans (congrArg some (by kernel_rfl))⟩
  f50 := ⟨Tryd.f99.name, by decide, Tryd.func99.trans (congrArg some (by kernel_rfl))⟩
  f57 := ⟨Tryd.f101.name, by decide, Tryd.func101.trans (congrArg some (by kernel_rfl))⟩
  t0 := Tryd.underlying0
  a0 := Tryd.isAgg0
  z0 := Tryd.sizeOf0
  v0 := Tryd.zeroValue0
  t3 := Tryd.underlying3
  a3 := Tryd.isAgg3
  z3 := Tryd.sizeOf3
  v3 := Tryd.zeroValue3
  t4 := Tryd.underlying4
  a4 := Tryd.isAgg4
  z4 := Tryd.sizeOf4
  v4 := Tryd.zeroValue4
  t5 := Tryd.underlying5
  a5 := Tryd.isAgg5
  z5 := Tryd.sizeOf5
  v5 := Tryd.zeroValue5
  t9 := Tryd.underlying9
  a9 := Tryd.isAgg9
  z9 := Tryd.sizeOf9
  v9 := Tryd.zeroValue9
  t22 := Tryd.underlying26
  a22 := Tryd.isAgg26
  z22 := Tryd.sizeOf26
  v22 := Tryd.zeroValue26
  t25 := Tryd.underlying105
  a25 := Tryd.isAgg105
  z25 := Tryd.sizeOf105
  v25 := Tryd.zeroValue105
  t39 := Tryd.underlying109
  a39 := Tryd.isAgg109
  z39 := Tryd.sizeOf109
  v39 := Tryd.zeroValue109
  t45 := Tryd.underlying123
  a45 := Tryd.isAgg123
  z45 := Tryd.sizeOf123
  v45 := Tryd.zeroValue123
  t46 := Tryd.underlying124
  a46 := Tryd.isAgg124
  z46 := Tryd.sizeOf124
  v46 := Tryd.zeroValue124
  t50 := Tryd.underlying128
  a50 := Tryd.isAgg128
  z50 := Tryd.sizeOf128
  v50 := Tryd.zeroValue128
  t53 := Tryd.underlying39
  a53 := Tryd.isAgg39
  z53 := Tryd.sizeOf39
  v53 := Tryd.zeroValue39
  t55 := Tryd.underlying25
  a55 := Tryd.isAgg25
  z55 := Tryd.sizeOf25
  v55 := Tryd.zeroValue25
  t66 := Tryd.underlying142
  a66 := Tryd.isAgg142
  z66 := Tryd.sizeOf142
  v66 := Tryd.zeroValue142
  t70 := Tryd.underlying146
  a70 := Tryd.isAgg146
  z70 := Tryd.sizeOf146
  v70 := Tryd.zeroValue146
  t76 := Tryd.underlying150
  a76 := Tryd.isAgg150
  z76 := Tryd.sizeOf150
  v76 := Tryd.zeroValue150
  t77 := Tryd.underlying151
  a77 := Tryd.isAgg151
  z77 := Tryd.sizeOf151
  v77 := Tryd.zeroValue151 }
end Go.Proofs.YtppambkffgmkgaaDoor
end

section
/- The contracts of slices.SortFunc at lives and at events. -/
namespace Go.Proofs.YtppambkffgmkgaaDoor
open Go.RowKit
set_option linter.unusedVariables false

instance : Inhabited Lf := ⟨⟨⟨0, 0⟩, 0, 0⟩⟩
instance : Inhabited Ev := ⟨⟨0, ⟨0, 0⟩, false⟩⟩

theorem ed_eq {a b : Ed} : a = b ↔ a.u = b.u ∧ a.v = b.v := ⟨fun h => by rw [h]; exact ⟨rfl, rfl⟩, fun h => Ed.ext' h.1 h.2⟩
theorem ltOf_lf (x y : Lf) : Go.Proofs.ltOf lfI x y = decide (lfLt x y) := by
  unfold Go.Proofs.ltOf
  exact decide_eq_decide.2 (lfI_lt x y)
theorem lfLt_iff (a b : Lf) : lfLt a b ↔ (a.e.u < b.e.u ∨ (a.e.u = b.e.u ∧ (a.e.v < b.e.v ∨ (a.e.v = b.e.v ∧ a.fr < b.fr)))) := by
  unfold lfLt edLt; rw [ed_eq]; omega
theorem before_iff (a b : Ev) : before a b ↔ (a.t < b.t ∨ (a.t = b.t ∧ (a.e.u < b.e.u ∨ (a.e.u = b.e.u ∧ a.e.v < b.e.v)))) := by
  unfold before edLt; omega
theorem swo_lf : Go.Sort.SWO (Go.Proofs.ltOf lfI) where
  irrefl x := by rw [ltOf_lf]; exact decide_eq_false (lfLt_irrefl x)
  trans x y z h1 h2 := by rw [ltOf_lf] at *; exact decide_eq_true (lfLt_trans (of_decide_eq_true h1) (of_decide_eq_true h2))
  ntrans x y z h1 h2 := by
    rw [ltOf_lf] at *
    have a := of_decide_eq_false h1
    have b := of_decide_eq_false h2
    refine decide_eq_false (fun c => ?_)
    rw [lfLt_iff] at *
    omega
def evI (a b : Ev) : Int := byI (before a b) (before b a)
theorem ltOf_ev (x y : Ev) : Go.Proofs.ltOf evI x y = decide (before x y) := by
  unfold Go.Proofs.ltOf
  refine decide_eq_decide.2 ?_
  unfold evI byI
  by_cases h1 : before x y
  · simp [h1]
  · by_cases h2 : before y x
    · simp [h1, h2]
    · simp [h1, h2]
theorem swo_ev : Go.Sort.SWO (Go.Proofs.ltOf evI) where
  irrefl x := by rw [ltOf_ev]; exact decide_eq_false (before_irrefl x)
  trans x y z h1 h2 := by rw [ltOf_ev] at *; exact decide_eq_true (before_trans (of_decide_eq_true h1) (of_decide_eq_true h2))
  ntrans x y z h1 h2 := by
    rw [ltOf_ev] at *
    have a := of_decide_eq_false h1
    have b := of_decide_eq_false h2
    refine decide_eq_false (fun c => ?_)
    rw [before_iff] at *
    omega

theorem sortLf_any (w : World) (base g cap p1 p2 : Nat) (l : List Lf) (hr : w.ownsRow base 67 4 (.slice (some ⟨g, 0, none⟩) l.length cap) l.length (l.flatMap encL)) (hl : l.length ≤ 1000000)
    (h1 : w.cell? ⟨p1, 0, none⟩ = some (.func (.func 38) #[] #[])) (h2 : w.cell? ⟨p2, 0, none⟩ = some (.func (.func 54) #[] #[.pointer (some ⟨p1, 0, none⟩)]))
    (n1 : p1 ≠ g) (n2 : p2 ≠ g) (hg : g < w.heap.size) :
    Calls Tryd.prog 39 #[.slice (some ⟨g, 0, none⟩) l.length cap, .func (.func 40) #[] #[.pointer (some ⟨p2, 0, none⟩)]] w
      fun e w' => e = .returned (.tuple #[]) ∧ ∃ l' : List Lf, l'.length = l.length ∧ l'.Perm l ∧ l'.Pairwise (fun a b => ¬ lfLt b a) ∧ w'.ownsRow base 67 4 (.slice (some ⟨g, 0, none⟩) l.length cap) l.length (l'.flatMap encL) ∧ Mod w w' (OneB g) := by
  obtain ⟨d, hd⟩ : ∃ d : Array Lf, d = l.toArray := ⟨_, rfl⟩
  have hds : d.size = l.length := by rw [hd]; simp
  have hdl : d.toList = l := by rw [hd]
  have hr' : w.ownsRow base 67 4 (.slice (some ⟨g, 0, none⟩) l.length cap) l.length (d.toList.flatMap encL) := by rw [hdl]; exact hr
  have hH := row_holdsK encL_len (by omega) hds hr'
  have hcmp : Go.Proofs.CmpLays Tryd.prog 40 #[.pointer (some ⟨p2, 0, none⟩)] encL 4 lfI g 0 d.size w := by
    intro m os dk hs x y
    obtain ⟨_, hm⟩ := sorted_row (m := m) (os := os) encL_len (by omega) hds (hs.trans hds) hr'
    exact (of1_grw _ p1 p2 x.e.u x.e.v x.fr x.to y.e.u y.e.v y.fr y.to (keepS h1 hm (fun c => n1 c)) (keepS h2 hm (fun c => n2 c))).mono fun _ _ h => ⟨h.1, by obtain ⟨q, os', h'⟩ := h.2; exact ⟨q, os', h'⟩⟩
  have eg : ∀ args w, (callFunc 40 args).run Tryd.prog w = .ok (.enter 40 args) w := Go.Proofs.enters_of Tryd.func40 (by kernel_rfl) rfl
  have hcon := Go.Proofs.AnyQ.slices_SortFunc sortLf 4 Tryd.isAgg67 Tryd.sizeOf67 encL encL_len (fun x v hv => by simp [encL] at hv; rcases hv with rfl | rfl | rfl | rfl <;> rfl) lfI swo_lf 40 #[.pointer (some ⟨p2, 0, none⟩)] g 0 cap d w eg hcmp hH hg (by omega)
  change Calls Tryd.prog 39 _ _ _ at hcon
  rw [hds] at hcon
  refine hcon.mono ?_
  rintro e w' ⟨rfl, d', n, os, hp, hso, rfl⟩
  rw [← hds] at hp
  obtain ⟨hs, hperm⟩ := perm_list hp
  have hs' := hs.trans hds
  obtain ⟨h5, h6⟩ := sorted_row (m := n) (os := os) encL_len (by omega) hds hs' hr'
  refine ⟨rfl, d'.toList, by simpa using hs', hdl ▸ hperm, ?_, h5, h6⟩
  refine (sorted_list hs' hso).imp (fun {a b} h => ?_)
  rw [ltOf_lf] at h
  exact of_decide_eq_false h

theorem sortEv_any (w : World) (base g cap p1 : Nat) (l : List Ev) (hr : w.ownsRow base 43 4 (.slice (some ⟨g, 0, none⟩) l.length cap) l.length (l.flatMap encV)) (hl : l.length ≤ 1000000)
    (h1 : w.cell? ⟨p1, 0, none⟩ = some (.func (.func 36) #[] #[])) (n1 : p1 ≠ g) (hg : g < w.heap.size) :
    Calls Tryd.prog 51 #[.slice (some ⟨g, 0, none⟩) l.length cap, .func (.func 65) #[] #[.pointer (some ⟨p1, 0, none⟩)]] w
      fun e w' => e = .returned (.tuple #[]) ∧ ∃ l' : List Ev, l'.length = l.length ∧ l'.Perm l ∧ l'.Pairwise (fun a b => ¬ before b a) ∧ w'.ownsRow base 43 4 (.slice (some ⟨g, 0, none⟩) l.length cap) l.length (l'.flatMap encV) ∧ Mod w w' (OneB g) := by
  obtain ⟨d, hd⟩ : ∃ d : Array Ev, d = l.toArray := ⟨_, rfl⟩
  have hds : d.size = l.length := by rw [hd]; simp
  have hdl : d.toList = l := by rw [hd]
  have hr' : w.ownsRow base 43 4 (.slice (some ⟨g, 0, none⟩) l.length cap) l.length (d.toList.flatMap encV) := by rw [hdl]; exact hr
  have hH := row_holdsK encV_len (by omega) hds hr'
  have hcmp : Go.Proofs.CmpLays Tryd.prog 65 #[.pointer (some ⟨p1, 0, none⟩)] encV 4 evI g 0 d.size w := by
    intro m os dk hs x y
    obtain ⟨_, hm⟩ := sorted_row (m := m) (os := os) encV_len (by omega) hds (hs.trans hds) hr'
    exact (byV_grw _ p1 x.t x.e.u x.e.v y.t y.e.u y.e.v x.add y.add (keepS h1 hm (fun c => n1 c))).mono fun _ _ h => ⟨h.1, by obtain ⟨q, os', h'⟩ := h.2; exact ⟨q, os', h'⟩⟩
  have eg : ∀ args w, (callFunc 65 args).run Tryd.prog w = .ok (.enter 65 args) w := Go.Proofs.enters_of Tryd.func65 (by kernel_rfl) rfl
  have hcon := Go.Proofs.AnyQ.slices_SortFunc sortEv 4 Tryd.isAgg43 Tryd.sizeOf43 encV encV_len (fun x v hv => by simp [encV] at hv; rcases hv with rfl | rfl | rfl | rfl <;> rfl) evI swo_ev 65 #[.pointer (some ⟨p1, 0, none⟩)] g 0 cap d w eg hcmp hH hg (by omega)
  change Calls Tryd.prog 51 _ _ _ at hcon
  rw [hds] at hcon
  refine hcon.mono ?_
  rintro e w' ⟨rfl, d', n, os, hp, hso, rfl⟩
  rw [← hds] at hp
  obtain ⟨hs, hperm⟩ := perm_list hp
  have hs' := hs.trans hds
  obtain ⟨h5, h6⟩ := sorted_row (m := n) (os := os) encV_len (by omega) hds hs' hr'
  refine ⟨rfl, d'.toList, by simpa using hs', hdl ▸ hperm, ?_, h5, h6⟩
  refine (sorted_list hs' hso).imp (fun {a b} h => ?_)
  rw [ltOf_ev] at h
  exact of_decide_eq_false h
/-- A row that a call owns: nil, or a block of its own. -/
theorem row_two {w : World} {base : Nat} {e : TypeId} {v : Value} {n : Nat} {xs : List Value} {size : Nat} (h : w.ownsRow base e size v n xs) : (v = .slice none 0 0 ∧ n = 0) ∨ ∃ g cap, v = .slice (some ⟨g, 0, none⟩) n cap ∧ base ≤ g ∧ g < w.heap.size := by
  rcases h.2 with h | ⟨g, cap, cur, hv, hb, hg, _⟩
  · exact Or.inl h
  · exact Or.inr ⟨g, cap, hv, hb, (Array.getElem?_eq_some_iff.1 hg).1⟩

theorem sortLf_row (w : World) (base p1 p2 : Nat) (v : Value) (l : List Lf) (hr : w.ownsRow base 67 4 v l.length (l.flatMap encL)) (hl : l.length ≤ 1000000)
    (h1 : w.cell? ⟨p1, 0, none⟩ = some (.func (.func 38) #[] #[])) (h2 : w.cell? ⟨p2, 0, none⟩ = some (.func (.func 54) #[] #[.pointer (some ⟨p1, 0, none⟩)]))
    (n1 : v.ownBlock ≠ some p1) (n2 : v.ownBlock ≠ some p2) :
    Calls Tryd.prog 39 #[v, .func (.func 40) #[] #[.pointer (some ⟨p2, 0, none⟩)]] w
      fun e w' => e = .returned (.tuple #[]) ∧ ∃ l' : List Lf, l'.length = l.length ∧ l'.Perm l ∧ l'.Pairwise (fun a b => ¬ lfLt b a) ∧ w'.ownsRow base 67 4 v l.length (l'.flatMap encL) ∧ Mod w w' (fun k => v.ownBlock = some k) := by
  rcases row_two hr with ⟨rfl, h0⟩ | ⟨g, cap, rfl, _, hg⟩
  · have hcon := Go.Proofs.AnyF.slices_SortFunc_none sortLf none 0 (.func (.func 40) #[] #[.pointer (some ⟨p2, 0, none⟩)]) w
    change Calls Tryd.prog 39 _ _ _ at hcon
    have hl0 := List.length_eq_zero_iff.1 h0
    refine hcon.mono ?_
    rintro e w' ⟨rfl, rfl⟩
    exact ⟨rfl, l, rfl, List.Perm.refl _, by rw [hl0]; exact List.Pairwise.nil, hr, Mod.refl _ _⟩
  · refine (sortLf_any w base g cap p1 p2 l hr hl h1 h2 (fun c => n1 (by rw [c]; rfl)) (fun c => n2 (by rw [c]; rfl)) hg).mono ?_
    rintro e w' ⟨rfl, l', k1, k2, k3, k4, k5⟩
    exact ⟨rfl, l', k1, k2, k3, k4, k5.mono (fun i _ hi => by show some g = some i; rw [show i = g from hi])⟩
theorem sortEv_row (w : World) (base p1 : Nat) (v : Value) (l : List Ev) (hr : w.ownsRow base 43 4 v l.length (l.flatMap encV)) (hl : l.length ≤ 1000000)
    (h1 : w.cell? ⟨p1, 0, none⟩ = some (.func (.func 36) #[] #[])) (n1 : v.ownBlock ≠ some p1) :
    Calls Tryd.prog 51 #[v, .func (.func 65) #[] #[.pointer (some ⟨p1, 0, none⟩)]] w
      fun e w' => e = .returned (.tuple #[]) ∧ ∃ l' : List Ev, l'.length = l.length ∧ l'.Perm l ∧ l'.Pairwise (fun a b => ¬ before b a) ∧ w'.ownsRow base 43 4 v l.length (l'.flatMap encV) ∧ Mod w w' (fun k => v.ownBlock = some k) := by
  rcases row_two hr with ⟨rfl, h0⟩ | ⟨g, cap, rfl, _, hg⟩
  · have hcon := Go.Proofs.AnyF.slices_SortFunc_none sortEv none 0 (.func (.func 65) #[] #[.pointer (some ⟨p1, 0, none⟩)]) w
    change Calls Tryd.prog 51 _ _ _ at hcon
    have hl0 := List.length_eq_zero_iff.1 h0
    refine hcon.mono ?_
    rintro e w' ⟨rfl, rfl⟩
    exact ⟨rfl, l, rfl, List.Perm.refl _, by rw [hl0]; exact List.Pairwise.nil, hr, Mod.refl _ _⟩
  · refine (sortEv_any w base g cap p1 l hr hl h1 (fun c => n1 (by rw [c]; rfl)) hg).mono ?_
    rintro e w' ⟨rfl, l', k1, k2, k3, k4, k5⟩
    exact ⟨rfl, l', k1, k2, k3, k4, k5.mono (fun i _ hi => by show some g = some i; rw [show i = g from hi])⟩
end Go.Proofs.YtppambkffgmkgaaDoor
end
