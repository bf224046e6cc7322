/- Merged: LfS LfLay LfW -/
import Derived.Shelf.SlSortCmp.WholeK
import Derived.Test.YtppambkffgmkgaaGreatDoorMg01
import Derived.Test.YtppambkffgmkgaaGreatDoorProg
import Derived.Shelf.SlSortCmp.NoneTotal
import Derived.Test.YtppambkffgmkgaaGreatDoorMg06
section
/- The library's sort of a row of structs: what it takes, and what it leaves. Nothing of the program in it. -/
namespace Go.Proofs.YtppambkffgmkgaaGreatDoor
open Go.Shelf Go.RowKit Go.Lib Go.Sort
set_option linter.unusedVariables false

section
variable {α : Type} [Inhabited α] {enc : α → List Value} {k : Nat}

theorem flat_get (hk : ∀ x, (enc x).length = k) (k0 : 0 < k) : ∀ (l : List α) (t : Nat), t < l.length * k → (l.flatMap enc)[t]? = some ((enc (l[t / k]!))[t % k]!)
  | [], t, h => by simp at h
  | x :: l, t, h => by
    rw [List.flatMap_cons]
    by_cases ht : t < k
    · have hlt : t < (enc x).length := by rw [hk]; exact ht
      rw [List.getElem?_append_left hlt, Nat.div_eq_of_lt ht, Nat.mod_eq_of_lt ht, List.getElem?_eq_getElem hlt]
      simp [hlt]
    · obtain ⟨u, rfl⟩ : ∃ u, t = k + u := ⟨t - k, by omega⟩
      have hu : u < l.length * k := by
        simp only [List.length_cons, Nat.add_mul, Nat.one_mul] at h
        omega
      rw [List.getElem?_append_right (by rw [hk]; omega), hk, Nat.add_sub_cancel_left, flat_get hk k0 l u hu, Nat.add_div_left _ k0, Nat.add_mod_left]
      simp

omit [Inhabited α] in
theorem flatMap_len (hk : ∀ x, (enc x).length = k) : ∀ l : List α, (l.flatMap enc).length = l.length * k
  | [] => by simp
  | x :: l => by rw [List.flatMap_cons, List.length_append, flatMap_len hk l, hk, List.length_cons, Nat.add_mul, Nat.one_mul, Nat.add_comm]

theorem flatK_list (hk : ∀ x, (enc x).length = k) (k0 : 0 < k) (d : Array α) : (flatK enc k d).toList = d.toList.flatMap enc := by
  apply List.ext_getElem?
  intro t
  by_cases ht : t < d.size * k
  · rw [flat_get hk k0 d.toList t (by simpa using ht)]
    have h2 := get_flatK enc k d t ht
    have h3 : t < (flatK enc k d).size := by simpa using ht
    rw [getElem!_pos _ t h3] at h2
    rw [Array.getElem?_toList, Array.getElem?_eq_getElem h3, h2]
    rw [Array.getElem!_toList (xs := d)]
  · rw [List.getElem?_eq_none (by simp; omega), List.getElem?_eq_none (by rw [flatMap_len hk]; simp; omega)]

theorem row_holdsK (hk : ∀ x, (enc x).length = k) (k0 : 0 < k) {w : World} {base g n cap : Nat} {e : TypeId} {d : Array α} (hd : d.size = n)
    (h : w.ownsRow base e k (.slice (some ⟨g, 0, none⟩) n cap) n (d.toList.flatMap enc)) : HoldsK enc k w g 0 d := by
  intro j hj
  have hj' : j < d.size * k := by simpa using hj
  have hn : 0 < n := by
    rcases Nat.eq_zero_or_pos n with c | c
    · rw [hd, c] at hj'; simp at hj'
    · exact c
  obtain ⟨g', cap', hv, h1, h2, _⟩ := row_open h hn
  cases hv
  have hf : (flatK enc k d).toList[j]? = some ((flatK enc k d)[j]!) := by
    rw [Array.getElem?_toList, Array.getElem?_eq_getElem hj, getElem!_pos _ j hj]
  rw [flatK_list hk k0] at hf
  rw [Nat.zero_add]
  exact ⟨h1 j _ hf, h2 j⟩

theorem sorted_row (hk : ∀ x, (enc x).length = k) (k0 : 0 < k) {w : World} {base g n cap m : Nat} {e : TypeId} {d d' : Array α} {os : Array Obj} (hd : d.size = n) (hd' : d'.size = n)
    (h : w.ownsRow base e k (.slice (some ⟨g, 0, none⟩) n cap) n (d.toList.flatMap enc)) :
    (sortWorldK enc k w g 0 m d' os).ownsRow base e k (.slice (some ⟨g, 0, none⟩) n cap) n (d'.toList.flatMap enc) ∧ Mod w (sortWorldK enc k w g 0 m d' os) (OneB g) := by
  rcases h.2 with ⟨hv, _⟩ | ⟨g', cap', cur, hv, hb, hg, h1, h2, h3, h4⟩
  · cases hv
  · cases hv
    have hlt : g < w.heap.size := (Array.getElem?_eq_some_iff.1 hg).1
    have hfs : (flatK enc k d').size = n * k := by simp [hd']
    refine ⟨⟨by rw [flatMap_len hk]; simp [hd'], Or.inr ⟨g, cap, putCells id 0 (flatK enc k d') cur, rfl, hb, ?_, h1, h2, by simp [putCells, h3], ?_⟩⟩, rfl, rfl, rfl, by simp [sortWorldK, putRowK, putRow, mapBlock], fun i hi hn => ?_⟩
    · show (w.heap.modify g (onCells (putCells id 0 (flatK enc k d'))) ++ os)[g]? = _
      rw [Array.getElem?_append_left (by simpa using hlt), Array.getElem?_modify, if_pos rfl, hg]
      rfl
    · rw [← flatK_list hk k0]
      apply List.ext_getElem?
      intro t
      by_cases ht : t < n * k
      · have h5 : n * k ≤ cap * k := Nat.mul_le_mul_right k h1
        have h6 : t < cur.size := by omega
        rw [List.getElem?_take, if_pos ht, Array.getElem?_toList, Array.getElem?_toList, putCells, Array.getElem?_mapIdx, Array.getElem?_eq_getElem h6, Option.map_some, if_pos ⟨by omega, by omega⟩, Nat.sub_zero,
          Array.getElem?_eq_getElem (show t < (flatK enc k d').size by omega), getElem!_pos _ t (by omega)]
        rfl
      · rw [List.getElem?_take, if_neg ht, Array.getElem?_toList, Array.getElem?_eq_none (by omega)]
    · show (w.heap.modify g (onCells (putCells id 0 (flatK enc k d'))) ++ os)[i]? = _
      have hne : g ≠ i := fun c => hn c.symm
      rw [Array.getElem?_append_left (by simpa using hi), Array.getElem?_modify, if_neg hne]

theorem perm_list {d d' : Array α} (h : PermIn 0 d.size d d') : d'.size = d.size ∧ d'.toList.Perm d.toList := by
  obtain ⟨h1, _, h2⟩ := h
  refine ⟨h1, ?_⟩
  have e1 : d'.extract 0 d.size = d' := by rw [← h1]; simp
  have e2 : d.extract 0 d.size = d := by simp
  rwa [e1, e2] at h2

theorem sorted_list {lt : α → α → Bool} {d : Array α} {n : Nat} (hn : d.size = n) (h : SortedIn lt 0 n d) : d.toList.Pairwise (fun a b => lt b a = false) := by
  refine List.pairwise_iff_getElem.2 (fun i j hi hj hij => ?_)
  have hj' : j < d.size := by simpa using hj
  have hi' : i < d.size := by simpa using hi
  have := h i j (Nat.zero_le _) hij (by omega)
  rw [getElem!_pos d j hj', getElem!_pos d i hi'] at this
  simpa using this

end
end Go.Proofs.YtppambkffgmkgaaGreatDoor
end

section
/- The library's sort at this program's types: the shelf's laying, in plain words. -/
namespace Go.Proofs.YtppambkffgmkgaaGreatDoor
open Go.Shelf
def sortLf_ren : Go.Shelf.Ren := ⟨fun | 6 => 59 | 15 => 82 | 14 => 81 | 28 => 101 | 29 => 102 | 20 => 93 | 21 => 94 | 22 => 95 | 23 => 96 | 24 => 97 | 25 => 98 | 26 => 99 | 27 => 100 | 46 => 116 | 47 => 117 | 48 => 118 | 49 => 119 | 50 => 120 | 57 => 126 | n => n, fun | 22 => 50 | 24 => 81 | 25 => 121 | 3 => 3 | 39 => 135 | 0 => 0 | 53 => 55 | 55 => 22 | 4 => 4 | 46 => 150 | 45 => 149 | 50 => 154 | 5 => 5 | 9 => 9 | 66 => 168 | 70 => 172 | 76 => 176 | 77 => 104 | n => n, fun | n => n⟩
theorem sortLf : Go.Proofs.SlLaysF0.n6 Tryz.prog sortLf_ren := {
  mixed := by kernel_rfl
  f6 := ⟨Tryz.f59.name, by decide, Tryz.func59.trans (congrArg some (by kernel_rfl))⟩
  f14 := ⟨Tryz.f81.name, by decide, Tryz.func81.trans (congrArg some (by kernel_rfl))⟩
  f15 := Tryz.func82.trans (congrArg some (by kernel_rfl))
  f20 := ⟨Tryz.f93.name, by decide, Tryz.func93.trans (congrArg some (by kernel_rfl))⟩
  f21 := ⟨Tryz.f94.name, by decide, Tryz.func94.trans (congrArg some (by kernel_rfl))⟩
  f22 := ⟨Tryz.f95.name, by decide, Tryz.func95.trans (congrArg some (by kernel_rfl))⟩
  f23 := ⟨Tryz.f96.name, by decide, Tryz.func96.trans (congrArg some (by kernel_rfl))⟩
  f24 := ⟨Tryz.f97.name, by decide, Tryz.func97.trans (congrArg some (by kernel_rfl))⟩
  f25 := ⟨Tryz.f98.name, by decide, Tryz.func98.trans (congrArg some (by kernel_rfl))⟩
  f26 := ⟨Tryz.f99.name, by decide, Tryz.func99.trans (congrArg some (by kernel_rfl))⟩
  f27 := ⟨Tryz.f100.name, by decide, Tryz.func100.trans (congrArg some (by kernel_rfl))⟩
  f28 := Tryz.func101.trans (congrArg some (by kernel_rfl))
  f29 := Tryz.func102.trans (congrArg some (by kernel_rfl))
  f46 := ⟨Tryz.f116.name, by decide, Tryz.func116.trans (congrArg some (by kernel_rfl))⟩
  f47 := Tryz.func117.trans (congrArg some (by kernel_rfl))
  f48 := Tryz.func118.trans (congrArg some (by kernel_rfl))
  f49 := ⟨Tryz.f119.name, by decide, Tryz.func119.trans (congrArg some (by kernel_rfl))⟩
  f50 := ⟨Tryz.f120.name, by decide, Tryz.func120.trans (congrArg some (by kernel_rfl))⟩
  f57 := ⟨Tryz.f126.name, by decide, Tryz.func126.trans (congrArg some (by kernel_rfl))⟩
  t0 := Tryz.underlying0
  a0 := Tryz.isAgg0
  z0 := Tryz.sizeOf0
  v0 := Tryz.zeroValue0
  t3 := Tryz.underlying3
  a3 := Tryz.isAgg3
  z3 := Tryz.sizeOf3
  v3 := Tryz.zeroValue3
  t4 := Tryz.underlying4
  a4 := Tryz.isAgg4
  z4 := Tryz.sizeOf4
  v4 := Tryz.zeroValue4
  t5 := Tryz.underlying5
  a5 := Tryz.isAgg5
  z5 := Tryz.sizeOf5
  v5 := Tryz.zeroValue5
  t9 := Tryz.underlying9
  a9 := Tryz.isAgg9
  z9 := Tryz.sizeOf9
  v9 := Tryz.zeroValue9
  t22 := Tryz.underlying50
  a22 := Tryz.isAgg50
  z22 := Tryz.sizeOf50
  v22 := Tryz.zeroValue50
  t25 := Tryz.underlying121
  a25 := Tryz.isAgg121
  z25 := Tryz.sizeOf121
  v25 := Tryz.zeroValue121
  t39 := Tryz.underlying135
  a39 := Tryz.isAgg135
  z39 := Tryz.sizeOf135
  v39 := Tryz.zeroValue135
  t45 := Tryz.underlying149
  a45 := Tryz.isAgg149
  z45 := Tryz.sizeOf149
  v45 := Tryz.zeroValue149
  t46 := Tryz.underlying150
  a46 := Tryz.isAgg150
  z46 := Tryz.sizeOf150
  v46 := Tryz.zeroValue150
  t50 := Tryz.underlying154
  a50 := Tryz.isAgg154
  z50 := Tryz.sizeOf154
  v50 := Tryz.zeroValue154
  t53 := Tryz.underlying55
  a53 := Tryz.isAgg55
  z53 := Tryz.sizeOf55
  v53 := Tryz.zeroValue55
  t55 := Tryz.underlying22
  a55 := Tryz.isAgg22
  z55 := Tryz.sizeOf22
  v55 := Tryz.zeroValue22
  t66 := Tryz.underlying168
  a66 := Tryz.isAgg168
  z66 := Tryz.sizeOf168
  v66 := Tryz.zeroValue168
  t70 := Tryz.underlying172
  a70 := Tryz.isAgg172
  z70 := Tryz.sizeOf172
  v70 := Tryz.zeroValue172
  t76 := Tryz.underlying176
  a76 := Tryz.isAgg176
  z76 := Tryz.sizeOf176
  v76 := Tryz.zeroValue176
  t77 := Tryz.underlying104
  a77 := Tryz.isAgg104
  z77 := Tryz.sizeOf104
  v77 := Tryz.zeroValue104 }
def sortEv_ren : Go.Shelf.Ren := ⟨fun | 6 => 71 | 15 => 82 | 14 => 90 | 28 => 101 | 29 => 102 | 20 => 107 | 21 => 108 | 22 => 109 | 23 => 110 | 24 => 111 | 25 => 112 | 26 => 113 | 27 => 114 | 46 => 123 | 47 => 117 | 48 => 118 | 49 => 124 | 50 => 125 | 57 => 127 | n => n, fun | 22 => 23 | 24 => 62 | 25 => 130 | 3 => 3 | 39 => 135 | 0 => 0 | 53 => 55 | 55 => 22 | 4 => 4 | 46 => 150 | 45 => 149 | 50 => 154 | 5 => 5 | 9 => 9 | 66 => 168 | 70 => 172 | 76 => 176 | 77 => 104 | n => n, fun | n => n⟩
theorem sortEv : Go.Proofs.SlLaysF0.n6 Tryz.prog sortEv_ren := {
  mixed := by kernel_rfl
  f6 := ⟨Tryz.f71.name, by decide, Tryz.func71.trans (congrArg some (by kernel_rfl))⟩
  f14 := ⟨Tryz.f90.name, by decide, Tryz.func90.trans (congrArg some (by kernel_rfl))⟩
  f15 := Tryz.func82.trans (congrArg some (by kernel_rfl))
  f20 := ⟨Tryz.f107.name, by decide, Tryz.func107.trans (congrArg some (by kernel_rfl))⟩
  f21 := ⟨Tryz.f108.name, by decide, Tryz.func108.trans (congrArg some (by kernel_rfl))⟩
  f22 := ⟨Tryz.f109.name, by decide, Tryz.func109.trans (congrArg some (by kernel_rfl))⟩
  f23 := ⟨Tryz.f110.name, by decide, Tryz.func110.trans (congrArg some (by kernel_rfl))⟩
  f24 := ⟨Tryz.f111.name, by decide, Tryz.func111.trans (congrArg some (by kernel_rfl))⟩
  f25 := ⟨Tryz.f112.name, by decide, Tryz.func112.trans (congrArg some (by kernel_rfl))⟩
  f26 := ⟨Tryz.f113.name, by decide, Tryz.func113.trans (congrArg some (by kernel_rfl))⟩
  f27 := ⟨Tryz.f114.name, by decide, Tryz.func114.trans (congrArg some (by kernel_rfl))⟩
  f28 := Tryz.func101.trans (congrArg some (by kernel_rfl))
  f29 := Tryz.func102.trans (congrArg some (by kernel_rfl))
  f46 := ⟨Tryz.f123.name, by decide, Tryz.func123.trans (congrArg some (by kernel_rfl))⟩
  f47 := Tryz.func117.trans (congrArg some (by kernel_rfl))
  f48 := Tryz.func118.trans (congrArg some (by kernel_rfl))
  f49 := ⟨Tryz.f124.name, by decide, Tryz.func124.trans (congrArg some (by kernel_rfl))⟩
  f50 := ⟨Tryz.f125.name, by decide, Tryz.func125.trans (congrArg some (by kernel_rfl))⟩
  f57 := ⟨Tryz.f127.name, by decide, Tryz.func127.trans (congrArg some (by kernel_rfl))⟩
  t0 := Tryz.underlying0
  a0 := Tryz.isAgg0
  z0 := Tryz.sizeOf0
  v0 := Tryz.zeroValue0
  t3 := Tryz.underlying3
  a3 := Tryz.isAgg3
  z3 := Tryz.sizeOf3
  v3 := Tryz.zeroValue3
  t4 := Tryz.underlying4
  a4 := Tryz.isAgg4
  z4 := Tryz.sizeOf4
  v4 := Tryz.zeroValue4
  t5 := Tryz.underlying5
  a5 := Tryz.isAgg5
  z5 := Tryz.sizeOf5
  v5 := Tryz.zeroValue5
  t9 := Tryz.underlying9
  a9 := Tryz.isAgg9
  z9 := Tryz.sizeOf9
  v9 := Tryz.zeroValue9
  t22 := Tryz.underlying23
  a22 := Tryz.isAgg23
  z22 := Tryz.sizeOf23
  v22 := Tryz.zeroValue23
  t25 := Tryz.underlying130
  a25 := Tryz.isAgg130
  z25 := Tryz.sizeOf130
  v25 := Tryz.zeroValue130
  t39 := Tryz.underlying135
  a39 := Tryz.isAgg135
  z39 := Tryz.sizeOf135
  v39 := Tryz.zeroValue135
  t45 := Tryz.underlying149
  a45 := Tryz.isAgg149
  z45 := Tryz.sizeOf149
  v45 := Tryz.zeroValue149
  t46 := Tryz.underlying150
  a46 := Tryz.isAgg150
  z46 := Tryz.sizeOf150
  v46 := Tryz.zeroValue150
  t50 := Tryz.underlying154
  a50 := Tryz.isAgg154
  z50 := Tryz.sizeOf154
  v50 := Tryz.zeroValue154
  t53 := Tryz.underlying55
  a53 := Tryz.isAgg55
  z53 := Tryz.sizeOf55
  v53 := Tryz.zeroValue55
  t55 := Tryz.underlying22
  a55 := Tryz.isAgg22
  z55 := Tryz.sizeOf22
  v55 := Tryz.zeroValue22
  t66 := Tryz.underlying168
  a66 := Tryz.isAgg168
  z66 := Tryz.sizeOf168
  v66 := Tryz.zeroValue168
  t70 := Tryz.underlying172
  a70 := Tryz.isAgg172
  z70 := Tryz.sizeOf172
  v70 := Tryz.zeroValue172
  t76 := Tryz.underlying176
  a76 := Tryz.isAgg176
  z76 := Tryz.sizeOf176
  v76 := Tryz.zeroValue176
  t77 := Tryz.underlying104
  a77 := Tryz.isAgg104
  z77 := Tryz.sizeOf104
  v77 := Tryz.zeroValue104 }
end Go.Proofs.YtppambkffgmkgaaGreatDoor
end

section
/- The contracts of slices.SortFunc at lives and at events. -/
namespace Go.Proofs.YtppambkffgmkgaaGreatDoor
open Go.RowKit
set_option linter.unusedVariables false

instance : Inhabited Lf := ⟨⟨⟨0, 0⟩, 0, 0⟩⟩
instance : Inhabited Ev := ⟨⟨0, ⟨0, 0⟩, false⟩⟩

theorem ed_eq {a b : Ed} : a = b ↔ a.u = b.u ∧ a.v = b.v := ⟨fun h => by rw [h]; exact ⟨rfl, rfl⟩, fun h => Ed.ext' h.1 h.2⟩
theorem ltOf_lf (x y : Lf) : Go.Proofs.ltOf lfI x y = decide (lfLt x y) := by
  unfold Go.Proofs.ltOf
  exact decide_eq_decide.2 (lfI_lt x y)
theorem lfLt_iff (a b : Lf) : lfLt a b ↔ (a.e.u < b.e.u ∨ (a.e.u = b.e.u ∧ (a.e.v < b.e.v ∨ (a.e.v = b.e.v ∧ a.fr < b.fr)))) := by
  unfold lfLt edLt; rw [ed_eq]; omega
theorem before_iff (a b : Ev) : before a b ↔ (a.t < b.t ∨ (a.t = b.t ∧ (a.e.u < b.e.u ∨ (a.e.u = b.e.u ∧ a.e.v < b.e.v)))) := by
  unfold before edLt; omega
theorem swo_lf : Go.Sort.SWO (Go.Proofs.ltOf lfI) where
  irrefl x := by rw [ltOf_lf]; exact decide_eq_false (lfLt_irrefl x)
  trans x y z h1 h2 := by rw [ltOf_lf] at *; exact decide_eq_true (lfLt_trans (of_decide_eq_true h1) (of_decide_eq_true h2))
  ntrans x y z h1 h2 := by
    rw [ltOf_lf] at *
    have a := of_decide_eq_false h1
    have b := of_decide_eq_false h2
    refine decide_eq_false (fun c => ?_)
    rw [lfLt_iff] at *
    omega
def evI (a b : Ev) : Int := byI (before a b) (before b a)
theorem ltOf_ev (x y : Ev) : Go.Proofs.ltOf evI x y = decide (before x y) := by
  unfold Go.Proofs.ltOf
  refine decide_eq_decide.2 ?_
  unfold evI byI
  by_cases h1 : before x y
  · simp [h1]
  · by_cases h2 : before y x
    · simp [h1, h2]
    · simp [h1, h2]
theorem swo_ev : Go.Sort.SWO (Go.Proofs.ltOf evI) where
  irrefl x := by rw [ltOf_ev]; exact decide_eq_false (before_irrefl x)
  trans x y z h1 h2 := by rw [ltOf_ev] at *; exact decide_eq_true (before_trans (of_decide_eq_true h1) (of_decide_eq_true h2))
  ntrans x y z h1 h2 := by
    rw [ltOf_ev] at *
    have a := of_decide_eq_false h1
    have b := of_decide_eq_false h2
    refine decide_eq_false (fun c => ?_)
    rw [before_iff] at *
    omega

theorem sortLf_any (w : World) (base g cap p1 p2 : Nat) (l : List Lf) (hr : w.ownsRow base 81 4 (.slice (some ⟨g, 0, none⟩) l.length cap) l.length (l.flatMap encL)) (hl : l.length ≤ 1000000)
    (h1 : w.cell? ⟨p1, 0, none⟩ = some (.func (.func 58) #[] #[])) (h2 : w.cell? ⟨p2, 0, none⟩ = some (.func (.func 80) #[] #[.pointer (some ⟨p1, 0, none⟩)]))
    (n1 : p1 ≠ g) (n2 : p2 ≠ g) (hg : g < w.heap.size) :
    Calls Tryz.prog 59 #[.slice (some ⟨g, 0, none⟩) l.length cap, .func (.func 60) #[] #[.pointer (some ⟨p2, 0, none⟩)]] w
      fun e w' => e = .returned (.tuple #[]) ∧ ∃ l' : List Lf, l'.length = l.length ∧ l'.Perm l ∧ l'.Pairwise (fun a b => ¬ lfLt b a) ∧ w'.ownsRow base 81 4 (.slice (some ⟨g, 0, none⟩) l.length cap) l.length (l'.flatMap encL) ∧ Mod w w' (OneB g) := by
  obtain ⟨d, hd⟩ : ∃ d : Array Lf, d = l.toArray := ⟨_, rfl⟩
  have hds : d.size = l.length := by rw [hd]; simp
  have hdl : d.toList = l := by rw [hd]
  have hr' : w.ownsRow base 81 4 (.slice (some ⟨g, 0, none⟩) l.length cap) l.length (d.toList.flatMap encL) := by rw [hdl]; exact hr
  have hH := row_holdsK encL_len (by omega) hds hr'
  have hcmp : Go.Proofs.CmpLays Tryz.prog 60 #[.pointer (some ⟨p2, 0, none⟩)] encL 4 lfI g 0 d.size w := by
    intro m os dk hs x y
    obtain ⟨_, hm⟩ := sorted_row (m := m) (os := os) encL_len (by omega) hds (hs.trans hds) hr'
    exact (of1_grw _ p1 p2 x.e.u x.e.v x.fr x.to y.e.u y.e.v y.fr y.to (keepS h1 hm (fun c => n1 c)) (keepS h2 hm (fun c => n2 c))).mono fun _ _ h => ⟨h.1, by obtain ⟨q, os', h'⟩ := h.2; exact ⟨q, os', h'⟩⟩
  have eg : ∀ args w, (callFunc 60 args).run Tryz.prog w = .ok (.enter 60 args) w := Go.Proofs.enters_of Tryz.func60 (by kernel_rfl) rfl
  have hcon := Go.Proofs.AnyQ.slices_SortFunc sortLf 4 Tryz.isAgg81 Tryz.sizeOf81 encL encL_len (fun x v hv => by simp [encL] at hv; rcases hv with rfl | rfl | rfl | rfl <;> rfl) lfI swo_lf 60 #[.pointer (some ⟨p2, 0, none⟩)] g 0 cap d w eg hcmp hH hg (by omega)
  change Calls Tryz.prog 59 _ _ _ at hcon
  rw [hds] at hcon
  refine hcon.mono ?_
  rintro e w' ⟨rfl, d', n, os, hp, hso, rfl⟩
  rw [← hds] at hp
  obtain ⟨hs, hperm⟩ := perm_list hp
  have hs' := hs.trans hds
  obtain ⟨h5, h6⟩ := sorted_row (m := n) (os := os) encL_len (by omega) hds hs' hr'
  refine ⟨rfl, d'.toList, by simpa using hs', hdl ▸ hperm, ?_, h5, h6⟩
  refine (sorted_list hs' hso).imp (fun {a b} h => ?_)
  rw [ltOf_lf] at h
  exact of_decide_eq_false h

theorem sortEv_any (w : World) (base g cap p1 : Nat) (l : List Ev) (hr : w.ownsRow base 62 4 (.slice (some ⟨g, 0, none⟩) l.length cap) l.length (l.flatMap encV)) (hl : l.length ≤ 1000000)
    (h1 : w.cell? ⟨p1, 0, none⟩ = some (.func (.func 56) #[] #[])) (n1 : p1 ≠ g) (hg : g < w.heap.size) :
    Calls Tryz.prog 71 #[.slice (some ⟨g, 0, none⟩) l.length cap, .func (.func 91) #[] #[.pointer (some ⟨p1, 0, none⟩)]] w
      fun e w' => e = .returned (.tuple #[]) ∧ ∃ l' : List Ev, l'.length = l.length ∧ l'.Perm l ∧ l'.Pairwise (fun a b => ¬ before b a) ∧ w'.ownsRow base 62 4 (.slice (some ⟨g, 0, none⟩) l.length cap) l.length (l'.flatMap encV) ∧ Mod w w' (OneB g) := by
  obtain ⟨d, hd⟩ : ∃ d : Array Ev, d = l.toArray := ⟨_, rfl⟩
  have hds : d.size = l.length := by rw [hd]; simp
  have hdl : d.toList = l := by rw [hd]
  have hr' : w.ownsRow base 62 4 (.slice (some ⟨g, 0, none⟩) l.length cap) l.length (d.toList.flatMap encV) := by rw [hdl]; exact hr
  have hH := row_holdsK encV_len (by omega) hds hr'
  have hcmp : Go.Proofs.CmpLays Tryz.prog 91 #[.pointer (some ⟨p1, 0, none⟩)] encV 4 evI g 0 d.size w := by
    intro m os dk hs x y
    obtain ⟨_, hm⟩ := sorted_row (m := m) (os := os) encV_len (by omega) hds (hs.trans hds) hr'
    exact (byV_grw _ p1 x.t x.e.u x.e.v y.t y.e.u y.e.v x.add y.add (keepS h1 hm (fun c => n1 c))).mono fun _ _ h => ⟨h.1, by obtain ⟨q, os', h'⟩ := h.2; exact ⟨q, os', h'⟩⟩
  have eg : ∀ args w, (callFunc 91 args).run Tryz.prog w = .ok (.enter 91 args) w := Go.Proofs.enters_of Tryz.func91 (by kernel_rfl) rfl
  have hcon := Go.Proofs.AnyQ.slices_SortFunc sortEv 4 Tryz.isAgg62 Tryz.sizeOf62 encV encV_len (fun x v hv => by simp [encV] at hv; rcases hv with rfl | rfl | rfl | rfl <;> rfl) evI swo_ev 91 #[.pointer (some ⟨p1, 0, none⟩)] g 0 cap d w eg hcmp hH hg (by omega)
  change Calls Tryz.prog 71 _ _ _ at hcon
  rw [hds] at hcon
  refine hcon.mono ?_
  rintro e w' ⟨rfl, d', n, os, hp, hso, rfl⟩
  rw [← hds] at hp
  obtain ⟨hs, hperm⟩ := perm_list hp
  have hs' := hs.trans hds
  obtain ⟨h5, h6⟩ := sorted_row (m := n) (os := os) encV_len (by omega) hds hs' hr'
  refine ⟨rfl, d'.toList, by simpa using hs', hdl ▸ hperm, ?_, h5, h6⟩
  refine (sorted_list hs' hso).imp (fun {a b} h => ?_)
  rw [ltOf_ev] at h
  exact of_decide_eq_false h
/-- A row that a call owns: nil, or a block of its own. -/
theorem row_two {w : World} {base : Nat} {e : TypeId} {v : Value} {n : Nat} {xs : List Value} {size : Nat} (h : w.ownsRow base e size v n xs) : (v = .slice none 0 0 ∧ n = 0) ∨ ∃ g cap, v = .slice (some ⟨g, 0, none⟩) n cap ∧ base ≤ g ∧ g < w.heap.size := by
  rcases h.2 with h | ⟨g, cap, cur, hv, hb, hg, _⟩
  · exact Or.inl h
  · exact Or.inr ⟨g, cap, hv, hb, (Array.getElem?_eq_some_iff.1 hg).1⟩

theorem sortLf_row (w : World) (base p1 p2 : Nat) (v : Value) (l : List Lf) (hr : w.ownsRow base 81 4 v l.length (l.flatMap encL)) (hl : l.length ≤ 1000000)
    (h1 : w.cell? ⟨p1, 0, none⟩ = some (.func (.func 58) #[] #[])) (h2 : w.cell? ⟨p2, 0, none⟩ = some (.func (.func 80) #[] #[.pointer (some ⟨p1, 0, none⟩)]))
    (n1 : v.ownBlock ≠ some p1) (n2 : v.ownBlock ≠ some p2) :
    Calls Tryz.prog 59 #[v, .func (.func 60) #[] #[.pointer (some ⟨p2, 0, none⟩)]] w
      fun e w' => e = .returned (.tuple #[]) ∧ ∃ l' : List Lf, l'.length = l.length ∧ l'.Perm l ∧ l'.Pairwise (fun a b => ¬ lfLt b a) ∧ w'.ownsRow base 81 4 v l.length (l'.flatMap encL) ∧ Mod w w' (fun k => v.ownBlock = some k) := by
  rcases row_two hr with ⟨rfl, h0⟩ | ⟨g, cap, rfl, _, hg⟩
  · have hcon := Go.Proofs.AnyF.slices_SortFunc_none sortLf none 0 (.func (.func 60) #[] #[.pointer (some ⟨p2, 0, none⟩)]) w
    change Calls Tryz.prog 59 _ _ _ at hcon
    have hl0 := List.length_eq_zero_iff.1 h0
    refine hcon.mono ?_
    rintro e w' ⟨rfl, rfl⟩
    exact ⟨rfl, l, rfl, List.Perm.refl _, by rw [hl0]; exact List.Pairwise.nil, hr, Mod.refl _ _⟩
  · refine (sortLf_any w base g cap p1 p2 l hr hl h1 h2 (fun c => n1 (by rw [c]; rfl)) (fun c => n2 (by rw [c]; rfl)) hg).mono ?_
    rintro e w' ⟨rfl, l', k1, k2, k3, k4, k5⟩
    exact ⟨rfl, l', k1, k2, k3, k4, k5.mono (fun i _ hi => by show some g = some i; rw [show i = g from hi])⟩
theorem sortEv_row (w : World) (base p1 : Nat) (v : Value) (l : List Ev) (hr : w.ownsRow base 62 4 v l.length (l.flatMap encV)) (hl : l.length ≤ 1000000)
    (h1 : w.cell? ⟨p1, 0, none⟩ = some (.func (.func 56) #[] #[])) (n1 : v.ownBlock ≠ some p1) :
    Calls Tryz.prog 71 #[v, .func (.func 91) #[] #[.pointer (some ⟨p1, 0, none⟩)]] w
      fun e w' => e = .returned (.tuple #[]) ∧ ∃ l' : List Ev, l'.length = l.length ∧ l'.Perm l ∧ l'.Pairwise (fun a b => ¬ before b a) ∧ w'.ownsRow base 62 4 v l.length (l'.flatMap encV) ∧ Mod w w' (fun k => v.ownBlock = some k) := by
  rcases row_two hr with ⟨rfl, h0⟩ | ⟨g, cap, rfl, _, hg⟩
  · have hcon := Go.Proofs.AnyF.slices_SortFunc_none sortEv none 0 (.func (.func 91) #[] #[.pointer (some ⟨p1, 0, none⟩)]) w
    change Calls Tryz.prog 71 _ _ _ at hcon
    have hl0 := List.length_eq_zero_iff.1 h0
    refine hcon.mono ?_
    rintro e w' ⟨rfl, rfl⟩
    exact ⟨rfl, l, rfl, List.Perm.refl _, by rw [hl0]; exact List.Pairwise.nil, hr, Mod.refl _ _⟩
  · refine (sortEv_any w base g cap p1 l hr hl h1 (fun c => n1 (by rw [c]; rfl)) hg).mono ?_
    rintro e w' ⟨rfl, l', k1, k2, k3, k4, k5⟩
    exact ⟨rfl, l', k1, k2, k3, k4, k5.mono (fun i _ hi => by show some g = some i; rw [show i = g from hi])⟩
end Go.Proofs.YtppambkffgmkgaaGreatDoor
end
