/- Merged: Mem LfP LfQ -/
import Derived.WalkKit
import Derived.Maps.OwnSet
import Derived.Deep.Draws
import Derived.Deep.AppendLies
import Derived.WideKeyEntry
import Derived.Deep.QuietTactic
section
/- What a call may have changed ('Mod'), and maps as functions from keys to values ('MapOf'): general lemmas, nothing of the program in them. -/
namespace Go.Proofs.YtppambkffgmkgaaGreatDoor
open Go.RowKit Go.Maps

/-- Between w and w' only blocks of S, and new ones, have changed. -/
structure Mod (w w' : World) (S : Nat → Prop) : Prop where
  os : w'.os = w.os
  tape : w'.tape = w.tape
  output : w'.output = w.output
  size : w.heap.size ≤ w'.heap.size
  block : ∀ k, k < w.heap.size → ¬ S k → w'.heap[k]? = w.heap[k]?

def NoB : Nat → Prop := fun _ => False
def OneB (g : Nat) : Nat → Prop := fun k => k = g

namespace Mod
variable {w a b c : World} {S T : Nat → Prop}

theorem refl (w : World) (S : Nat → Prop) : Mod w w S := ⟨rfl, rfl, rfl, Nat.le_refl _, fun _ _ _ => rfl⟩

theorem trans (h : Mod a b S) (k : Mod b c T) (hT : ∀ i, i < a.heap.size → T i → S i) : Mod a c S :=
  ⟨k.os.trans h.os, k.tape.trans h.tape, k.output.trans h.output, Nat.le_trans h.size k.size,
   fun i hi hn => (k.block i (Nat.lt_of_lt_of_le hi h.size) (fun ht => hn (hT i hi ht))).trans (h.block i hi hn)⟩

theorem mono (h : Mod a b S) (hT : ∀ i, i < a.heap.size → S i → T i) : Mod a b T :=
  ⟨h.os, h.tape, h.output, h.size, fun i hi hn => h.block i hi (fun hs => hn (hT i hi hs))⟩

theorem alloc (h : Mod a w S) (o : Obj) : Mod a (w.alloc o) S :=
  ⟨h.os, h.tape, h.output, Nat.le_trans h.size (by simp), fun i hi hn => by
    rw [Below.heap_alloc _ _ _ (Nat.lt_of_lt_of_le hi h.size)]; exact h.block i hi hn⟩

theorem drew (h : Mod a w S) : Mod a w.drew S := ⟨h.os, h.tape, h.output, h.size, h.block⟩
theorem drewN (h : Mod a w S) (n : Nat) : Mod a (w.drewN n) S := ⟨h.os, h.tape, h.output, h.size, h.block⟩

theorem setCell (h : Mod a w S) {p : Addr} (hp : p.block < a.heap.size → S p.block) (u : Value) : Mod a (w.setCell p u) S :=
  ⟨h.os, h.tape, h.output, Nat.le_trans h.size (by simp [World.setCell]), fun i hi hn => by
    rw [Below.heap_setCell _ _ _ _ (fun e => by subst e; exact hn (hp hi))]; exact h.block i hi hn⟩

theorem grown {row : Option Nat} (h : Mod a w S) (hg : w.grownBy b row) (hr : ∀ k, row = some k → k < a.heap.size → S k) : Mod a b S :=
  ⟨hg.os.trans h.os, hg.tape.trans h.tape, hg.output.trans h.output, Nat.le_trans h.size hg.size, fun i hi hn =>
    (hg.block i (Nat.lt_of_lt_of_le hi h.size) (fun e => hn (hr i e.symm hi))).trans (h.block i hi hn)⟩

theorem setG {g i : Nat} (h : Mod a w (OneB g)) (v : Value) : Mod a (w.setCell ⟨g, i, none⟩ v) (OneB g) := h.setCell (p := ⟨g, i, none⟩) (fun _ => rfl) v
theorem setS {g i : Nat} (h : Mod a w S) (hs : S g) (v : Value) : Mod a (w.setCell ⟨g, i, none⟩ v) S := h.setCell (p := ⟨g, i, none⟩) (fun _ => hs) v
theorem set1 (w : World) (g i : Nat) (v : Value) : Mod w (w.setCell ⟨g, i, none⟩ v) (OneB g) := (refl w (OneB g)).setCell (p := ⟨g, i, none⟩) (fun _ => rfl) v

theorem of_grown {row : Option Nat} (hg : w.grownBy b row) : Mod w b (fun k => row = some k) := (refl w _).grown hg (fun _ h _ => h)

theorem cell (h : Mod a b S) {p : Addr} (hp : p.block < a.heap.size) (hn : ¬ S p.block) : b.cell? p = a.cell? p := World.cell?_of_block (w := a) (h.block p.block hp hn)
theorem frozen (h : Mod a b S) {p : Addr} (hp : p.block < a.heap.size) (hn : ¬ S p.block) : b.frozen? p = a.frozen? p := World.frozen?_of_block (w := a) (h.block p.block hp hn)

theorem below (h : Mod a b S) {B : Nat} (hB : B ≤ a.heap.size) (hS : ∀ k, S k → B ≤ k) : Below B a b :=
  ⟨h.os, h.tape, h.output, h.size, fun k hk => h.block k (Nat.lt_of_lt_of_le hk hB) (fun hs => absurd (hS k hs) (Nat.not_le.2 hk))⟩

theorem of_below (h : Below a.heap.size a b) : Mod a b NoB := ⟨h.os, h.tape, h.output, h.size, fun k hk _ => h.block k hk⟩

/-- A row that lies outside what was changed. -/
theorem row (h : Mod a b S) {base : Nat} {e : TypeId} {size : Nat} {v : Value} {n : Nat} {xs : List Value} (hv : a.ownsRow base e size v n xs) (hn : ∀ k, v.ownBlock = some k → ¬ S k) : b.ownsRow base e size v n xs := by
  obtain ⟨h1, h2⟩ := hv
  refine ⟨h1, ?_⟩
  rcases h2 with h2 | ⟨g, cap, cur, hv, hg, hh, r⟩
  · exact Or.inl h2
  · refine Or.inr ⟨g, cap, cur, hv, hg, ?_, r⟩
    rw [h.block g (Array.getElem?_eq_some_iff.1 hh).1 (hn g (by rw [hv]; rfl))]
    exact hh
end Mod

/-- What an object that lived in S lives in, behind a call from w to w'. -/
def Fresh (S : Nat → Prop) (w w' : World) : Nat → Prop := fun k => S k ∨ (w.heap.size ≤ k ∧ k < w'.heap.size)

theorem Fresh.old {S : Nat → Prop} {w w' : World} {k : Nat} (h : S k) : Fresh S w w' k := Or.inl h
theorem Fresh.apart {S T : Nat → Prop} {w w' : World} (hST : ∀ k, S k → ¬ T k) (hT : ∀ k, T k → k < w.heap.size) : ∀ k, Fresh S w w' k → ¬ T k := by
  rintro k (h | ⟨h, _⟩) ht
  · exact hST k h ht
  · exact absurd (hT k ht) (Nat.not_lt.2 h)
theorem Fresh.lt {S : Nat → Prop} {w w' : World} (hS : ∀ k, S k → k < w.heap.size) (h : w.heap.size ≤ w'.heap.size) : ∀ k, Fresh S w w' k → k < w'.heap.size := by
  rintro k (hk | ⟨_, hk⟩)
  · exact Nat.lt_of_lt_of_le (hS k hk) h
  · exact hk
theorem Fresh.ge {S : Nat → Prop} {w w' : World} {B : Nat} (hS : ∀ k, S k → B ≤ k) (h : B ≤ w.heap.size) : ∀ k, Fresh S w w' k → B ≤ k := by
  rintro k (hk | ⟨hk, _⟩)
  · exact hS k hk
  · exact Nat.le_trans h hk

/-! ### Maps -/
open Go.ChangeMaps Go.MapKept
open Go.WideElems (rd rg pl rd_val elemAt findIdx_born findIdx_arr modify_last set_self)

/-- Block b of w is a map of at most n entries; f tells what it has at each key. -/
def MapOf (P : Program) (k : TypeId) (w : World) (b n : Nat) (f : Value → Option Value) : Prop :=
  ∃ es clock, w.heap[b]? = some (.map es clock) ∧ es.size ≤ n ∧ Stamped es clock ∧ (∀ x ∈ es.toList, ∃ l, keyOf P k x.key = some l) ∧
    ∀ key v, f key = some v ↔ ∃ x ∈ es.toList, x.key = key ∧ x.val = v

namespace MapOf
variable {P : Program} {k : TypeId} {w : World} {b n : Nat} {f : Value → Option Value}

theorem made (w : World) (P : Program) (k : TypeId) : MapOf P k (w.alloc (.map #[] 0)) w.heap.size 0 (fun _ => none) :=
  ⟨#[], 0, (MapKept.heap_alloc w _).1, Nat.le_refl _, stamped_empty 0, by simp, by simp⟩

theorem lt (h : MapOf P k w b n f) : b < w.heap.size := by
  obtain ⟨es, clock, hb, _⟩ := h
  exact (Array.getElem?_eq_some_iff.1 hb).1

theorem of_block {w' : World} (h : MapOf P k w b n f) (hb : w'.heap[b]? = w.heap[b]?) : MapOf P k w' b n f := by
  obtain ⟨es, clock, h1, h2⟩ := h
  exact ⟨es, clock, hb.trans h1, h2⟩

theorem mod {w' : World} {S : Nat → Prop} (h : MapOf P k w b n f) (hm : Mod w w' S) (hn : ¬ S b) : MapOf P k w' b n f := h.of_block (hm.block b h.lt hn)

theorem mono (h : MapOf P k w b n f) {n' : Nat} (hn : n ≤ n') : MapOf P k w b n' f := by
  obtain ⟨es, clock, h1, h2, h3⟩ := h
  exact ⟨es, clock, h1, Nat.le_trans h2 hn, h3⟩

theorem ext (h : MapOf P k w b n f) {f' : Value → Option Value} (hf : ∀ x, f x = f' x) : MapOf P k w b n f' := by
  have : f = f' := funext hf
  rw [← this]; exact h

/-- 'm[k]', with or without 'ok'. -/
theorem look (h : MapOf P k w b n f) (K : Keyed P k) {t e : TypeId} (ht : P.underlying t = some (.map k e)) {z : Value} (hz : (zeroValue e).run P w = .ok z w)
    {key : Value} {kl : Lit} (hkey : keyOf P k key = some kl) (c : Bool) :
    (Instr.lookup t (.map (some b)) key c).run P w = .ok (if c then .tuple #[(f key).getD z, .bool (f key).isSome] else (f key).getD z) w := by
  obtain ⟨es, clock, hb, _, hst, hks, hf⟩ := h
  rcases K.find w hkey es.toList hks with ⟨h1, h2⟩ | ⟨j, e0, h1, h2, h3⟩
  · have hnone : f key = none := by
      cases hfk : f key with
      | none => rfl
      | some v => obtain ⟨x, hx, hxk, _⟩ := (hf key v).1 hfk; exact absurd hxk (h2 x hx)
    simp [Instr.lookup, run_underlying ht, MapKept.run_getObj_map hb, K.check w _ hkey, h1, hz, hnone, Result.andThen]
  · have hsome : f key = some e0.val := (hf key e0.val).2 ⟨e0, List.mem_of_getElem? h2, h3, rfl⟩
    simp [Instr.lookup, run_underlying ht, MapKept.run_getObj_map hb, K.check w _ hkey, h1, hsome, Result.andThen]

open Classical in
/-- What f becomes at a store. -/
noncomputable def put (f : Value → Option Value) (key v : Value) : Value → Option Value := fun x => if x = key then some v else f x

theorem mem_modify {es : List MapEntry} {g : MapEntry → MapEntry} {j : Nat} {e0 : MapEntry} (hj : es[j]? = some e0) : ∀ x, x ∈ es.modify j g ↔ x = g e0 ∨ ∃ i, i ≠ j ∧ es[i]? = some x := by
  intro x
  rw [List.mem_iff_getElem?]
  constructor
  · rintro ⟨i, hi⟩
    rw [List.getElem?_modify] at hi
    by_cases e : j = i
    · subst e; simp only [if_true, hj] at hi
      left; simpa using hi.symm
    · right; refine ⟨i, fun h => e h.symm, ?_⟩
      simpa [e] using hi
  · rintro (rfl | ⟨i, hne, hi⟩)
    · exact ⟨j, by rw [List.getElem?_modify]; simp [hj]⟩
    · exact ⟨i, by rw [List.getElem?_modify, hi]; simp [show ¬ j = i from fun h => hne h.symm]⟩

/-- The entry of a key, found or made, then a store into it: what 'm[k], .. = v, ..' comes to. -/
theorem entry (h : MapOf P k w b n f) (K : Keyed P k) {t e : TypeId} (ht : P.underlying t = some (.map k e)) {z : Value} (hz : ∀ u : World, (zeroValue e).run P u = .ok z u)
    {key : Value} {kl : Lit} (hkey : keyOf P k key = some kl) :
    ∃ (st : Nat) (es1 : Array MapEntry) (clock1 : Nat), (Instr.mapEntry t (.map (some b)) key).run P w = .ok (.tuple #[(f key).getD z, goInt st]) (setBlock w b (.map es1 clock1)) ∧
      ∀ (w2 : World) (val : Value), w2.heap[b]? = some (.map es1 clock1) → ∃ w3, (Instr.entryStore t (.map (some b)) (goInt st) val).run P w2 = .ok () w3 ∧
        MapOf P k w3 b (n + 1) (put f key val) ∧ ∃ es2 clock2, w3 = setBlock w2 b (.map es2 clock2) := by
  obtain ⟨es, clock, hb, hn, hst, hks, hf⟩ := h
  obtain ⟨s1, s2, s3⟩ := hst
  rcases K.find w hkey es.toList hks with ⟨h1, h2⟩ | ⟨j, e0, h1, h2, h3⟩
  · have hnone : f key = none := by
      cases hfk : f key with
      | none => rfl
      | some v => obtain ⟨x, hx, hxk, _⟩ := (hf key v).1 hfk; exact absurd hxk (h2 x hx)
    refine ⟨clock, es.push ⟨key, z, clock⟩, clock + 1, ?_, fun w2 val hw2 => ⟨_, ?_, ⟨es.push ⟨key, val, clock⟩, clock + 1, heap_setBlock_same hw2 _, by simp; omega, stamped_push ⟨s1, s2, s3⟩ h2, ?_, ?_⟩, _, _, rfl⟩⟩
    · simp [Instr.mapEntry, run_underlying ht, MapKept.run_getObj_map hb, K.check w false hkey, h1, hz, hnone, MapKept.run_setObj_map _ hb, Result.andThen, setBlock]
    · have hidx : (es.push ⟨key, z, clock⟩).findIdx? (fun e => ((e.born : Nat) : Int) == ((clock : Nat) : Int)) = some es.size := by
        rw [findIdx_arr]
        have := findIdx_born (l := (es.push ⟨key, z, clock⟩).toList) (j := es.size) (e0 := ⟨key, z, clock⟩) (by
          simp only [Array.toList_push, List.map_append, List.map_cons, List.map_nil]
          refine List.nodup_append.2 ⟨s2, by simp, fun a ha c hc e1 => ?_⟩
          simp only [List.mem_singleton] at hc
          obtain ⟨x, hx, rfl⟩ := List.mem_map.1 ha
          have := s1 x hx
          omega) (by simp)
        exact this
      have hmod : (es.push ⟨key, z, clock⟩).modify es.size (fun e => { e with val := val }) = es.push ⟨key, val, clock⟩ := by
        apply Array.ext'
        rw [Array.toList_modify, Array.toList_push, Array.toList_push, ← Array.length_toList, modify_last]
      simp [Instr.entryStore, MapKept.run_getObj_map hw2, asInt, asIntOf, goInt, hidx, hmod, MapKept.run_setObj_map _ hw2, Result.andThen, setBlock]
    · intro x hx
      simp only [Array.toList_push, List.mem_append, List.mem_singleton] at hx
      rcases hx with hx | rfl
      · exact hks x hx
      · exact ⟨_, hkey⟩
    · intro key' v'
      unfold put
      by_cases e : key' = key
      · subst e
        rw [if_pos rfl]
        constructor
        · intro he; exact ⟨⟨key', val, clock⟩, by simp, rfl, by simpa using he⟩
        · rintro ⟨x, hx, hxk, hxv⟩
          simp only [Array.toList_push, List.mem_append, List.mem_singleton] at hx
          rcases hx with hx | rfl
          · exact absurd hxk (h2 x hx)
          · simpa using hxv
      · rw [if_neg e, hf]
        constructor
        · rintro ⟨x, hx, h⟩; exact ⟨x, by simp [hx], h⟩
        · rintro ⟨x, hx, hxk, hxv⟩
          simp only [Array.toList_push, List.mem_append, List.mem_singleton] at hx
          rcases hx with hx | rfl
          · exact ⟨x, hx, hxk, hxv⟩
          · exact absurd hxk.symm e
  · have hsome : f key = some e0.val := (hf key e0.val).2 ⟨e0, List.mem_of_getElem? h2, h3, rfl⟩
    have hj : es[j]? = some e0 := by simpa using h2
    have hsame : es.modify j (fun e => { e with key := key }) = es := by
      apply Array.ext'
      rw [Array.toList_modify, modify_eq_set _ _ _ _ h2]
      have : ({ e0 with key := key } : MapEntry) = e0 := by rw [← h3]
      rw [this]
      exact set_self _ _ _ h2
    refine ⟨e0.born, es, clock, ?_, fun w2 val hw2 => ⟨_, ?_, ⟨es.modify j (fun e => { e with val := val }), clock, heap_setBlock_same hw2 _, by simp; omega, stamped_modify ⟨s1, s2, s3⟩ _ _ (fun _ _ => rfl) (fun _ _ _ => rfl), ?_, ?_⟩, _, _, rfl⟩⟩
    · simp [Instr.mapEntry, run_underlying ht, MapKept.run_getObj_map hb, K.check w false hkey, h1, hj, h3, K.stays w hkey, hsame, hsome, MapKept.run_setObj_map _ hb, Result.andThen, setBlock]
    · have hidx : es.findIdx? (fun e => ((e.born : Nat) : Int) == ((e0.born : Nat) : Int)) = some j := by
        rw [findIdx_arr]; exact findIdx_born s2 h2
      simp [Instr.entryStore, MapKept.run_getObj_map hw2, asInt, asIntOf, goInt, hidx, MapKept.run_setObj_map _ hw2, Result.andThen, setBlock]
    · intro x hx
      rw [Array.toList_modify] at hx
      rcases (mem_modify h2 x).1 hx with rfl | ⟨i, _, hi⟩
      · exact ⟨_, by show keyOf P k e0.key = _; rw [h3]; exact hkey⟩
      · exact hks x (List.mem_of_getElem? hi)
    · intro key' v'
      unfold put
      have hkd : ∀ (i : Nat) (x : MapEntry), es.toList[i]? = some x → x.key = key → i = j := by
        intro i x hi hxk
        have hnd := s3
        have h1' : (es.toList.map (·.key))[i]? = some key := by rw [List.getElem?_map, hi]; simp [hxk]
        have h2' : (es.toList.map (·.key))[j]? = some key := by rw [List.getElem?_map, h2]; simp [h3]
        have hi' := (List.getElem?_eq_some_iff.1 h1')
        have hj' := (List.getElem?_eq_some_iff.1 h2')
        exact (List.getElem_inj hnd (h₀ := hi'.1) (h₁ := hj'.1)).1 (hi'.2.trans hj'.2.symm)
      by_cases e : key' = key
      · subst e
        rw [if_pos rfl]
        constructor
        · intro he; refine ⟨{ e0 with val := val }, by rw [Array.toList_modify]; exact (mem_modify h2 _).2 (Or.inl rfl), h3, by simpa using he⟩
        · rintro ⟨x, hx, hxk, hxv⟩
          rw [Array.toList_modify] at hx
          rcases (mem_modify h2 x).1 hx with rfl | ⟨i, hne, hi⟩
          · simpa using hxv
          · exact absurd (hkd i x hi hxk) hne
      · rw [if_neg e, hf]
        constructor
        · rintro ⟨x, hx, hxk, hxv⟩
          obtain ⟨i, hi⟩ := List.mem_iff_getElem?.1 hx
          refine ⟨x, ?_, hxk, hxv⟩
          rw [Array.toList_modify]
          refine (mem_modify h2 x).2 (Or.inr ⟨i, fun hij => ?_, hi⟩)
          subst hij
          rw [h2] at hi
          cases hi
          exact e (hxk.symm.trans h3)
        · rintro ⟨x, hx, hxk, hxv⟩
          rw [Array.toList_modify] at hx
          rcases (mem_modify h2 x).1 hx with rfl | ⟨i, _, hi⟩
          · exact absurd (hxk.symm.trans h3) e
          · exact ⟨x, List.mem_of_getElem? hi, hxk, hxv⟩

/-- 'm[k] = v'. -/
theorem store (h : MapOf P k w b n f) (K : Keyed P k) {t e : TypeId} (ht : P.underlying t = some (.map k e))
    {key : Value} {kl : Lit} (hkey : keyOf P k key = some kl) (val : Value) :
    ∃ w', (Instr.mapUpdate t (.map (some b)) key val).run P w = .ok () w' ∧ MapOf P k w' b (n + 1) (put f key val) ∧ ∃ es2 clock2, w' = setBlock w b (.map es2 clock2) := by
  obtain ⟨es, clock, hb, hn, hst, hks, hf⟩ := h
  obtain ⟨s1, s2, s3⟩ := hst
  rcases K.find w hkey es.toList hks with ⟨h1, h2⟩ | ⟨j, e0, h1, h2, h3⟩
  · refine ⟨_, ?_, ⟨es.push ⟨key, val, clock⟩, clock + 1, heap_setBlock_same hb _, by simp; omega, stamped_push ⟨s1, s2, s3⟩ h2, ?_, ?_⟩, _, _, rfl⟩
    · simp [Instr.mapUpdate, run_underlying ht, MapKept.run_getObj_map hb, K.check w false hkey, h1, MapKept.run_setObj_map _ hb, Result.andThen, setBlock]
    · intro x hx
      simp only [Array.toList_push, List.mem_append, List.mem_singleton] at hx
      rcases hx with hx | rfl
      · exact hks x hx
      · exact ⟨_, hkey⟩
    · intro key' v'
      unfold put
      by_cases e : key' = key
      · subst e
        rw [if_pos rfl]
        constructor
        · intro he; exact ⟨⟨key', val, clock⟩, by simp, rfl, by simpa using he⟩
        · rintro ⟨x, hx, hxk, hxv⟩
          simp only [Array.toList_push, List.mem_append, List.mem_singleton] at hx
          rcases hx with hx | rfl
          · exact absurd hxk (h2 x hx)
          · simpa using hxv
      · rw [if_neg e, hf]
        constructor
        · rintro ⟨x, hx, h⟩; exact ⟨x, by simp [hx], h⟩
        · rintro ⟨x, hx, hxk, hxv⟩
          simp only [Array.toList_push, List.mem_append, List.mem_singleton] at hx
          rcases hx with hx | rfl
          · exact ⟨x, hx, hxk, hxv⟩
          · exact absurd hxk.symm e
  · have hj : es[j]? = some e0 := by simpa using h2
    refine ⟨_, ?_, ⟨es.modify j (fun e' => { e' with key := key, val := val }), clock, heap_setBlock_same hb _, by simp; omega, stamped_modify ⟨s1, s2, s3⟩ _ _ (fun _ _ => rfl) (fun e' _ he' => by rw [hj] at he'; cases he'; exact h3.symm), ?_, ?_⟩, _, _, rfl⟩
    · simp [Instr.mapUpdate, run_underlying ht, MapKept.run_getObj_map hb, K.check w false hkey, h1, hj, h3, K.stays w hkey, MapKept.run_setObj_map _ hb, Result.andThen, setBlock]
    · intro x hx
      rw [Array.toList_modify] at hx
      rcases (mem_modify h2 x).1 hx with rfl | ⟨i, _, hi⟩
      · exact ⟨_, hkey⟩
      · exact hks x (List.mem_of_getElem? hi)
    · intro key' v'
      unfold put
      have hkd : ∀ (i : Nat) (x : MapEntry), es.toList[i]? = some x → x.key = key → i = j := by
        intro i x hi hxk
        have hnd := s3
        have h1' : (es.toList.map (·.key))[i]? = some key := by rw [List.getElem?_map, hi]; simp [hxk]
        have h2' : (es.toList.map (·.key))[j]? = some key := by rw [List.getElem?_map, h2]; simp [h3]
        have hi' := (List.getElem?_eq_some_iff.1 h1')
        have hj' := (List.getElem?_eq_some_iff.1 h2')
        exact (List.getElem_inj hnd (h₀ := hi'.1) (h₁ := hj'.1)).1 (hi'.2.trans hj'.2.symm)
      by_cases e : key' = key
      · subst e
        rw [if_pos rfl]
        constructor
        · intro he; refine ⟨_, by rw [Array.toList_modify]; exact (mem_modify h2 _).2 (Or.inl rfl), rfl, by simpa using he⟩
        · rintro ⟨x, hx, hxk, hxv⟩
          rw [Array.toList_modify] at hx
          rcases (mem_modify h2 x).1 hx with rfl | ⟨i, hne, hi⟩
          · simpa using hxv
          · exact absurd (hkd i x hi hxk) hne
      · rw [if_neg e, hf]
        constructor
        · rintro ⟨x, hx, hxk, hxv⟩
          obtain ⟨i, hi⟩ := List.mem_iff_getElem?.1 hx
          refine ⟨x, ?_, hxk, hxv⟩
          rw [Array.toList_modify]
          refine (mem_modify h2 x).2 (Or.inr ⟨i, fun hij => ?_, hi⟩)
          subst hij
          rw [h2] at hi
          cases hi
          exact e (hxk.symm.trans h3)
        · rintro ⟨x, hx, hxk, hxv⟩
          rw [Array.toList_modify] at hx
          rcases (mem_modify h2 x).1 hx with rfl | ⟨i, _, hi⟩
          · exact absurd hxk.symm e
          · exact ⟨x, List.mem_of_getElem? hi, hxk, hxv⟩
end MapOf

/-- A map's block has been set. -/
theorem Mod.setBlock {a w : World} {S : Nat → Prop} (h : Mod a w S) {b : Nat} (hb : b < a.heap.size → S b) (o : Obj) : Mod a (Go.ChangeMaps.setBlock w b o) S :=
  ⟨h.os, h.tape, h.output, by simpa [Go.ChangeMaps.setBlock] using h.size, fun i hi hn => by
    have hne : i ≠ b := fun e => hn (e ▸ hb (e ▸ hi))
    rw [← h.block i hi hn]
    simp only [Go.ChangeMaps.setBlock]
    rw [Array.getElem?_setIfInBounds, if_neg (fun e : b = i => hne e.symm)]⟩


/-! ### Rows that a call owns -/
theorem row_form {w : World} {base : Nat} {e : TypeId} {v : Value} {n : Nat} {xs : List Value} {size : Nat} (h : w.ownsRow base e size v n xs) : ∃ a cap, v = .slice a n cap := by
  rcases h.2 with ⟨rfl, h0⟩ | ⟨gg, cap, cur, rfl, _⟩
  · exact ⟨none, 0, by rw [h0]⟩
  · exact ⟨_, _, rfl⟩

/-- A row of one element at least: its slice, and its cells. -/
theorem row_open {w : World} {base : Nat} {e : TypeId} {v : Value} {n : Nat} {xs : List Value} {size : Nat} (h : w.ownsRow base e size v n xs) (hn : 0 < n) :
    ∃ g cap, v = .slice (some ⟨g, 0, none⟩) n cap ∧ (∀ j u, xs[j]? = some u → w.cell? ⟨g, j, none⟩ = some u) ∧ (∀ j, w.frozen? ⟨g, j, none⟩ = false) ∧ n ≤ cap ∧ cap ≤ maxLen := by
  rcases h.2 with ⟨rfl, h0⟩ | ⟨g, cap, cur, rfl, hb, hg, h1, h2, h3, h4⟩
  · omega
  · refine ⟨g, cap, rfl, fun j u hu => ?_, fun j => ?_, h1, h2⟩
    · have := h.cells (g := g) rfl j u hu
      have hadd : (⟨g, 0, none⟩ : Addr).add j = ⟨g, j, none⟩ := by unfold Addr.add; split <;> simp_all
      rwa [hadd] at this
    · simp [World.frozen?, hg]

/-- A slice of integers that came in. -/
def IsRow (k : IntKind) (w : World) (a : Option Addr) (len cap : Nat) (zs : List Int) : Prop :=
  (a = none ∧ len = 0 ∧ cap = 0 ∧ zs = []) ∨
  ∃ x, a = some x ∧ len ≤ cap ∧ cap ≤ maxLen ∧ zs.length = cap ∧ (∀ i, i < zs.length → w.cell? (x.add i) = some (.int k (zs.getD i 0))) ∧ ∀ n ∈ zs, (Lit.int k n).wf = true

/-! ### Quiet calls inside a region that draws -/
theorem quiet_left {P : Program} {f : FuncId} {args : Array Value} {w : World} {n : Nat} {v : Value}
    (h : Calls P f args (w.drewN n) fun e w' => e = .returned v ∧ w.drewN n = w') : Calls P f args (w.drewN n) fun e w'' => e = .returned v ∧ ∃ m, w'' = w.drewN m :=
  h.mono fun _ _ ⟨he, hm⟩ => ⟨he, n, hm.symm⟩
theorem quiet_left2 {P : Program} {f : FuncId} {args : Array Value} {w : World} {a n : Nat} {v : Value}
    (h : Calls P f args (w.drewN (a + n)) fun e w' => e = .returned v ∧ w.drewN (a + n) = w') :
    Calls P f args (w.drewN (a + n)) fun e w'' => e = .returned v ∧ ∃ m, w'' = w.drewN (a + m) :=
  h.mono fun _ _ ⟨he, hm⟩ => ⟨he, n, hm.symm⟩

theorem quietD {P : Program} {f : FuncId} {args : Array Value} {w : World} {n : Nat} {v : Value}
    (h : Calls P f args (w.drewN n) fun e w' => e = .returned v ∧ ∃ m, w' = (w.drewN n).drewN m) : Calls P f args (w.drewN n) fun e w'' => e = .returned v ∧ ∃ m, w'' = w.drewN m :=
  h.mono fun _ _ ⟨he, m, hm⟩ => ⟨he, n + m, by rw [hm, World.drewN_drewN]⟩
theorem quietD2 {P : Program} {f : FuncId} {args : Array Value} {w : World} {a n : Nat} {v : Value}
    (h : Calls P f args (w.drewN (a + n)) fun e w' => e = .returned v ∧ ∃ m, w' = (w.drewN (a + n)).drewN m) :
    Calls P f args (w.drewN (a + n)) fun e w'' => e = .returned v ∧ ∃ m, w'' = w.drewN (a + m) :=
  h.mono fun _ _ ⟨he, m, hm⟩ => ⟨he, n + m, by rw [hm, World.drewN_drewN, Nat.add_assoc]⟩

end Go.Proofs.YtppambkffgmkgaaGreatDoor
end

section
/- Edges, events, histories and lives, plainly: what checks, lives and their order are. Nothing of the program in it. -/
namespace Go.Proofs.YtppambkffgmkgaaGreatDoor
set_option linter.unusedVariables false

structure Ed where
  u : Int
  v : Int
deriving DecidableEq
structure Ev where
  t : Int
  e : Ed
  add : Bool
deriving DecidableEq
structure Lf where
  e : Ed
  fr : Int
  to : Int
deriving DecidableEq

def edLt (a b : Ed) : Prop := a.u < b.u ∨ (a.u = b.u ∧ a.v < b.v)
instance (a b : Ed) : Decidable (edLt a b) := by unfold edLt; infer_instance
def before (a b : Ev) : Prop := a.t < b.t ∨ (a.t = b.t ∧ edLt a.e b.e)
instance (a b : Ev) : Decidable (before a b) := by unfold before; infer_instance
def lfLt (a b : Lf) : Prop := edLt a.e b.e ∨ (a.e = b.e ∧ a.fr < b.fr)
instance (a b : Lf) : Decidable (lfLt a b) := by unfold lfLt; infer_instance

theorem Ed.ext' {a b : Ed} (h1 : a.u = b.u) (h2 : a.v = b.v) : a = b := by cases a; cases b; simp_all
theorem edLt_irrefl (a : Ed) : ¬ edLt a a := by unfold edLt; omega
theorem edLt_trans {a b c : Ed} (h : edLt a b) (k : edLt b c) : edLt a c := by unfold edLt at *; omega
theorem edLt_total (a b : Ed) : edLt a b ∨ a = b ∨ edLt b a := by
  unfold edLt
  by_cases h1 : a.u = b.u
  · by_cases h2 : a.v = b.v
    · exact Or.inr (Or.inl (Ed.ext' h1 h2))
    · omega
  · omega
theorem before_irrefl (a : Ev) : ¬ before a a := by
  unfold before; have := edLt_irrefl a.e; simp [this]
theorem before_trans {a b c : Ev} (h : before a b) (k : before b c) : before a c := by
  unfold before at *
  rcases h with h | ⟨h1, h2⟩ <;> rcases k with k | ⟨k1, k2⟩
  · left; omega
  · left; omega
  · left; omega
  · right; exact ⟨by omega, edLt_trans h2 k2⟩
theorem lfLt_irrefl (a : Lf) : ¬ lfLt a a := by
  unfold lfLt; have := edLt_irrefl a.e; simp [this]
theorem lfLt_trans {a b c : Lf} (h : lfLt a b) (k : lfLt b c) : lfLt a c := by
  unfold lfLt at *
  rcases h with h | ⟨h1, h2⟩ <;> rcases k with k | ⟨k1, k2⟩
  · exact Or.inl (edLt_trans h k)
  · left; rw [← k1]; exact h
  · left; rw [h1]; exact k
  · right; exact ⟨h1.trans k1, by omega⟩

/-- The limits. -/
def maxT : Int := 4611686018427387903
def maxN : Int := 4294967296

/-- May an edge be, of so many vertices? -/
def right (e : Ed) (n : Int) : Prop := e.u < e.v ∧ e.v < n
instance (e : Ed) (n : Int) : Decidable (right e n) := by unfold right; infer_instance

/-- What is wrong with an event, behind what was there: 0: nothing. -/
def evErr (n : Int) (prev : Option Ev) (there : Ed → Bool) (e : Ev) : Nat :=
  if e.t < 0 ∨ maxT < e.t then 26 else if ¬ right e.e n then 24 else if prev.any (fun p => decide (¬ before p e)) = true then 23 else if there e.e = e.add then 25 else 0
def turn (there : Ed → Bool) (e : Ev) : Ed → Bool := fun x => if x = e.e then e.add else there x
/-- The first event that may not be, and why. -/
def chkFrom (n : Int) (i : Nat) (prev : Option Ev) (there : Ed → Bool) : List Ev → Nat × Nat
  | [] => (0, 0)
  | e :: l => if evErr n prev there e = 0 then chkFrom n (i + 1) (some e) (turn there e) l else (i, evErr n prev there e)
def chk (n : Int) (l : List Ev) : Nat × Nat := if maxN < n ∨ 2147483648 < l.length then (0, 26) else chkFrom n 0 none (fun _ => false) l

/-- The time at which an edge is told of next. -/
def nextT (x : Ed) : List Ev → Int
  | [] => -1
  | e :: l => if e.e = x then e.t else nextT x l
/-- The lives, in the order in which they begin. -/
def raw : List Ev → List Lf
  | [] => []
  | e :: l => if e.add then ⟨e.e, e.t, nextT e.e l⟩ :: raw l else raw l

/-- Two strictly rising lists of the same lives are one. -/
theorem sorted_unique {α : Type} {lt : α → α → Prop} (hi : ∀ a, ¬ lt a a) (ht : ∀ {a b c}, lt a b → lt b c → lt a c) : ∀ {l m : List α}, l.Pairwise lt → m.Pairwise lt → l.Perm m → l = m
  | [], m, _, _, hp => (List.nil_perm.1 hp).symm ▸ rfl
  | a :: l, m, hl, hm, hp => by
    cases m with
    | nil => exact absurd hp.length_eq (by simp)
    | cons b m =>
      obtain ⟨h1, h2⟩ := List.pairwise_cons.1 hl
      obtain ⟨k1, k2⟩ := List.pairwise_cons.1 hm
      have hab : a = b := by
        have ha : a ∈ b :: m := hp.subset (by simp)
        have hb : b ∈ a :: l := hp.symm.subset (by simp)
        rcases List.mem_cons.1 ha with e | ha
        · exact e
        · rcases List.mem_cons.1 hb with e | hb
          · exact e.symm
          · exact absurd (ht (h1 b hb) (k1 a ha)) (hi a)
      subst hab
      rw [sorted_unique hi ht h2 k2 (List.perm_cons a |>.1 hp)]

/-- Put in from the right, behind all that isn't above. -/
def putR {α : Type} (lt : α → α → Prop) [DecidableRel lt] (x : α) : List α → List α
  | [] => [x]
  | y :: l => if lt x y ∧ ∀ z ∈ l, lt x z then x :: y :: l else y :: putR lt x l

theorem putR_perm {α : Type} (lt : α → α → Prop) [DecidableRel lt] (x : α) : ∀ l : List α, (putR lt x l).Perm (x :: l)
  | [] => List.Perm.refl _
  | y :: l => by
    simp only [putR]
    split
    · exact List.Perm.refl _
    · exact (List.Perm.cons y (putR_perm lt x l)).trans (List.Perm.swap x y l)
theorem putR_sorted {α : Type} {lt : α → α → Prop} [DecidableRel lt] (ht : ∀ {a b c}, lt a b → lt b c → lt a c) {x : α} : ∀ {l : List α}, l.Pairwise lt → (∀ y ∈ l, lt x y ∨ lt y x) → (putR lt x l).Pairwise lt
  | [], _, _ => List.pairwise_singleton _ _
  | y :: l, hl, hx => by
    obtain ⟨h1, h2⟩ := List.pairwise_cons.1 hl
    simp only [putR]
    split
    · rename_i hc
      exact List.pairwise_cons.2 ⟨fun z hz => by rcases List.mem_cons.1 hz with rfl | hz; exact hc.1; exact hc.2 z hz, hl⟩
    · rename_i hc
      have ih : (putR lt x l).Pairwise lt := putR_sorted (lt := lt) ht h2 (fun z hz => hx z (List.mem_cons_of_mem _ hz))
      refine List.pairwise_cons.2 ⟨fun z hz => ?_, ih⟩
      rcases List.mem_cons.1 ((putR_perm lt x l).subset hz) with rfl | hz
      · rcases hx y (by simp) with h | h
        · exact absurd ⟨h, fun w hw => ht h (h1 w hw)⟩ hc
        · exact h
      · exact h1 z hz

/-! ### The lives of a history that may be, event by event -/
/-- What is there behind some events. -/
def thereOf (p : List Ev) : Ed → Bool := p.foldl turn (fun _ => false)
theorem thereOf_snoc (p : List Ev) (e : Ev) : thereOf (p ++ [e]) = turn (thereOf p) e := by simp [thereOf]

/-- An event closes the life of its edge that is open. -/
def close (e : Ev) (l : Lf) : Lf := if l.e = e.e ∧ l.to = -1 then { l with to := e.t } else l

theorem nextT_snoc {x : Ed} {p : List Ev} {e : Ev} (h0 : ∀ y ∈ p, 0 ≤ y.t) : nextT x (p ++ [e]) = if nextT x p = -1 ∧ e.e = x then e.t else nextT x p := by
  induction p with
  | nil => simp only [List.nil_append, nextT]; split <;> simp_all
  | cons y p ih =>
    by_cases hy : y.e = x
    · have h1 := h0 y (by simp)
      have e1 : nextT x (y :: p ++ [e]) = y.t := by simp [nextT, hy]
      have e2 : nextT x (y :: p) = y.t := by simp [nextT, hy]
      rw [e1, if_neg (by rw [e2]; omega), e2]
    · have e1 : nextT x (y :: p ++ [e]) = nextT x (p ++ [e]) := by simp [nextT, hy]
      have e2 : nextT x (y :: p) = nextT x p := by simp [nextT, hy]
      rw [e1, ih (fun z hz => h0 z (by simp [hz]))]
      simp only [e2]

theorem raw_snoc {p : List Ev} {e : Ev} (h0 : ∀ y ∈ p, 0 ≤ y.t) : raw (p ++ [e]) = (raw p).map (close e) ++ (if e.add then [⟨e.e, e.t, -1⟩] else []) := by
  induction p with
  | nil => simp only [List.nil_append, raw, nextT]; split <;> simp_all
  | cons y p ih =>
    have h1 : ∀ z ∈ p, 0 ≤ z.t := fun z hz => h0 z (by simp [hz])
    simp only [List.cons_append, raw]
    by_cases hy : y.add = true
    · rw [if_pos hy, if_pos hy, ih h1, nextT_snoc h1]
      simp only [List.map_cons, List.cons_append]
      congr 1
      unfold close
      by_cases hc : nextT y.e p = -1 ∧ e.e = y.e
      · rw [if_pos hc, if_pos ⟨hc.2.symm, hc.1⟩]
      · rw [if_neg hc, if_neg (fun h => hc ⟨h.2, h.1.symm⟩)]
    · rw [if_neg hy, if_neg hy, ih h1]

/-- Which lives are open, and where: what the program's map tells. -/
structure Opn (p : List Ev) (at' : Ed → Nat) : Prop where
  yes : ∀ x, thereOf p x = true → ∃ fr, (raw p)[at' x]? = some ⟨x, fr, -1⟩ ∧ ∀ j l, (raw p)[j]? = some l → l.e = x → l.to = -1 → j = at' x
  no : ∀ x, thereOf p x = false → ∀ l ∈ raw p, l.e = x → l.to ≠ -1

theorem Opn.nil (at' : Ed → Nat) : Opn [] at' := ⟨fun x h => by simp [thereOf] at h, fun x _ l hl => by simp [raw] at hl⟩

theorem close_keep {e : Ev} {l : Lf} (h : ¬ (l.e = e.e ∧ l.to = -1)) : close e l = l := if_neg h

/-- An edge comes: nothing is closed, a life is put behind. -/
theorem Opn.add {p : List Ev} {at' : Ed → Nat} (o : Opn p at') {e : Ev} (h0 : ∀ y ∈ p, 0 ≤ y.t) (ha : e.add = true) (hn : thereOf p e.e = false) :
    raw (p ++ [e]) = raw p ++ [⟨e.e, e.t, -1⟩] ∧ Opn (p ++ [e]) (fun x => if x = e.e then (raw p).length else at' x) := by
  have hm : (raw p).map (close e) = raw p := by
    conv => rhs; rw [← List.map_id (raw p)]
    exact List.map_congr_left (fun l hl => close_keep (fun h => o.no e.e hn l hl h.1 h.2))
  have hr : raw (p ++ [e]) = raw p ++ [⟨e.e, e.t, -1⟩] := by rw [raw_snoc h0, hm, if_pos ha]
  refine ⟨hr, ⟨fun x hx => ?_, fun x hx l hl hle => ?_⟩⟩
  · rw [thereOf_snoc] at hx
    unfold turn at hx
    rw [hr]
    by_cases hxe : x = e.e
    · subst hxe
      refine ⟨e.t, by simp, fun j l hj hle hto => ?_⟩
      rw [if_pos rfl]
      rcases Nat.lt_or_ge j (raw p).length with h | h
      · rw [List.getElem?_append_left h] at hj
        exact absurd hto (o.no _ hn l (List.mem_of_getElem? hj) hle)
      · have := (List.getElem?_eq_some_iff.1 hj).1
        simp at this; omega
    · rw [if_neg hxe] at hx
      obtain ⟨fr, h1, h2⟩ := o.yes x hx
      have hlt := (List.getElem?_eq_some_iff.1 h1).1
      refine ⟨fr, by simp only [if_neg hxe]; rw [List.getElem?_append_left hlt]; exact h1, fun j l hj hle hto => ?_⟩
      simp only [if_neg hxe]
      rcases Nat.lt_or_ge j (raw p).length with h | h
      · rw [List.getElem?_append_left h] at hj
        exact h2 j l hj hle hto
      · rw [List.getElem?_append_right h] at hj
        have hl : l = ⟨e.e, e.t, -1⟩ := by
          have hk := List.mem_of_getElem? hj
          simpa using hk
        rw [hl] at hle
        exact absurd hle.symm hxe
  · rw [thereOf_snoc] at hx
    unfold turn at hx
    rw [hr] at hl
    by_cases hxe : x = e.e
    · rw [if_pos hxe, ha] at hx; cases hx
    · rw [if_neg hxe] at hx
      rcases List.mem_append.1 hl with h | h
      · exact o.no x hx l h hle
      · have hl' : l = ⟨e.e, e.t, -1⟩ := by simpa using h
        rw [hl'] at hle
        exact absurd hle.symm hxe

/-- An edge goes: its open life ends. -/
theorem Opn.del {p : List Ev} {at' : Ed → Nat} (o : Opn p at') {e : Ev} (h0 : ∀ y ∈ p, 0 ≤ y.t) (he : 0 ≤ e.t) (ha : e.add = false) (hn : thereOf p e.e = true) :
    (∃ fr, (raw p)[at' e.e]? = some ⟨e.e, fr, -1⟩ ∧ raw (p ++ [e]) = (raw p).set (at' e.e) ⟨e.e, fr, e.t⟩) ∧ Opn (p ++ [e]) at' := by
  obtain ⟨fr, h1, h2⟩ := o.yes e.e hn
  have hlt := (List.getElem?_eq_some_iff.1 h1).1
  have hr : raw (p ++ [e]) = (raw p).set (at' e.e) ⟨e.e, fr, e.t⟩ := by
    rw [raw_snoc h0, if_neg (by rw [ha]; simp), List.append_nil]
    apply List.ext_getElem?
    intro j
    rw [List.getElem?_map, List.getElem?_set]
    by_cases hj : at' e.e = j
    · subst hj; rw [if_pos rfl, if_pos hlt, h1]; simp [close]
    · rw [if_neg hj]
      cases hl : (raw p)[j]? with
      | none => rfl
      | some l => simp only [Option.map_some]; rw [close_keep (fun h => hj (h2 j l hl h.1 h.2).symm)]
  refine ⟨⟨fr, h1, hr⟩, ⟨fun x hx => ?_, fun x hx l hl hle => ?_⟩⟩
  · rw [thereOf_snoc] at hx
    unfold turn at hx
    by_cases hxe : x = e.e
    · rw [if_pos hxe, ha] at hx; cases hx
    · rw [if_neg hxe] at hx
      obtain ⟨fr', k1, k2⟩ := o.yes x hx
      have hne : at' e.e ≠ at' x := fun h => by
        rw [← h, h1] at k1
        have := congrArg Lf.e (Option.some.inj k1)
        exact hxe this.symm
      rw [hr]
      refine ⟨fr', by rw [List.getElem?_set, if_neg hne]; exact k1, fun j l hj hle hto => ?_⟩
      rw [List.getElem?_set] at hj
      by_cases hc : at' e.e = j
      · rw [if_pos hc, if_pos (by omega)] at hj
        have hj' := (Option.some.inj hj).symm
        rw [hj'] at hle
        exact absurd hle.symm hxe
      · rw [if_neg hc] at hj
        exact k2 j l hj hle hto
  · rw [thereOf_snoc] at hx
    unfold turn at hx
    rw [hr] at hl
    obtain ⟨j, hj⟩ := List.mem_iff_getElem?.1 hl
    rw [List.getElem?_set] at hj
    by_cases hc : at' e.e = j
    · rw [if_pos hc, if_pos (by omega)] at hj
      have hj' := (Option.some.inj hj).symm
      rw [hj']; show e.t ≠ -1; omega
    · rw [if_neg hc] at hj
      by_cases hxe : x = e.e
      · intro hto
        subst hxe
        exact hc (h2 j l hj hle hto).symm
      · rw [if_neg hxe] at hx
        exact o.no x hx l (List.mem_of_getElem? hj) hle

/-! ### The order of lives -/
theorem mem_raw {l : List Ev} {x : Lf} (h : x ∈ raw l) : ∃ y ∈ l, y.e = x.e ∧ y.t = x.fr ∧ y.add = true := by
  induction l with
  | nil => simp [raw] at h
  | cons e l ih =>
    simp only [raw] at h
    by_cases ha : e.add = true
    · rw [if_pos ha] at h
      rcases List.mem_cons.1 h with rfl | h
      · exact ⟨e, by simp, rfl, rfl, ha⟩
      · obtain ⟨y, hy, k⟩ := ih h
        exact ⟨y, by simp [hy], k⟩
    · rw [if_neg ha] at h
      obtain ⟨y, hy, k⟩ := ih h
      exact ⟨y, by simp [hy], k⟩

theorem raw_pair {l : List Ev} (h : l.Pairwise before) : (raw l).Pairwise (fun a b => lfLt a b ∨ lfLt b a) := by
  induction l with
  | nil => simp [raw]
  | cons e l ih =>
    obtain ⟨h1, h2⟩ := List.pairwise_cons.1 h
    simp only [raw]
    by_cases ha : e.add = true
    · rw [if_pos ha]
      refine List.pairwise_cons.2 ⟨fun x hx => ?_, ih h2⟩
      obtain ⟨y, hy, k1, k2, _⟩ := mem_raw hx
      have hb := h1 y hy
      unfold lfLt
      rcases edLt_total e.e x.e with c | c | c
      · exact Or.inl (Or.inl c)
      · left; right
        refine ⟨c, ?_⟩
        show e.t < x.fr
        rw [← k2]
        rcases hb with hb | ⟨_, hb⟩
        · exact hb
        · rw [k1, c] at hb; exact absurd hb (edLt_irrefl _)
      · exact Or.inr (Or.inl c)
    · rw [if_neg ha]; exact ih h2

/-- All put in from the right, one behind another. -/
def putAll {α : Type} (lt : α → α → Prop) [DecidableRel lt] (l : List α) : List α := l.foldl (fun o x => putR lt x o) []

theorem putAll_aux {α : Type} {lt : α → α → Prop} [DecidableRel lt] (ht : ∀ {a b c}, lt a b → lt b c → lt a c) : ∀ (l o : List α), o.Pairwise lt → l.Pairwise (fun a b => lt a b ∨ lt b a) → (∀ x ∈ l, ∀ y ∈ o, lt x y ∨ lt y x) →
    (l.foldl (fun o x => putR lt x o) o).Pairwise lt ∧ (l.foldl (fun o x => putR lt x o) o).Perm (o ++ l)
  | [], o, ho, _, _ => ⟨ho, by simp⟩
  | a :: l, o, ho, hl, hx => by
    obtain ⟨h1, h2⟩ := List.pairwise_cons.1 hl
    have hp := putR_perm lt a o
    obtain ⟨k1, k2⟩ := putAll_aux (lt := lt) ht l (putR lt a o) (putR_sorted (lt := lt) ht ho (hx a (by simp))) h2 (fun x hxl y hy => by
      rcases List.mem_cons.1 (hp.subset hy) with rfl | hy
      · exact (h1 x hxl).symm
      · exact hx x (by simp [hxl]) y hy)
    refine ⟨k1, k2.trans ((hp.append_right l).trans ?_)⟩
    simpa using (List.perm_middle (a := a) (l₁ := o) (l₂ := l)).symm
theorem putAll_sorted {α : Type} {lt : α → α → Prop} [DecidableRel lt] (ht : ∀ {a b c}, lt a b → lt b c → lt a c) {l : List α} (hl : l.Pairwise (fun a b => lt a b ∨ lt b a)) : (putAll lt l).Pairwise lt ∧ (putAll lt l).Perm l := by
  have := putAll_aux (lt := lt) ht l [] List.Pairwise.nil hl (fun _ _ y hy => by simp at hy)
  simpa [putAll] using this

/-- A sort of lives that may be is what the document's putting in comes to. -/
theorem sort_lives {l : List Ev} (h : l.Pairwise before) {m : List Lf} (hm : m.Pairwise lfLt) (hp : m.Perm (raw l)) : m = putAll lfLt (raw l) := by
  obtain ⟨h1, h2⟩ := putAll_sorted (lt := lfLt) lfLt_trans (raw_pair h)
  exact sorted_unique lfLt_irrefl lfLt_trans hm h1 (hp.trans h2.symm)

/-- A sorted row, by 'not above', of lives any two of which differ, rises strictly. -/
theorem strict_of {m : List Lf} (hs : m.Pairwise (fun a b => ¬ lfLt b a)) (hd : m.Pairwise (fun a b => lfLt a b ∨ lfLt b a)) : m.Pairwise lfLt := by
  induction m with
  | nil => exact List.Pairwise.nil
  | cons a m ih =>
    obtain ⟨h1, h2⟩ := List.pairwise_cons.1 hs
    obtain ⟨k1, k2⟩ := List.pairwise_cons.1 hd
    refine List.pairwise_cons.2 ⟨fun b hb => ?_, ih h2 k2⟩
    rcases k1 b hb with c | c
    · exact c
    · exact absurd c (h1 b hb)

/-! ### What a check finds -/
theorem chkFrom_ok {n : Int} : ∀ {l : List Ev} {i : Nat} {prev : Option Ev} {there : Ed → Bool}, (chkFrom n i prev there l).2 = 0 → chkFrom n i prev there l = (0, 0)
  | [], _, _, _, _ => rfl
  | e :: l, i, prev, there, h => by
    simp only [chkFrom] at h ⊢
    split at h
    · rename_i hc; rw [if_pos hc]; exact chkFrom_ok h
    · rename_i hc; exact absurd h hc

/-- All events may be. -/
def AllOk (n : Int) : Option Ev → (Ed → Bool) → List Ev → Prop
  | _, _, [] => True
  | prev, there, e :: l => evErr n prev there e = 0 ∧ AllOk n (some e) (turn there e) l
theorem allOk_of {n : Int} : ∀ {l : List Ev} {i : Nat} {prev : Option Ev} {there : Ed → Bool}, (chkFrom n i prev there l).2 = 0 → AllOk n prev there l
  | [], _, _, _, _ => trivial
  | e :: l, i, prev, there, h => by
    simp only [chkFrom] at h
    by_cases hc : evErr n prev there e = 0
    · rw [if_pos hc] at h; exact ⟨hc, allOk_of h⟩
    · rw [if_neg hc] at h; exact absurd h hc

theorem evErr_ok {n : Int} {prev : Option Ev} {there : Ed → Bool} {e : Ev} (h : evErr n prev there e = 0) :
    (0 ≤ e.t ∧ e.t ≤ maxT) ∧ right e.e n ∧ (∀ p, prev = some p → before p e) ∧ there e.e ≠ e.add := by
  unfold evErr at h
  split at h
  · cases h
  · rename_i h1
    split at h
    · cases h
    · rename_i h2
      split at h
      · cases h
      · rename_i h3
        split at h
        · cases h
        · rename_i h4
          refine ⟨by omega, Decidable.of_not_not h2, fun p hp => ?_, h4⟩
          subst hp
          simpa using h3

theorem allOk_before {n : Int} : ∀ {l : List Ev} {prev : Option Ev} {there : Ed → Bool}, AllOk n prev there l → l.Pairwise before ∧ ∀ p, prev = some p → ∀ e ∈ l, before p e
  | [], _, _, _ => ⟨List.Pairwise.nil, fun _ _ e he => by simp at he⟩
  | e :: l, prev, there, h => by
    obtain ⟨h1, h2⟩ := h
    obtain ⟨_, _, h3, _⟩ := evErr_ok h1
    obtain ⟨k1, k2⟩ := allOk_before h2
    refine ⟨List.pairwise_cons.2 ⟨fun x hx => k2 e rfl x hx, k1⟩, fun p hp x hx => ?_⟩
    rcases List.mem_cons.1 hx with rfl | hx
    · exact h3 p hp
    · exact before_trans (h3 p hp) (k2 e rfl x hx)
end Go.Proofs.YtppambkffgmkgaaGreatDoor
end

section
/- Lives that may be, and back from them, plainly. Nothing of the program in it. -/
namespace Go.Proofs.YtppambkffgmkgaaGreatDoor
set_option linter.unusedVariables false

/-- May a life stand behind another one? -/
def follows (a b : Lf) : Prop := edLt a.e b.e ∨ (a.e = b.e ∧ 0 ≤ a.to ∧ a.to < b.fr)
instance (a b : Lf) : Decidable (follows a b) := by unfold follows; infer_instance
/-- What is wrong with a life, behind another one: 0: nothing. -/
def lfErr (n : Int) (prev : Option Lf) (x : Lf) : Nat :=
  if x.fr < 0 ∨ maxT < x.fr ∨ maxT < x.to then 26 else if ¬ right x.e n then 24 else if (0 ≤ x.to ∧ x.to ≤ x.fr) ∨ prev.any (fun p => decide (¬ follows p x)) = true then 23 else 0
def lchkFrom (n : Int) (i : Nat) (prev : Option Lf) : List Lf → Nat × Nat
  | [] => (0, 0)
  | x :: l => if lfErr n prev x = 0 then lchkFrom n (i + 1) (some x) l else (i, lfErr n prev x)
/-- How many events lives have. -/
def evCount (l : List Lf) : Nat := l.length + (l.filter (fun x => decide (0 ≤ x.to))).length
def lchk (n : Int) (l : List Lf) : Nat × Nat := if maxN < n ∨ 2147483648 < evCount l then (0, 26) else lchkFrom n 0 none l

/-- The events of lives. -/
def evsOf (x : Lf) : List Ev := ⟨x.fr, x.e, true⟩ :: (if 0 ≤ x.to then [⟨x.to, x.e, false⟩] else [])
def evs (l : List Lf) : List Ev := l.flatMap evsOf

def AllLf (n : Int) : Option Lf → List Lf → Prop
  | _, [] => True
  | prev, x :: l => lfErr n prev x = 0 ∧ AllLf n (some x) l
theorem allLf_of {n : Int} : ∀ {l : List Lf} {i : Nat} {prev : Option Lf}, (lchkFrom n i prev l).2 = 0 → AllLf n prev l
  | [], _, _, _ => trivial
  | x :: l, i, prev, h => by
    simp only [lchkFrom] at h
    by_cases hc : lfErr n prev x = 0
    · rw [if_pos hc] at h; exact ⟨hc, allLf_of h⟩
    · rw [if_neg hc] at h; exact absurd h hc
theorem lfErr_ok {n : Int} {prev : Option Lf} {x : Lf} (h : lfErr n prev x = 0) : 0 ≤ x.fr ∧ right x.e n ∧ (0 ≤ x.to → x.fr < x.to) ∧ ∀ p, prev = some p → follows p x := by
  unfold lfErr at h
  split at h
  · cases h
  · rename_i h1
    split at h
    · cases h
    · rename_i h2
      split at h
      · cases h
      · rename_i h3
        rw [not_or] at h3
        refine ⟨by omega, Decidable.of_not_not h2, fun h0 => by omega, fun p hp => ?_⟩
        subst hp
        simpa using h3.2

/-- Far apart: whatever is ahead is ahead. -/
def far (a b : Lf) : Prop := edLt a.e b.e ∨ (a.e = b.e ∧ 0 ≤ a.to ∧ a.fr < a.to ∧ a.to < b.fr)
theorem allLf_far {n : Int} : ∀ {l : List Lf} {prev : Option Lf}, AllLf n prev l → l.Pairwise far ∧ (∀ x ∈ l, 0 ≤ x.to → x.fr < x.to) ∧ ∀ p, prev = some p → (0 ≤ p.to → p.fr < p.to) → ∀ x ∈ l, far p x
  | [], _, _ => ⟨List.Pairwise.nil, fun _ h => by simp at h, fun _ _ _ x hx => by simp at hx⟩
  | y :: l, prev, h => by
    obtain ⟨h1, h2⟩ := h
    obtain ⟨_, _, h3, h4⟩ := lfErr_ok h1
    obtain ⟨k1, k2, k3⟩ := allLf_far h2
    refine ⟨List.pairwise_cons.2 ⟨fun x hx => k3 y rfl h3 x hx, k1⟩, fun x hx => ?_, fun p hp hpt x hx => ?_⟩
    · rcases List.mem_cons.1 hx with rfl | hx
      · exact h3
      · exact k2 x hx
    · have hpy : far p y := by
        rcases h4 p hp with c | ⟨c1, c2, c3⟩
        · exact Or.inl c
        · exact Or.inr ⟨c1, c2, hpt c2, c3⟩
      rcases List.mem_cons.1 hx with rfl | hx
      · exact hpy
      · have hyx := k3 y rfl h3 x hx
        unfold far at *
        rcases hpy with c | ⟨c1, c2, c3, c4⟩ <;> rcases hyx with d | ⟨d1, d2, d3, d4⟩
        · exact Or.inl (edLt_trans c d)
        · left; rw [← d1]; exact c
        · left; rw [c1]; exact d
        · right; exact ⟨c1.trans d1, c2, c3, by omega⟩

theorem mem_evsOf {x : Lf} {v : Ev} (h : v ∈ evsOf x) : v.e = x.e ∧ (v.t = x.fr ∨ (0 ≤ x.to ∧ v.t = x.to)) := by
  unfold evsOf at h
  rcases List.mem_cons.1 h with rfl | h
  · exact ⟨rfl, Or.inl rfl⟩
  · split at h
    · rename_i hc
      have : v = ⟨x.to, x.e, false⟩ := by simpa using h
      subst this
      exact ⟨rfl, Or.inr ⟨hc, rfl⟩⟩
    · simp at h

/-- Any two events of lives that may be stand in an order. -/
theorem evs_pair {l : List Lf} (hf : l.Pairwise far) (ht : ∀ x ∈ l, 0 ≤ x.to → x.fr < x.to) : (evs l).Pairwise (fun a b => before a b ∨ before b a) := by
  induction l with
  | nil => simp [evs]
  | cons x l ih =>
    obtain ⟨h1, h2⟩ := List.pairwise_cons.1 hf
    have ih' := ih h2 (fun y hy => ht y (by simp [hy]))
    unfold evs at ih' ⊢
    rw [List.flatMap_cons]
    refine List.pairwise_append.2 ⟨?_, ih', fun a ha b hb => ?_⟩
    · unfold evsOf
      refine List.pairwise_cons.2 ⟨fun b hb => ?_, ?_⟩
      · split at hb
        · rename_i hc
          have hb' : b = ⟨x.to, x.e, false⟩ := by simpa using hb
          subst hb'
          left; left; exact ht x (by simp) hc
        · simp at hb
      · split
        · exact List.pairwise_singleton _ _
        · exact List.Pairwise.nil
    · obtain ⟨y, hy, hby⟩ := List.mem_flatMap.1 hb
      have hxy := h1 y hy
      obtain ⟨a1, a2⟩ := mem_evsOf ha
      obtain ⟨b1, b2⟩ := mem_evsOf hby
      have hyt := ht y (by simp [hy])
      unfold before
      rcases Int.lt_trichotomy a.t b.t with c | c | c
      · exact Or.inl (Or.inl c)
      · rcases hxy with d | ⟨d1, d2, d3, d4⟩
        · left; right; exact ⟨c, by rw [a1, b1]; exact d⟩
        · exfalso
          rcases a2 with a2 | ⟨_, a2⟩ <;> rcases b2 with b2 | ⟨b0, b2⟩
          · omega
          · have := hyt b0; omega
          · omega
          · have := hyt b0; omega
      · exact Or.inr (Or.inl c)

/-- A sort of the events of lives that may be is what the document's putting in comes to. -/
theorem sort_evs {n : Int} {l : List Lf} {prev : Option Lf} (h : AllLf n prev l) {m : List Ev} (hm : m.Pairwise before) (hp : m.Perm (evs l)) : m = putAll before (evs l) := by
  obtain ⟨k1, k2, _⟩ := allLf_far h
  obtain ⟨h1, h2⟩ := putAll_sorted (lt := before) before_trans (evs_pair k1 k2)
  exact sorted_unique before_irrefl before_trans hm h1 (hp.trans h2.symm)

theorem evs_perm {l m : List Lf} (h : l.Perm m) : (evs l).Perm (evs m) := h.flatMap_right _

theorem ev_eq {e : Ev} {b : Bool} (h : e.add = b) : e = ⟨e.t, e.e, b⟩ := by cases e; subst h; rfl

/-- The events of a history's lives are its events. -/
theorem evs_raw {n : Int} : ∀ (l p : List Ev) (at' : Ed → Nat), Opn p at' → (∀ y ∈ p, 0 ≤ y.t) → (evs (raw p)).Perm p → (∀ prev, AllOk n prev (thereOf p) l → (evs (raw (p ++ l))).Perm (p ++ l))
  | [], p, at', _, _, hp, _, _ => by simpa using hp
  | e :: l, p, at', o, h0, hp, prev, h => by
    obtain ⟨h1, h2⟩ := h
    obtain ⟨⟨t0, _⟩, _, _, hne⟩ := evErr_ok h1
    have h0' : ∀ y ∈ p ++ [e], 0 ≤ y.t := fun y hy => by
      rcases List.mem_append.1 hy with hy | hy
      · exact h0 y hy
      · have : y = e := by simpa using hy
        rw [this]; exact t0
    rw [← thereOf_snoc] at h2
    have hcat : p ++ e :: l = (p ++ [e]) ++ l := by simp
    rw [hcat]
    cases ha : e.add with
    | true =>
      have hn : thereOf p e.e = false := by
        rw [ha] at hne; simpa using hne
      obtain ⟨hr, ho⟩ := o.add h0 ha hn
      refine evs_raw l (p ++ [e]) _ ho h0' ?_ _ h2
      rw [hr]
      unfold evs at hp ⊢
      rw [List.flatMap_append]
      have he : [Lf.mk e.e e.t (-1)].flatMap evsOf = [e] := by
        have hee : e = ⟨e.t, e.e, true⟩ := ev_eq ha
        show evsOf ⟨e.e, e.t, -1⟩ ++ [] = [e]
        rw [hee]; simp [evsOf]
      rw [he]
      exact hp.append_right [e]
    | false =>
      have hn : thereOf p e.e = true := by
        rw [ha] at hne; simpa using hne
      obtain ⟨⟨fr, k1, k2⟩, ho⟩ := o.del h0 t0 ha hn
      refine evs_raw l (p ++ [e]) _ ho h0' ?_ _ h2
      rw [k2]
      have hlt := (List.getElem?_eq_some_iff.1 k1).1
      have hget : (raw p)[at' e.e] = ⟨e.e, fr, -1⟩ := (List.getElem?_eq_some_iff.1 k1).2
      have hsplit : raw p = (raw p).take (at' e.e) ++ ⟨e.e, fr, -1⟩ :: (raw p).drop (at' e.e + 1) := by
        rw [← hget, List.getElem_cons_drop, List.take_append_drop]
      have hset : (raw p).set (at' e.e) ⟨e.e, fr, e.t⟩ = (raw p).take (at' e.e) ++ ⟨e.e, fr, e.t⟩ :: (raw p).drop (at' e.e + 1) := by
        rw [List.set_eq_take_append_cons_drop, if_pos hlt]
      rw [hset]
      rw [hsplit] at hp
      unfold evs at hp ⊢
      rw [List.flatMap_append, List.flatMap_cons] at hp ⊢
      have e1 : evsOf ⟨e.e, fr, -1⟩ = [⟨fr, e.e, true⟩] := by simp [evsOf]
      have e2 : evsOf ⟨e.e, fr, e.t⟩ = [⟨fr, e.e, true⟩, e] := by
        have hee : e = ⟨e.t, e.e, false⟩ := ev_eq ha
        have h3 : evsOf ⟨e.e, fr, e.t⟩ = [⟨fr, e.e, true⟩, ⟨e.t, e.e, false⟩] := by unfold evsOf; show _ :: (if 0 ≤ e.t then _ else _) = _; rw [if_pos t0]
        rw [h3]; exact congrArg (fun z => [⟨fr, e.e, true⟩, z]) hee.symm
      rw [e1] at hp
      rw [e2]
      refine List.Perm.trans ?_ (hp.append_right [e])
      generalize List.flatMap evsOf ((raw p).take (at' e.e)) = A
      generalize List.flatMap evsOf ((raw p).drop (at' e.e + 1)) = B
      simp only [List.cons_append, List.nil_append, List.append_assoc]
      refine List.Perm.append_left A (List.Perm.cons _ ?_)
      have := List.perm_append_comm (l₁ := [e]) (l₂ := B)
      simpa using this

theorem evs_raw_all {n : Int} {l : List Ev} (h : AllOk n none (fun _ => false) l) : (evs (raw l)).Perm l := by
  have := evs_raw l [] (fun _ => 0) (Opn.nil _) (by simp) (by simp [evs, raw]) none (by simpa [thereOf] using h)
  simpa using this
end Go.Proofs.YtppambkffgmkgaaGreatDoor
end
