/- What a call may have changed ('Mod'), and maps as functions from keys to values ('MapOf'): general lemmas, nothing of the program in them. -/
import Derived.WalkKit
import Derived.Maps.OwnSet
import Derived.Deep.Draws
import Derived.Deep.AppendLies
import Derived.WideKeyEntry
import Derived.Deep.QuietTactic
namespace Go.Proofs.Ythncgmmfnghliaa
open Go.RowKit Go.Maps

/-- Between w and w' only blocks of S, and new ones, have changed. -/
structure Mod (w w' : World) (S : Nat → Prop) : Prop where
  os : w'.os = w.os
  tape : w'.tape = w.tape
  output : w'.output = w.output
  size : w.heap.size ≤ w'.heap.size
  block : ∀ k, k < w.heap.size → ¬ S k → w'.heap[k]? = w.heap[k]?

def NoB : Nat → Prop := fun _ => False
def OneB (g : Nat) : Nat → Prop := fun k => k = g

namespace Mod
variable {w a b c : World} {S T : Nat → Prop}

theorem refl (w : World) (S : Nat → Prop) : Mod w w S := ⟨rfl, rfl, rfl, Nat.le_refl _, fun _ _ _ => rfl⟩

theorem trans (h : Mod a b S) (k : Mod b c T) (hT : ∀ i, i < a.heap.size → T i → S i) : Mod a c S :=
  ⟨k.os.trans h.os, k.tape.trans h.tape, k.output.trans h.output, Nat.le_trans h.size k.size,
   fun i hi hn => (k.block i (Nat.lt_of_lt_of_le hi h.size) (fun ht => hn (hT i hi ht))).trans (h.block i hi hn)⟩

theorem mono (h : Mod a b S) (hT : ∀ i, i < a.heap.size → S i → T i) : Mod a b T :=
  ⟨h.os, h.tape, h.output, h.size, fun i hi hn => h.block i hi (fun hs => hn (hT i hi hs))⟩

theorem alloc (h : Mod a w S) (o : Obj) : Mod a (w.alloc o) S :=
  ⟨h.os, h.tape, h.output, Nat.le_trans h.size (by simp), fun i hi hn => by
    rw [Below.heap_alloc _ _ _ (Nat.lt_of_lt_of_le hi h.size)]; exact h.block i hi hn⟩

theorem drew (h : Mod a w S) : Mod a w.drew S := ⟨h.os, h.tape, h.output, h.size, h.block⟩
theorem drewN (h : Mod a w S) (n : Nat) : Mod a (w.drewN n) S := ⟨h.os, h.tape, h.output, h.size, h.block⟩

theorem setCell (h : Mod a w S) {p : Addr} (hp : p.block < a.heap.size → S p.block) (u : Value) : Mod a (w.setCell p u) S :=
  ⟨h.os, h.tape, h.output, Nat.le_trans h.size (by simp [World.setCell]), fun i hi hn => by
    rw [Below.heap_setCell _ _ _ _ (fun e => by subst e; exact hn (hp hi))]; exact h.block i hi hn⟩

theorem grown {row : Option Nat} (h : Mod a w S) (hg : w.grownBy b row) (hr : ∀ k, row = some k → k < a.heap.size → S k) : Mod a b S :=
  ⟨hg.os.trans h.os, hg.tape.trans h.tape, hg.output.trans h.output, Nat.le_trans h.size hg.size, fun i hi hn =>
    (hg.block i (Nat.lt_of_lt_of_le hi h.size) (fun e => hn (hr i e.symm hi))).trans (h.block i hi hn)⟩

theorem setG {g i : Nat} (h : Mod a w (OneB g)) (v : Value) : Mod a (w.setCell ⟨g, i, none⟩ v) (OneB g) := h.setCell (p := ⟨g, i, none⟩) (fun _ => rfl) v
theorem setS {g i : Nat} (h : Mod a w S) (hs : S g) (v : Value) : Mod a (w.setCell ⟨g, i, none⟩ v) S := h.setCell (p := ⟨g, i, none⟩) (fun _ => hs) v
theorem set1 (w : World) (g i : Nat) (v : Value) : Mod w (w.setCell ⟨g, i, none⟩ v) (OneB g) := (refl w (OneB g)).setCell (p := ⟨g, i, none⟩) (fun _ => rfl) v

theorem of_grown {row : Option Nat} (hg : w.grownBy b row) : Mod w b (fun k => row = some k) := (refl w _).grown hg (fun _ h _ => h)

theorem cell (h : Mod a b S) {p : Addr} (hp : p.block < a.heap.size) (hn : ¬ S p.block) : b.cell? p = a.cell? p := World.cell?_of_block (w := a) (h.block p.block hp hn)
theorem frozen (h : Mod a b S) {p : Addr} (hp : p.block < a.heap.size) (hn : ¬ S p.block) : b.frozen? p = a.frozen? p := World.frozen?_of_block (w := a) (h.block p.block hp hn)

theorem below (h : Mod a b S) {B : Nat} (hB : B ≤ a.heap.size) (hS : ∀ k, S k → B ≤ k) : Below B a b :=
  ⟨h.os, h.tape, h.output, h.size, fun k hk => h.block k (Nat.lt_of_lt_of_le hk hB) (fun hs => absurd (hS k hs) (Nat.not_le.2 hk))⟩

theorem of_below (h : Below a.heap.size a b) : Mod a b NoB := ⟨h.os, h.tape, h.output, h.size, fun k hk _ => h.block k hk⟩

/-- A row that lies outside what was changed. -/
theorem row (h : Mod a b S) {base : Nat} {e : TypeId} {size : Nat} {v : Value} {n : Nat} {xs : List Value} (hv : a.ownsRow base e size v n xs) (hn : ∀ k, v.ownBlock = some k → ¬ S k) : b.ownsRow base e size v n xs := by
  obtain ⟨h1, h2⟩ := hv
  refine ⟨h1, ?_⟩
  rcases h2 with h2 | ⟨g, cap, cur, hv, hg, hh, r⟩
  · exact Or.inl h2
  · refine Or.inr ⟨g, cap, cur, hv, hg, ?_, r⟩
    rw [h.block g (Array.getElem?_eq_some_iff.1 hh).1 (hn g (by rw [hv]; rfl))]
    exact hh
end Mod

/-- What an object that lived in S lives in, behind a call from w to w'. -/
def Fresh (S : Nat → Prop) (w w' : World) : Nat → Prop := fun k => S k ∨ (w.heap.size ≤ k ∧ k < w'.heap.size)

theorem Fresh.old {S : Nat → Prop} {w w' : World} {k : Nat} (h : S k) : Fresh S w w' k := Or.inl h
theorem Fresh.apart {S T : Nat → Prop} {w w' : World} (hST : ∀ k, S k → ¬ T k) (hT : ∀ k, T k → k < w.heap.size) : ∀ k, Fresh S w w' k → ¬ T k := by
  rintro k (h | ⟨h, _⟩) ht
  · exact hST k h ht
  · exact absurd (hT k ht) (Nat.not_lt.2 h)
theorem Fresh.lt {S : Nat → Prop} {w w' : World} (hS : ∀ k, S k → k < w.heap.size) (h : w.heap.size ≤ w'.heap.size) : ∀ k, Fresh S w w' k → k < w'.heap.size := by
  rintro k (hk | ⟨_, hk⟩)
  · exact Nat.lt_of_lt_of_le (hS k hk) h
  · exact hk
theorem Fresh.ge {S : Nat → Prop} {w w' : World} {B : Nat} (hS : ∀ k, S k → B ≤ k) (h : B ≤ w.heap.size) : ∀ k, Fresh S w w' k → B ≤ k := by
  rintro k (hk | ⟨hk, _⟩)
  · exact hS k hk
  · exact Nat.le_trans h hk

/-! ### Maps -/
open Go.ChangeMaps Go.MapKept
open Go.WideElems (rd rg pl rd_val elemAt findIdx_born findIdx_arr modify_last set_self)

/-- Block b of w is a map of at most n entries; f tells what it has at each key. -/
def MapOf (P : Program) (k : TypeId) (w : World) (b n : Nat) (f : Value → Option Value) : Prop :=
  ∃ es clock, w.heap[b]? = some (.map es clock) ∧ es.size ≤ n ∧ Stamped es clock ∧ (∀ x ∈ es.toList, ∃ l, keyOf P k x.key = some l) ∧
    ∀ key v, f key = some v ↔ ∃ x ∈ es.toList, x.key = key ∧ x.val = v

namespace MapOf
variable {P : Program} {k : TypeId} {w : World} {b n : Nat} {f : Value → Option Value}

theorem made (w : World) (P : Program) (k : TypeId) : MapOf P k (w.alloc (.map #[] 0)) w.heap.size 0 (fun _ => none) :=
  ⟨#[], 0, (MapKept.heap_alloc w _).1, Nat.le_refl _, stamped_empty 0, by simp, by simp⟩

theorem lt (h : MapOf P k w b n f) : b < w.heap.size := by
  obtain ⟨es, clock, hb, _⟩ := h
  exact (Array.getElem?_eq_some_iff.1 hb).1

theorem of_block {w' : World} (h : MapOf P k w b n f) (hb : w'.heap[b]? = w.heap[b]?) : MapOf P k w' b n f := by
  obtain ⟨es, clock, h1, h2⟩ := h
  exact ⟨es, clock, hb.trans h1, h2⟩

theorem mod {w' : World} {S : Nat → Prop} (h : MapOf P k w b n f) (hm : Mod w w' S) (hn : ¬ S b) : MapOf P k w' b n f := h.of_block (hm.block b h.lt hn)

theorem mono (h : MapOf P k w b n f) {n' : Nat} (hn : n ≤ n') : MapOf P k w b n' f := by
  obtain ⟨es, clock, h1, h2, h3⟩ := h
  exact ⟨es, clock, h1, Nat.le_trans h2 hn, h3⟩

theorem ext (h : MapOf P k w b n f) {f' : Value → Option Value} (hf : ∀ x, f x = f' x) : MapOf P k w b n f' := by
  have : f = f' := funext hf
  rw [← this]; exact h

/-- 'm[k]', with or without 'ok'. -/
theorem look (h : MapOf P k w b n f) (K : Keyed P k) {t e : TypeId} (ht : P.underlying t = some (.map k e)) {z : Value} (hz : (zeroValue e).run P w = .ok z w)
    {key : Value} {kl : Lit} (hkey : keyOf P k key = some kl) (c : Bool) :
    (Instr.lookup t (.map (some b)) key c).run P w = .ok (if c then .tuple #[(f key).getD z, .bool (f key).isSome] else (f key).getD z) w := by
  obtain ⟨es, clock, hb, _, hst, hks, hf⟩ := h
  rcases K.find w hkey es.toList hks with ⟨h1, h2⟩ | ⟨j, e0, h1, h2, h3⟩
  · have hnone : f key = none := by
      cases hfk : f key with
      | none => rfl
      | some v => obtain ⟨x, hx, hxk, _⟩ := (hf key v).1 hfk; exact absurd hxk (h2 x hx)
    simp [Instr.lookup, run_underlying ht, MapKept.run_getObj_map hb, K.check w _ hkey, h1, hz, hnone, Result.andThen]
  · have hsome : f key = some e0.val := (hf key e0.val).2 ⟨e0, List.mem_of_getElem? h2, h3, rfl⟩
    simp [Instr.lookup, run_underlying ht, MapKept.run_getObj_map hb, K.check w _ hkey, h1, hsome, Result.andThen]

open Classical in
/-- What f becomes at a store. -/
noncomputable def put (f : Value → Option Value) (key v : Value) : Value → Option Value := fun x => if x = key then some v else f x

theorem mem_modify {es : List MapEntry} {g : MapEntry → MapEntry} {j : Nat} {e0 : MapEntry} (hj : es[j]? = some e0) : ∀ x, x ∈ es.modify j g ↔ x = g e0 ∨ ∃ i, i ≠ j ∧ es[i]? = some x := by
  intro x
  rw [List.mem_iff_getElem?]
  constructor
  · rintro ⟨i, hi⟩
    rw [List.getElem?_modify] at hi
    by_cases e : j = i
    · subst e; simp only [if_true, hj] at hi
      left; simpa using hi.symm
    · right; refine ⟨i, fun h => e h.symm, ?_⟩
      simpa [e] using hi
  · rintro (rfl | ⟨i, hne, hi⟩)
    · exact ⟨j, by rw [List.getElem?_modify]; simp [hj]⟩
    · exact ⟨i, by rw [List.getElem?_modify, hi]; simp [show ¬ j = i from fun h => hne h.symm]⟩

/-- The entry of a key, found or made, then a store into it: what 'm[k], .. = v, ..' comes to. -/
theorem entry (h : MapOf P k w b n f) (K : Keyed P k) {t e : TypeId} (ht : P.underlying t = some (.map k e)) {z : Value} (hz : ∀ u : World, (zeroValue e).run P u = .ok z u)
    {key : Value} {kl : Lit} (hkey : keyOf P k key = some kl) :
    ∃ (st : Nat) (es1 : Array MapEntry) (clock1 : Nat), (Instr.mapEntry t (.map (some b)) key).run P w = .ok (.tuple #[(f key).getD z, goInt st]) (setBlock w b (.map es1 clock1)) ∧
      ∀ (w2 : World) (val : Value), w2.heap[b]? = some (.map es1 clock1) → ∃ w3, (Instr.entryStore t (.map (some b)) (goInt st) val).run P w2 = .ok () w3 ∧
        MapOf P k w3 b (n + 1) (put f key val) ∧ ∃ es2 clock2, w3 = setBlock w2 b (.map es2 clock2) := by
  obtain ⟨es, clock, hb, hn, hst, hks, hf⟩ := h
  obtain ⟨s1, s2, s3⟩ := hst
  rcases K.find w hkey es.toList hks with ⟨h1, h2⟩ | ⟨j, e0, h1, h2, h3⟩
  · have hnone : f key = none := by
      cases hfk : f key with
      | none => rfl
      | some v => obtain ⟨x, hx, hxk, _⟩ := (hf key v).1 hfk; exact absurd hxk (h2 x hx)
    refine ⟨clock, es.push ⟨key, z, clock⟩, clock + 1, ?_, fun w2 val hw2 => ⟨_, ?_, ⟨es.push ⟨key, val, clock⟩, clock + 1, heap_setBlock_same hw2 _, by simp; omega, stamped_push ⟨s1, s2, s3⟩ h2, ?_, ?_⟩, _, _, rfl⟩⟩
    · simp [Instr.mapEntry, run_underlying ht, MapKept.run_getObj_map hb, K.check w false hkey, h1, hz, hnone, MapKept.run_setObj_map _ hb, Result.andThen, setBlock]
    · have hidx : (es.push ⟨key, z, clock⟩).findIdx? (fun e => ((e.born : Nat) : Int) == ((clock : Nat) : Int)) = some es.size := by
        rw [findIdx_arr]
        have := findIdx_born (l := (es.push ⟨key, z, clock⟩).toList) (j := es.size) (e0 := ⟨key, z, clock⟩) (by
          simp only [Array.toList_push, List.map_append, List.map_cons, List.map_nil]
          refine List.nodup_append.2 ⟨s2, by simp, fun a ha c hc e1 => ?_⟩
          simp only [List.mem_singleton] at hc
          obtain ⟨x, hx, rfl⟩ := List.mem_map.1 ha
          have := s1 x hx
          omega) (by simp)
        exact this
      have hmod : (es.push ⟨key, z, clock⟩).modify es.size (fun e => { e with val := val }) = es.push ⟨key, val, clock⟩ := by
        apply Array.ext'
        rw [Array.toList_modify, Array.toList_push, Array.toList_push, ← Array.length_toList, modify_last]
      simp [Instr.entryStore, MapKept.run_getObj_map hw2, asInt, asIntOf, goInt, hidx, hmod, MapKept.run_setObj_map _ hw2, Result.andThen, setBlock]
    · intro x hx
      simp only [Array.toList_push, List.mem_append, List.mem_singleton] at hx
      rcases hx with hx | rfl
      · exact hks x hx
      · exact ⟨_, hkey⟩
    · intro key' v'
      unfold put
      by_cases e : key' = key
      · subst e
        rw [if_pos rfl]
        constructor
        · intro he; exact ⟨⟨key', val, clock⟩, by simp, rfl, by simpa using he⟩
        · rintro ⟨x, hx, hxk, hxv⟩
          simp only [Array.toList_push, List.mem_append, List.mem_singleton] at hx
          rcases hx with hx | rfl
          · exact absurd hxk (h2 x hx)
          · simpa using hxv
      · rw [if_neg e, hf]
        constructor
        · rintro ⟨x, hx, h⟩; exact ⟨x, by simp [hx], h⟩
        · rintro ⟨x, hx, hxk, hxv⟩
          simp only [Array.toList_push, List.mem_append, List.mem_singleton] at hx
          rcases hx with hx | rfl
          · exact ⟨x, hx, hxk, hxv⟩
          · exact absurd hxk.symm e
  · have hsome : f key = some e0.val := (hf key e0.val).2 ⟨e0, List.mem_of_getElem? h2, h3, rfl⟩
    have hj : es[j]? = some e0 := by simpa using h2
    have hsame : es.modify j (fun e => { e with key := key }) = es := by
      apply Array.ext'
      rw [Array.toList_modify, modify_eq_set _ _ _ _ h2]
      have : ({ e0 with key := key } : MapEntry) = e0 := by rw [← h3]
      rw [this]
      exact set_self _ _ _ h2
    refine ⟨e0.born, es, clock, ?_, fun w2 val hw2 => ⟨_, ?_, ⟨es.modify j (fun e => { e with val := val }), clock, heap_setBlock_same hw2 _, by simp; omega, stamped_modify ⟨s1, s2, s3⟩ _ _ (fun _ _ => rfl) (fun _ _ _ => rfl), ?_, ?_⟩, _, _, rfl⟩⟩
    · simp [Instr.mapEntry, run_underlying ht, MapKept.run_getObj_map hb, K.check w false hkey, h1, hj, h3, K.stays w hkey, hsame, hsome, MapKept.run_setObj_map _ hb, Result.andThen, setBlock]
    · have hidx : es.findIdx? (fun e => ((e.born : Nat) : Int) == ((e0.born : Nat) : Int)) = some j := by
        rw [findIdx_arr]; exact findIdx_born s2 h2
      simp [Instr.entryStore, MapKept.run_getObj_map hw2, asInt, asIntOf, goInt, hidx, MapKept.run_setObj_map _ hw2, Result.andThen, setBlock]
    · intro x hx
      rw [Array.toList_modify] at hx
      rcases (mem_modify h2 x).1 hx with rfl | ⟨i, _, hi⟩
      · exact ⟨_, by show keyOf P k e0.key = _; rw [h3]; exact hkey⟩
      · exact hks x (List.mem_of_getElem? hi)
    · intro key' v'
      unfold put
      have hkd : ∀ (i : Nat) (x : MapEntry), es.toList[i]? = some x → x.key = key → i = j := by
        intro i x hi hxk
        have hnd := s3
        have h1' : (es.toList.map (·.key))[i]? = some key := by rw [List.getElem?_map, hi]; simp [hxk]
        have h2' : (es.toList.map (·.key))[j]? = some key := by rw [List.getElem?_map, h2]; simp [h3]
        have hi' := (List.getElem?_eq_some_iff.1 h1')
        have hj' := (List.getElem?_eq_some_iff.1 h2')
        exact (List.getElem_inj hnd (h₀ := hi'.1) (h₁ := hj'.1)).1 (hi'.2.trans hj'.2.symm)
      by_cases e : key' = key
      · subst e
        rw [if_pos rfl]
        constructor
        · intro he; refine ⟨{ e0 with val := val }, by rw [Array.toList_modify]; exact (mem_modify h2 _).2 (Or.inl rfl), h3, by simpa using he⟩
        · rintro ⟨x, hx, hxk, hxv⟩
          rw [Array.toList_modify] at hx
          rcases (mem_modify h2 x).1 hx with rfl | ⟨i, hne, hi⟩
          · simpa using hxv
          · exact absurd (hkd i x hi hxk) hne
      · rw [if_neg e, hf]
        constructor
        · rintro ⟨x, hx, hxk, hxv⟩
          obtain ⟨i, hi⟩ := List.mem_iff_getElem?.1 hx
          refine ⟨x, ?_, hxk, hxv⟩
          rw [Array.toList_modify]
          refine (mem_modify h2 x).2 (Or.inr ⟨i, fun hij => ?_, hi⟩)
          subst hij
          rw [h2] at hi
          cases hi
          exact e (hxk.symm.trans h3)
        · rintro ⟨x, hx, hxk, hxv⟩
          rw [Array.toList_modify] at hx
          rcases (mem_modify h2 x).1 hx with rfl | ⟨i, _, hi⟩
          · exact absurd (hxk.symm.trans h3) e
          · exact ⟨x, List.mem_of_getElem? hi, hxk, hxv⟩

/-- 'm[k] = v'. -/
theorem store (h : MapOf P k w b n f) (K : Keyed P k) {t e : TypeId} (ht : P.underlying t = some (.map k e))
    {key : Value} {kl : Lit} (hkey : keyOf P k key = some kl) (val : Value) :
    ∃ w', (Instr.mapUpdate t (.map (some b)) key val).run P w = .ok () w' ∧ MapOf P k w' b (n + 1) (put f key val) ∧ ∃ es2 clock2, w' = setBlock w b (.map es2 clock2) := by
  obtain ⟨es, clock, hb, hn, hst, hks, hf⟩ := h
  obtain ⟨s1, s2, s3⟩ := hst
  rcases K.find w hkey es.toList hks with ⟨h1, h2⟩ | ⟨j, e0, h1, h2, h3⟩
  · refine ⟨_, ?_, ⟨es.push ⟨key, val, clock⟩, clock + 1, heap_setBlock_same hb _, by simp; omega, stamped_push ⟨s1, s2, s3⟩ h2, ?_, ?_⟩, _, _, rfl⟩
    · simp [Instr.mapUpdate, run_underlying ht, MapKept.run_getObj_map hb, K.check w false hkey, h1, MapKept.run_setObj_map _ hb, Result.andThen, setBlock]
    · intro x hx
      simp only [Array.toList_push, List.mem_append, List.mem_singleton] at hx
      rcases hx with hx | rfl
      · exact hks x hx
      · exact ⟨_, hkey⟩
    · intro key' v'
      unfold put
      by_cases e : key' = key
      · subst e
        rw [if_pos rfl]
        constructor
        · intro he; exact ⟨⟨key', val, clock⟩, by simp, rfl, by simpa using he⟩
        · rintro ⟨x, hx, hxk, hxv⟩
          simp only [Array.toList_push, List.mem_append, List.mem_singleton] at hx
          rcases hx with hx | rfl
          · exact absurd hxk (h2 x hx)
          · simpa using hxv
      · rw [if_neg e, hf]
        constructor
        · rintro ⟨x, hx, h⟩; exact ⟨x, by simp [hx], h⟩
        · rintro ⟨x, hx, hxk, hxv⟩
          simp only [Array.toList_push, List.mem_append, List.mem_singleton] at hx
          rcases hx with hx | rfl
          · exact ⟨x, hx, hxk, hxv⟩
          · exact absurd hxk.symm e
  · have hj : es[j]? = some e0 := by simpa using h2
    refine ⟨_, ?_, ⟨es.modify j (fun e' => { e' with key := key, val := val }), clock, heap_setBlock_same hb _, by simp; omega, stamped_modify ⟨s1, s2, s3⟩ _ _ (fun _ _ => rfl) (fun e' _ he' => by rw [hj] at he'; cases he'; exact h3.symm), ?_, ?_⟩, _, _, rfl⟩
    · simp [Instr.mapUpdate, run_underlying ht, MapKept.run_getObj_map hb, K.check w false hkey, h1, hj, h3, K.stays w hkey, MapKept.run_setObj_map _ hb, Result.andThen, setBlock]
    · intro x hx
      rw [Array.toList_modify] at hx
      rcases (mem_modify h2 x).1 hx with rfl | ⟨i, _, hi⟩
      · exact ⟨_, hkey⟩
      · exact hks x (List.mem_of_getElem? hi)
    · intro key' v'
      unfold put
      have hkd : ∀ (i : Nat) (x : MapEntry), es.toList[i]? = some x → x.key = key → i = j := by
        intro i x hi hxk
        have hnd := s3
        have h1' : (es.toList.map (·.key))[i]? = some key := by rw [List.getElem?_map, hi]; simp [hxk]
        have h2' : (es.toList.map (·.key))[j]? = some key := by rw [List.getElem?_map, h2]; simp [h3]
        have hi' := (List.getElem?_eq_some_iff.1 h1')
        have hj' := (List.getElem?_eq_some_iff.1 h2')
        exact (List.getElem_inj hnd (h₀ := hi'.1) (h₁ := hj'.1)).1 (hi'.2.trans hj'.2.symm)
      by_cases e : key' = key
      · subst e
        rw [if_pos rfl]
        constructor
        · intro he; refine ⟨_, by rw [Array.toList_modify]; exact (mem_modify h2 _).2 (Or.inl rfl), rfl, by simpa using he⟩
        · rintro ⟨x, hx, hxk, hxv⟩
          rw [Array.toList_modify] at hx
          rcases (mem_modify h2 x).1 hx with rfl | ⟨i, hne, hi⟩
          · simpa using hxv
          · exact absurd (hkd i x hi hxk) hne
      · rw [if_neg e, hf]
        constructor
        · rintro ⟨x, hx, hxk, hxv⟩
          obtain ⟨i, hi⟩ := List.mem_iff_getElem?.1 hx
          refine ⟨x, ?_, hxk, hxv⟩
          rw [Array.toList_modify]
          refine (mem_modify h2 x).2 (Or.inr ⟨i, fun hij => ?_, hi⟩)
          subst hij
          rw [h2] at hi
          cases hi
          exact e (hxk.symm.trans h3)
        · rintro ⟨x, hx, hxk, hxv⟩
          rw [Array.toList_modify] at hx
          rcases (mem_modify h2 x).1 hx with rfl | ⟨i, _, hi⟩
          · exact absurd hxk.symm e
          · exact ⟨x, List.mem_of_getElem? hi, hxk, hxv⟩
end MapOf

/-- A map's block has been set. -/
theorem Mod.setBlock {a w : World} {S : Nat → Prop} (h : Mod a w S) {b : Nat} (hb : b < a.heap.size → S b) (o : Obj) : Mod a (Go.ChangeMaps.setBlock w b o) S :=
  ⟨h.os, h.tape, h.output, by simpa [Go.ChangeMaps.setBlock] using h.size, fun i hi hn => by
    have hne : i ≠ b := fun e => hn (e ▸ hb (e ▸ hi))
    rw [← h.block i hi hn]
    simp only [Go.ChangeMaps.setBlock]
    rw [Array.getElem?_setIfInBounds, if_neg (fun e : b = i => hne e.symm)]⟩


/-! ### Rows that a call owns -/
theorem row_form {w : World} {base : Nat} {e : TypeId} {v : Value} {n : Nat} {xs : List Value} {size : Nat} (h : w.ownsRow base e size v n xs) : ∃ a cap, v = .slice a n cap := by
  rcases h.2 with ⟨rfl, h0⟩ | ⟨gg, cap, cur, rfl, _⟩
  · exact ⟨none, 0, by rw [h0]⟩
  · exact ⟨_, _, rfl⟩

/-- A row of one element at least: its slice, and its cells. -/
theorem row_open {w : World} {base : Nat} {e : TypeId} {v : Value} {n : Nat} {xs : List Value} {size : Nat} (h : w.ownsRow base e size v n xs) (hn : 0 < n) :
    ∃ g cap, v = .slice (some ⟨g, 0, none⟩) n cap ∧ (∀ j u, xs[j]? = some u → w.cell? ⟨g, j, none⟩ = some u) ∧ (∀ j, w.frozen? ⟨g, j, none⟩ = false) ∧ n ≤ cap ∧ cap ≤ maxLen := by
  rcases h.2 with ⟨rfl, h0⟩ | ⟨g, cap, cur, rfl, hb, hg, h1, h2, h3, h4⟩
  · omega
  · refine ⟨g, cap, rfl, fun j u hu => ?_, fun j => ?_, h1, h2⟩
    · have := h.cells (g := g) rfl j u hu
      have hadd : (⟨g, 0, none⟩ : Addr).add j = ⟨g, j, none⟩ := by unfold Addr.add; split <;> simp_all
      rwa [hadd] at this
    · simp [World.frozen?, hg]

/-- A slice of integers that came in. -/
def IsRow (k : IntKind) (w : World) (a : Option Addr) (len cap : Nat) (zs : List Int) : Prop :=
  (a = none ∧ len = 0 ∧ cap = 0 ∧ zs = []) ∨
  ∃ x, a = some x ∧ len ≤ cap ∧ cap ≤ maxLen ∧ zs.length = cap ∧ (∀ i, i < zs.length → w.cell? (x.add i) = some (.int k (zs.getD i 0))) ∧ ∀ n ∈ zs, (Lit.int k n).wf = true

/-! ### Quiet calls inside a region that draws -/
theorem quiet_left {P : Program} {f : FuncId} {args : Array Value} {w : World} {n : Nat} {v : Value}
    (h : Calls P f args (w.drewN n) fun e w' => e = .returned v ∧ w.drewN n = w') : Calls P f args (w.drewN n) fun e w'' => e = .returned v ∧ ∃ m, w'' = w.drewN m :=
  h.mono fun _ _ ⟨he, hm⟩ => ⟨he, n, hm.symm⟩
theorem quiet_left2 {P : Program} {f : FuncId} {args : Array Value} {w : World} {a n : Nat} {v : Value}
    (h : Calls P f args (w.drewN (a + n)) fun e w' => e = .returned v ∧ w.drewN (a + n) = w') :
    Calls P f args (w.drewN (a + n)) fun e w'' => e = .returned v ∧ ∃ m, w'' = w.drewN (a + m) :=
  h.mono fun _ _ ⟨he, hm⟩ => ⟨he, n, hm.symm⟩

theorem quietD {P : Program} {f : FuncId} {args : Array Value} {w : World} {n : Nat} {v : Value}
    (h : Calls P f args (w.drewN n) fun e w' => e = .returned v ∧ ∃ m, w' = (w.drewN n).drewN m) : Calls P f args (w.drewN n) fun e w'' => e = .returned v ∧ ∃ m, w'' = w.drewN m :=
  h.mono fun _ _ ⟨he, m, hm⟩ => ⟨he, n + m, by rw [hm, World.drewN_drewN]⟩
theorem quietD2 {P : Program} {f : FuncId} {args : Array Value} {w : World} {a n : Nat} {v : Value}
    (h : Calls P f args (w.drewN (a + n)) fun e w' => e = .returned v ∧ ∃ m, w' = (w.drewN (a + n)).drewN m) :
    Calls P f args (w.drewN (a + n)) fun e w'' => e = .returned v ∧ ∃ m, w'' = w.drewN (a + m) :=
  h.mono fun _ _ ⟨he, m, hm⟩ => ⟨he, n + m, by rw [hm, World.drewN_drewN, Nat.add_assoc]⟩

end Go.Proofs.Ythncgmmfnghliaa
