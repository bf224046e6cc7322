/- Slices of integers that came in: general lemmas. -/
import Derived.Test.YthncgmmfnghliaaMem
import Derived.OpenShut
import Derived.Laws.BytesArg
namespace Go.Proofs.Ythncgmmfnghliaa
open Go.RowKit
set_option linter.unusedVariables false

theorem IsRow.mod {q : IntKind} {w w' : World} {a : Option Addr} {len cap : Nat} {zs : List Int} (h : IsRow q w a len cap zs) (hm : Mod w w' NoB) : IsRow q w' a len cap zs := by
  rcases h with h | ⟨x, rfl, h1, h2, h3, h4, h5⟩
  · exact Or.inl h
  · refine Or.inr ⟨x, rfl, h1, h2, h3, fun i hi => ?_, h5⟩
    have h6 := h4 i hi
    have hlt : (x.add i).block < w.heap.size := World.block_lt_of_cell? _ _ h6
    rw [hm.cell hlt (by simp [NoB])]
    exact h6

theorem isrow_at {q : IntKind} {w : World} {a : Option Addr} {len cap : Nat} {zs : List Int} (h : IsRow q w a len cap zs) {k : Nat} (hk : k < len) :
    ∃ b off, a = some ⟨b, off, none⟩ ∧ b < w.heap.size ∧ w.cell? ⟨b, off + k, none⟩ = some (.int q (zs.getD k 0)) ∧ (Lit.int q (zs.getD k 0)).wf = true := by
  rcases h with ⟨_, h0, _⟩ | ⟨x, rfl, hlc, hcm, hz, hcell, hwf⟩
  · omega
  · obtain ⟨b, off, rfl, hcs⟩ := ints_at hcell (by omega)
    have hkz : k < zs.length := by omega
    have hc := hcs k hkz
    exact ⟨b, off, rfl, World.block_lt_of_cell? _ _ hc, hc, hwf _ (by simp [hkz])⟩

theorem isrow_len {q : IntKind} {w : World} {a : Option Addr} {len cap : Nat} {zs : List Int} (h : IsRow q w a len cap zs) : len ≤ cap ∧ cap ≤ maxLen ∧ zs.length = cap := by
  rcases h with ⟨_, rfl, rfl, rfl⟩ | ⟨x, rfl, hlc, hcm, hz, _⟩
  · exact ⟨Nat.le_refl _, Nat.zero_le _, rfl⟩
  · exact ⟨hlc, hcm, hz⟩

/-- The bytes of a row, as a text. -/
def rowStr (len : Nat) (zs : List Int) : ByteArray := strOfNums (zs.take len)
theorem rowStr_size {len : Nat} {zs : List Int} (h : len ≤ zs.length) : (rowStr len zs).size = len := by
  unfold rowStr; rw [strOfNums_size, List.length_take, Nat.min_eq_left h]
theorem rowStr_get {len : Nat} {zs : List Int} {k : Nat} (hk : k < (rowStr len zs).size) (hz : len ≤ zs.length) : (rowStr len zs)[k] = UInt8.ofNat (zs.getD k 0).toNat := by
  have hl := rowStr_size hz
  have h1 : (rowStr len zs).data.toList[k]? = some (rowStr len zs)[k] := by rw [List.getElem?_eq_getElem (by simpa using hk)]; rfl
  have h2 : (rowStr len zs).data.toList = (zs.take len).map fun n => UInt8.ofNat n.toNat := strOfNums_data _
  rw [h2, List.getElem?_map, List.getElem?_take_of_lt (by omega)] at h1
  have hkz : k < zs.length := by omega
  rw [List.getElem?_eq_getElem hkz] at h1
  simp only [Option.map_some, Option.some.injEq] at h1
  rw [← h1]
  simp [hkz]
theorem byte_back {z : Int} (h : (Lit.int .u8 z).wf = true) : (((UInt8.ofNat z.toNat).toNat : Nat) : Int) = z := by
  obtain ⟨h0, h1⟩ := bounds_u8 h
  have h2 : z.toNat < 256 := by omega
  rw [UInt8.toNat_ofNat_of_lt' h2]
  omega
theorem row_wf {q : IntKind} {w : World} {a : Option Addr} {len cap : Nat} {zs : List Int} (h : IsRow q w a len cap zs) {k : Nat} (hk : k < len) : (Lit.int q (zs.getD k 0)).wf = true := by
  obtain ⟨_, _, _, _, _, h⟩ := isrow_at h hk; exact h

theorem conv_row {P : Program} {w : World} {a : Option Addr} {len cap : Nat} {zs : List Int} (h : IsRow .u8 w a len cap zs) (src dst e : TypeId) (hs : P.underlying src = some (.slice e)) (hd : P.underlying dst = some .string) (he : P.underlying e = some (.int .u8)) :
    (convert src dst (.slice a len cap)).run P w = .ok (.string (rowStr len zs)) w := by
  obtain ⟨h1, h2, h3⟩ := isrow_len h
  by_cases h0 : len = 0
  · subst h0
    have hr : rowStr 0 zs = ByteArray.empty := by simp [rowStr, strOfNums]; rfl
    rw [hr]
    cases a with
    | none => exact run_convert_bytes_nil w src e hs he 0 cap dst hd
    | some x =>
      rw [run_convert_bytes_string w src dst e _ 0 cap hs he hd]
      have hl : (loadCells x 0).run P w = .ok #[] w := by
        have := run_loadCells_list (P := P) w x [] (fun j v hj => by simp at hj)
        simpa using this
      have := run_bytesToString (P := P) w x 0 cap [] (by simpa using hl)
      rw [this]
      rfl
  · obtain ⟨b, off, rfl, hb, hc, _⟩ := isrow_at h (k := 0) (by omega)
    refine run_convert_bytes_arg w src e hs he b off len cap (zs.take len) (by simp; omega) (fun i hi => ?_) dst hd
    obtain ⟨b', off', hx, _, hc', _⟩ := isrow_at h hi
    simp only [Option.some.injEq, Addr.mk.injEq, and_true] at hx
    obtain ⟨rfl, rfl⟩ := hx
    rw [hc']
    have hiz : i < zs.length := by omega
    simp [hi, hiz, List.getD_eq_getElem?_getD]
end Go.Proofs.Ythncgmmfnghliaa
