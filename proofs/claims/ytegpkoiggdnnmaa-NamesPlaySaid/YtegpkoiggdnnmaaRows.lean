/-
  No cell of these rows narrows 'for every input' (looked for: loops, veiled, ifaces, maps, wideKeys, modest, calm, conditions, laid).
  DERIVED. THE GIVEN ROWS OF THIS SEAT. 3 by the template 'for every input the law returns true; each argument reads behind the call as it read before'; 0 by the template 'total and deterministic' (their statements: YtegpkoiggdnnmaaTotals.lean).
  GIVEN WITH THE SEED: the statements are not yours to turn. If you find one false, say at which input.
  Laid BY PROGRAM, IN A SANDBOX (cutbox-rows.mjs): the forced cells as the released guide's own fill.sh prints them over the translation 45435688fa258254… (all of the seat's roots in one cut). By AI agents, Wed Nov 11 2026. No macro, syntax, notation, axiom, sorry.
-/
import Derived.Test.YtegpkoiggdnnmaaChecked
import GoSem.Claim
import GoSem.ClaimJoined
import GoSem.ClaimMapViews
import Derived.JoinedTies
import Derived.KernelRfl
namespace Go.Proofs.Ytegpkoiggdnnmaa
/- THE CELL 'sum', in the pinned program and in every row, IS THE sha256 OF THE DUMP (.gsa) THAT YtegpkoiggdnnmaaProg.lean LOADS. Nothing in Lean hashes anything: it is a label: what it is worth is what the hold of that sum in a sandbox is worth. -/
noncomputable def Try.pinned : Pinned := { name := "ytegpkoiggdnnmaa", sum := "45435688fa258254288db6181ad6428f7f904ea2b1a75957f7a455001bdfd3a7", checked := Try.checked }
namespace Rows
def none {H : Type} : Left H := { results := [], args := [] }

/-- 'archipelagolaw24.NamesPlay': WHATEVER THE INPUT: true; the input reads as it did. -/
def namesPlaySpec : ChangeSpec := { name := "namesPlay", fn := fun _ => fun
  | [d1, d2, d3] => { results := [.lit (.bool true)], args := [d1, d2, d3] }
  | _ => none }
def namesPlayRow : OpenClaim := { program := "ytegpkoiggdnnmaa", sum := "45435688fa258254288db6181ad6428f7f904ea2b1a75957f7a455001bdfd3a7", func := "archipelago/archipelagolaw24.NamesPlay", spec := "namesPlay", apart := false }
def NamesPlaySaid : Prop := namesPlayRow.holds Try.pinned (OpenSpec.ofChange namesPlaySpec)

/-- ITS FALSE NEIGHBOUR: 'it returns false'. Refute it at one input. -/
def namesPlayWrong : ChangeSpec := { name := "namesPlay", fn := fun _ => fun
  | [d1, d2, d3] => { results := [.lit (.bool false)], args := [d1, d2, d3] }
  | _ => none }
def NamesPlayWrongFalsely : Prop := namesPlayRow.holds Try.pinned (OpenSpec.ofChange namesPlayWrong)

/-- 'archipelagolaw24.NamesOnce': WHATEVER THE INPUT: true; the input reads as it did. -/
def namesOnceSpec : ChangeSpec := { name := "namesOnce", fn := fun _ => fun
  | [d1, d2] => { results := [.lit (.bool true)], args := [d1, d2] }
  | _ => none }
def namesOnceRow : OpenClaim := { program := "ytegpkoiggdnnmaa", sum := "45435688fa258254288db6181ad6428f7f904ea2b1a75957f7a455001bdfd3a7", func := "archipelago/archipelagolaw24.NamesOnce", spec := "namesOnce", apart := false }
def NamesOnceSaid : Prop := namesOnceRow.holds Try.pinned (OpenSpec.ofChange namesOnceSpec)

/-- ITS FALSE NEIGHBOUR: 'it returns false'. Refute it at one input. -/
def namesOnceWrong : ChangeSpec := { name := "namesOnce", fn := fun _ => fun
  | [d1, d2] => { results := [.lit (.bool false)], args := [d1, d2] }
  | _ => none }
def NamesOnceWrongFalsely : Prop := namesOnceRow.holds Try.pinned (OpenSpec.ofChange namesOnceWrong)

/-- 'archipelagolaw24.NamesMany': WHATEVER THE INPUT: true; the input reads as it did. -/
def namesManySpec : ChangeSpec := { name := "namesMany", fn := fun _ => fun
  | [d1, d2, d3, d4] => { results := [.lit (.bool true)], args := [d1, d2, d3, d4] }
  | _ => none }
def namesManyRow : OpenClaim := { program := "ytegpkoiggdnnmaa", sum := "45435688fa258254288db6181ad6428f7f904ea2b1a75957f7a455001bdfd3a7", func := "archipelago/archipelagolaw24.NamesMany", spec := "namesMany", apart := false }
def NamesManySaid : Prop := namesManyRow.holds Try.pinned (OpenSpec.ofChange namesManySpec)

/-- ITS FALSE NEIGHBOUR: 'it returns false'. Refute it at one input. -/
def namesManyWrong : ChangeSpec := { name := "namesMany", fn := fun _ => fun
  | [d1, d2, d3, d4] => { results := [.lit (.bool false)], args := [d1, d2, d3, d4] }
  | _ => none }
def NamesManyWrongFalsely : Prop := namesManyRow.holds Try.pinned (OpenSpec.ofChange namesManyWrong)

/- THE SECOND FORM. 'bulk': how many values and letters a reading holds, each counted each time it is reached (what is shared counts as often as it is met; a slice's spare places count too). A statement '..UptoSaid' is the law's where the arguments, and the package variables that the reading takes, are together of bulk at most 1048576: NARROWER than '..Said'. Prove '..Said' where nothing that the law and all that it calls make is longer than what came in: it says more and counts as full. Else prove '..UptoSaid'. A law counts once. -/
mutual
def uptoBulk {H : Type} : DataW H → Nat
  | .lit (.string bytes) => bytes.length + 1
  | .lit _ => 1
  | .nil => 1
  | .ptr d => uptoBulk d + 1
  | .slice elems spare => uptoBulkAll elems + uptoBulkAll spare + 1
  | .agg parts => uptoBulkAll parts + 1
  | .iface _ d => uptoBulk d + 1
  | .map entries => uptoBulkEntries entries + 1
  | .held _ => 1
def uptoBulkAll {H : Type} : List (DataW H) → Nat
  | [] => 0
  | d :: r => uptoBulk d + uptoBulkAll r
def uptoBulkEntries {H : Type} : List (Lit × DataW H) → Nat
  | [] => 0
  | x :: r => uptoBulkEntry x + uptoBulkEntries r
def uptoBulkEntry {H : Type} : Lit × DataW H → Nat
  | (.string bytes, d) => bytes.length + uptoBulk d + 1
  | (_, d) => uptoBulk d + 1
 end
def uptoSmall : (H : Type) → List (DataW H) → Bool := fun _ ds => decide (uptoBulkAll ds ≤ 1048576)
def OpenSpec.upto (s : _root_.Go.ChangeSpec) : _root_.Go.OpenSpec := { _root_.Go.OpenSpec.ofChange s with cond := some uptoSmall }

/-- 'archipelagolaw24.NamesPlay', WHERE WHAT IT READS IS OF BULK AT MOST 1048576: true; the input reads as it did. -/
def namesPlayUptoRow : OpenClaim := { program := "ytegpkoiggdnnmaa", sum := "45435688fa258254288db6181ad6428f7f904ea2b1a75957f7a455001bdfd3a7", func := "archipelago/archipelagolaw24.NamesPlay", spec := "namesPlay", apart := false, narrowed := true }
def NamesPlayUptoSaid : Prop := namesPlayUptoRow.holds Try.pinned (OpenSpec.upto namesPlaySpec)

/-- 'archipelagolaw24.NamesOnce', WHERE WHAT IT READS IS OF BULK AT MOST 1048576: true; the input reads as it did. -/
def namesOnceUptoRow : OpenClaim := { program := "ytegpkoiggdnnmaa", sum := "45435688fa258254288db6181ad6428f7f904ea2b1a75957f7a455001bdfd3a7", func := "archipelago/archipelagolaw24.NamesOnce", spec := "namesOnce", apart := false, narrowed := true }
def NamesOnceUptoSaid : Prop := namesOnceUptoRow.holds Try.pinned (OpenSpec.upto namesOnceSpec)

/-- 'archipelagolaw24.NamesMany', WHERE WHAT IT READS IS OF BULK AT MOST 1048576: true; the input reads as it did. -/
def namesManyUptoRow : OpenClaim := { program := "ytegpkoiggdnnmaa", sum := "45435688fa258254288db6181ad6428f7f904ea2b1a75957f7a455001bdfd3a7", func := "archipelago/archipelagolaw24.NamesMany", spec := "namesMany", apart := false, narrowed := true }
def NamesManyUptoSaid : Prop := namesManyUptoRow.holds Try.pinned (OpenSpec.upto namesManySpec)

end Rows
end Go.Proofs.Ytegpkoiggdnnmaa
