/-
  No cell of these rows narrows 'for every input' (looked for: loops, veiled, ifaces, maps, wideKeys, modest, calm, conditions, laid).
  DERIVED. THE GIVEN ROWS OF THIS SEAT. 5 by the template 'for every input the law returns true; each argument reads behind the call as it read before'; 0 by the template 'total and deterministic' (their statements: YthncgmmfnghliaaTotals.lean).
  GIVEN WITH THE SEED: the statements are not yours to turn. If you find one false, say at which input.
  Laid BY PROGRAM, IN A SANDBOX (cutbox-rows.mjs): the forced cells as the released guide's own fill.sh prints them over the translation 128352af6c867e96… (all of the seat's roots in one cut). By AI agents, Wed Nov 11 2026. No macro, syntax, notation, axiom, sorry.
-/
import Derived.Test.YthncgmmfnghliaaChecked
import GoSem.Claim
import GoSem.ClaimJoined
import GoSem.ClaimMapViews
import Derived.JoinedTies
import Derived.KernelRfl
namespace Go.Proofs.Ythncgmmfnghliaa
/- THE CELL 'sum', in the pinned program and in every row, IS THE sha256 OF THE DUMP (.gsa) THAT YthncgmmfnghliaaProg.lean LOADS. Nothing in Lean hashes anything: it is a label: what it is worth is what the hold of that sum in a sandbox is worth. -/
noncomputable def Try.pinned : Pinned := { name := "ythncgmmfnghliaa", sum := "128352af6c867e963b27e5bca8b78cca56b933f1f03fdbbc254348ee724a6240", checked := Try.checked }
namespace Rows
def none {H : Type} : Left H := { results := [], args := [] }

/-- 'archipelagolaw10.LifeTells': WHATEVER THE INPUT: true; the input reads as it did. -/
def lifeTellsSpec : ChangeSpec := { name := "lifeTells", fn := fun _ => fun
  | [d1, d2, d3, d4, d5, d6] => { results := [.lit (.bool true)], args := [d1, d2, d3, d4, d5, d6] }
  | _ => none }
def lifeTellsRow : OpenClaim := { program := "ythncgmmfnghliaa", sum := "128352af6c867e963b27e5bca8b78cca56b933f1f03fdbbc254348ee724a6240", func := "archipelago/archipelagolaw10.LifeTells", spec := "lifeTells", unfollowed := true, recurses := true, plainKeys := false, apart := false }
def LifeTellsSaid : Prop := lifeTellsRow.holds Try.pinned (OpenSpec.ofChange lifeTellsSpec)

/-- ITS FALSE NEIGHBOUR: 'it returns false'. Refute it at one input. -/
def lifeTellsWrong : ChangeSpec := { name := "lifeTells", fn := fun _ => fun
  | [d1, d2, d3, d4, d5, d6] => { results := [.lit (.bool false)], args := [d1, d2, d3, d4, d5, d6] }
  | _ => none }
def LifeTellsWrongFalsely : Prop := lifeTellsRow.holds Try.pinned (OpenSpec.ofChange lifeTellsWrong)

/-- 'archipelagolaw10.LifeBacks': WHATEVER THE INPUT: true; the input reads as it did. -/
def lifeBacksSpec : ChangeSpec := { name := "lifeBacks", fn := fun _ => fun
  | [d1, d2, d3, d4, d5, d6, d7] => { results := [.lit (.bool true)], args := [d1, d2, d3, d4, d5, d6, d7] }
  | _ => none }
def lifeBacksRow : OpenClaim := { program := "ythncgmmfnghliaa", sum := "128352af6c867e963b27e5bca8b78cca56b933f1f03fdbbc254348ee724a6240", func := "archipelago/archipelagolaw10.LifeBacks", spec := "lifeBacks", unfollowed := true, recurses := true, plainKeys := false, apart := false }
def LifeBacksSaid : Prop := lifeBacksRow.holds Try.pinned (OpenSpec.ofChange lifeBacksSpec)

/-- ITS FALSE NEIGHBOUR: 'it returns false'. Refute it at one input. -/
def lifeBacksWrong : ChangeSpec := { name := "lifeBacks", fn := fun _ => fun
  | [d1, d2, d3, d4, d5, d6, d7] => { results := [.lit (.bool false)], args := [d1, d2, d3, d4, d5, d6, d7] }
  | _ => none }
def LifeBacksWrongFalsely : Prop := lifeBacksRow.holds Try.pinned (OpenSpec.ofChange lifeBacksWrong)

/-- 'archipelagolaw10.LifeThere': WHATEVER THE INPUT: true; the input reads as it did. -/
def lifeThereSpec : ChangeSpec := { name := "lifeThere", fn := fun _ => fun
  | [d1, d2, d3, d4, d5] => { results := [.lit (.bool true)], args := [d1, d2, d3, d4, d5] }
  | _ => none }
def lifeThereRow : OpenClaim := { program := "ythncgmmfnghliaa", sum := "128352af6c867e963b27e5bca8b78cca56b933f1f03fdbbc254348ee724a6240", func := "archipelago/archipelagolaw10.LifeThere", spec := "lifeThere", unfollowed := true, recurses := true, plainKeys := false, apart := false }
def LifeThereSaid : Prop := lifeThereRow.holds Try.pinned (OpenSpec.ofChange lifeThereSpec)

/-- ITS FALSE NEIGHBOUR: 'it returns false'. Refute it at one input. -/
def lifeThereWrong : ChangeSpec := { name := "lifeThere", fn := fun _ => fun
  | [d1, d2, d3, d4, d5] => { results := [.lit (.bool false)], args := [d1, d2, d3, d4, d5] }
  | _ => none }
def LifeThereWrongFalsely : Prop := lifeThereRow.holds Try.pinned (OpenSpec.ofChange lifeThereWrong)

/-- 'archipelagolaw10.LifeCounts': WHATEVER THE INPUT: true; the input reads as it did. -/
def lifeCountsSpec : ChangeSpec := { name := "lifeCounts", fn := fun _ => fun
  | [d1, d2] => { results := [.lit (.bool true)], args := [d1, d2] }
  | _ => none }
def lifeCountsRow : OpenClaim := { program := "ythncgmmfnghliaa", sum := "128352af6c867e963b27e5bca8b78cca56b933f1f03fdbbc254348ee724a6240", func := "archipelago/archipelagolaw10.LifeCounts", spec := "lifeCounts", unfollowed := true, recurses := true, plainKeys := false, apart := false }
def LifeCountsSaid : Prop := lifeCountsRow.holds Try.pinned (OpenSpec.ofChange lifeCountsSpec)

/-- ITS FALSE NEIGHBOUR: 'it returns false'. Refute it at one input. -/
def lifeCountsWrong : ChangeSpec := { name := "lifeCounts", fn := fun _ => fun
  | [d1, d2] => { results := [.lit (.bool false)], args := [d1, d2] }
  | _ => none }
def LifeCountsWrongFalsely : Prop := lifeCountsRow.holds Try.pinned (OpenSpec.ofChange lifeCountsWrong)

/-- 'archipelagolaw10.LifeTouch': WHATEVER THE INPUT: true; the input reads as it did. -/
def lifeTouchSpec : ChangeSpec := { name := "lifeTouch", fn := fun _ => fun
  | [d1, d2, d3, d4, d5] => { results := [.lit (.bool true)], args := [d1, d2, d3, d4, d5] }
  | _ => none }
def lifeTouchRow : OpenClaim := { program := "ythncgmmfnghliaa", sum := "128352af6c867e963b27e5bca8b78cca56b933f1f03fdbbc254348ee724a6240", func := "archipelago/archipelagolaw10.LifeTouch", spec := "lifeTouch", unfollowed := true, recurses := true, plainKeys := false, apart := false }
def LifeTouchSaid : Prop := lifeTouchRow.holds Try.pinned (OpenSpec.ofChange lifeTouchSpec)

/-- ITS FALSE NEIGHBOUR: 'it returns false'. Refute it at one input. -/
def lifeTouchWrong : ChangeSpec := { name := "lifeTouch", fn := fun _ => fun
  | [d1, d2, d3, d4, d5] => { results := [.lit (.bool false)], args := [d1, d2, d3, d4, d5] }
  | _ => none }
def LifeTouchWrongFalsely : Prop := lifeTouchRow.holds Try.pinned (OpenSpec.ofChange lifeTouchWrong)

/- THE SECOND FORM. 'bulk': how many values and letters a reading holds, each counted each time it is reached (what is shared counts as often as it is met; a slice's spare places count too). A statement '..UptoSaid' is the law's where the arguments, and the package variables that the reading takes, are together of bulk at most 1048576: NARROWER than '..Said'. Prove '..Said' where nothing that the law and all that it calls make is longer than what came in: it says more and counts as full. Else prove '..UptoSaid'. A law counts once. -/
mutual
def uptoBulk {H : Type} : DataW H → Nat
  | .lit (.string bytes) => bytes.length + 1
  | .lit _ => 1
  | .nil => 1
  | .ptr d => uptoBulk d + 1
  | .slice elems spare => uptoBulkAll elems + uptoBulkAll spare + 1
  | .agg parts => uptoBulkAll parts + 1
  | .iface _ d => uptoBulk d + 1
  | .map entries => uptoBulkEntries entries + 1
  | .held _ => 1
def uptoBulkAll {H : Type} : List (DataW H) → Nat
  | [] => 0
  | d :: r => uptoBulk d + uptoBulkAll r
def uptoBulkEntries {H : Type} : List (Lit × DataW H) → Nat
  | [] => 0
  | x :: r => uptoBulkEntry x + uptoBulkEntries r
def uptoBulkEntry {H : Type} : Lit × DataW H → Nat
  | (.string bytes, d) => bytes.length + uptoBulk d + 1
  | (_, d) => uptoBulk d + 1
 end
def uptoSmall : (H : Type) → List (DataW H) → Bool := fun _ ds => decide (uptoBulkAll ds ≤ 1048576)
def OpenSpec.upto (s : _root_.Go.ChangeSpec) : _root_.Go.OpenSpec := { _root_.Go.OpenSpec.ofChange s with cond := some uptoSmall }

/-- 'archipelagolaw10.LifeTells', WHERE WHAT IT READS IS OF BULK AT MOST 1048576: true; the input reads as it did. -/
def lifeTellsUptoRow : OpenClaim := { program := "ythncgmmfnghliaa", sum := "128352af6c867e963b27e5bca8b78cca56b933f1f03fdbbc254348ee724a6240", func := "archipelago/archipelagolaw10.LifeTells", spec := "lifeTells", unfollowed := true, recurses := true, plainKeys := false, apart := false, narrowed := true }
def LifeTellsUptoSaid : Prop := lifeTellsUptoRow.holds Try.pinned (OpenSpec.upto lifeTellsSpec)

/-- 'archipelagolaw10.LifeBacks', WHERE WHAT IT READS IS OF BULK AT MOST 1048576: true; the input reads as it did. -/
def lifeBacksUptoRow : OpenClaim := { program := "ythncgmmfnghliaa", sum := "128352af6c867e963b27e5bca8b78cca56b933f1f03fdbbc254348ee724a6240", func := "archipelago/archipelagolaw10.LifeBacks", spec := "lifeBacks", unfollowed := true, recurses := true, plainKeys := false, apart := false, narrowed := true }
def LifeBacksUptoSaid : Prop := lifeBacksUptoRow.holds Try.pinned (OpenSpec.upto lifeBacksSpec)

/-- 'archipelagolaw10.LifeThere', WHERE WHAT IT READS IS OF BULK AT MOST 1048576: true; the input reads as it did. -/
def lifeThereUptoRow : OpenClaim := { program := "ythncgmmfnghliaa", sum := "128352af6c867e963b27e5bca8b78cca56b933f1f03fdbbc254348ee724a6240", func := "archipelago/archipelagolaw10.LifeThere", spec := "lifeThere", unfollowed := true, recurses := true, plainKeys := false, apart := false, narrowed := true }
def LifeThereUptoSaid : Prop := lifeThereUptoRow.holds Try.pinned (OpenSpec.upto lifeThereSpec)

/-- 'archipelagolaw10.LifeCounts', WHERE WHAT IT READS IS OF BULK AT MOST 1048576: true; the input reads as it did. -/
def lifeCountsUptoRow : OpenClaim := { program := "ythncgmmfnghliaa", sum := "128352af6c867e963b27e5bca8b78cca56b933f1f03fdbbc254348ee724a6240", func := "archipelago/archipelagolaw10.LifeCounts", spec := "lifeCounts", unfollowed := true, recurses := true, plainKeys := false, apart := false, narrowed := true }
def LifeCountsUptoSaid : Prop := lifeCountsUptoRow.holds Try.pinned (OpenSpec.upto lifeCountsSpec)

/-- 'archipelagolaw10.LifeTouch', WHERE WHAT IT READS IS OF BULK AT MOST 1048576: true; the input reads as it did. -/
def lifeTouchUptoRow : OpenClaim := { program := "ythncgmmfnghliaa", sum := "128352af6c867e963b27e5bca8b78cca56b933f1f03fdbbc254348ee724a6240", func := "archipelago/archipelagolaw10.LifeTouch", spec := "lifeTouch", unfollowed := true, recurses := true, plainKeys := false, apart := false, narrowed := true }
def LifeTouchUptoSaid : Prop := lifeTouchUptoRow.holds Try.pinned (OpenSpec.upto lifeTouchSpec)

end Rows
end Go.Proofs.Ythncgmmfnghliaa
