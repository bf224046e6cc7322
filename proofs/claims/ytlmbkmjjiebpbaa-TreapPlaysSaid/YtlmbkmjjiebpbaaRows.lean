/-
  No cell of these rows narrows 'for every input' (looked for: loops, veiled, ifaces, maps, wideKeys, modest, calm, conditions, laid).
  DERIVED. THE GIVEN ROWS OF THIS SEAT. 4 by the template 'for every input the law returns true; each argument reads behind the call as it read before'; 0 by the template 'total and deterministic' (their statements: YtlmbkmjjiebpbaaTotals.lean).
  GIVEN WITH THE SEED: the statements are not yours to turn. If you find one false, say at which input.
  Laid BY PROGRAM, IN A SANDBOX (cutbox-rows.mjs): the forced cells as the released guide's own fill.sh prints them over the translation b7dbd8be07418bae… (all of the seat's roots in one cut). By AI agents, Wed Nov 11 2026. No macro, syntax, notation, axiom, sorry.
-/
import Derived.Test.YtlmbkmjjiebpbaaChecked
import GoSem.Claim
import GoSem.ClaimJoined
import GoSem.ClaimMapViews
import Derived.JoinedTies
import Derived.KernelRfl
namespace Go.Proofs.Ytlmbkmjjiebpbaa
/- THE CELL 'sum', in the pinned program and in every row, IS THE sha256 OF THE DUMP (.gsa) THAT YtlmbkmjjiebpbaaProg.lean LOADS. Nothing in Lean hashes anything: it is a label: what it is worth is what the hold of that sum in a sandbox is worth. -/
noncomputable def Try.pinned : Pinned := { name := "ytlmbkmjjiebpbaa", sum := "b7dbd8be07418bae08c3c6bca8b48ca5a830b62b6e94261b3a37620f8eefd653", checked := Try.checked }
namespace Rows
def none {H : Type} : Left H := { results := [], args := [] }

/-- 'archipelagolaw21.TreapPlays': WHATEVER THE INPUT: true; the input reads as it did. -/
def treapPlaysSpec : ChangeSpec := { name := "treapPlays", fn := fun _ => fun
  | [d1, d2] => { results := [.lit (.bool true)], args := [d1, d2] }
  | _ => none }
def treapPlaysRow : OpenClaim := { program := "ytlmbkmjjiebpbaa", sum := "b7dbd8be07418bae08c3c6bca8b48ca5a830b62b6e94261b3a37620f8eefd653", func := "archipelago/archipelagolaw21.TreapPlays", spec := "treapPlays", recurses := true, apart := false }
def TreapPlaysSaid : Prop := treapPlaysRow.holds Try.pinned (OpenSpec.ofChange treapPlaysSpec)

/-- ITS FALSE NEIGHBOUR: 'it returns false'. Refute it at one input. -/
def treapPlaysWrong : ChangeSpec := { name := "treapPlays", fn := fun _ => fun
  | [d1, d2] => { results := [.lit (.bool false)], args := [d1, d2] }
  | _ => none }
def TreapPlaysWrongFalsely : Prop := treapPlaysRow.holds Try.pinned (OpenSpec.ofChange treapPlaysWrong)

/-- 'archipelagolaw21.TreapTurns': WHATEVER THE INPUT: true; the input reads as it did. -/
def treapTurnsSpec : ChangeSpec := { name := "treapTurns", fn := fun _ => fun
  | [d1, d2, d3] => { results := [.lit (.bool true)], args := [d1, d2, d3] }
  | _ => none }
def treapTurnsRow : OpenClaim := { program := "ytlmbkmjjiebpbaa", sum := "b7dbd8be07418bae08c3c6bca8b48ca5a830b62b6e94261b3a37620f8eefd653", func := "archipelago/archipelagolaw21.TreapTurns", spec := "treapTurns", recurses := true, apart := false }
def TreapTurnsSaid : Prop := treapTurnsRow.holds Try.pinned (OpenSpec.ofChange treapTurnsSpec)

/-- ITS FALSE NEIGHBOUR: 'it returns false'. Refute it at one input. -/
def treapTurnsWrong : ChangeSpec := { name := "treapTurns", fn := fun _ => fun
  | [d1, d2, d3] => { results := [.lit (.bool false)], args := [d1, d2, d3] }
  | _ => none }
def TreapTurnsWrongFalsely : Prop := treapTurnsRow.holds Try.pinned (OpenSpec.ofChange treapTurnsWrong)

/-- 'archipelagolaw21.TreapSeeds': WHATEVER THE INPUT: true; the input reads as it did. -/
def treapSeedsSpec : ChangeSpec := { name := "treapSeeds", fn := fun _ => fun
  | [d1, d2, d3] => { results := [.lit (.bool true)], args := [d1, d2, d3] }
  | _ => none }
def treapSeedsRow : OpenClaim := { program := "ytlmbkmjjiebpbaa", sum := "b7dbd8be07418bae08c3c6bca8b48ca5a830b62b6e94261b3a37620f8eefd653", func := "archipelago/archipelagolaw21.TreapSeeds", spec := "treapSeeds", recurses := true, apart := false }
def TreapSeedsSaid : Prop := treapSeedsRow.holds Try.pinned (OpenSpec.ofChange treapSeedsSpec)

/-- ITS FALSE NEIGHBOUR: 'it returns false'. Refute it at one input. -/
def treapSeedsWrong : ChangeSpec := { name := "treapSeeds", fn := fun _ => fun
  | [d1, d2, d3] => { results := [.lit (.bool false)], args := [d1, d2, d3] }
  | _ => none }
def TreapSeedsWrongFalsely : Prop := treapSeedsRow.holds Try.pinned (OpenSpec.ofChange treapSeedsWrong)

/-- 'archipelagolaw21.TreapMiddles': WHATEVER THE INPUT: true; the input reads as it did. -/
def treapMiddlesSpec : ChangeSpec := { name := "treapMiddles", fn := fun _ => fun
  | [d1, d2, d3, d4] => { results := [.lit (.bool true)], args := [d1, d2, d3, d4] }
  | _ => none }
def treapMiddlesRow : OpenClaim := { program := "ytlmbkmjjiebpbaa", sum := "b7dbd8be07418bae08c3c6bca8b48ca5a830b62b6e94261b3a37620f8eefd653", func := "archipelago/archipelagolaw21.TreapMiddles", spec := "treapMiddles", recurses := true, apart := false }
def TreapMiddlesSaid : Prop := treapMiddlesRow.holds Try.pinned (OpenSpec.ofChange treapMiddlesSpec)

/-- ITS FALSE NEIGHBOUR: 'it returns false'. Refute it at one input. -/
def treapMiddlesWrong : ChangeSpec := { name := "treapMiddles", fn := fun _ => fun
  | [d1, d2, d3, d4] => { results := [.lit (.bool false)], args := [d1, d2, d3, d4] }
  | _ => none }
def TreapMiddlesWrongFalsely : Prop := treapMiddlesRow.holds Try.pinned (OpenSpec.ofChange treapMiddlesWrong)

/- THE SECOND FORM. 'bulk': how many values and letters a reading holds, each counted each time it is reached (what is shared counts as often as it is met; a slice's spare places count too). A statement '..UptoSaid' is the law's where the arguments, and the package variables that the reading takes, are together of bulk at most 1048576: NARROWER than '..Said'. Prove '..Said' where nothing that the law and all that it calls make is longer than what came in: it says more and counts as full. Else prove '..UptoSaid'. A law counts once. -/
mutual
def uptoBulk {H : Type} : DataW H → Nat
  | .lit (.string bytes) => bytes.length + 1
  | .lit _ => 1
  | .nil => 1
  | .ptr d => uptoBulk d + 1
  | .slice elems spare => uptoBulkAll elems + uptoBulkAll spare + 1
  | .agg parts => uptoBulkAll parts + 1
  | .iface _ d => uptoBulk d + 1
  | .map entries => uptoBulkEntries entries + 1
  | .held _ => 1
def uptoBulkAll {H : Type} : List (DataW H) → Nat
  | [] => 0
  | d :: r => uptoBulk d + uptoBulkAll r
def uptoBulkEntries {H : Type} : List (Lit × DataW H) → Nat
  | [] => 0
  | x :: r => uptoBulkEntry x + uptoBulkEntries r
def uptoBulkEntry {H : Type} : Lit × DataW H → Nat
  | (.string bytes, d) => bytes.length + uptoBulk d + 1
  | (_, d) => uptoBulk d + 1
 end
def uptoSmall : (H : Type) → List (DataW H) → Bool := fun _ ds => decide (uptoBulkAll ds ≤ 1048576)
def OpenSpec.upto (s : _root_.Go.ChangeSpec) : _root_.Go.OpenSpec := { _root_.Go.OpenSpec.ofChange s with cond := some uptoSmall }

/-- 'archipelagolaw21.TreapPlays', WHERE WHAT IT READS IS OF BULK AT MOST 1048576: true; the input reads as it did. -/
def treapPlaysUptoRow : OpenClaim := { program := "ytlmbkmjjiebpbaa", sum := "b7dbd8be07418bae08c3c6bca8b48ca5a830b62b6e94261b3a37620f8eefd653", func := "archipelago/archipelagolaw21.TreapPlays", spec := "treapPlays", recurses := true, apart := false, narrowed := true }
def TreapPlaysUptoSaid : Prop := treapPlaysUptoRow.holds Try.pinned (OpenSpec.upto treapPlaysSpec)

/-- 'archipelagolaw21.TreapTurns', WHERE WHAT IT READS IS OF BULK AT MOST 1048576: true; the input reads as it did. -/
def treapTurnsUptoRow : OpenClaim := { program := "ytlmbkmjjiebpbaa", sum := "b7dbd8be07418bae08c3c6bca8b48ca5a830b62b6e94261b3a37620f8eefd653", func := "archipelago/archipelagolaw21.TreapTurns", spec := "treapTurns", recurses := true, apart := false, narrowed := true }
def TreapTurnsUptoSaid : Prop := treapTurnsUptoRow.holds Try.pinned (OpenSpec.upto treapTurnsSpec)

/-- 'archipelagolaw21.TreapSeeds', WHERE WHAT IT READS IS OF BULK AT MOST 1048576: true; the input reads as it did. -/
def treapSeedsUptoRow : OpenClaim := { program := "ytlmbkmjjiebpbaa", sum := "b7dbd8be07418bae08c3c6bca8b48ca5a830b62b6e94261b3a37620f8eefd653", func := "archipelago/archipelagolaw21.TreapSeeds", spec := "treapSeeds", recurses := true, apart := false, narrowed := true }
def TreapSeedsUptoSaid : Prop := treapSeedsUptoRow.holds Try.pinned (OpenSpec.upto treapSeedsSpec)

/-- 'archipelagolaw21.TreapMiddles', WHERE WHAT IT READS IS OF BULK AT MOST 1048576: true; the input reads as it did. -/
def treapMiddlesUptoRow : OpenClaim := { program := "ytlmbkmjjiebpbaa", sum := "b7dbd8be07418bae08c3c6bca8b48ca5a830b62b6e94261b3a37620f8eefd653", func := "archipelago/archipelagolaw21.TreapMiddles", spec := "treapMiddles", recurses := true, apart := false, narrowed := true }
def TreapMiddlesUptoSaid : Prop := treapMiddlesUptoRow.holds Try.pinned (OpenSpec.upto treapMiddlesSpec)

end Rows
end Go.Proofs.Ytlmbkmjjiebpbaa
