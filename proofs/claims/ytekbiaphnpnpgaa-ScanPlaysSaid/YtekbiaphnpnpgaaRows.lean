/-
  No cell of these rows narrows 'for every input' (looked for: loops, veiled, ifaces, maps, wideKeys, modest, calm, conditions, laid).
  DERIVED. THE GIVEN ROWS OF THIS SEAT. 5 by the template 'for every input the law returns true; each argument reads behind the call as it read before'; 0 by the template 'total and deterministic' (their statements: YtekbiaphnpnpgaaTotals.lean).
  GIVEN WITH THE SEED: the statements are not yours to turn. If you find one false, say at which input.
  Laid BY PROGRAM, IN A SANDBOX (cutbox-rows.mjs): the forced cells as the released guide's own fill.sh prints them over the translation 90e16aae3c33966a… (all of the seat's roots in one cut). By AI agents, Wed Nov 11 2026. No macro, syntax, notation, axiom, sorry.
-/
import Derived.Test.YtekbiaphnpnpgaaChecked
import GoSem.Claim
import GoSem.ClaimJoined
import GoSem.ClaimMapViews
import Derived.JoinedTies
import Derived.KernelRfl
namespace Go.Proofs.Ytekbiaphnpnpgaa
/- THE CELL 'sum', in the pinned program and in every row, IS THE sha256 OF THE DUMP (.gsa) THAT YtekbiaphnpnpgaaProg.lean LOADS. Nothing in Lean hashes anything: it is a label: what it is worth is what the hold of that sum in a sandbox is worth. -/
noncomputable def Try.pinned : Pinned := { name := "ytekbiaphnpnpgaa", sum := "90e16aae3c33966a2c7f3ca7d1effbf8efc2c9ff5a40fc8cd6dfe5ed48967f46", checked := Try.checked }
namespace Rows
def none {H : Type} : Left H := { results := [], args := [] }

/-- 'archipelagolaw12.ScanNumbers': WHATEVER THE INPUT: true; the input reads as it did. -/
def scanNumbersSpec : ChangeSpec := { name := "scanNumbers", fn := fun _ => fun
  | [d1, d2, d3] => { results := [.lit (.bool true)], args := [d1, d2, d3] }
  | _ => none }
def scanNumbersRow : OpenClaim := { program := "ytekbiaphnpnpgaa", sum := "90e16aae3c33966a2c7f3ca7d1effbf8efc2c9ff5a40fc8cd6dfe5ed48967f46", func := "archipelago/archipelagolaw12.ScanNumbers", spec := "scanNumbers", recurses := true, apart := false }
def ScanNumbersSaid : Prop := scanNumbersRow.holds Try.pinned (OpenSpec.ofChange scanNumbersSpec)

/-- ITS FALSE NEIGHBOUR: 'it returns false'. Refute it at one input. -/
def scanNumbersWrong : ChangeSpec := { name := "scanNumbers", fn := fun _ => fun
  | [d1, d2, d3] => { results := [.lit (.bool false)], args := [d1, d2, d3] }
  | _ => none }
def ScanNumbersWrongFalsely : Prop := scanNumbersRow.holds Try.pinned (OpenSpec.ofChange scanNumbersWrong)

/-- 'archipelagolaw12.ScanWords': WHATEVER THE INPUT: true; the input reads as it did. -/
def scanWordsSpec : ChangeSpec := { name := "scanWords", fn := fun _ => fun
  | [d1, d2, d3, d4, d5] => { results := [.lit (.bool true)], args := [d1, d2, d3, d4, d5] }
  | _ => none }
def scanWordsRow : OpenClaim := { program := "ytekbiaphnpnpgaa", sum := "90e16aae3c33966a2c7f3ca7d1effbf8efc2c9ff5a40fc8cd6dfe5ed48967f46", func := "archipelago/archipelagolaw12.ScanWords", spec := "scanWords", apart := false }
def ScanWordsSaid : Prop := scanWordsRow.holds Try.pinned (OpenSpec.ofChange scanWordsSpec)

/-- ITS FALSE NEIGHBOUR: 'it returns false'. Refute it at one input. -/
def scanWordsWrong : ChangeSpec := { name := "scanWords", fn := fun _ => fun
  | [d1, d2, d3, d4, d5] => { results := [.lit (.bool false)], args := [d1, d2, d3, d4, d5] }
  | _ => none }
def ScanWordsWrongFalsely : Prop := scanWordsRow.holds Try.pinned (OpenSpec.ofChange scanWordsWrong)

/-- 'archipelagolaw12.ScanPlays': WHATEVER THE INPUT: true; the input reads as it did. -/
def scanPlaysSpec : ChangeSpec := { name := "scanPlays", fn := fun _ => fun
  | [d1, d2, d3] => { results := [.lit (.bool true)], args := [d1, d2, d3] }
  | _ => none }
def scanPlaysRow : OpenClaim := { program := "ytekbiaphnpnpgaa", sum := "90e16aae3c33966a2c7f3ca7d1effbf8efc2c9ff5a40fc8cd6dfe5ed48967f46", func := "archipelago/archipelagolaw12.ScanPlays", spec := "scanPlays", apart := false }
def ScanPlaysSaid : Prop := scanPlaysRow.holds Try.pinned (OpenSpec.ofChange scanPlaysSpec)

/-- ITS FALSE NEIGHBOUR: 'it returns false'. Refute it at one input. -/
def scanPlaysWrong : ChangeSpec := { name := "scanPlays", fn := fun _ => fun
  | [d1, d2, d3] => { results := [.lit (.bool false)], args := [d1, d2, d3] }
  | _ => none }
def ScanPlaysWrongFalsely : Prop := scanPlaysRow.holds Try.pinned (OpenSpec.ofChange scanPlaysWrong)

/-- 'archipelagolaw12.ScanPlaces': WHATEVER THE INPUT: true; the input reads as it did. -/
def scanPlacesSpec : ChangeSpec := { name := "scanPlaces", fn := fun _ => fun
  | [d] => { results := [.lit (.bool true)], args := [d] }
  | _ => none }
def scanPlacesRow : OpenClaim := { program := "ytekbiaphnpnpgaa", sum := "90e16aae3c33966a2c7f3ca7d1effbf8efc2c9ff5a40fc8cd6dfe5ed48967f46", func := "archipelago/archipelagolaw12.ScanPlaces", spec := "scanPlaces", apart := false }
def ScanPlacesSaid : Prop := scanPlacesRow.holds Try.pinned (OpenSpec.ofChange scanPlacesSpec)

/-- ITS FALSE NEIGHBOUR: 'it returns false'. Refute it at one input. -/
def scanPlacesWrong : ChangeSpec := { name := "scanPlaces", fn := fun _ => fun
  | [d] => { results := [.lit (.bool false)], args := [d] }
  | _ => none }
def ScanPlacesWrongFalsely : Prop := scanPlacesRow.holds Try.pinned (OpenSpec.ofChange scanPlacesWrong)

/-- 'archipelagolaw12.ScanStops': WHATEVER THE INPUT: true; the input reads as it did. -/
def scanStopsSpec : ChangeSpec := { name := "scanStops", fn := fun _ => fun
  | [d1, d2, d3, d4, d5] => { results := [.lit (.bool true)], args := [d1, d2, d3, d4, d5] }
  | _ => none }
def scanStopsRow : OpenClaim := { program := "ytekbiaphnpnpgaa", sum := "90e16aae3c33966a2c7f3ca7d1effbf8efc2c9ff5a40fc8cd6dfe5ed48967f46", func := "archipelago/archipelagolaw12.ScanStops", spec := "scanStops", apart := false }
def ScanStopsSaid : Prop := scanStopsRow.holds Try.pinned (OpenSpec.ofChange scanStopsSpec)

/-- ITS FALSE NEIGHBOUR: 'it returns false'. Refute it at one input. -/
def scanStopsWrong : ChangeSpec := { name := "scanStops", fn := fun _ => fun
  | [d1, d2, d3, d4, d5] => { results := [.lit (.bool false)], args := [d1, d2, d3, d4, d5] }
  | _ => none }
def ScanStopsWrongFalsely : Prop := scanStopsRow.holds Try.pinned (OpenSpec.ofChange scanStopsWrong)

/- THE SECOND FORM. 'bulk': how many values and letters a reading holds, each counted each time it is reached (what is shared counts as often as it is met; a slice's spare places count too). A statement '..UptoSaid' is the law's where the arguments, and the package variables that the reading takes, are together of bulk at most 1048576: NARROWER than '..Said'. Prove '..Said' where nothing that the law and all that it calls make is longer than what came in: it says more and counts as full. Else prove '..UptoSaid'. A law counts once. -/
mutual
def uptoBulk {H : Type} : DataW H → Nat
  | .lit (.string bytes) => bytes.length + 1
  | .lit _ => 1
  | .nil => 1
  | .ptr d => uptoBulk d + 1
  | .slice elems spare => uptoBulkAll elems + uptoBulkAll spare + 1
  | .agg parts => uptoBulkAll parts + 1
  | .iface _ d => uptoBulk d + 1
  | .map entries => uptoBulkEntries entries + 1
  | .held _ => 1
def uptoBulkAll {H : Type} : List (DataW H) → Nat
  | [] => 0
  | d :: r => uptoBulk d + uptoBulkAll r
def uptoBulkEntries {H : Type} : List (Lit × DataW H) → Nat
  | [] => 0
  | x :: r => uptoBulkEntry x + uptoBulkEntries r
def uptoBulkEntry {H : Type} : Lit × DataW H → Nat
  | (.string bytes, d) => bytes.length + uptoBulk d + 1
  | (_, d) => uptoBulk d + 1
 end
def uptoSmall : (H : Type) → List (DataW H) → Bool := fun _ ds => decide (uptoBulkAll ds ≤ 1048576)
def OpenSpec.upto (s : _root_.Go.ChangeSpec) : _root_.Go.OpenSpec := { _root_.Go.OpenSpec.ofChange s with cond := some uptoSmall }

/-- 'archipelagolaw12.ScanNumbers', WHERE WHAT IT READS IS OF BULK AT MOST 1048576: true; the input reads as it did. -/
def scanNumbersUptoRow : OpenClaim := { program := "ytekbiaphnpnpgaa", sum := "90e16aae3c33966a2c7f3ca7d1effbf8efc2c9ff5a40fc8cd6dfe5ed48967f46", func := "archipelago/archipelagolaw12.ScanNumbers", spec := "scanNumbers", recurses := true, apart := false, narrowed := true }
def ScanNumbersUptoSaid : Prop := scanNumbersUptoRow.holds Try.pinned (OpenSpec.upto scanNumbersSpec)

/-- 'archipelagolaw12.ScanWords', WHERE WHAT IT READS IS OF BULK AT MOST 1048576: true; the input reads as it did. -/
def scanWordsUptoRow : OpenClaim := { program := "ytekbiaphnpnpgaa", sum := "90e16aae3c33966a2c7f3ca7d1effbf8efc2c9ff5a40fc8cd6dfe5ed48967f46", func := "archipelago/archipelagolaw12.ScanWords", spec := "scanWords", apart := false, narrowed := true }
def ScanWordsUptoSaid : Prop := scanWordsUptoRow.holds Try.pinned (OpenSpec.upto scanWordsSpec)

/-- 'archipelagolaw12.ScanPlays', WHERE WHAT IT READS IS OF BULK AT MOST 1048576: true; the input reads as it did. -/
def scanPlaysUptoRow : OpenClaim := { program := "ytekbiaphnpnpgaa", sum := "90e16aae3c33966a2c7f3ca7d1effbf8efc2c9ff5a40fc8cd6dfe5ed48967f46", func := "archipelago/archipelagolaw12.ScanPlays", spec := "scanPlays", apart := false, narrowed := true }
def ScanPlaysUptoSaid : Prop := scanPlaysUptoRow.holds Try.pinned (OpenSpec.upto scanPlaysSpec)

/-- 'archipelagolaw12.ScanPlaces', WHERE WHAT IT READS IS OF BULK AT MOST 1048576: true; the input reads as it did. -/
def scanPlacesUptoRow : OpenClaim := { program := "ytekbiaphnpnpgaa", sum := "90e16aae3c33966a2c7f3ca7d1effbf8efc2c9ff5a40fc8cd6dfe5ed48967f46", func := "archipelago/archipelagolaw12.ScanPlaces", spec := "scanPlaces", apart := false, narrowed := true }
def ScanPlacesUptoSaid : Prop := scanPlacesUptoRow.holds Try.pinned (OpenSpec.upto scanPlacesSpec)

/-- 'archipelagolaw12.ScanStops', WHERE WHAT IT READS IS OF BULK AT MOST 1048576: true; the input reads as it did. -/
def scanStopsUptoRow : OpenClaim := { program := "ytekbiaphnpnpgaa", sum := "90e16aae3c33966a2c7f3ca7d1effbf8efc2c9ff5a40fc8cd6dfe5ed48967f46", func := "archipelago/archipelagolaw12.ScanStops", spec := "scanStops", apart := false, narrowed := true }
def ScanStopsUptoSaid : Prop := scanStopsUptoRow.holds Try.pinned (OpenSpec.upto scanStopsSpec)

end Rows
end Go.Proofs.Ytekbiaphnpnpgaa
