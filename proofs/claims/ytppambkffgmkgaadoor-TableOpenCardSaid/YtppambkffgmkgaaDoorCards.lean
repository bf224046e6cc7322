/-
  DERIVED. GIVEN WITH THE SEED: THE CARDS: each row of YtppambkffgmkgaaDoorRows.lean that lists a variable, with what it lists TIED to the program's text (the seventh form; the later family's looks); each row that meets fmt, with fmt's text TOLD by the authors' own Lean function (tested against real Go, not proved from fmt's source: count such statements apart). THE CARD IS WHAT COUNTS. Prove the row's statement (the work); the ties are given (YtppambkffgmkgaaDoorTie.lean); close each card by the builder's one call (the guide's Derived/Test/ToyasCard.lean, 'card_holds'). Laid BY PROGRAM, IN A SANDBOX (cutbox-door.mjs). By AI agents, Wed Nov 11 2026. No macro, syntax, notation, axiom, sorry.
-/
import Derived.Test.YtppambkffgmkgaaDoorRows
import GoSem.ClaimSeven
namespace Go.Proofs.YtppambkffgmkgaaDoor
namespace Rows

/-- THE TIED CARD OF 'archipelagolaw14.TableCuts'. -/
def tableCutsCard : Claim7 := { stood := { row := tableCutsRow, standIns := [], harness := (true, "ad4e766c13256ef5a48ba90a5fedb7a25d987e1ecc809100f16a93ce017a99fe"), looks := false }, kinds := [], alts := [], laidByText := true, laidKinds := [.data, .data, .data], laidTests := true, laidLooks := .later }
def TableCutsCardSaid : Prop := Claim7.holds Tryd.pinned (.plain (OpenSpec.ofChange tableCutsSpec)) tableCutsCard

/-- THE TIED CARD OF 'archipelagolaw14.TableOpen'. -/
def tableOpenCard : Claim7 := { stood := { row := tableOpenRow, standIns := [], harness := (true, "ad4e766c13256ef5a48ba90a5fedb7a25d987e1ecc809100f16a93ce017a99fe"), looks := false }, kinds := [], alts := [], laidByText := true, laidKinds := [.data, .data, .data], laidTests := true, laidLooks := .later }
def TableOpenCardSaid : Prop := Claim7.holds Tryd.pinned (.plain (OpenSpec.ofChange tableOpenSpec)) tableOpenCard

/-- THE SECOND FORM's CARD OF 'archipelagolaw14.TableCuts'. -/
def tableCutsUptoCard : Claim7 := { stood := { row := tableCutsUptoRow, standIns := [], harness := (true, "ad4e766c13256ef5a48ba90a5fedb7a25d987e1ecc809100f16a93ce017a99fe"), looks := false }, kinds := [], alts := [], laidByText := true, laidKinds := [.data, .data, .data], laidTests := true, laidLooks := .later }
def TableCutsUptoCardSaid : Prop := Claim7.holds Tryd.pinned (.plain (OpenSpec.upto tableCutsSpec)) tableCutsUptoCard

/-- THE SECOND FORM's CARD OF 'archipelagolaw14.TableOpen'. -/
def tableOpenUptoCard : Claim7 := { stood := { row := tableOpenUptoRow, standIns := [], harness := (true, "ad4e766c13256ef5a48ba90a5fedb7a25d987e1ecc809100f16a93ce017a99fe"), looks := false }, kinds := [], alts := [], laidByText := true, laidKinds := [.data, .data, .data], laidTests := true, laidLooks := .later }
def TableOpenUptoCardSaid : Prop := Claim7.holds Tryd.pinned (.plain (OpenSpec.upto tableOpenSpec)) tableOpenUptoCard
end Rows
end Go.Proofs.YtppambkffgmkgaaDoor
