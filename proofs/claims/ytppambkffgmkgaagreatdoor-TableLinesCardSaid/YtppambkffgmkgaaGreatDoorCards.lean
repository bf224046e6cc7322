/-
  DERIVED. GIVEN WITH THE SEED: THE CARDS: each row of YtppambkffgmkgaaGreatDoorRows.lean that lists a variable, with what it lists TIED to the program's text (the seventh form; the later family's looks); each row that meets fmt, with fmt's text TOLD by the authors' own Lean function (tested against real Go, not proved from fmt's source: count such statements apart). THE CARD IS WHAT COUNTS. Prove the row's statement (the work); the ties are given (YtppambkffgmkgaaGreatDoorTie.lean); close each card by the builder's one call (the guide's Derived/Test/ToyasCard.lean, 'card_holds'). Laid BY PROGRAM, IN A SANDBOX (cutbox-door.mjs). By AI agents, Wed Nov 11 2026. No macro, syntax, notation, axiom, sorry.
-/
import Derived.Test.YtppambkffgmkgaaGreatDoorRows
import GoSem.ClaimSeven
namespace Go.Proofs.YtppambkffgmkgaaGreatDoor
namespace Rows

/-- THE TIED CARD OF 'archipelagolaw14.TablePrints'. -/
def tablePrintsCard : Claim7 := { stood := { row := tablePrintsRow, standIns := [], harness := (true, "8d675076947df6deb12377f10b3fafd3ffa3f3adeefb216f5fe68e01e1567512"), looks := false }, kinds := [], alts := [], laidByText := true, laidKinds := [.data, .data, .data], laidTests := true, laidLooks := .later }
def TablePrintsCardSaid : Prop := Claim7.holds Tryz.pinned (.plain (OpenSpec.ofChange tablePrintsSpec)) tablePrintsCard

/-- THE TIED CARD OF 'archipelagolaw14.TableReads'. -/
def tableReadsCard : Claim7 := { stood := { row := tableReadsRow, standIns := [], harness := (true, "8d675076947df6deb12377f10b3fafd3ffa3f3adeefb216f5fe68e01e1567512"), looks := false }, kinds := [], alts := [], laidByText := true, laidKinds := [.data, .data, .data], laidTests := true, laidLooks := .later }
def TableReadsCardSaid : Prop := Claim7.holds Tryz.pinned (.plain (OpenSpec.ofChange tableReadsSpec)) tableReadsCard

/-- THE TIED CARD OF 'archipelagolaw14.TableLines'. -/
def tableLinesCard : Claim7 := { stood := { row := tableLinesRow, standIns := [], harness := (true, "8d675076947df6deb12377f10b3fafd3ffa3f3adeefb216f5fe68e01e1567512"), looks := false }, kinds := [], alts := [], laidByText := true, laidKinds := [.data, .data, .data], laidTests := true, laidLooks := .later }
def TableLinesCardSaid : Prop := Claim7.holds Tryz.pinned (.plain (OpenSpec.ofChange tableLinesSpec)) tableLinesCard

/-- THE SECOND FORM's CARD OF 'archipelagolaw14.TablePrints'. -/
def tablePrintsUptoCard : Claim7 := { stood := { row := tablePrintsUptoRow, standIns := [], harness := (true, "8d675076947df6deb12377f10b3fafd3ffa3f3adeefb216f5fe68e01e1567512"), looks := false }, kinds := [], alts := [], laidByText := true, laidKinds := [.data, .data, .data], laidTests := true, laidLooks := .later }
def TablePrintsUptoCardSaid : Prop := Claim7.holds Tryz.pinned (.plain (OpenSpec.upto tablePrintsSpec)) tablePrintsUptoCard

/-- THE SECOND FORM's CARD OF 'archipelagolaw14.TableReads'. -/
def tableReadsUptoCard : Claim7 := { stood := { row := tableReadsUptoRow, standIns := [], harness := (true, "8d675076947df6deb12377f10b3fafd3ffa3f3adeefb216f5fe68e01e1567512"), looks := false }, kinds := [], alts := [], laidByText := true, laidKinds := [.data, .data, .data], laidTests := true, laidLooks := .later }
def TableReadsUptoCardSaid : Prop := Claim7.holds Tryz.pinned (.plain (OpenSpec.upto tableReadsSpec)) tableReadsUptoCard

/-- THE SECOND FORM's CARD OF 'archipelagolaw14.TableLines'. -/
def tableLinesUptoCard : Claim7 := { stood := { row := tableLinesUptoRow, standIns := [], harness := (true, "8d675076947df6deb12377f10b3fafd3ffa3f3adeefb216f5fe68e01e1567512"), looks := false }, kinds := [], alts := [], laidByText := true, laidKinds := [.data, .data, .data], laidTests := true, laidLooks := .later }
def TableLinesUptoCardSaid : Prop := Claim7.holds Tryz.pinned (.plain (OpenSpec.upto tableLinesSpec)) tableLinesUptoCard
end Rows
end Go.Proofs.YtppambkffgmkgaaGreatDoor
