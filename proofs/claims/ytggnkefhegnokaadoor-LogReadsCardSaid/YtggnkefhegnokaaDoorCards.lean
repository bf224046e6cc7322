/-
  DERIVED. GIVEN WITH THE SEED: THE CARDS: each row of YtggnkefhegnokaaDoorRows.lean that lists a variable, with what it lists TIED to the program's text (the seventh form; the later family's looks); each row that meets fmt, with fmt's text TOLD by the authors' own Lean function (tested against real Go, not proved from fmt's source: count such statements apart). THE CARD IS WHAT COUNTS. Prove the row's statement (the work); the ties are given (YtggnkefhegnokaaDoorTie.lean); close each card by the builder's one call (the guide's Derived/Test/ToyasCard.lean, 'card_holds'). Laid BY PROGRAM, IN A SANDBOX (cutbox-door.mjs). By AI agents, Wed Nov 11 2026. No macro, syntax, notation, axiom, sorry.
-/
import Derived.Test.YtggnkefhegnokaaDoorRows
import GoSem.ClaimSeven
namespace Go.Proofs.YtggnkefhegnokaaDoor
namespace Rows

/-- THE TIED CARD OF 'archipelagolaw13.LogPrints'. -/
def logPrintsCard : Claim7 := { stood := { row := logPrintsRow, standIns := [], harness := (true, "221fe0ebced1bb9049c60bad86090ca340e34bf3604a33005c494b8dbc49ba41"), looks := false }, kinds := [], alts := [], laidByText := true, laidKinds := [.data, .data, .data], laidTests := true, laidLooks := .later }
def LogPrintsCardSaid : Prop := Claim7.holds Tryd.pinned (.plain (OpenSpec.ofChange logPrintsSpec)) logPrintsCard

/-- THE TIED CARD OF 'archipelagolaw13.LogReads'. -/
def logReadsCard : Claim7 := { stood := { row := logReadsRow, standIns := [], harness := (true, "221fe0ebced1bb9049c60bad86090ca340e34bf3604a33005c494b8dbc49ba41"), looks := false }, kinds := [], alts := [], laidByText := true, laidKinds := [.data, .data, .data], laidTests := true, laidLooks := .later }
def LogReadsCardSaid : Prop := Claim7.holds Tryd.pinned (.plain (OpenSpec.ofChange logReadsSpec)) logReadsCard

/-- THE TIED CARD OF 'archipelagolaw13.LogCuts'. -/
def logCutsCard : Claim7 := { stood := { row := logCutsRow, standIns := [], harness := (true, "221fe0ebced1bb9049c60bad86090ca340e34bf3604a33005c494b8dbc49ba41"), looks := false }, kinds := [], alts := [], laidByText := true, laidKinds := [.data, .data, .data], laidTests := true, laidLooks := .later }
def LogCutsCardSaid : Prop := Claim7.holds Tryd.pinned (.plain (OpenSpec.ofChange logCutsSpec)) logCutsCard

/-- THE TIED CARD OF 'archipelagolaw13.LogLines'. -/
def logLinesCard : Claim7 := { stood := { row := logLinesRow, standIns := [], harness := (true, "221fe0ebced1bb9049c60bad86090ca340e34bf3604a33005c494b8dbc49ba41"), looks := false }, kinds := [], alts := [], laidByText := true, laidKinds := [.data, .data, .data], laidTests := true, laidLooks := .later }
def LogLinesCardSaid : Prop := Claim7.holds Tryd.pinned (.plain (OpenSpec.ofChange logLinesSpec)) logLinesCard

/-- THE TIED CARD OF 'archipelagolaw13.LogTies'. -/
def logTiesCard : Claim7 := { stood := { row := logTiesRow, standIns := [], harness := (true, "221fe0ebced1bb9049c60bad86090ca340e34bf3604a33005c494b8dbc49ba41"), looks := false }, kinds := [], alts := [], laidByText := true, laidKinds := [.data, .data, .data], laidTests := true, laidLooks := .later }
def LogTiesCardSaid : Prop := Claim7.holds Tryd.pinned (.plain (OpenSpec.ofChange logTiesSpec)) logTiesCard

/-- THE SECOND FORM's CARD OF 'archipelagolaw13.LogPrints'. -/
def logPrintsUptoCard : Claim7 := { stood := { row := logPrintsUptoRow, standIns := [], harness := (true, "221fe0ebced1bb9049c60bad86090ca340e34bf3604a33005c494b8dbc49ba41"), looks := false }, kinds := [], alts := [], laidByText := true, laidKinds := [.data, .data, .data], laidTests := true, laidLooks := .later }
def LogPrintsUptoCardSaid : Prop := Claim7.holds Tryd.pinned (.plain (OpenSpec.upto logPrintsSpec)) logPrintsUptoCard

/-- THE SECOND FORM's CARD OF 'archipelagolaw13.LogReads'. -/
def logReadsUptoCard : Claim7 := { stood := { row := logReadsUptoRow, standIns := [], harness := (true, "221fe0ebced1bb9049c60bad86090ca340e34bf3604a33005c494b8dbc49ba41"), looks := false }, kinds := [], alts := [], laidByText := true, laidKinds := [.data, .data, .data], laidTests := true, laidLooks := .later }
def LogReadsUptoCardSaid : Prop := Claim7.holds Tryd.pinned (.plain (OpenSpec.upto logReadsSpec)) logReadsUptoCard

/-- THE SECOND FORM's CARD OF 'archipelagolaw13.LogCuts'. -/
def logCutsUptoCard : Claim7 := { stood := { row := logCutsUptoRow, standIns := [], harness := (true, "221fe0ebced1bb9049c60bad86090ca340e34bf3604a33005c494b8dbc49ba41"), looks := false }, kinds := [], alts := [], laidByText := true, laidKinds := [.data, .data, .data], laidTests := true, laidLooks := .later }
def LogCutsUptoCardSaid : Prop := Claim7.holds Tryd.pinned (.plain (OpenSpec.upto logCutsSpec)) logCutsUptoCard

/-- THE SECOND FORM's CARD OF 'archipelagolaw13.LogLines'. -/
def logLinesUptoCard : Claim7 := { stood := { row := logLinesUptoRow, standIns := [], harness := (true, "221fe0ebced1bb9049c60bad86090ca340e34bf3604a33005c494b8dbc49ba41"), looks := false }, kinds := [], alts := [], laidByText := true, laidKinds := [.data, .data, .data], laidTests := true, laidLooks := .later }
def LogLinesUptoCardSaid : Prop := Claim7.holds Tryd.pinned (.plain (OpenSpec.upto logLinesSpec)) logLinesUptoCard

/-- THE SECOND FORM's CARD OF 'archipelagolaw13.LogTies'. -/
def logTiesUptoCard : Claim7 := { stood := { row := logTiesUptoRow, standIns := [], harness := (true, "221fe0ebced1bb9049c60bad86090ca340e34bf3604a33005c494b8dbc49ba41"), looks := false }, kinds := [], alts := [], laidByText := true, laidKinds := [.data, .data, .data], laidTests := true, laidLooks := .later }
def LogTiesUptoCardSaid : Prop := Claim7.holds Tryd.pinned (.plain (OpenSpec.upto logTiesSpec)) logTiesUptoCard
end Rows
end Go.Proofs.YtggnkefhegnokaaDoor
