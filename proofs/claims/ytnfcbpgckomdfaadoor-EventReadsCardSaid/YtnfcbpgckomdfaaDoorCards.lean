/-
  DERIVED. GIVEN WITH THE SEED: THE CARDS: each row of YtnfcbpgckomdfaaDoorRows.lean that lists a variable, with what it lists TIED to the program's text (the seventh form; the later family's looks); each row that meets fmt, with fmt's text TOLD by the authors' own Lean function (tested against real Go, not proved from fmt's source: count such statements apart). THE CARD IS WHAT COUNTS. Prove the row's statement (the work); the ties are given (YtnfcbpgckomdfaaDoorTie.lean); close each card by the builder's one call (the guide's Derived/Test/ToyasCard.lean, 'card_holds'). Laid BY PROGRAM, IN A SANDBOX (cutbox-door.mjs). By AI agents, Wed Nov 11 2026. No macro, syntax, notation, axiom, sorry.
-/
import Derived.Test.YtnfcbpgckomdfaaDoorRows
import GoSem.ClaimSeven
namespace Go.Proofs.YtnfcbpgckomdfaaDoor
namespace Rows

/-- THE TIED CARD OF 'tidewaiterlaw19.ConfigBack'. -/
def configBackCard : Claim7 := { stood := { row := configBackRow, standIns := [], harness := (true, "799a4b78386b7b87be77bf3a6572c889cd43002f38f2623c2f3c5b92096e3533"), looks := true }, kinds := [], alts := [], laidByText := true, laidKinds := [.data, .data, .data, .data, .sentinel, .sentinel, .pinned], laidTests := true, laidLooks := .later }
def ConfigBackCardSaid : Prop := Claim7.holds Tryd.pinned (.plain (OpenSpec.ofChange configBackSpec)) configBackCard

/-- THE TIED CARD OF 'tidewaiterlaw22.EventReads'. -/
def eventReadsCard : Claim7 := { stood := { row := eventReadsRow, standIns := [], harness := (true, "799a4b78386b7b87be77bf3a6572c889cd43002f38f2623c2f3c5b92096e3533"), looks := true }, kinds := [], alts := [], laidByText := true, laidKinds := [.data, .data, .data, .data, .sentinel, .sentinel, .pinned], laidTests := true, laidLooks := .later }
def EventReadsCardSaid : Prop := Claim7.holds Tryd.pinned (.plain (OpenSpec.ofChange eventReadsSpec)) eventReadsCard

/-- THE TIED CARD OF 'tidewaiterlaw22.EventSorts'. -/
def eventSortsCard : Claim7 := { stood := { row := eventSortsRow, standIns := [], harness := (true, "799a4b78386b7b87be77bf3a6572c889cd43002f38f2623c2f3c5b92096e3533"), looks := true }, kinds := [], alts := [], laidByText := true, laidKinds := [.data, .data, .data, .data, .sentinel, .sentinel, .pinned], laidTests := true, laidLooks := .later }
def EventSortsCardSaid : Prop := Claim7.holds Tryd.pinned (.plain (OpenSpec.ofChange eventSortsSpec)) eventSortsCard

/-- THE TIED CARD OF 'tidewaiterlaw22.EventBack'. -/
def eventBackCard : Claim7 := { stood := { row := eventBackRow, standIns := [], harness := (true, "799a4b78386b7b87be77bf3a6572c889cd43002f38f2623c2f3c5b92096e3533"), looks := true }, kinds := [], alts := [], laidByText := true, laidKinds := [.data, .data, .data, .data, .sentinel, .sentinel, .pinned], laidTests := true, laidLooks := .later }
def EventBackCardSaid : Prop := Claim7.holds Tryd.pinned (.plain (OpenSpec.ofChange eventBackSpec)) eventBackCard

/-- THE TIED CARD OF 'tidewaitertop.WholeWays'. -/
def wholeWaysCard : Claim7 := { stood := { row := wholeWaysRow, standIns := [], harness := (true, "799a4b78386b7b87be77bf3a6572c889cd43002f38f2623c2f3c5b92096e3533"), looks := true }, kinds := [], alts := [], laidByText := true, laidKinds := [.data, .pinned], laidTests := true, laidLooks := .later }
def WholeWaysCardSaid : Prop := Claim7.holds Tryd.pinned (.plain (OpenSpec.ofChange wholeWaysSpec)) wholeWaysCard

/-- THE TIED CARD OF 'tidewaitertop.WholeSigns'. -/
def wholeSignsCard : Claim7 := { stood := { row := wholeSignsRow, standIns := [], harness := (true, "799a4b78386b7b87be77bf3a6572c889cd43002f38f2623c2f3c5b92096e3533"), looks := true }, kinds := [], alts := [], laidByText := true, laidKinds := [.data, .data, .data, .data, .sentinel, .sentinel, .pinned], laidTests := true, laidLooks := .later }
def WholeSignsCardSaid : Prop := Claim7.holds Tryd.pinned (.plain (OpenSpec.ofChange wholeSignsSpec)) wholeSignsCard

/-- THE TIED CARD OF 'tidewaitertop.WholeWords'. -/
def wholeWordsCard : Claim7 := { stood := { row := wholeWordsRow, standIns := [], harness := (true, "799a4b78386b7b87be77bf3a6572c889cd43002f38f2623c2f3c5b92096e3533"), looks := true }, kinds := [], alts := [], laidByText := true, laidKinds := [.data, .data, .data, .data, .sentinel, .sentinel, .pinned], laidTests := true, laidLooks := .later }
def WholeWordsCardSaid : Prop := Claim7.holds Tryd.pinned (.plain (OpenSpec.ofChange wholeWordsSpec)) wholeWordsCard

/-- THE SECOND FORM's CARD OF 'tidewaiterlaw19.ConfigBack'. -/
def configBackUptoCard : Claim7 := { stood := { row := configBackUptoRow, standIns := [], harness := (true, "799a4b78386b7b87be77bf3a6572c889cd43002f38f2623c2f3c5b92096e3533"), looks := true }, kinds := [], alts := [], laidByText := true, laidKinds := [.data, .data, .data, .data, .sentinel, .sentinel, .pinned], laidTests := true, laidLooks := .later }
def ConfigBackUptoCardSaid : Prop := Claim7.holds Tryd.pinned (.plain (OpenSpec.upto configBackSpec)) configBackUptoCard

/-- THE SECOND FORM's CARD OF 'tidewaiterlaw22.EventReads'. -/
def eventReadsUptoCard : Claim7 := { stood := { row := eventReadsUptoRow, standIns := [], harness := (true, "799a4b78386b7b87be77bf3a6572c889cd43002f38f2623c2f3c5b92096e3533"), looks := true }, kinds := [], alts := [], laidByText := true, laidKinds := [.data, .data, .data, .data, .sentinel, .sentinel, .pinned], laidTests := true, laidLooks := .later }
def EventReadsUptoCardSaid : Prop := Claim7.holds Tryd.pinned (.plain (OpenSpec.upto eventReadsSpec)) eventReadsUptoCard

/-- THE SECOND FORM's CARD OF 'tidewaiterlaw22.EventSorts'. -/
def eventSortsUptoCard : Claim7 := { stood := { row := eventSortsUptoRow, standIns := [], harness := (true, "799a4b78386b7b87be77bf3a6572c889cd43002f38f2623c2f3c5b92096e3533"), looks := true }, kinds := [], alts := [], laidByText := true, laidKinds := [.data, .data, .data, .data, .sentinel, .sentinel, .pinned], laidTests := true, laidLooks := .later }
def EventSortsUptoCardSaid : Prop := Claim7.holds Tryd.pinned (.plain (OpenSpec.upto eventSortsSpec)) eventSortsUptoCard

/-- THE SECOND FORM's CARD OF 'tidewaiterlaw22.EventBack'. -/
def eventBackUptoCard : Claim7 := { stood := { row := eventBackUptoRow, standIns := [], harness := (true, "799a4b78386b7b87be77bf3a6572c889cd43002f38f2623c2f3c5b92096e3533"), looks := true }, kinds := [], alts := [], laidByText := true, laidKinds := [.data, .data, .data, .data, .sentinel, .sentinel, .pinned], laidTests := true, laidLooks := .later }
def EventBackUptoCardSaid : Prop := Claim7.holds Tryd.pinned (.plain (OpenSpec.upto eventBackSpec)) eventBackUptoCard

/-- THE SECOND FORM's CARD OF 'tidewaitertop.WholeWays'. -/
def wholeWaysUptoCard : Claim7 := { stood := { row := wholeWaysUptoRow, standIns := [], harness := (true, "799a4b78386b7b87be77bf3a6572c889cd43002f38f2623c2f3c5b92096e3533"), looks := true }, kinds := [], alts := [], laidByText := true, laidKinds := [.data, .pinned], laidTests := true, laidLooks := .later }
def WholeWaysUptoCardSaid : Prop := Claim7.holds Tryd.pinned (.plain (OpenSpec.upto wholeWaysSpec)) wholeWaysUptoCard

/-- THE SECOND FORM's CARD OF 'tidewaitertop.WholeSigns'. -/
def wholeSignsUptoCard : Claim7 := { stood := { row := wholeSignsUptoRow, standIns := [], harness := (true, "799a4b78386b7b87be77bf3a6572c889cd43002f38f2623c2f3c5b92096e3533"), looks := true }, kinds := [], alts := [], laidByText := true, laidKinds := [.data, .data, .data, .data, .sentinel, .sentinel, .pinned], laidTests := true, laidLooks := .later }
def WholeSignsUptoCardSaid : Prop := Claim7.holds Tryd.pinned (.plain (OpenSpec.upto wholeSignsSpec)) wholeSignsUptoCard

/-- THE SECOND FORM's CARD OF 'tidewaitertop.WholeWords'. -/
def wholeWordsUptoCard : Claim7 := { stood := { row := wholeWordsUptoRow, standIns := [], harness := (true, "799a4b78386b7b87be77bf3a6572c889cd43002f38f2623c2f3c5b92096e3533"), looks := true }, kinds := [], alts := [], laidByText := true, laidKinds := [.data, .data, .data, .data, .sentinel, .sentinel, .pinned], laidTests := true, laidLooks := .later }
def WholeWordsUptoCardSaid : Prop := Claim7.holds Tryd.pinned (.plain (OpenSpec.upto wholeWordsSpec)) wholeWordsUptoCard
end Rows
end Go.Proofs.YtnfcbpgckomdfaaDoor
