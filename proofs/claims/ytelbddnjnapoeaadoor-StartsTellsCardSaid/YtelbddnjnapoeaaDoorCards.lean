/-
  DERIVED. GIVEN WITH THE SEED: THE CARDS: each row of YtelbddnjnapoeaaDoorRows.lean that lists a variable, with what it lists TIED to the program's text (the seventh form; the later family's looks); each row that meets fmt, with fmt's text TOLD by the authors' own Lean function (tested against real Go, not proved from fmt's source: count such statements apart). THE CARD IS WHAT COUNTS. Prove the row's statement (the work); the ties are given (YtelbddnjnapoeaaDoorTie.lean); close each card by the builder's one call (the guide's Derived/Test/ToyasCard.lean, 'card_holds'). Laid BY PROGRAM, IN A SANDBOX (cutbox-door.mjs). By AI agents, Wed Nov 11 2026. No macro, syntax, notation, axiom, sorry.
-/
import Derived.Test.YtelbddnjnapoeaaDoorRows
import GoSem.ClaimSeven
namespace Go.Proofs.YtelbddnjnapoeaaDoor
namespace Rows

/-- THE TIED CARD OF 'selionlaw13.StartsTurns'. -/
def startsTurnsCard : Claim7 := { stood := { row := startsTurnsRow, standIns := [], harness := (true, "72dc5a094e389028a936d3c2a53409773bae125b848ce1b5274f82f2f18933d7"), looks := true }, kinds := [], alts := [], laidByText := true, laidKinds := [.handle, .sentinel, .sentinel, .sentinel, .sentinel], laidTests := true, laidLooks := .later }
def StartsTurnsCardSaid : Prop := Claim7.holds Tryd.pinned (.plain (OpenSpec.ofChange startsTurnsSpec)) startsTurnsCard

/-- THE TIED CARD OF 'selionlaw13.StartsTells'. -/
def startsTellsCard : Claim7 := { stood := { row := startsTellsRow, standIns := [], harness := (true, "72dc5a094e389028a936d3c2a53409773bae125b848ce1b5274f82f2f18933d7"), looks := true }, kinds := [], alts := [], laidByText := true, laidKinds := [.handle, .sentinel, .sentinel, .sentinel, .sentinel], laidTests := true, laidLooks := .later }
def StartsTellsCardSaid : Prop := Claim7.holds Tryd.pinned (.plain (OpenSpec.ofChange startsTellsSpec)) startsTellsCard

/-- THE TIED CARD OF 'selionlaw13.StartsBack'. -/
def startsBackCard : Claim7 := { stood := { row := startsBackRow, standIns := [], harness := (true, "72dc5a094e389028a936d3c2a53409773bae125b848ce1b5274f82f2f18933d7"), looks := true }, kinds := [], alts := [], laidByText := true, laidKinds := [.handle, .sentinel, .sentinel, .sentinel, .sentinel], laidTests := true, laidLooks := .later }
def StartsBackCardSaid : Prop := Claim7.holds Tryd.pinned (.plain (OpenSpec.ofChange startsBackSpec)) startsBackCard

/-- THE TIED CARD OF 'selionlaw13.StartsBefore'. -/
def startsBeforeCard : Claim7 := { stood := { row := startsBeforeRow, standIns := [], harness := (true, "72dc5a094e389028a936d3c2a53409773bae125b848ce1b5274f82f2f18933d7"), looks := true }, kinds := [], alts := [], laidByText := true, laidKinds := [.handle, .sentinel, .sentinel, .sentinel, .sentinel], laidTests := true, laidLooks := .later }
def StartsBeforeCardSaid : Prop := Claim7.holds Tryd.pinned (.plain (OpenSpec.ofChange startsBeforeSpec)) startsBeforeCard

/-- THE TIED CARD OF 'selionlaw13.StartsIn'. -/
def startsInCard : Claim7 := { stood := { row := startsInRow, standIns := [], harness := (true, "72dc5a094e389028a936d3c2a53409773bae125b848ce1b5274f82f2f18933d7"), looks := true }, kinds := [], alts := [], laidByText := true, laidKinds := [.handle, .sentinel, .sentinel, .sentinel, .sentinel], laidTests := true, laidLooks := .later }
def StartsInCardSaid : Prop := Claim7.holds Tryd.pinned (.plain (OpenSpec.ofChange startsInSpec)) startsInCard

/-- THE TIED CARD OF 'selionlaw13.StartsAll'. -/
def startsAllCard : Claim7 := { stood := { row := startsAllRow, standIns := [], harness := (true, "72dc5a094e389028a936d3c2a53409773bae125b848ce1b5274f82f2f18933d7"), looks := true }, kinds := [], alts := [], laidByText := true, laidKinds := [.handle, .sentinel, .sentinel, .sentinel, .sentinel], laidTests := true, laidLooks := .later }
def StartsAllCardSaid : Prop := Claim7.holds Tryd.pinned (.plain (OpenSpec.ofChange startsAllSpec)) startsAllCard

/-- THE SECOND FORM's CARD OF 'selionlaw13.StartsTurns'. -/
def startsTurnsUptoCard : Claim7 := { stood := { row := startsTurnsUptoRow, standIns := [], harness := (true, "72dc5a094e389028a936d3c2a53409773bae125b848ce1b5274f82f2f18933d7"), looks := true }, kinds := [], alts := [], laidByText := true, laidKinds := [.handle, .sentinel, .sentinel, .sentinel, .sentinel], laidTests := true, laidLooks := .later }
def StartsTurnsUptoCardSaid : Prop := Claim7.holds Tryd.pinned (.plain (OpenSpec.upto startsTurnsSpec)) startsTurnsUptoCard

/-- THE SECOND FORM's CARD OF 'selionlaw13.StartsTells'. -/
def startsTellsUptoCard : Claim7 := { stood := { row := startsTellsUptoRow, standIns := [], harness := (true, "72dc5a094e389028a936d3c2a53409773bae125b848ce1b5274f82f2f18933d7"), looks := true }, kinds := [], alts := [], laidByText := true, laidKinds := [.handle, .sentinel, .sentinel, .sentinel, .sentinel], laidTests := true, laidLooks := .later }
def StartsTellsUptoCardSaid : Prop := Claim7.holds Tryd.pinned (.plain (OpenSpec.upto startsTellsSpec)) startsTellsUptoCard

/-- THE SECOND FORM's CARD OF 'selionlaw13.StartsBack'. -/
def startsBackUptoCard : Claim7 := { stood := { row := startsBackUptoRow, standIns := [], harness := (true, "72dc5a094e389028a936d3c2a53409773bae125b848ce1b5274f82f2f18933d7"), looks := true }, kinds := [], alts := [], laidByText := true, laidKinds := [.handle, .sentinel, .sentinel, .sentinel, .sentinel], laidTests := true, laidLooks := .later }
def StartsBackUptoCardSaid : Prop := Claim7.holds Tryd.pinned (.plain (OpenSpec.upto startsBackSpec)) startsBackUptoCard

/-- THE SECOND FORM's CARD OF 'selionlaw13.StartsBefore'. -/
def startsBeforeUptoCard : Claim7 := { stood := { row := startsBeforeUptoRow, standIns := [], harness := (true, "72dc5a094e389028a936d3c2a53409773bae125b848ce1b5274f82f2f18933d7"), looks := true }, kinds := [], alts := [], laidByText := true, laidKinds := [.handle, .sentinel, .sentinel, .sentinel, .sentinel], laidTests := true, laidLooks := .later }
def StartsBeforeUptoCardSaid : Prop := Claim7.holds Tryd.pinned (.plain (OpenSpec.upto startsBeforeSpec)) startsBeforeUptoCard

/-- THE SECOND FORM's CARD OF 'selionlaw13.StartsIn'. -/
def startsInUptoCard : Claim7 := { stood := { row := startsInUptoRow, standIns := [], harness := (true, "72dc5a094e389028a936d3c2a53409773bae125b848ce1b5274f82f2f18933d7"), looks := true }, kinds := [], alts := [], laidByText := true, laidKinds := [.handle, .sentinel, .sentinel, .sentinel, .sentinel], laidTests := true, laidLooks := .later }
def StartsInUptoCardSaid : Prop := Claim7.holds Tryd.pinned (.plain (OpenSpec.upto startsInSpec)) startsInUptoCard

/-- THE SECOND FORM's CARD OF 'selionlaw13.StartsAll'. -/
def startsAllUptoCard : Claim7 := { stood := { row := startsAllUptoRow, standIns := [], harness := (true, "72dc5a094e389028a936d3c2a53409773bae125b848ce1b5274f82f2f18933d7"), looks := true }, kinds := [], alts := [], laidByText := true, laidKinds := [.handle, .sentinel, .sentinel, .sentinel, .sentinel], laidTests := true, laidLooks := .later }
def StartsAllUptoCardSaid : Prop := Claim7.holds Tryd.pinned (.plain (OpenSpec.upto startsAllSpec)) startsAllUptoCard
end Rows
end Go.Proofs.YtelbddnjnapoeaaDoor
