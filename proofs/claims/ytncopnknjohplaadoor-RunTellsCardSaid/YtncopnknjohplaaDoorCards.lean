/-
  DERIVED. GIVEN WITH THE SEED: THE CARDS: each row of YtncopnknjohplaaDoorRows.lean that lists a variable, with what it lists TIED to the program's text (the seventh form; the later family's looks); each row that meets fmt, with fmt's text TOLD by the authors' own Lean function (tested against real Go, not proved from fmt's source: count such statements apart). THE CARD IS WHAT COUNTS. Prove the row's statement (the work); the ties are given (YtncopnknjohplaaDoorTie.lean); close each card by the builder's one call (the guide's Derived/Test/ToyasCard.lean, 'card_holds'). Laid BY PROGRAM, IN A SANDBOX (cutbox-door.mjs). By AI agents, Wed Nov 11 2026. No macro, syntax, notation, axiom, sorry.
-/
import Derived.Test.YtncopnknjohplaaDoorRows
import GoSem.ClaimSeven
namespace Go.Proofs.YtncopnknjohplaaDoor
namespace Rows

/-- THE TIED CARD OF 'selionlaw09.RunTurns'. -/
def runTurnsCard : Claim7 := { stood := { row := runTurnsRow, standIns := [], harness := (true, "dd94ff70fbd5db484103d0b6fa6e5fd7a2ae19222ffafd353eed73c9e63d6c6f"), looks := true }, kinds := [], alts := [], laidByText := true, laidKinds := [.sentinel, .sentinel], laidTests := true, laidLooks := .later }
def RunTurnsCardSaid : Prop := Claim7.holds Tryd.pinned (.plain (OpenSpec.ofChange runTurnsSpec)) runTurnsCard

/-- THE TIED CARD OF 'selionlaw09.RunFirst'. -/
def runFirstCard : Claim7 := { stood := { row := runFirstRow, standIns := [], harness := (true, "dd94ff70fbd5db484103d0b6fa6e5fd7a2ae19222ffafd353eed73c9e63d6c6f"), looks := true }, kinds := [], alts := [], laidByText := true, laidKinds := [.sentinel, .sentinel], laidTests := true, laidLooks := .later }
def RunFirstCardSaid : Prop := Claim7.holds Tryd.pinned (.plain (OpenSpec.ofChange runFirstSpec)) runFirstCard

/-- THE TIED CARD OF 'selionlaw09.RunFewer'. -/
def runFewerCard : Claim7 := { stood := { row := runFewerRow, standIns := [], harness := (true, "dd94ff70fbd5db484103d0b6fa6e5fd7a2ae19222ffafd353eed73c9e63d6c6f"), looks := true }, kinds := [], alts := [], laidByText := true, laidKinds := [.sentinel, .sentinel], laidTests := true, laidLooks := .later }
def RunFewerCardSaid : Prop := Claim7.holds Tryd.pinned (.plain (OpenSpec.ofChange runFewerSpec)) runFewerCard

/-- THE TIED CARD OF 'selionlaw09.RunBack'. -/
def runBackCard : Claim7 := { stood := { row := runBackRow, standIns := [], harness := (true, "dd94ff70fbd5db484103d0b6fa6e5fd7a2ae19222ffafd353eed73c9e63d6c6f"), looks := true }, kinds := [], alts := [], laidByText := true, laidKinds := [.sentinel, .sentinel], laidTests := true, laidLooks := .later }
def RunBackCardSaid : Prop := Claim7.holds Tryd.pinned (.plain (OpenSpec.ofChange runBackSpec)) runBackCard

/-- THE TIED CARD OF 'selionlaw09.RunTells'. -/
def runTellsCard : Claim7 := { stood := { row := runTellsRow, standIns := [], harness := (true, "dd94ff70fbd5db484103d0b6fa6e5fd7a2ae19222ffafd353eed73c9e63d6c6f"), looks := true }, kinds := [], alts := [], laidByText := true, laidKinds := [.sentinel, .sentinel], laidTests := true, laidLooks := .later }
def RunTellsCardSaid : Prop := Claim7.holds Tryd.pinned (.plain (OpenSpec.ofChange runTellsSpec)) runTellsCard

/-- THE TIED CARD OF 'selionlaw09.RunSums'. -/
def runSumsCard : Claim7 := { stood := { row := runSumsRow, standIns := [], harness := (true, "dd94ff70fbd5db484103d0b6fa6e5fd7a2ae19222ffafd353eed73c9e63d6c6f"), looks := true }, kinds := [], alts := [], laidByText := true, laidKinds := [.sentinel, .sentinel], laidTests := true, laidLooks := .later }
def RunSumsCardSaid : Prop := Claim7.holds Tryd.pinned (.plain (OpenSpec.ofChange runSumsSpec)) runSumsCard

/-- THE SECOND FORM's CARD OF 'selionlaw09.RunTurns'. -/
def runTurnsUptoCard : Claim7 := { stood := { row := runTurnsUptoRow, standIns := [], harness := (true, "dd94ff70fbd5db484103d0b6fa6e5fd7a2ae19222ffafd353eed73c9e63d6c6f"), looks := true }, kinds := [], alts := [], laidByText := true, laidKinds := [.sentinel, .sentinel], laidTests := true, laidLooks := .later }
def RunTurnsUptoCardSaid : Prop := Claim7.holds Tryd.pinned (.plain (OpenSpec.upto runTurnsSpec)) runTurnsUptoCard

/-- THE SECOND FORM's CARD OF 'selionlaw09.RunFirst'. -/
def runFirstUptoCard : Claim7 := { stood := { row := runFirstUptoRow, standIns := [], harness := (true, "dd94ff70fbd5db484103d0b6fa6e5fd7a2ae19222ffafd353eed73c9e63d6c6f"), looks := true }, kinds := [], alts := [], laidByText := true, laidKinds := [.sentinel, .sentinel], laidTests := true, laidLooks := .later }
def RunFirstUptoCardSaid : Prop := Claim7.holds Tryd.pinned (.plain (OpenSpec.upto runFirstSpec)) runFirstUptoCard

/-- THE SECOND FORM's CARD OF 'selionlaw09.RunFewer'. -/
def runFewerUptoCard : Claim7 := { stood := { row := runFewerUptoRow, standIns := [], harness := (true, "dd94ff70fbd5db484103d0b6fa6e5fd7a2ae19222ffafd353eed73c9e63d6c6f"), looks := true }, kinds := [], alts := [], laidByText := true, laidKinds := [.sentinel, .sentinel], laidTests := true, laidLooks := .later }
def RunFewerUptoCardSaid : Prop := Claim7.holds Tryd.pinned (.plain (OpenSpec.upto runFewerSpec)) runFewerUptoCard

/-- THE SECOND FORM's CARD OF 'selionlaw09.RunBack'. -/
def runBackUptoCard : Claim7 := { stood := { row := runBackUptoRow, standIns := [], harness := (true, "dd94ff70fbd5db484103d0b6fa6e5fd7a2ae19222ffafd353eed73c9e63d6c6f"), looks := true }, kinds := [], alts := [], laidByText := true, laidKinds := [.sentinel, .sentinel], laidTests := true, laidLooks := .later }
def RunBackUptoCardSaid : Prop := Claim7.holds Tryd.pinned (.plain (OpenSpec.upto runBackSpec)) runBackUptoCard

/-- THE SECOND FORM's CARD OF 'selionlaw09.RunTells'. -/
def runTellsUptoCard : Claim7 := { stood := { row := runTellsUptoRow, standIns := [], harness := (true, "dd94ff70fbd5db484103d0b6fa6e5fd7a2ae19222ffafd353eed73c9e63d6c6f"), looks := true }, kinds := [], alts := [], laidByText := true, laidKinds := [.sentinel, .sentinel], laidTests := true, laidLooks := .later }
def RunTellsUptoCardSaid : Prop := Claim7.holds Tryd.pinned (.plain (OpenSpec.upto runTellsSpec)) runTellsUptoCard

/-- THE SECOND FORM's CARD OF 'selionlaw09.RunSums'. -/
def runSumsUptoCard : Claim7 := { stood := { row := runSumsUptoRow, standIns := [], harness := (true, "dd94ff70fbd5db484103d0b6fa6e5fd7a2ae19222ffafd353eed73c9e63d6c6f"), looks := true }, kinds := [], alts := [], laidByText := true, laidKinds := [.sentinel, .sentinel], laidTests := true, laidLooks := .later }
def RunSumsUptoCardSaid : Prop := Claim7.holds Tryd.pinned (.plain (OpenSpec.upto runSumsSpec)) runSumsUptoCard
end Rows
end Go.Proofs.YtncopnknjohplaaDoor
