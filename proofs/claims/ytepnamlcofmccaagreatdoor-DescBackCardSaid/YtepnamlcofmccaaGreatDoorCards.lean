/-
  DERIVED. GIVEN WITH THE SEED: THE CARDS: each row of YtepnamlcofmccaaGreatDoorRows.lean that lists a variable, with what it lists TIED to the program's text (the seventh form; the later family's looks); each row that meets fmt, with fmt's text TOLD by the authors' own Lean function (tested against real Go, not proved from fmt's source: count such statements apart). THE CARD IS WHAT COUNTS. Prove the row's statement (the work); the ties are given (YtepnamlcofmccaaGreatDoorTie.lean); close each card by the builder's one call (the guide's Derived/Test/ToyasCard.lean, 'card_holds'). Laid BY PROGRAM, IN A SANDBOX (cutbox-door.mjs). By AI agents, Wed Nov 11 2026. No macro, syntax, notation, axiom, sorry.
-/
import Derived.Test.YtepnamlcofmccaaGreatDoorRows
import GoSem.ClaimSeven
namespace Go.Proofs.YtepnamlcofmccaaGreatDoor
namespace Rows

/-- THE TIED CARD OF 'selionlaw04.DescTexts'. -/
def descTextsCard : Claim7 := { stood := { row := descTextsRow, standIns := [], harness := (true, "80437a5c7c5b8be011801b5d1af6198d0b0c1e447cc4d7b36ae1d0bfadb18b2a"), looks := true }, kinds := [], alts := [], laidByText := true, laidKinds := [.data, .data, .data, .data, .handle, .sentinel, .sentinel, .sentinel, .pinned], laidTests := true, laidLooks := .later }
def DescTextsCardSaid : Prop := Claim7.holds Tryz.pinned (.plain (OpenSpec.ofChange descTextsSpec)) descTextsCard

/-- THE TIED CARD OF 'selionlaw04.DescBack'. -/
def descBackCard : Claim7 := { stood := { row := descBackRow, standIns := [], harness := (true, "80437a5c7c5b8be011801b5d1af6198d0b0c1e447cc4d7b36ae1d0bfadb18b2a"), looks := true }, kinds := [], alts := [], laidByText := true, laidKinds := [.data, .data, .data, .data, .handle, .sentinel, .sentinel, .sentinel, .pinned], laidTests := true, laidLooks := .later }
def DescBackCardSaid : Prop := Claim7.holds Tryz.pinned (.plain (OpenSpec.ofChange descBackSpec)) descBackCard

/-- THE SECOND FORM's CARD OF 'selionlaw04.DescTexts'. -/
def descTextsUptoCard : Claim7 := { stood := { row := descTextsUptoRow, standIns := [], harness := (true, "80437a5c7c5b8be011801b5d1af6198d0b0c1e447cc4d7b36ae1d0bfadb18b2a"), looks := true }, kinds := [], alts := [], laidByText := true, laidKinds := [.data, .data, .data, .data, .handle, .sentinel, .sentinel, .sentinel, .pinned], laidTests := true, laidLooks := .later }
def DescTextsUptoCardSaid : Prop := Claim7.holds Tryz.pinned (.plain (OpenSpec.upto descTextsSpec)) descTextsUptoCard

/-- THE SECOND FORM's CARD OF 'selionlaw04.DescBack'. -/
def descBackUptoCard : Claim7 := { stood := { row := descBackUptoRow, standIns := [], harness := (true, "80437a5c7c5b8be011801b5d1af6198d0b0c1e447cc4d7b36ae1d0bfadb18b2a"), looks := true }, kinds := [], alts := [], laidByText := true, laidKinds := [.data, .data, .data, .data, .handle, .sentinel, .sentinel, .sentinel, .pinned], laidTests := true, laidLooks := .later }
def DescBackUptoCardSaid : Prop := Claim7.holds Tryz.pinned (.plain (OpenSpec.upto descBackSpec)) descBackUptoCard
end Rows
end Go.Proofs.YtepnamlcofmccaaGreatDoor
