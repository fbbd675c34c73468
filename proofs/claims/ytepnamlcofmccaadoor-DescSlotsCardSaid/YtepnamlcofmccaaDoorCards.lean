/-
  DERIVED. GIVEN WITH THE SEED: THE CARDS: each row of YtepnamlcofmccaaDoorRows.lean that lists a variable, with what it lists TIED to the program's text (the seventh form; the later family's looks); each row that meets fmt, with fmt's text TOLD by the authors' own Lean function (tested against real Go, not proved from fmt's source: count such statements apart). THE CARD IS WHAT COUNTS. Prove the row's statement (the work); the ties are given (YtepnamlcofmccaaDoorTie.lean); close each card by the builder's one call (the guide's Derived/Test/ToyasCard.lean, 'card_holds'). Laid BY PROGRAM, IN A SANDBOX (cutbox-door.mjs). By AI agents, Wed Nov 11 2026. No macro, syntax, notation, axiom, sorry.
-/
import Derived.Test.YtepnamlcofmccaaDoorRows
import GoSem.ClaimSeven
namespace Go.Proofs.YtepnamlcofmccaaDoor
namespace Rows

/-- THE TIED CARD OF 'selionlaw04.DescLengths'. -/
def descLengthsCard : Claim7 := { stood := { row := descLengthsRow, standIns := [], harness := (true, "4f0c45fc2e5725069feb98156edc04f063fc32a70061fee66fbaffac7e79eb7a"), looks := true }, kinds := [], alts := [], laidByText := true, laidKinds := [.data, .handle, .sentinel, .sentinel, .sentinel, .pinned], laidTests := true, laidLooks := .later }
def DescLengthsCardSaid : Prop := Claim7.holds Tryd.pinned (.plain (OpenSpec.ofChange descLengthsSpec)) descLengthsCard

/-- THE TIED CARD OF 'selionlaw04.DescSlots'. -/
def descSlotsCard : Claim7 := { stood := { row := descSlotsRow, standIns := [], harness := (true, "4f0c45fc2e5725069feb98156edc04f063fc32a70061fee66fbaffac7e79eb7a"), looks := true }, kinds := [], alts := [], laidByText := true, laidKinds := [.data, .handle, .sentinel, .sentinel, .sentinel, .pinned], laidTests := true, laidLooks := .later }
def DescSlotsCardSaid : Prop := Claim7.holds Tryd.pinned (.plain (OpenSpec.ofChange descSlotsSpec)) descSlotsCard

/-- THE TIED CARD OF 'selionlaw04.DescGrows'. -/
def descGrowsCard : Claim7 := { stood := { row := descGrowsRow, standIns := [], harness := (true, "4f0c45fc2e5725069feb98156edc04f063fc32a70061fee66fbaffac7e79eb7a"), looks := true }, kinds := [], alts := [], laidByText := true, laidKinds := [.data, .handle, .sentinel, .sentinel, .sentinel, .pinned], laidTests := true, laidLooks := .later }
def DescGrowsCardSaid : Prop := Claim7.holds Tryd.pinned (.plain (OpenSpec.ofChange descGrowsSpec)) descGrowsCard

/-- THE TIED CARD OF 'selionlaw04.DescFields'. -/
def descFieldsCard : Claim7 := { stood := { row := descFieldsRow, standIns := [], harness := (true, "4f0c45fc2e5725069feb98156edc04f063fc32a70061fee66fbaffac7e79eb7a"), looks := true }, kinds := [], alts := [], laidByText := true, laidKinds := [.data, .handle, .sentinel, .sentinel, .sentinel, .pinned], laidTests := true, laidLooks := .later }
def DescFieldsCardSaid : Prop := Claim7.holds Tryd.pinned (.plain (OpenSpec.ofChange descFieldsSpec)) descFieldsCard

/-- THE TIED CARD OF 'selionlaw04.DescTells'. -/
def descTellsCard : Claim7 := { stood := { row := descTellsRow, standIns := [], harness := (true, "4f0c45fc2e5725069feb98156edc04f063fc32a70061fee66fbaffac7e79eb7a"), looks := true }, kinds := [], alts := [], laidByText := true, laidKinds := [.data, .handle, .sentinel, .sentinel, .sentinel, .pinned], laidTests := true, laidLooks := .later }
def DescTellsCardSaid : Prop := Claim7.holds Tryd.pinned (.plain (OpenSpec.ofChange descTellsSpec)) descTellsCard

/-- THE SECOND FORM's CARD OF 'selionlaw04.DescLengths'. -/
def descLengthsUptoCard : Claim7 := { stood := { row := descLengthsUptoRow, standIns := [], harness := (true, "4f0c45fc2e5725069feb98156edc04f063fc32a70061fee66fbaffac7e79eb7a"), looks := true }, kinds := [], alts := [], laidByText := true, laidKinds := [.data, .handle, .sentinel, .sentinel, .sentinel, .pinned], laidTests := true, laidLooks := .later }
def DescLengthsUptoCardSaid : Prop := Claim7.holds Tryd.pinned (.plain (OpenSpec.upto descLengthsSpec)) descLengthsUptoCard

/-- THE SECOND FORM's CARD OF 'selionlaw04.DescSlots'. -/
def descSlotsUptoCard : Claim7 := { stood := { row := descSlotsUptoRow, standIns := [], harness := (true, "4f0c45fc2e5725069feb98156edc04f063fc32a70061fee66fbaffac7e79eb7a"), looks := true }, kinds := [], alts := [], laidByText := true, laidKinds := [.data, .handle, .sentinel, .sentinel, .sentinel, .pinned], laidTests := true, laidLooks := .later }
def DescSlotsUptoCardSaid : Prop := Claim7.holds Tryd.pinned (.plain (OpenSpec.upto descSlotsSpec)) descSlotsUptoCard

/-- THE SECOND FORM's CARD OF 'selionlaw04.DescGrows'. -/
def descGrowsUptoCard : Claim7 := { stood := { row := descGrowsUptoRow, standIns := [], harness := (true, "4f0c45fc2e5725069feb98156edc04f063fc32a70061fee66fbaffac7e79eb7a"), looks := true }, kinds := [], alts := [], laidByText := true, laidKinds := [.data, .handle, .sentinel, .sentinel, .sentinel, .pinned], laidTests := true, laidLooks := .later }
def DescGrowsUptoCardSaid : Prop := Claim7.holds Tryd.pinned (.plain (OpenSpec.upto descGrowsSpec)) descGrowsUptoCard

/-- THE SECOND FORM's CARD OF 'selionlaw04.DescFields'. -/
def descFieldsUptoCard : Claim7 := { stood := { row := descFieldsUptoRow, standIns := [], harness := (true, "4f0c45fc2e5725069feb98156edc04f063fc32a70061fee66fbaffac7e79eb7a"), looks := true }, kinds := [], alts := [], laidByText := true, laidKinds := [.data, .handle, .sentinel, .sentinel, .sentinel, .pinned], laidTests := true, laidLooks := .later }
def DescFieldsUptoCardSaid : Prop := Claim7.holds Tryd.pinned (.plain (OpenSpec.upto descFieldsSpec)) descFieldsUptoCard

/-- THE SECOND FORM's CARD OF 'selionlaw04.DescTells'. -/
def descTellsUptoCard : Claim7 := { stood := { row := descTellsUptoRow, standIns := [], harness := (true, "4f0c45fc2e5725069feb98156edc04f063fc32a70061fee66fbaffac7e79eb7a"), looks := true }, kinds := [], alts := [], laidByText := true, laidKinds := [.data, .handle, .sentinel, .sentinel, .sentinel, .pinned], laidTests := true, laidLooks := .later }
def DescTellsUptoCardSaid : Prop := Claim7.holds Tryd.pinned (.plain (OpenSpec.upto descTellsSpec)) descTellsUptoCard
end Rows
end Go.Proofs.YtepnamlcofmccaaDoor
