/-
  DERIVED. GIVEN WITH THE SEED: THE CARDS: each row of YtllanbggjfmfhaaDoorRows.lean that lists a variable, with what it lists TIED to the program's text (the seventh form; the later family's looks); each row that meets fmt, with fmt's text TOLD by the authors' own Lean function (tested against real Go, not proved from fmt's source: count such statements apart). THE CARD IS WHAT COUNTS. Prove the row's statement (the work); the ties are given (YtllanbggjfmfhaaDoorTie.lean); close each card by the builder's one call (the guide's Derived/Test/ToyasCard.lean, 'card_holds'). Laid BY PROGRAM, IN A SANDBOX (cutbox-door.mjs). By AI agents, Wed Nov 11 2026. No macro, syntax, notation, axiom, sorry.
-/
import Derived.Test.YtllanbggjfmfhaaDoorRows
import GoSem.ClaimSeven
namespace Go.Proofs.YtllanbggjfmfhaaDoor
namespace Rows

/-- THE TIED CARD OF 'selionlaw10.PoolKeeps'. -/
def poolKeepsCard : Claim7 := { stood := { row := poolKeepsRow, standIns := [], harness := (true, "75c19a1a82fc2228e990fe59bda2bf68d1ec9ff3984317045bb390815056abe5"), looks := true }, kinds := [], alts := [], laidByText := true, laidKinds := [.handle, .sentinel, .sentinel], laidTests := true, laidLooks := .later }
def PoolKeepsCardSaid : Prop := Claim7.holds Tryd.pinned (.plain (OpenSpec.ofChange poolKeepsSpec)) poolKeepsCard

/-- THE TIED CARD OF 'selionlaw10.PoolTaken'. -/
def poolTakenCard : Claim7 := { stood := { row := poolTakenRow, standIns := [], harness := (true, "75c19a1a82fc2228e990fe59bda2bf68d1ec9ff3984317045bb390815056abe5"), looks := true }, kinds := [], alts := [], laidByText := true, laidKinds := [.handle, .sentinel, .sentinel], laidTests := true, laidLooks := .later }
def PoolTakenCardSaid : Prop := Claim7.holds Tryd.pinned (.plain (OpenSpec.ofChange poolTakenSpec)) poolTakenCard

/-- THE TIED CARD OF 'selionlaw10.PoolLays'. -/
def poolLaysCard : Claim7 := { stood := { row := poolLaysRow, standIns := [], harness := (true, "75c19a1a82fc2228e990fe59bda2bf68d1ec9ff3984317045bb390815056abe5"), looks := true }, kinds := [], alts := [], laidByText := true, laidKinds := [.handle, .sentinel, .sentinel], laidTests := true, laidLooks := .later }
def PoolLaysCardSaid : Prop := Claim7.holds Tryd.pinned (.plain (OpenSpec.ofChange poolLaysSpec)) poolLaysCard

/-- THE TIED CARD OF 'selionlaw10.PoolTells'. -/
def poolTellsCard : Claim7 := { stood := { row := poolTellsRow, standIns := [], harness := (true, "75c19a1a82fc2228e990fe59bda2bf68d1ec9ff3984317045bb390815056abe5"), looks := true }, kinds := [], alts := [], laidByText := true, laidKinds := [.handle, .sentinel, .sentinel], laidTests := true, laidLooks := .later }
def PoolTellsCardSaid : Prop := Claim7.holds Tryd.pinned (.plain (OpenSpec.ofChange poolTellsSpec)) poolTellsCard

/-- THE TIED CARD OF 'selionlaw10.PoolBack'. -/
def poolBackCard : Claim7 := { stood := { row := poolBackRow, standIns := [], harness := (true, "75c19a1a82fc2228e990fe59bda2bf68d1ec9ff3984317045bb390815056abe5"), looks := true }, kinds := [], alts := [], laidByText := true, laidKinds := [.handle, .sentinel, .sentinel], laidTests := true, laidLooks := .later }
def PoolBackCardSaid : Prop := Claim7.holds Tryd.pinned (.plain (OpenSpec.ofChange poolBackSpec)) poolBackCard

/-- THE SECOND FORM's CARD OF 'selionlaw10.PoolKeeps'. -/
def poolKeepsUptoCard : Claim7 := { stood := { row := poolKeepsUptoRow, standIns := [], harness := (true, "75c19a1a82fc2228e990fe59bda2bf68d1ec9ff3984317045bb390815056abe5"), looks := true }, kinds := [], alts := [], laidByText := true, laidKinds := [.handle, .sentinel, .sentinel], laidTests := true, laidLooks := .later }
def PoolKeepsUptoCardSaid : Prop := Claim7.holds Tryd.pinned (.plain (OpenSpec.upto poolKeepsSpec)) poolKeepsUptoCard

/-- THE SECOND FORM's CARD OF 'selionlaw10.PoolTaken'. -/
def poolTakenUptoCard : Claim7 := { stood := { row := poolTakenUptoRow, standIns := [], harness := (true, "75c19a1a82fc2228e990fe59bda2bf68d1ec9ff3984317045bb390815056abe5"), looks := true }, kinds := [], alts := [], laidByText := true, laidKinds := [.handle, .sentinel, .sentinel], laidTests := true, laidLooks := .later }
def PoolTakenUptoCardSaid : Prop := Claim7.holds Tryd.pinned (.plain (OpenSpec.upto poolTakenSpec)) poolTakenUptoCard

/-- THE SECOND FORM's CARD OF 'selionlaw10.PoolLays'. -/
def poolLaysUptoCard : Claim7 := { stood := { row := poolLaysUptoRow, standIns := [], harness := (true, "75c19a1a82fc2228e990fe59bda2bf68d1ec9ff3984317045bb390815056abe5"), looks := true }, kinds := [], alts := [], laidByText := true, laidKinds := [.handle, .sentinel, .sentinel], laidTests := true, laidLooks := .later }
def PoolLaysUptoCardSaid : Prop := Claim7.holds Tryd.pinned (.plain (OpenSpec.upto poolLaysSpec)) poolLaysUptoCard

/-- THE SECOND FORM's CARD OF 'selionlaw10.PoolTells'. -/
def poolTellsUptoCard : Claim7 := { stood := { row := poolTellsUptoRow, standIns := [], harness := (true, "75c19a1a82fc2228e990fe59bda2bf68d1ec9ff3984317045bb390815056abe5"), looks := true }, kinds := [], alts := [], laidByText := true, laidKinds := [.handle, .sentinel, .sentinel], laidTests := true, laidLooks := .later }
def PoolTellsUptoCardSaid : Prop := Claim7.holds Tryd.pinned (.plain (OpenSpec.upto poolTellsSpec)) poolTellsUptoCard

/-- THE SECOND FORM's CARD OF 'selionlaw10.PoolBack'. -/
def poolBackUptoCard : Claim7 := { stood := { row := poolBackUptoRow, standIns := [], harness := (true, "75c19a1a82fc2228e990fe59bda2bf68d1ec9ff3984317045bb390815056abe5"), looks := true }, kinds := [], alts := [], laidByText := true, laidKinds := [.handle, .sentinel, .sentinel], laidTests := true, laidLooks := .later }
def PoolBackUptoCardSaid : Prop := Claim7.holds Tryd.pinned (.plain (OpenSpec.upto poolBackSpec)) poolBackUptoCard
end Rows
end Go.Proofs.YtllanbggjfmfhaaDoor
