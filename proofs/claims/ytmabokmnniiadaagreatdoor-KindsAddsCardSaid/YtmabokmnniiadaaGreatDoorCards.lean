/-
  DERIVED. GIVEN WITH THE SEED: THE CARDS: each row of YtmabokmnniiadaaGreatDoorRows.lean that lists a variable, with what it lists TIED to the program's text (the seventh form; the later family's looks); each row that meets fmt, with fmt's text TOLD by the authors' own Lean function (tested against real Go, not proved from fmt's source: count such statements apart). THE CARD IS WHAT COUNTS. Prove the row's statement (the work); the ties are given (YtmabokmnniiadaaGreatDoorTie.lean); close each card by the builder's one call (the guide's Derived/Test/ToyasCard.lean, 'card_holds'). Laid BY PROGRAM, IN A SANDBOX (cutbox-door.mjs). By AI agents, Wed Nov 11 2026. No macro, syntax, notation, axiom, sorry.
-/
import Derived.Test.YtmabokmnniiadaaGreatDoorRows
import GoSem.ClaimSeven
namespace Go.Proofs.YtmabokmnniiadaaGreatDoor
namespace Rows

/-- THE TIED CARD OF 'selionlaw05.KindsTexts'. -/
def kindsTextsCard : Claim7 := { stood := { row := kindsTextsRow, standIns := [], harness := (true, "ec9bc08b53a54afbdfa6c2d0bc58ee0cdbf9db83a968ef0307575dfccdc6f269"), looks := true }, kinds := [], alts := [], laidByText := true, laidKinds := [.data, .data, .data, .data, .handle, .pinned], laidTests := true, laidLooks := .later }
def KindsTextsCardSaid : Prop := Claim7.holds Tryz.pinned (.plain (OpenSpec.ofChange kindsTextsSpec)) kindsTextsCard

/-- THE TIED CARD OF 'selionlaw05.KindsAll'. -/
def kindsAllCard : Claim7 := { stood := { row := kindsAllRow, standIns := [], harness := (true, "ec9bc08b53a54afbdfa6c2d0bc58ee0cdbf9db83a968ef0307575dfccdc6f269"), looks := true }, kinds := [], alts := [], laidByText := true, laidKinds := [.data, .data, .data, .data, .handle, .pinned], laidTests := true, laidLooks := .later }
def KindsAllCardSaid : Prop := Claim7.holds Tryz.pinned (.plain (OpenSpec.ofChange kindsAllSpec)) kindsAllCard

/-- THE TIED CARD OF 'selionlaw05.KindsAdds'. -/
def kindsAddsCard : Claim7 := { stood := { row := kindsAddsRow, standIns := [], harness := (true, "ec9bc08b53a54afbdfa6c2d0bc58ee0cdbf9db83a968ef0307575dfccdc6f269"), looks := true }, kinds := [], alts := [], laidByText := true, laidKinds := [.data, .data, .data, .data, .handle, .pinned], laidTests := true, laidLooks := .later }
def KindsAddsCardSaid : Prop := Claim7.holds Tryz.pinned (.plain (OpenSpec.ofChange kindsAddsSpec)) kindsAddsCard

/-- THE TIED CARD OF 'selionlaw05.KindsKeeps'. -/
def kindsKeepsCard : Claim7 := { stood := { row := kindsKeepsRow, standIns := [], harness := (true, "ec9bc08b53a54afbdfa6c2d0bc58ee0cdbf9db83a968ef0307575dfccdc6f269"), looks := true }, kinds := [], alts := [], laidByText := true, laidKinds := [.data, .data, .data, .data, .handle, .pinned], laidTests := true, laidLooks := .later }
def KindsKeepsCardSaid : Prop := Claim7.holds Tryz.pinned (.plain (OpenSpec.ofChange kindsKeepsSpec)) kindsKeepsCard

/-- THE TIED CARD OF 'selionlaw05.KindsBack'. -/
def kindsBackCard : Claim7 := { stood := { row := kindsBackRow, standIns := [], harness := (true, "ec9bc08b53a54afbdfa6c2d0bc58ee0cdbf9db83a968ef0307575dfccdc6f269"), looks := true }, kinds := [], alts := [], laidByText := true, laidKinds := [.data, .data, .data, .data, .handle, .pinned], laidTests := true, laidLooks := .later }
def KindsBackCardSaid : Prop := Claim7.holds Tryz.pinned (.plain (OpenSpec.ofChange kindsBackSpec)) kindsBackCard

/-- THE TIED CARD OF 'selionlaw05.KindsOne'. -/
def kindsOneCard : Claim7 := { stood := { row := kindsOneRow, standIns := [], harness := (true, "ec9bc08b53a54afbdfa6c2d0bc58ee0cdbf9db83a968ef0307575dfccdc6f269"), looks := true }, kinds := [], alts := [], laidByText := true, laidKinds := [.data, .data, .data, .data, .handle, .pinned], laidTests := true, laidLooks := .later }
def KindsOneCardSaid : Prop := Claim7.holds Tryz.pinned (.plain (OpenSpec.ofChange kindsOneSpec)) kindsOneCard

/-- THE SECOND FORM's CARD OF 'selionlaw05.KindsTexts'. -/
def kindsTextsUptoCard : Claim7 := { stood := { row := kindsTextsUptoRow, standIns := [], harness := (true, "ec9bc08b53a54afbdfa6c2d0bc58ee0cdbf9db83a968ef0307575dfccdc6f269"), looks := true }, kinds := [], alts := [], laidByText := true, laidKinds := [.data, .data, .data, .data, .handle, .pinned], laidTests := true, laidLooks := .later }
def KindsTextsUptoCardSaid : Prop := Claim7.holds Tryz.pinned (.plain (OpenSpec.upto kindsTextsSpec)) kindsTextsUptoCard

/-- THE SECOND FORM's CARD OF 'selionlaw05.KindsAll'. -/
def kindsAllUptoCard : Claim7 := { stood := { row := kindsAllUptoRow, standIns := [], harness := (true, "ec9bc08b53a54afbdfa6c2d0bc58ee0cdbf9db83a968ef0307575dfccdc6f269"), looks := true }, kinds := [], alts := [], laidByText := true, laidKinds := [.data, .data, .data, .data, .handle, .pinned], laidTests := true, laidLooks := .later }
def KindsAllUptoCardSaid : Prop := Claim7.holds Tryz.pinned (.plain (OpenSpec.upto kindsAllSpec)) kindsAllUptoCard

/-- THE SECOND FORM's CARD OF 'selionlaw05.KindsAdds'. -/
def kindsAddsUptoCard : Claim7 := { stood := { row := kindsAddsUptoRow, standIns := [], harness := (true, "ec9bc08b53a54afbdfa6c2d0bc58ee0cdbf9db83a968ef0307575dfccdc6f269"), looks := true }, kinds := [], alts := [], laidByText := true, laidKinds := [.data, .data, .data, .data, .handle, .pinned], laidTests := true, laidLooks := .later }
def KindsAddsUptoCardSaid : Prop := Claim7.holds Tryz.pinned (.plain (OpenSpec.upto kindsAddsSpec)) kindsAddsUptoCard

/-- THE SECOND FORM's CARD OF 'selionlaw05.KindsKeeps'. -/
def kindsKeepsUptoCard : Claim7 := { stood := { row := kindsKeepsUptoRow, standIns := [], harness := (true, "ec9bc08b53a54afbdfa6c2d0bc58ee0cdbf9db83a968ef0307575dfccdc6f269"), looks := true }, kinds := [], alts := [], laidByText := true, laidKinds := [.data, .data, .data, .data, .handle, .pinned], laidTests := true, laidLooks := .later }
def KindsKeepsUptoCardSaid : Prop := Claim7.holds Tryz.pinned (.plain (OpenSpec.upto kindsKeepsSpec)) kindsKeepsUptoCard

/-- THE SECOND FORM's CARD OF 'selionlaw05.KindsBack'. -/
def kindsBackUptoCard : Claim7 := { stood := { row := kindsBackUptoRow, standIns := [], harness := (true, "ec9bc08b53a54afbdfa6c2d0bc58ee0cdbf9db83a968ef0307575dfccdc6f269"), looks := true }, kinds := [], alts := [], laidByText := true, laidKinds := [.data, .data, .data, .data, .handle, .pinned], laidTests := true, laidLooks := .later }
def KindsBackUptoCardSaid : Prop := Claim7.holds Tryz.pinned (.plain (OpenSpec.upto kindsBackSpec)) kindsBackUptoCard

/-- THE SECOND FORM's CARD OF 'selionlaw05.KindsOne'. -/
def kindsOneUptoCard : Claim7 := { stood := { row := kindsOneUptoRow, standIns := [], harness := (true, "ec9bc08b53a54afbdfa6c2d0bc58ee0cdbf9db83a968ef0307575dfccdc6f269"), looks := true }, kinds := [], alts := [], laidByText := true, laidKinds := [.data, .data, .data, .data, .handle, .pinned], laidTests := true, laidLooks := .later }
def KindsOneUptoCardSaid : Prop := Claim7.holds Tryz.pinned (.plain (OpenSpec.upto kindsOneSpec)) kindsOneUptoCard
end Rows
end Go.Proofs.YtmabokmnniiadaaGreatDoor
