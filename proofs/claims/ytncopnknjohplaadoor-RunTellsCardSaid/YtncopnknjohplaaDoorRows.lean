/-
  NARROWER THAN 'FOR EVERY INPUT', by the rows' own cells (each row's printed sentence says how): RunTurns: laid · RunFirst: laid · RunFewer: laid · RunBack: laid · RunTells: laid · RunSums: laid.
  DERIVED. THE GIVEN ROWS OF THIS SEAT. 6 by the template 'for every input the law returns true; each argument reads behind the call as it read before'; 0 by the template 'total and deterministic' (their statements: YtncopnknjohplaaDoorTotals.lean).
  GIVEN WITH THE SEED: the statements are not yours to turn. If you find one false, say at which input.
  Laid BY PROGRAM, IN A SANDBOX (cutbox-rows.mjs): the forced cells as the released guide's own fill.sh prints them over the translation 0e8d2e44dfcf0ef8… (all of the seat's roots in one cut). By AI agents, Wed Nov 11 2026. No macro, syntax, notation, axiom, sorry.
-/
import Derived.Test.YtncopnknjohplaaDoorChecked
import GoSem.Claim
import GoSem.ClaimJoined
import GoSem.ClaimMapViews
import Derived.JoinedTies
import Derived.KernelRfl
namespace Go.Proofs.YtncopnknjohplaaDoor
/- THE CELL 'sum', in the pinned program and in every row, IS THE sha256 OF THE DUMP (.gsa) THAT YtncopnknjohplaaDoorProg.lean LOADS. Nothing in Lean hashes anything: it is a label: what it is worth is what the hold of that sum in a sandbox is worth. -/
noncomputable def Tryd.pinned : Pinned := { name := "ytncopnknjohplaadoor", sum := "0e8d2e44dfcf0ef82f4e210cbafef92562b86b0d84be8761458740b3f41d2157", checked := Tryd.checked }
namespace Rows
def none {H : Type} : Left H := { results := [], args := [] }

/- WHAT THE LISTED PACKAGE-LEVEL VARIABLES READ AS WHEN THE CALL BEGINS. Each datum BY PROGRAM (the guide's laid-datum.mjs) off the statement by which the dump's own 'gosem.cut.vars' lays the variable. In a bare row this is a premise. The card (YtncopnknjohplaaDoorCards.lean) ties it to the program's text. -/
def laid_selion_run_errState {H : Type} : DataW H := .iface "*errors.errorString" (.ptr (.agg [.lit (.string [114, 117, 110, 58, 32, 110, 111, 32, 115, 117, 99, 104, 32, 115, 116, 97, 116, 101, 115])]))
def laid_selion_run_errRun {H : Type} : DataW H := .iface "*errors.errorString" (.ptr (.agg [.lit (.string [114, 117, 110, 58, 32, 110, 111, 32, 115, 117, 99, 104, 32, 98, 108, 111, 99, 107, 115])]))

/-- 'selionlaw09.RunTurns': WHATEVER THE INPUT: true; the input reads as it did. -/
def runTurnsSpec : ChangeSpec := { name := "runTurns", fn := fun _ => fun
  | [d1, d2, d3] => { results := [.lit (.bool true)], args := [d1, d2, d3] }
  | _ => none }
def runTurnsRow : OpenClaim := { program := "ytncopnknjohplaadoor", sum := "0e8d2e44dfcf0ef82f4e210cbafef92562b86b0d84be8761458740b3f41d2157", func := "selion/selionlaw09.RunTurns", spec := "runTurns", inPlace := ["internal/reflectlite.TypeOf"], unfollowed := true, recurses := true, named := ["selion/run.errState", "selion/run.errRun"], apart := false, laid := [("selion/run.errState", laid_selion_run_errState), ("selion/run.errRun", laid_selion_run_errRun)] }
def RunTurnsSaid : Prop := runTurnsRow.holds Tryd.pinned (OpenSpec.ofChange runTurnsSpec)

/-- ITS FALSE NEIGHBOUR: 'it returns false'. Refute it at one input. -/
def runTurnsWrong : ChangeSpec := { name := "runTurns", fn := fun _ => fun
  | [d1, d2, d3] => { results := [.lit (.bool false)], args := [d1, d2, d3] }
  | _ => none }
def RunTurnsWrongFalsely : Prop := runTurnsRow.holds Tryd.pinned (OpenSpec.ofChange runTurnsWrong)

/-- 'selionlaw09.RunFirst': WHATEVER THE INPUT: true; the input reads as it did. -/
def runFirstSpec : ChangeSpec := { name := "runFirst", fn := fun _ => fun
  | [d1, d2, d3] => { results := [.lit (.bool true)], args := [d1, d2, d3] }
  | _ => none }
def runFirstRow : OpenClaim := { program := "ytncopnknjohplaadoor", sum := "0e8d2e44dfcf0ef82f4e210cbafef92562b86b0d84be8761458740b3f41d2157", func := "selion/selionlaw09.RunFirst", spec := "runFirst", inPlace := ["internal/reflectlite.TypeOf"], unfollowed := true, recurses := true, named := ["selion/run.errState", "selion/run.errRun"], apart := false, laid := [("selion/run.errState", laid_selion_run_errState), ("selion/run.errRun", laid_selion_run_errRun)] }
def RunFirstSaid : Prop := runFirstRow.holds Tryd.pinned (OpenSpec.ofChange runFirstSpec)

/-- ITS FALSE NEIGHBOUR: 'it returns false'. Refute it at one input. -/
def runFirstWrong : ChangeSpec := { name := "runFirst", fn := fun _ => fun
  | [d1, d2, d3] => { results := [.lit (.bool false)], args := [d1, d2, d3] }
  | _ => none }
def RunFirstWrongFalsely : Prop := runFirstRow.holds Tryd.pinned (OpenSpec.ofChange runFirstWrong)

/-- 'selionlaw09.RunFewer': WHATEVER THE INPUT: true; the input reads as it did. -/
def runFewerSpec : ChangeSpec := { name := "runFewer", fn := fun _ => fun
  | [d1, d2, d3] => { results := [.lit (.bool true)], args := [d1, d2, d3] }
  | _ => none }
def runFewerRow : OpenClaim := { program := "ytncopnknjohplaadoor", sum := "0e8d2e44dfcf0ef82f4e210cbafef92562b86b0d84be8761458740b3f41d2157", func := "selion/selionlaw09.RunFewer", spec := "runFewer", inPlace := ["internal/reflectlite.TypeOf"], unfollowed := true, recurses := true, named := ["selion/run.errState", "selion/run.errRun"], apart := false, laid := [("selion/run.errState", laid_selion_run_errState), ("selion/run.errRun", laid_selion_run_errRun)] }
def RunFewerSaid : Prop := runFewerRow.holds Tryd.pinned (OpenSpec.ofChange runFewerSpec)

/-- ITS FALSE NEIGHBOUR: 'it returns false'. Refute it at one input. -/
def runFewerWrong : ChangeSpec := { name := "runFewer", fn := fun _ => fun
  | [d1, d2, d3] => { results := [.lit (.bool false)], args := [d1, d2, d3] }
  | _ => none }
def RunFewerWrongFalsely : Prop := runFewerRow.holds Tryd.pinned (OpenSpec.ofChange runFewerWrong)

/-- 'selionlaw09.RunBack': WHATEVER THE INPUT: true; the input reads as it did. -/
def runBackSpec : ChangeSpec := { name := "runBack", fn := fun _ => fun
  | [d1, d2, d3] => { results := [.lit (.bool true)], args := [d1, d2, d3] }
  | _ => none }
def runBackRow : OpenClaim := { program := "ytncopnknjohplaadoor", sum := "0e8d2e44dfcf0ef82f4e210cbafef92562b86b0d84be8761458740b3f41d2157", func := "selion/selionlaw09.RunBack", spec := "runBack", inPlace := ["internal/reflectlite.TypeOf"], unfollowed := true, recurses := true, named := ["selion/run.errState", "selion/run.errRun"], apart := false, laid := [("selion/run.errState", laid_selion_run_errState), ("selion/run.errRun", laid_selion_run_errRun)] }
def RunBackSaid : Prop := runBackRow.holds Tryd.pinned (OpenSpec.ofChange runBackSpec)

/-- ITS FALSE NEIGHBOUR: 'it returns false'. Refute it at one input. -/
def runBackWrong : ChangeSpec := { name := "runBack", fn := fun _ => fun
  | [d1, d2, d3] => { results := [.lit (.bool false)], args := [d1, d2, d3] }
  | _ => none }
def RunBackWrongFalsely : Prop := runBackRow.holds Tryd.pinned (OpenSpec.ofChange runBackWrong)

/-- 'selionlaw09.RunTells': WHATEVER THE INPUT: true; the input reads as it did. -/
def runTellsSpec : ChangeSpec := { name := "runTells", fn := fun _ => fun
  | [d1, d2, d3] => { results := [.lit (.bool true)], args := [d1, d2, d3] }
  | _ => none }
def runTellsRow : OpenClaim := { program := "ytncopnknjohplaadoor", sum := "0e8d2e44dfcf0ef82f4e210cbafef92562b86b0d84be8761458740b3f41d2157", func := "selion/selionlaw09.RunTells", spec := "runTells", inPlace := ["internal/reflectlite.TypeOf"], unfollowed := true, recurses := true, named := ["selion/run.errState", "selion/run.errRun"], apart := false, laid := [("selion/run.errState", laid_selion_run_errState), ("selion/run.errRun", laid_selion_run_errRun)] }
def RunTellsSaid : Prop := runTellsRow.holds Tryd.pinned (OpenSpec.ofChange runTellsSpec)

/-- ITS FALSE NEIGHBOUR: 'it returns false'. Refute it at one input. -/
def runTellsWrong : ChangeSpec := { name := "runTells", fn := fun _ => fun
  | [d1, d2, d3] => { results := [.lit (.bool false)], args := [d1, d2, d3] }
  | _ => none }
def RunTellsWrongFalsely : Prop := runTellsRow.holds Tryd.pinned (OpenSpec.ofChange runTellsWrong)

/-- 'selionlaw09.RunSums': WHATEVER THE INPUT: true; the input reads as it did. -/
def runSumsSpec : ChangeSpec := { name := "runSums", fn := fun _ => fun
  | [d1, d2] => { results := [.lit (.bool true)], args := [d1, d2] }
  | _ => none }
def runSumsRow : OpenClaim := { program := "ytncopnknjohplaadoor", sum := "0e8d2e44dfcf0ef82f4e210cbafef92562b86b0d84be8761458740b3f41d2157", func := "selion/selionlaw09.RunSums", spec := "runSums", inPlace := ["internal/reflectlite.TypeOf"], unfollowed := true, recurses := true, named := ["selion/run.errState", "selion/run.errRun"], apart := false, laid := [("selion/run.errState", laid_selion_run_errState), ("selion/run.errRun", laid_selion_run_errRun)] }
def RunSumsSaid : Prop := runSumsRow.holds Tryd.pinned (OpenSpec.ofChange runSumsSpec)

/-- ITS FALSE NEIGHBOUR: 'it returns false'. Refute it at one input. -/
def runSumsWrong : ChangeSpec := { name := "runSums", fn := fun _ => fun
  | [d1, d2] => { results := [.lit (.bool false)], args := [d1, d2] }
  | _ => none }
def RunSumsWrongFalsely : Prop := runSumsRow.holds Tryd.pinned (OpenSpec.ofChange runSumsWrong)

/- THE SECOND FORM. 'bulk': how many values and letters a reading holds, each counted each time it is reached (what is shared counts as often as it is met; a slice's spare places count too). A statement '..UptoSaid' is the law's where the arguments, and the package variables that the reading takes, are together of bulk at most 1048576: NARROWER than '..Said'. Prove '..Said' where nothing that the law and all that it calls make is longer than what came in: it says more and counts as full. Else prove '..UptoSaid'. A law counts once. -/
mutual
def uptoBulk {H : Type} : DataW H → Nat
  | .lit (.string bytes) => bytes.length + 1
  | .lit _ => 1
  | .nil => 1
  | .ptr d => uptoBulk d + 1
  | .slice elems spare => uptoBulkAll elems + uptoBulkAll spare + 1
  | .agg parts => uptoBulkAll parts + 1
  | .iface _ d => uptoBulk d + 1
  | .map entries => uptoBulkEntries entries + 1
  | .held _ => 1
def uptoBulkAll {H : Type} : List (DataW H) → Nat
  | [] => 0
  | d :: r => uptoBulk d + uptoBulkAll r
def uptoBulkEntries {H : Type} : List (Lit × DataW H) → Nat
  | [] => 0
  | x :: r => uptoBulkEntry x + uptoBulkEntries r
def uptoBulkEntry {H : Type} : Lit × DataW H → Nat
  | (.string bytes, d) => bytes.length + uptoBulk d + 1
  | (_, d) => uptoBulk d + 1
 end
def uptoSmall : (H : Type) → List (DataW H) → Bool := fun _ ds => decide (uptoBulkAll ds ≤ 1048576)
def OpenSpec.upto (s : _root_.Go.ChangeSpec) : _root_.Go.OpenSpec := { _root_.Go.OpenSpec.ofChange s with cond := some uptoSmall }

/-- 'selionlaw09.RunTurns', WHERE WHAT IT READS IS OF BULK AT MOST 1048576: true; the input reads as it did. -/
def runTurnsUptoRow : OpenClaim := { program := "ytncopnknjohplaadoor", sum := "0e8d2e44dfcf0ef82f4e210cbafef92562b86b0d84be8761458740b3f41d2157", func := "selion/selionlaw09.RunTurns", spec := "runTurns", inPlace := ["internal/reflectlite.TypeOf"], unfollowed := true, recurses := true, named := ["selion/run.errState", "selion/run.errRun"], apart := false, laid := [("selion/run.errState", laid_selion_run_errState), ("selion/run.errRun", laid_selion_run_errRun)], narrowed := true }
def RunTurnsUptoSaid : Prop := runTurnsUptoRow.holds Tryd.pinned (OpenSpec.upto runTurnsSpec)

/-- 'selionlaw09.RunFirst', WHERE WHAT IT READS IS OF BULK AT MOST 1048576: true; the input reads as it did. -/
def runFirstUptoRow : OpenClaim := { program := "ytncopnknjohplaadoor", sum := "0e8d2e44dfcf0ef82f4e210cbafef92562b86b0d84be8761458740b3f41d2157", func := "selion/selionlaw09.RunFirst", spec := "runFirst", inPlace := ["internal/reflectlite.TypeOf"], unfollowed := true, recurses := true, named := ["selion/run.errState", "selion/run.errRun"], apart := false, laid := [("selion/run.errState", laid_selion_run_errState), ("selion/run.errRun", laid_selion_run_errRun)], narrowed := true }
def RunFirstUptoSaid : Prop := runFirstUptoRow.holds Tryd.pinned (OpenSpec.upto runFirstSpec)

/-- 'selionlaw09.RunFewer', WHERE WHAT IT READS IS OF BULK AT MOST 1048576: true; the input reads as it did. -/
def runFewerUptoRow : OpenClaim := { program := "ytncopnknjohplaadoor", sum := "0e8d2e44dfcf0ef82f4e210cbafef92562b86b0d84be8761458740b3f41d2157", func := "selion/selionlaw09.RunFewer", spec := "runFewer", inPlace := ["internal/reflectlite.TypeOf"], unfollowed := true, recurses := true, named := ["selion/run.errState", "selion/run.errRun"], apart := false, laid := [("selion/run.errState", laid_selion_run_errState), ("selion/run.errRun", laid_selion_run_errRun)], narrowed := true }
def RunFewerUptoSaid : Prop := runFewerUptoRow.holds Tryd.pinned (OpenSpec.upto runFewerSpec)

/-- 'selionlaw09.RunBack', WHERE WHAT IT READS IS OF BULK AT MOST 1048576: true; the input reads as it did. -/
def runBackUptoRow : OpenClaim := { program := "ytncopnknjohplaadoor", sum := "0e8d2e44dfcf0ef82f4e210cbafef92562b86b0d84be8761458740b3f41d2157", func := "selion/selionlaw09.RunBack", spec := "runBack", inPlace := ["internal/reflectlite.TypeOf"], unfollowed := true, recurses := true, named := ["selion/run.errState", "selion/run.errRun"], apart := false, laid := [("selion/run.errState", laid_selion_run_errState), ("selion/run.errRun", laid_selion_run_errRun)], narrowed := true }
def RunBackUptoSaid : Prop := runBackUptoRow.holds Tryd.pinned (OpenSpec.upto runBackSpec)

/-- 'selionlaw09.RunTells', WHERE WHAT IT READS IS OF BULK AT MOST 1048576: true; the input reads as it did. -/
def runTellsUptoRow : OpenClaim := { program := "ytncopnknjohplaadoor", sum := "0e8d2e44dfcf0ef82f4e210cbafef92562b86b0d84be8761458740b3f41d2157", func := "selion/selionlaw09.RunTells", spec := "runTells", inPlace := ["internal/reflectlite.TypeOf"], unfollowed := true, recurses := true, named := ["selion/run.errState", "selion/run.errRun"], apart := false, laid := [("selion/run.errState", laid_selion_run_errState), ("selion/run.errRun", laid_selion_run_errRun)], narrowed := true }
def RunTellsUptoSaid : Prop := runTellsUptoRow.holds Tryd.pinned (OpenSpec.upto runTellsSpec)

/-- 'selionlaw09.RunSums', WHERE WHAT IT READS IS OF BULK AT MOST 1048576: true; the input reads as it did. -/
def runSumsUptoRow : OpenClaim := { program := "ytncopnknjohplaadoor", sum := "0e8d2e44dfcf0ef82f4e210cbafef92562b86b0d84be8761458740b3f41d2157", func := "selion/selionlaw09.RunSums", spec := "runSums", inPlace := ["internal/reflectlite.TypeOf"], unfollowed := true, recurses := true, named := ["selion/run.errState", "selion/run.errRun"], apart := false, laid := [("selion/run.errState", laid_selion_run_errState), ("selion/run.errRun", laid_selion_run_errRun)], narrowed := true }
def RunSumsUptoSaid : Prop := runSumsUptoRow.holds Tryd.pinned (OpenSpec.upto runSumsSpec)

end Rows
end Go.Proofs.YtncopnknjohplaaDoor
