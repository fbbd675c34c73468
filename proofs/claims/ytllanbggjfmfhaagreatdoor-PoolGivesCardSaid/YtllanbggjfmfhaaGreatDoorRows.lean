/-
  NARROWER THAN 'FOR EVERY INPUT', by the rows' own cells (each row's printed sentence says how): PoolTakes: laid · PoolGives: laid.
  DERIVED. THE GIVEN ROWS OF THIS SEAT. 2 by the template 'for every input the law returns true; each argument reads behind the call as it read before'; 0 by the template 'total and deterministic' (their statements: YtllanbggjfmfhaaGreatDoorTotals.lean).
  GIVEN WITH THE SEED: the statements are not yours to turn. If you find one false, say at which input.
  Laid BY PROGRAM, IN A SANDBOX (cutbox-rows.mjs): the forced cells as the released guide's own fill.sh prints them over the translation 65ebdcafd2522221… (all of the seat's roots in one cut). By AI agents, Wed Nov 11 2026. No macro, syntax, notation, axiom, sorry.
-/
import Derived.Test.YtllanbggjfmfhaaGreatDoorChecked
import GoSem.Claim
import GoSem.ClaimJoined
import GoSem.ClaimMapViews
import Derived.JoinedTies
import Derived.KernelRfl
namespace Go.Proofs.YtllanbggjfmfhaaGreatDoor
/- THE CELL 'sum', in the pinned program and in every row, IS THE sha256 OF THE DUMP (.gsa) THAT YtllanbggjfmfhaaGreatDoorProg.lean LOADS. Nothing in Lean hashes anything: it is a label: what it is worth is what the hold of that sum in a sandbox is worth. -/
noncomputable def Tryz.pinned : Pinned := { name := "ytllanbggjfmfhaagreatdoor", sum := "65ebdcafd2522221cbb71c854085c976535c8f0616df0159d7e98003574b14af", checked := Tryz.checked }
namespace Rows
def none {H : Type} : Left H := { results := [], args := [] }

/- WHAT THE LISTED PACKAGE-LEVEL VARIABLES READ AS WHEN THE CALL BEGINS. Each datum BY PROGRAM (the guide's laid-datum.mjs) off the statement by which the dump's own 'gosem.cut.vars' lays the variable. In a bare row this is a premise. The card (YtllanbggjfmfhaaGreatDoorCards.lean) ties it to the program's text. -/
def laid_errors_errorType {H : Type} : DataW H := .iface "internal/reflectlite.rtype" (.agg [.ptr (.lit (.string [101, 114, 114, 111, 114]))])
def laid_selion_run_errState {H : Type} : DataW H := .iface "*errors.errorString" (.ptr (.agg [.lit (.string [114, 117, 110, 58, 32, 110, 111, 32, 115, 117, 99, 104, 32, 115, 116, 97, 116, 101, 115])]))
def laid_selion_run_errRun {H : Type} : DataW H := .iface "*errors.errorString" (.ptr (.agg [.lit (.string [114, 117, 110, 58, 32, 110, 111, 32, 115, 117, 99, 104, 32, 98, 108, 111, 99, 107, 115])]))

/-- 'selionlaw10.PoolTakes': WHATEVER THE INPUT: true; the input reads as it did. -/
def poolTakesSpec : ChangeSpec := { name := "poolTakes", fn := fun _ => fun
  | [d1, d2] => { results := [.lit (.bool true)], args := [d1, d2] }
  | _ => none }
def poolTakesRow : OpenClaim := { program := "ytllanbggjfmfhaagreatdoor", sum := "65ebdcafd2522221cbb71c854085c976535c8f0616df0159d7e98003574b14af", func := "selion/selionlaw10.PoolTakes", spec := "poolTakes", inPlace := ["internal/reflectlite.ValueOf", "(internal/reflectlite.Value).Type", "(internal/reflectlite.Value).IsNil", "internal/reflectlite.TypeOf", "(internal/reflectlite.Value).Elem", "(internal/reflectlite.Value).Set"], unfollowed := true, recurses := true, named := ["errors.errorType", "selion/run.errState", "selion/run.errRun"], apart := false, laid := [("errors.errorType", laid_errors_errorType), ("selion/run.errState", laid_selion_run_errState), ("selion/run.errRun", laid_selion_run_errRun)] }
def PoolTakesSaid : Prop := poolTakesRow.holds Tryz.pinned (OpenSpec.ofChange poolTakesSpec)

/-- ITS FALSE NEIGHBOUR: 'it returns false'. Refute it at one input. -/
def poolTakesWrong : ChangeSpec := { name := "poolTakes", fn := fun _ => fun
  | [d1, d2] => { results := [.lit (.bool false)], args := [d1, d2] }
  | _ => none }
def PoolTakesWrongFalsely : Prop := poolTakesRow.holds Tryz.pinned (OpenSpec.ofChange poolTakesWrong)

/-- 'selionlaw10.PoolGives': WHATEVER THE INPUT: true; the input reads as it did. -/
def poolGivesSpec : ChangeSpec := { name := "poolGives", fn := fun _ => fun
  | [d1, d2, d3] => { results := [.lit (.bool true)], args := [d1, d2, d3] }
  | _ => none }
def poolGivesRow : OpenClaim := { program := "ytllanbggjfmfhaagreatdoor", sum := "65ebdcafd2522221cbb71c854085c976535c8f0616df0159d7e98003574b14af", func := "selion/selionlaw10.PoolGives", spec := "poolGives", inPlace := ["internal/reflectlite.ValueOf", "(internal/reflectlite.Value).Type", "(internal/reflectlite.Value).IsNil", "internal/reflectlite.TypeOf", "(internal/reflectlite.Value).Elem", "(internal/reflectlite.Value).Set"], unfollowed := true, recurses := true, named := ["errors.errorType", "selion/run.errState", "selion/run.errRun"], apart := false, laid := [("errors.errorType", laid_errors_errorType), ("selion/run.errState", laid_selion_run_errState), ("selion/run.errRun", laid_selion_run_errRun)] }
def PoolGivesSaid : Prop := poolGivesRow.holds Tryz.pinned (OpenSpec.ofChange poolGivesSpec)

/-- ITS FALSE NEIGHBOUR: 'it returns false'. Refute it at one input. -/
def poolGivesWrong : ChangeSpec := { name := "poolGives", fn := fun _ => fun
  | [d1, d2, d3] => { results := [.lit (.bool false)], args := [d1, d2, d3] }
  | _ => none }
def PoolGivesWrongFalsely : Prop := poolGivesRow.holds Tryz.pinned (OpenSpec.ofChange poolGivesWrong)

/- THE SECOND FORM. 'bulk': how many values and letters a reading holds, each counted each time it is reached (what is shared counts as often as it is met; a slice's spare places count too). A statement '..UptoSaid' is the law's where the arguments, and the package variables that the reading takes, are together of bulk at most 1048576: NARROWER than '..Said'. Prove '..Said' where nothing that the law and all that it calls make is longer than what came in: it says more and counts as full. Else prove '..UptoSaid'. A law counts once. -/
mutual
def uptoBulk {H : Type} : DataW H → Nat
  | .lit (.string bytes) => bytes.length + 1
  | .lit _ => 1
  | .nil => 1
  | .ptr d => uptoBulk d + 1
  | .slice elems spare => uptoBulkAll elems + uptoBulkAll spare + 1
  | .agg parts => uptoBulkAll parts + 1
  | .iface _ d => uptoBulk d + 1
  | .map entries => uptoBulkEntries entries + 1
  | .held _ => 1
def uptoBulkAll {H : Type} : List (DataW H) → Nat
  | [] => 0
  | d :: r => uptoBulk d + uptoBulkAll r
def uptoBulkEntries {H : Type} : List (Lit × DataW H) → Nat
  | [] => 0
  | x :: r => uptoBulkEntry x + uptoBulkEntries r
def uptoBulkEntry {H : Type} : Lit × DataW H → Nat
  | (.string bytes, d) => bytes.length + uptoBulk d + 1
  | (_, d) => uptoBulk d + 1
 end
def uptoSmall : (H : Type) → List (DataW H) → Bool := fun _ ds => decide (uptoBulkAll ds ≤ 1048576)
def OpenSpec.upto (s : _root_.Go.ChangeSpec) : _root_.Go.OpenSpec := { _root_.Go.OpenSpec.ofChange s with cond := some uptoSmall }

/-- 'selionlaw10.PoolTakes', WHERE WHAT IT READS IS OF BULK AT MOST 1048576: true; the input reads as it did. -/
def poolTakesUptoRow : OpenClaim := { program := "ytllanbggjfmfhaagreatdoor", sum := "65ebdcafd2522221cbb71c854085c976535c8f0616df0159d7e98003574b14af", func := "selion/selionlaw10.PoolTakes", spec := "poolTakes", inPlace := ["internal/reflectlite.ValueOf", "(internal/reflectlite.Value).Type", "(internal/reflectlite.Value).IsNil", "internal/reflectlite.TypeOf", "(internal/reflectlite.Value).Elem", "(internal/reflectlite.Value).Set"], unfollowed := true, recurses := true, named := ["errors.errorType", "selion/run.errState", "selion/run.errRun"], apart := false, laid := [("errors.errorType", laid_errors_errorType), ("selion/run.errState", laid_selion_run_errState), ("selion/run.errRun", laid_selion_run_errRun)], narrowed := true }
def PoolTakesUptoSaid : Prop := poolTakesUptoRow.holds Tryz.pinned (OpenSpec.upto poolTakesSpec)

/-- 'selionlaw10.PoolGives', WHERE WHAT IT READS IS OF BULK AT MOST 1048576: true; the input reads as it did. -/
def poolGivesUptoRow : OpenClaim := { program := "ytllanbggjfmfhaagreatdoor", sum := "65ebdcafd2522221cbb71c854085c976535c8f0616df0159d7e98003574b14af", func := "selion/selionlaw10.PoolGives", spec := "poolGives", inPlace := ["internal/reflectlite.ValueOf", "(internal/reflectlite.Value).Type", "(internal/reflectlite.Value).IsNil", "internal/reflectlite.TypeOf", "(internal/reflectlite.Value).Elem", "(internal/reflectlite.Value).Set"], unfollowed := true, recurses := true, named := ["errors.errorType", "selion/run.errState", "selion/run.errRun"], apart := false, laid := [("errors.errorType", laid_errors_errorType), ("selion/run.errState", laid_selion_run_errState), ("selion/run.errRun", laid_selion_run_errRun)], narrowed := true }
def PoolGivesUptoSaid : Prop := poolGivesUptoRow.holds Tryz.pinned (OpenSpec.upto poolGivesSpec)

end Rows
end Go.Proofs.YtllanbggjfmfhaaGreatDoor
