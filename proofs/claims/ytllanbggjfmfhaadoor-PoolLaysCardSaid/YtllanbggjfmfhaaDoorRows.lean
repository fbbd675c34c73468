/-
  NARROWER THAN 'FOR EVERY INPUT', by the rows' own cells (each row's printed sentence says how): PoolKeeps: laid · PoolTaken: laid · PoolLays: laid · PoolTells: laid · PoolBack: laid.
  DERIVED. THE GIVEN ROWS OF THIS SEAT. 5 by the template 'for every input the law returns true; each argument reads behind the call as it read before'; 0 by the template 'total and deterministic' (their statements: YtllanbggjfmfhaaDoorTotals.lean).
  GIVEN WITH THE SEED: the statements are not yours to turn. If you find one false, say at which input.
  Laid BY PROGRAM, IN A SANDBOX (cutbox-rows.mjs): the forced cells as the released guide's own fill.sh prints them over the translation d5ea17f2a0e987b5… (all of the seat's roots in one cut). By AI agents, Wed Nov 11 2026. No macro, syntax, notation, axiom, sorry.
-/
import Derived.Test.YtllanbggjfmfhaaDoorChecked
import GoSem.Claim
import GoSem.ClaimJoined
import GoSem.ClaimMapViews
import Derived.JoinedTies
import Derived.KernelRfl
namespace Go.Proofs.YtllanbggjfmfhaaDoor
/- THE CELL 'sum', in the pinned program and in every row, IS THE sha256 OF THE DUMP (.gsa) THAT YtllanbggjfmfhaaDoorProg.lean LOADS. Nothing in Lean hashes anything: it is a label: what it is worth is what the hold of that sum in a sandbox is worth. -/
noncomputable def Tryd.pinned : Pinned := { name := "ytllanbggjfmfhaadoor", sum := "d5ea17f2a0e987b5eb0f9a375f59126c5c6907a7b96d7cab350f57915a5f75d7", checked := Tryd.checked }
namespace Rows
def none {H : Type} : Left H := { results := [], args := [] }

/- WHAT THE LISTED PACKAGE-LEVEL VARIABLES READ AS WHEN THE CALL BEGINS. Each datum BY PROGRAM (the guide's laid-datum.mjs) off the statement by which the dump's own 'gosem.cut.vars' lays the variable. In a bare row this is a premise. The card (YtllanbggjfmfhaaDoorCards.lean) ties it to the program's text. -/
def laid_errors_errorType {H : Type} : DataW H := .iface "internal/reflectlite.rtype" (.agg [.ptr (.lit (.string [101, 114, 114, 111, 114]))])
def laid_selion_run_errState {H : Type} : DataW H := .iface "*errors.errorString" (.ptr (.agg [.lit (.string [114, 117, 110, 58, 32, 110, 111, 32, 115, 117, 99, 104, 32, 115, 116, 97, 116, 101, 115])]))
def laid_selion_run_errRun {H : Type} : DataW H := .iface "*errors.errorString" (.ptr (.agg [.lit (.string [114, 117, 110, 58, 32, 110, 111, 32, 115, 117, 99, 104, 32, 98, 108, 111, 99, 107, 115])]))

/-- 'selionlaw10.PoolKeeps': WHATEVER THE INPUT: true; the input reads as it did. -/
def poolKeepsSpec : ChangeSpec := { name := "poolKeeps", fn := fun _ => fun
  | [d1, d2] => { results := [.lit (.bool true)], args := [d1, d2] }
  | _ => none }
def poolKeepsRow : OpenClaim := { program := "ytllanbggjfmfhaadoor", sum := "d5ea17f2a0e987b5eb0f9a375f59126c5c6907a7b96d7cab350f57915a5f75d7", func := "selion/selionlaw10.PoolKeeps", spec := "poolKeeps", inPlace := ["internal/reflectlite.ValueOf", "(internal/reflectlite.Value).Type", "(internal/reflectlite.Value).IsNil", "internal/reflectlite.TypeOf", "(internal/reflectlite.Value).Elem", "(internal/reflectlite.Value).Set"], unfollowed := true, recurses := true, named := ["errors.errorType", "selion/run.errState", "selion/run.errRun"], apart := false, laid := [("errors.errorType", laid_errors_errorType), ("selion/run.errState", laid_selion_run_errState), ("selion/run.errRun", laid_selion_run_errRun)] }
def PoolKeepsSaid : Prop := poolKeepsRow.holds Tryd.pinned (OpenSpec.ofChange poolKeepsSpec)

/-- ITS FALSE NEIGHBOUR: 'it returns false'. Refute it at one input. -/
def poolKeepsWrong : ChangeSpec := { name := "poolKeeps", fn := fun _ => fun
  | [d1, d2] => { results := [.lit (.bool false)], args := [d1, d2] }
  | _ => none }
def PoolKeepsWrongFalsely : Prop := poolKeepsRow.holds Tryd.pinned (OpenSpec.ofChange poolKeepsWrong)

/-- 'selionlaw10.PoolTaken': WHATEVER THE INPUT: true; the input reads as it did. -/
def poolTakenSpec : ChangeSpec := { name := "poolTaken", fn := fun _ => fun
  | [d1, d2] => { results := [.lit (.bool true)], args := [d1, d2] }
  | _ => none }
def poolTakenRow : OpenClaim := { program := "ytllanbggjfmfhaadoor", sum := "d5ea17f2a0e987b5eb0f9a375f59126c5c6907a7b96d7cab350f57915a5f75d7", func := "selion/selionlaw10.PoolTaken", spec := "poolTaken", inPlace := ["internal/reflectlite.ValueOf", "(internal/reflectlite.Value).Type", "(internal/reflectlite.Value).IsNil", "internal/reflectlite.TypeOf", "(internal/reflectlite.Value).Elem", "(internal/reflectlite.Value).Set"], unfollowed := true, recurses := true, named := ["errors.errorType", "selion/run.errState", "selion/run.errRun"], apart := false, laid := [("errors.errorType", laid_errors_errorType), ("selion/run.errState", laid_selion_run_errState), ("selion/run.errRun", laid_selion_run_errRun)] }
def PoolTakenSaid : Prop := poolTakenRow.holds Tryd.pinned (OpenSpec.ofChange poolTakenSpec)

/-- ITS FALSE NEIGHBOUR: 'it returns false'. Refute it at one input. -/
def poolTakenWrong : ChangeSpec := { name := "poolTaken", fn := fun _ => fun
  | [d1, d2] => { results := [.lit (.bool false)], args := [d1, d2] }
  | _ => none }
def PoolTakenWrongFalsely : Prop := poolTakenRow.holds Tryd.pinned (OpenSpec.ofChange poolTakenWrong)

/-- 'selionlaw10.PoolLays': WHATEVER THE INPUT: true; the input reads as it did. -/
def poolLaysSpec : ChangeSpec := { name := "poolLays", fn := fun _ => fun
  | [d1, d2, d3] => { results := [.lit (.bool true)], args := [d1, d2, d3] }
  | _ => none }
def poolLaysRow : OpenClaim := { program := "ytllanbggjfmfhaadoor", sum := "d5ea17f2a0e987b5eb0f9a375f59126c5c6907a7b96d7cab350f57915a5f75d7", func := "selion/selionlaw10.PoolLays", spec := "poolLays", inPlace := ["internal/reflectlite.ValueOf", "(internal/reflectlite.Value).Type", "(internal/reflectlite.Value).IsNil", "internal/reflectlite.TypeOf", "(internal/reflectlite.Value).Elem", "(internal/reflectlite.Value).Set"], unfollowed := true, recurses := true, named := ["errors.errorType", "selion/run.errState", "selion/run.errRun"], apart := false, laid := [("errors.errorType", laid_errors_errorType), ("selion/run.errState", laid_selion_run_errState), ("selion/run.errRun", laid_selion_run_errRun)] }
def PoolLaysSaid : Prop := poolLaysRow.holds Tryd.pinned (OpenSpec.ofChange poolLaysSpec)

/-- ITS FALSE NEIGHBOUR: 'it returns false'. Refute it at one input. -/
def poolLaysWrong : ChangeSpec := { name := "poolLays", fn := fun _ => fun
  | [d1, d2, d3] => { results := [.lit (.bool false)], args := [d1, d2, d3] }
  | _ => none }
def PoolLaysWrongFalsely : Prop := poolLaysRow.holds Tryd.pinned (OpenSpec.ofChange poolLaysWrong)

/-- 'selionlaw10.PoolTells': WHATEVER THE INPUT: true; the input reads as it did. -/
def poolTellsSpec : ChangeSpec := { name := "poolTells", fn := fun _ => fun
  | [d1, d2, d3] => { results := [.lit (.bool true)], args := [d1, d2, d3] }
  | _ => none }
def poolTellsRow : OpenClaim := { program := "ytllanbggjfmfhaadoor", sum := "d5ea17f2a0e987b5eb0f9a375f59126c5c6907a7b96d7cab350f57915a5f75d7", func := "selion/selionlaw10.PoolTells", spec := "poolTells", inPlace := ["internal/reflectlite.ValueOf", "(internal/reflectlite.Value).Type", "(internal/reflectlite.Value).IsNil", "internal/reflectlite.TypeOf", "(internal/reflectlite.Value).Elem", "(internal/reflectlite.Value).Set"], unfollowed := true, recurses := true, named := ["errors.errorType", "selion/run.errState", "selion/run.errRun"], apart := false, laid := [("errors.errorType", laid_errors_errorType), ("selion/run.errState", laid_selion_run_errState), ("selion/run.errRun", laid_selion_run_errRun)] }
def PoolTellsSaid : Prop := poolTellsRow.holds Tryd.pinned (OpenSpec.ofChange poolTellsSpec)

/-- ITS FALSE NEIGHBOUR: 'it returns false'. Refute it at one input. -/
def poolTellsWrong : ChangeSpec := { name := "poolTells", fn := fun _ => fun
  | [d1, d2, d3] => { results := [.lit (.bool false)], args := [d1, d2, d3] }
  | _ => none }
def PoolTellsWrongFalsely : Prop := poolTellsRow.holds Tryd.pinned (OpenSpec.ofChange poolTellsWrong)

/-- 'selionlaw10.PoolBack': WHATEVER THE INPUT: true; the input reads as it did. -/
def poolBackSpec : ChangeSpec := { name := "poolBack", fn := fun _ => fun
  | [d1, d2] => { results := [.lit (.bool true)], args := [d1, d2] }
  | _ => none }
def poolBackRow : OpenClaim := { program := "ytllanbggjfmfhaadoor", sum := "d5ea17f2a0e987b5eb0f9a375f59126c5c6907a7b96d7cab350f57915a5f75d7", func := "selion/selionlaw10.PoolBack", spec := "poolBack", inPlace := ["internal/reflectlite.ValueOf", "(internal/reflectlite.Value).Type", "(internal/reflectlite.Value).IsNil", "internal/reflectlite.TypeOf", "(internal/reflectlite.Value).Elem", "(internal/reflectlite.Value).Set"], unfollowed := true, recurses := true, named := ["errors.errorType", "selion/run.errState", "selion/run.errRun"], apart := false, laid := [("errors.errorType", laid_errors_errorType), ("selion/run.errState", laid_selion_run_errState), ("selion/run.errRun", laid_selion_run_errRun)] }
def PoolBackSaid : Prop := poolBackRow.holds Tryd.pinned (OpenSpec.ofChange poolBackSpec)

/-- ITS FALSE NEIGHBOUR: 'it returns false'. Refute it at one input. -/
def poolBackWrong : ChangeSpec := { name := "poolBack", fn := fun _ => fun
  | [d1, d2] => { results := [.lit (.bool false)], args := [d1, d2] }
  | _ => none }
def PoolBackWrongFalsely : Prop := poolBackRow.holds Tryd.pinned (OpenSpec.ofChange poolBackWrong)

/- THE SECOND FORM. 'bulk': how many values and letters a reading holds, each counted each time it is reached (what is shared counts as often as it is met; a slice's spare places count too). A statement '..UptoSaid' is the law's where the arguments, and the package variables that the reading takes, are together of bulk at most 1048576: NARROWER than '..Said'. Prove '..Said' where nothing that the law and all that it calls make is longer than what came in: it says more and counts as full. Else prove '..UptoSaid'. A law counts once. -/
mutual
def uptoBulk {H : Type} : DataW H → Nat
  | .lit (.string bytes) => bytes.length + 1
  | .lit _ => 1
  | .nil => 1
  | .ptr d => uptoBulk d + 1
  | .slice elems spare => uptoBulkAll elems + uptoBulkAll spare + 1
  | .agg parts => uptoBulkAll parts + 1
  | .iface _ d => uptoBulk d + 1
  | .map entries => uptoBulkEntries entries + 1
  | .held _ => 1
def uptoBulkAll {H : Type} : List (DataW H) → Nat
  | [] => 0
  | d :: r => uptoBulk d + uptoBulkAll r
def uptoBulkEntries {H : Type} : List (Lit × DataW H) → Nat
  | [] => 0
  | x :: r => uptoBulkEntry x + uptoBulkEntries r
def uptoBulkEntry {H : Type} : Lit × DataW H → Nat
  | (.string bytes, d) => bytes.length + uptoBulk d + 1
  | (_, d) => uptoBulk d + 1
 end
def uptoSmall : (H : Type) → List (DataW H) → Bool := fun _ ds => decide (uptoBulkAll ds ≤ 1048576)
def OpenSpec.upto (s : _root_.Go.ChangeSpec) : _root_.Go.OpenSpec := { _root_.Go.OpenSpec.ofChange s with cond := some uptoSmall }

/-- 'selionlaw10.PoolKeeps', WHERE WHAT IT READS IS OF BULK AT MOST 1048576: true; the input reads as it did. -/
def poolKeepsUptoRow : OpenClaim := { program := "ytllanbggjfmfhaadoor", sum := "d5ea17f2a0e987b5eb0f9a375f59126c5c6907a7b96d7cab350f57915a5f75d7", func := "selion/selionlaw10.PoolKeeps", spec := "poolKeeps", inPlace := ["internal/reflectlite.ValueOf", "(internal/reflectlite.Value).Type", "(internal/reflectlite.Value).IsNil", "internal/reflectlite.TypeOf", "(internal/reflectlite.Value).Elem", "(internal/reflectlite.Value).Set"], unfollowed := true, recurses := true, named := ["errors.errorType", "selion/run.errState", "selion/run.errRun"], apart := false, laid := [("errors.errorType", laid_errors_errorType), ("selion/run.errState", laid_selion_run_errState), ("selion/run.errRun", laid_selion_run_errRun)], narrowed := true }
def PoolKeepsUptoSaid : Prop := poolKeepsUptoRow.holds Tryd.pinned (OpenSpec.upto poolKeepsSpec)

/-- 'selionlaw10.PoolTaken', WHERE WHAT IT READS IS OF BULK AT MOST 1048576: true; the input reads as it did. -/
def poolTakenUptoRow : OpenClaim := { program := "ytllanbggjfmfhaadoor", sum := "d5ea17f2a0e987b5eb0f9a375f59126c5c6907a7b96d7cab350f57915a5f75d7", func := "selion/selionlaw10.PoolTaken", spec := "poolTaken", inPlace := ["internal/reflectlite.ValueOf", "(internal/reflectlite.Value).Type", "(internal/reflectlite.Value).IsNil", "internal/reflectlite.TypeOf", "(internal/reflectlite.Value).Elem", "(internal/reflectlite.Value).Set"], unfollowed := true, recurses := true, named := ["errors.errorType", "selion/run.errState", "selion/run.errRun"], apart := false, laid := [("errors.errorType", laid_errors_errorType), ("selion/run.errState", laid_selion_run_errState), ("selion/run.errRun", laid_selion_run_errRun)], narrowed := true }
def PoolTakenUptoSaid : Prop := poolTakenUptoRow.holds Tryd.pinned (OpenSpec.upto poolTakenSpec)

/-- 'selionlaw10.PoolLays', WHERE WHAT IT READS IS OF BULK AT MOST 1048576: true; the input reads as it did. -/
def poolLaysUptoRow : OpenClaim := { program := "ytllanbggjfmfhaadoor", sum := "d5ea17f2a0e987b5eb0f9a375f59126c5c6907a7b96d7cab350f57915a5f75d7", func := "selion/selionlaw10.PoolLays", spec := "poolLays", inPlace := ["internal/reflectlite.ValueOf", "(internal/reflectlite.Value).Type", "(internal/reflectlite.Value).IsNil", "internal/reflectlite.TypeOf", "(internal/reflectlite.Value).Elem", "(internal/reflectlite.Value).Set"], unfollowed := true, recurses := true, named := ["errors.errorType", "selion/run.errState", "selion/run.errRun"], apart := false, laid := [("errors.errorType", laid_errors_errorType), ("selion/run.errState", laid_selion_run_errState), ("selion/run.errRun", laid_selion_run_errRun)], narrowed := true }
def PoolLaysUptoSaid : Prop := poolLaysUptoRow.holds Tryd.pinned (OpenSpec.upto poolLaysSpec)

/-- 'selionlaw10.PoolTells', WHERE WHAT IT READS IS OF BULK AT MOST 1048576: true; the input reads as it did. -/
def poolTellsUptoRow : OpenClaim := { program := "ytllanbggjfmfhaadoor", sum := "d5ea17f2a0e987b5eb0f9a375f59126c5c6907a7b96d7cab350f57915a5f75d7", func := "selion/selionlaw10.PoolTells", spec := "poolTells", inPlace := ["internal/reflectlite.ValueOf", "(internal/reflectlite.Value).Type", "(internal/reflectlite.Value).IsNil", "internal/reflectlite.TypeOf", "(internal/reflectlite.Value).Elem", "(internal/reflectlite.Value).Set"], unfollowed := true, recurses := true, named := ["errors.errorType", "selion/run.errState", "selion/run.errRun"], apart := false, laid := [("errors.errorType", laid_errors_errorType), ("selion/run.errState", laid_selion_run_errState), ("selion/run.errRun", laid_selion_run_errRun)], narrowed := true }
def PoolTellsUptoSaid : Prop := poolTellsUptoRow.holds Tryd.pinned (OpenSpec.upto poolTellsSpec)

/-- 'selionlaw10.PoolBack', WHERE WHAT IT READS IS OF BULK AT MOST 1048576: true; the input reads as it did. -/
def poolBackUptoRow : OpenClaim := { program := "ytllanbggjfmfhaadoor", sum := "d5ea17f2a0e987b5eb0f9a375f59126c5c6907a7b96d7cab350f57915a5f75d7", func := "selion/selionlaw10.PoolBack", spec := "poolBack", inPlace := ["internal/reflectlite.ValueOf", "(internal/reflectlite.Value).Type", "(internal/reflectlite.Value).IsNil", "internal/reflectlite.TypeOf", "(internal/reflectlite.Value).Elem", "(internal/reflectlite.Value).Set"], unfollowed := true, recurses := true, named := ["errors.errorType", "selion/run.errState", "selion/run.errRun"], apart := false, laid := [("errors.errorType", laid_errors_errorType), ("selion/run.errState", laid_selion_run_errState), ("selion/run.errRun", laid_selion_run_errRun)], narrowed := true }
def PoolBackUptoSaid : Prop := poolBackUptoRow.holds Tryd.pinned (OpenSpec.upto poolBackSpec)

end Rows
end Go.Proofs.YtllanbggjfmfhaaDoor
