/-
  NARROWER THAN 'FOR EVERY INPUT', by the rows' own cells (each row's printed sentence says how): StartsTurns: laid · StartsTells: laid · StartsBack: laid · StartsBefore: laid · StartsIn: laid · StartsAll: laid.
  DERIVED. THE GIVEN ROWS OF THIS SEAT. 6 by the template 'for every input the law returns true; each argument reads behind the call as it read before'; 0 by the template 'total and deterministic' (their statements: YtelbddnjnapoeaaDoorTotals.lean).
  GIVEN WITH THE SEED: the statements are not yours to turn. If you find one false, say at which input.
  Laid BY PROGRAM, IN A SANDBOX (cutbox-rows.mjs): the forced cells as the released guide's own fill.sh prints them over the translation 3cc652a1af2446ff… (all of the seat's roots in one cut). By AI agents, Wed Nov 11 2026. No macro, syntax, notation, axiom, sorry.
-/
import Derived.Test.YtelbddnjnapoeaaDoorChecked
import GoSem.Claim
import GoSem.ClaimJoined
import GoSem.ClaimMapViews
import Derived.JoinedTies
import Derived.KernelRfl
namespace Go.Proofs.YtelbddnjnapoeaaDoor
/- THE CELL 'sum', in the pinned program and in every row, IS THE sha256 OF THE DUMP (.gsa) THAT YtelbddnjnapoeaaDoorProg.lean LOADS. Nothing in Lean hashes anything: it is a label: what it is worth is what the hold of that sum in a sandbox is worth. -/
noncomputable def Tryd.pinned : Pinned := { name := "ytelbddnjnapoeaadoor", sum := "3cc652a1af2446ff215aa2932f79b0302c126c1d2afaedf260d541c511b4c22c", checked := Tryd.checked }
namespace Rows
def none {H : Type} : Left H := { results := [], args := [] }

/- WHAT THE LISTED PACKAGE-LEVEL VARIABLES READ AS WHEN THE CALL BEGINS. Each datum BY PROGRAM (the guide's laid-datum.mjs) off the statement by which the dump's own 'gosem.cut.vars' lays the variable. In a bare row this is a premise. The card (YtelbddnjnapoeaaDoorCards.lean) ties it to the program's text. -/
def laid_errors_errorType {H : Type} : DataW H := .iface "internal/reflectlite.rtype" (.agg [.ptr (.lit (.string [101, 114, 114, 111, 114]))])
def laid_selion_bits_errArg {H : Type} : DataW H := .iface "*errors.errorString" (.ptr (.agg [.lit (.string [98, 105, 116, 115, 58, 32, 110, 111, 116, 32, 115, 111, 32, 109, 97, 110, 121, 32, 112, 108, 97, 99, 101, 115])]))
def laid_selion_bits_errBits {H : Type} : DataW H := .iface "*errors.errorString" (.ptr (.agg [.lit (.string [98, 105, 116, 115, 58, 32, 98, 105, 116, 115, 32, 116, 104, 97, 116, 32, 97, 114, 101, 32, 110, 111, 116, 32, 114, 105, 103, 104, 116])]))
def laid_selion_bits_errPlace {H : Type} : DataW H := .iface "*errors.errorString" (.ptr (.agg [.lit (.string [98, 105, 116, 115, 58, 32, 110, 111, 32, 112, 108, 97, 99, 101])]))
def laid_selion_starts_errPlace {H : Type} : DataW H := .iface "*errors.errorString" (.ptr (.agg [.lit (.string [110, 111, 32, 103, 114, 97, 110, 117, 108, 101, 32, 111, 102, 32, 116, 104, 101, 32, 97, 114, 101, 110, 97])]))

/-- 'selionlaw13.StartsTurns': WHATEVER THE INPUT: true; the input reads as it did. -/
def startsTurnsSpec : ChangeSpec := { name := "startsTurns", fn := fun _ => fun
  | [d1, d2] => { results := [.lit (.bool true)], args := [d1, d2] }
  | _ => none }
def startsTurnsRow : OpenClaim := { program := "ytelbddnjnapoeaadoor", sum := "3cc652a1af2446ff215aa2932f79b0302c126c1d2afaedf260d541c511b4c22c", func := "selion/selionlaw13.StartsTurns", spec := "startsTurns", inPlace := ["internal/reflectlite.TypeOf", "internal/reflectlite.ValueOf", "(internal/reflectlite.Value).Type", "(internal/reflectlite.Value).IsNil", "(internal/reflectlite.Value).Elem", "(internal/reflectlite.Value).Set"], unfollowed := true, recurses := true, named := ["selion/bits.errArg", "selion/bits.errBits", "selion/bits.errPlace", "selion/starts.errPlace", "errors.errorType"], apart := false, laid := [("errors.errorType", laid_errors_errorType), ("selion/bits.errArg", laid_selion_bits_errArg), ("selion/bits.errBits", laid_selion_bits_errBits), ("selion/bits.errPlace", laid_selion_bits_errPlace), ("selion/starts.errPlace", laid_selion_starts_errPlace)] }
def StartsTurnsSaid : Prop := startsTurnsRow.holds Tryd.pinned (OpenSpec.ofChange startsTurnsSpec)

/-- ITS FALSE NEIGHBOUR: 'it returns false'. Refute it at one input. -/
def startsTurnsWrong : ChangeSpec := { name := "startsTurns", fn := fun _ => fun
  | [d1, d2] => { results := [.lit (.bool false)], args := [d1, d2] }
  | _ => none }
def StartsTurnsWrongFalsely : Prop := startsTurnsRow.holds Tryd.pinned (OpenSpec.ofChange startsTurnsWrong)

/-- 'selionlaw13.StartsTells': WHATEVER THE INPUT: true; the input reads as it did. -/
def startsTellsSpec : ChangeSpec := { name := "startsTells", fn := fun _ => fun
  | [d1, d2, d3, d4] => { results := [.lit (.bool true)], args := [d1, d2, d3, d4] }
  | _ => none }
def startsTellsRow : OpenClaim := { program := "ytelbddnjnapoeaadoor", sum := "3cc652a1af2446ff215aa2932f79b0302c126c1d2afaedf260d541c511b4c22c", func := "selion/selionlaw13.StartsTells", spec := "startsTells", inPlace := ["internal/reflectlite.TypeOf", "internal/reflectlite.ValueOf", "(internal/reflectlite.Value).Type", "(internal/reflectlite.Value).IsNil", "(internal/reflectlite.Value).Elem", "(internal/reflectlite.Value).Set"], unfollowed := true, recurses := true, named := ["selion/bits.errArg", "selion/bits.errBits", "selion/bits.errPlace", "selion/starts.errPlace", "errors.errorType"], apart := false, laid := [("errors.errorType", laid_errors_errorType), ("selion/bits.errArg", laid_selion_bits_errArg), ("selion/bits.errBits", laid_selion_bits_errBits), ("selion/bits.errPlace", laid_selion_bits_errPlace), ("selion/starts.errPlace", laid_selion_starts_errPlace)] }
def StartsTellsSaid : Prop := startsTellsRow.holds Tryd.pinned (OpenSpec.ofChange startsTellsSpec)

/-- ITS FALSE NEIGHBOUR: 'it returns false'. Refute it at one input. -/
def startsTellsWrong : ChangeSpec := { name := "startsTells", fn := fun _ => fun
  | [d1, d2, d3, d4] => { results := [.lit (.bool false)], args := [d1, d2, d3, d4] }
  | _ => none }
def StartsTellsWrongFalsely : Prop := startsTellsRow.holds Tryd.pinned (OpenSpec.ofChange startsTellsWrong)

/-- 'selionlaw13.StartsBack': WHATEVER THE INPUT: true; the input reads as it did. -/
def startsBackSpec : ChangeSpec := { name := "startsBack", fn := fun _ => fun
  | [d1, d2, d3] => { results := [.lit (.bool true)], args := [d1, d2, d3] }
  | _ => none }
def startsBackRow : OpenClaim := { program := "ytelbddnjnapoeaadoor", sum := "3cc652a1af2446ff215aa2932f79b0302c126c1d2afaedf260d541c511b4c22c", func := "selion/selionlaw13.StartsBack", spec := "startsBack", inPlace := ["internal/reflectlite.TypeOf", "internal/reflectlite.ValueOf", "(internal/reflectlite.Value).Type", "(internal/reflectlite.Value).IsNil", "(internal/reflectlite.Value).Elem", "(internal/reflectlite.Value).Set"], unfollowed := true, recurses := true, named := ["selion/bits.errArg", "selion/bits.errBits", "selion/bits.errPlace", "selion/starts.errPlace", "errors.errorType"], apart := false, laid := [("errors.errorType", laid_errors_errorType), ("selion/bits.errArg", laid_selion_bits_errArg), ("selion/bits.errBits", laid_selion_bits_errBits), ("selion/bits.errPlace", laid_selion_bits_errPlace), ("selion/starts.errPlace", laid_selion_starts_errPlace)] }
def StartsBackSaid : Prop := startsBackRow.holds Tryd.pinned (OpenSpec.ofChange startsBackSpec)

/-- ITS FALSE NEIGHBOUR: 'it returns false'. Refute it at one input. -/
def startsBackWrong : ChangeSpec := { name := "startsBack", fn := fun _ => fun
  | [d1, d2, d3] => { results := [.lit (.bool false)], args := [d1, d2, d3] }
  | _ => none }
def StartsBackWrongFalsely : Prop := startsBackRow.holds Tryd.pinned (OpenSpec.ofChange startsBackWrong)

/-- 'selionlaw13.StartsBefore': WHATEVER THE INPUT: true; the input reads as it did. -/
def startsBeforeSpec : ChangeSpec := { name := "startsBefore", fn := fun _ => fun
  | [d1, d2] => { results := [.lit (.bool true)], args := [d1, d2] }
  | _ => none }
def startsBeforeRow : OpenClaim := { program := "ytelbddnjnapoeaadoor", sum := "3cc652a1af2446ff215aa2932f79b0302c126c1d2afaedf260d541c511b4c22c", func := "selion/selionlaw13.StartsBefore", spec := "startsBefore", inPlace := ["internal/reflectlite.TypeOf", "internal/reflectlite.ValueOf", "(internal/reflectlite.Value).Type", "(internal/reflectlite.Value).IsNil", "(internal/reflectlite.Value).Elem", "(internal/reflectlite.Value).Set"], unfollowed := true, recurses := true, named := ["selion/bits.errArg", "selion/bits.errBits", "selion/bits.errPlace", "selion/starts.errPlace", "errors.errorType"], apart := false, laid := [("errors.errorType", laid_errors_errorType), ("selion/bits.errArg", laid_selion_bits_errArg), ("selion/bits.errBits", laid_selion_bits_errBits), ("selion/bits.errPlace", laid_selion_bits_errPlace), ("selion/starts.errPlace", laid_selion_starts_errPlace)] }
def StartsBeforeSaid : Prop := startsBeforeRow.holds Tryd.pinned (OpenSpec.ofChange startsBeforeSpec)

/-- ITS FALSE NEIGHBOUR: 'it returns false'. Refute it at one input. -/
def startsBeforeWrong : ChangeSpec := { name := "startsBefore", fn := fun _ => fun
  | [d1, d2] => { results := [.lit (.bool false)], args := [d1, d2] }
  | _ => none }
def StartsBeforeWrongFalsely : Prop := startsBeforeRow.holds Tryd.pinned (OpenSpec.ofChange startsBeforeWrong)

/-- 'selionlaw13.StartsIn': WHATEVER THE INPUT: true; the input reads as it did. -/
def startsInSpec : ChangeSpec := { name := "startsIn", fn := fun _ => fun
  | [d1, d2] => { results := [.lit (.bool true)], args := [d1, d2] }
  | _ => none }
def startsInRow : OpenClaim := { program := "ytelbddnjnapoeaadoor", sum := "3cc652a1af2446ff215aa2932f79b0302c126c1d2afaedf260d541c511b4c22c", func := "selion/selionlaw13.StartsIn", spec := "startsIn", inPlace := ["internal/reflectlite.TypeOf", "internal/reflectlite.ValueOf", "(internal/reflectlite.Value).Type", "(internal/reflectlite.Value).IsNil", "(internal/reflectlite.Value).Elem", "(internal/reflectlite.Value).Set"], unfollowed := true, recurses := true, named := ["selion/bits.errArg", "selion/bits.errBits", "selion/bits.errPlace", "selion/starts.errPlace", "errors.errorType"], apart := false, laid := [("errors.errorType", laid_errors_errorType), ("selion/bits.errArg", laid_selion_bits_errArg), ("selion/bits.errBits", laid_selion_bits_errBits), ("selion/bits.errPlace", laid_selion_bits_errPlace), ("selion/starts.errPlace", laid_selion_starts_errPlace)] }
def StartsInSaid : Prop := startsInRow.holds Tryd.pinned (OpenSpec.ofChange startsInSpec)

/-- ITS FALSE NEIGHBOUR: 'it returns false'. Refute it at one input. -/
def startsInWrong : ChangeSpec := { name := "startsIn", fn := fun _ => fun
  | [d1, d2] => { results := [.lit (.bool false)], args := [d1, d2] }
  | _ => none }
def StartsInWrongFalsely : Prop := startsInRow.holds Tryd.pinned (OpenSpec.ofChange startsInWrong)

/-- 'selionlaw13.StartsAll': WHATEVER THE INPUT: true; the input reads as it did. -/
def startsAllSpec : ChangeSpec := { name := "startsAll", fn := fun _ => fun
  | [d1, d2] => { results := [.lit (.bool true)], args := [d1, d2] }
  | _ => none }
def startsAllRow : OpenClaim := { program := "ytelbddnjnapoeaadoor", sum := "3cc652a1af2446ff215aa2932f79b0302c126c1d2afaedf260d541c511b4c22c", func := "selion/selionlaw13.StartsAll", spec := "startsAll", inPlace := ["internal/reflectlite.TypeOf", "internal/reflectlite.ValueOf", "(internal/reflectlite.Value).Type", "(internal/reflectlite.Value).IsNil", "(internal/reflectlite.Value).Elem", "(internal/reflectlite.Value).Set"], unfollowed := true, recurses := true, named := ["selion/bits.errArg", "selion/bits.errBits", "selion/bits.errPlace", "selion/starts.errPlace", "errors.errorType"], apart := false, laid := [("errors.errorType", laid_errors_errorType), ("selion/bits.errArg", laid_selion_bits_errArg), ("selion/bits.errBits", laid_selion_bits_errBits), ("selion/bits.errPlace", laid_selion_bits_errPlace), ("selion/starts.errPlace", laid_selion_starts_errPlace)] }
def StartsAllSaid : Prop := startsAllRow.holds Tryd.pinned (OpenSpec.ofChange startsAllSpec)

/-- ITS FALSE NEIGHBOUR: 'it returns false'. Refute it at one input. -/
def startsAllWrong : ChangeSpec := { name := "startsAll", fn := fun _ => fun
  | [d1, d2] => { results := [.lit (.bool false)], args := [d1, d2] }
  | _ => none }
def StartsAllWrongFalsely : Prop := startsAllRow.holds Tryd.pinned (OpenSpec.ofChange startsAllWrong)

/- THE SECOND FORM. 'bulk': how many values and letters a reading holds, each counted each time it is reached (what is shared counts as often as it is met; a slice's spare places count too). A statement '..UptoSaid' is the law's where the arguments, and the package variables that the reading takes, are together of bulk at most 1048576: NARROWER than '..Said'. Prove '..Said' where nothing that the law and all that it calls make is longer than what came in: it says more and counts as full. Else prove '..UptoSaid'. A law counts once. -/
mutual
def uptoBulk {H : Type} : DataW H → Nat
  | .lit (.string bytes) => bytes.length + 1
  | .lit _ => 1
  | .nil => 1
  | .ptr d => uptoBulk d + 1
  | .slice elems spare => uptoBulkAll elems + uptoBulkAll spare + 1
  | .agg parts => uptoBulkAll parts + 1
  | .iface _ d => uptoBulk d + 1
  | .map entries => uptoBulkEntries entries + 1
  | .held _ => 1
def uptoBulkAll {H : Type} : List (DataW H) → Nat
  | [] => 0
  | d :: r => uptoBulk d + uptoBulkAll r
def uptoBulkEntries {H : Type} : List (Lit × DataW H) → Nat
  | [] => 0
  | x :: r => uptoBulkEntry x + uptoBulkEntries r
def uptoBulkEntry {H : Type} : Lit × DataW H → Nat
  | (.string bytes, d) => bytes.length + uptoBulk d + 1
  | (_, d) => uptoBulk d + 1
 end
def uptoSmall : (H : Type) → List (DataW H) → Bool := fun _ ds => decide (uptoBulkAll ds ≤ 1048576)
def OpenSpec.upto (s : _root_.Go.ChangeSpec) : _root_.Go.OpenSpec := { _root_.Go.OpenSpec.ofChange s with cond := some uptoSmall }

/-- 'selionlaw13.StartsTurns', WHERE WHAT IT READS IS OF BULK AT MOST 1048576: true; the input reads as it did. -/
def startsTurnsUptoRow : OpenClaim := { program := "ytelbddnjnapoeaadoor", sum := "3cc652a1af2446ff215aa2932f79b0302c126c1d2afaedf260d541c511b4c22c", func := "selion/selionlaw13.StartsTurns", spec := "startsTurns", inPlace := ["internal/reflectlite.TypeOf", "internal/reflectlite.ValueOf", "(internal/reflectlite.Value).Type", "(internal/reflectlite.Value).IsNil", "(internal/reflectlite.Value).Elem", "(internal/reflectlite.Value).Set"], unfollowed := true, recurses := true, named := ["selion/bits.errArg", "selion/bits.errBits", "selion/bits.errPlace", "selion/starts.errPlace", "errors.errorType"], apart := false, laid := [("errors.errorType", laid_errors_errorType), ("selion/bits.errArg", laid_selion_bits_errArg), ("selion/bits.errBits", laid_selion_bits_errBits), ("selion/bits.errPlace", laid_selion_bits_errPlace), ("selion/starts.errPlace", laid_selion_starts_errPlace)], narrowed := true }
def StartsTurnsUptoSaid : Prop := startsTurnsUptoRow.holds Tryd.pinned (OpenSpec.upto startsTurnsSpec)

/-- 'selionlaw13.StartsTells', WHERE WHAT IT READS IS OF BULK AT MOST 1048576: true; the input reads as it did. -/
def startsTellsUptoRow : OpenClaim := { program := "ytelbddnjnapoeaadoor", sum := "3cc652a1af2446ff215aa2932f79b0302c126c1d2afaedf260d541c511b4c22c", func := "selion/selionlaw13.StartsTells", spec := "startsTells", inPlace := ["internal/reflectlite.TypeOf", "internal/reflectlite.ValueOf", "(internal/reflectlite.Value).Type", "(internal/reflectlite.Value).IsNil", "(internal/reflectlite.Value).Elem", "(internal/reflectlite.Value).Set"], unfollowed := true, recurses := true, named := ["selion/bits.errArg", "selion/bits.errBits", "selion/bits.errPlace", "selion/starts.errPlace", "errors.errorType"], apart := false, laid := [("errors.errorType", laid_errors_errorType), ("selion/bits.errArg", laid_selion_bits_errArg), ("selion/bits.errBits", laid_selion_bits_errBits), ("selion/bits.errPlace", laid_selion_bits_errPlace), ("selion/starts.errPlace", laid_selion_starts_errPlace)], narrowed := true }
def StartsTellsUptoSaid : Prop := startsTellsUptoRow.holds Tryd.pinned (OpenSpec.upto startsTellsSpec)

/-- 'selionlaw13.StartsBack', WHERE WHAT IT READS IS OF BULK AT MOST 1048576: true; the input reads as it did. -/
def startsBackUptoRow : OpenClaim := { program := "ytelbddnjnapoeaadoor", sum := "3cc652a1af2446ff215aa2932f79b0302c126c1d2afaedf260d541c511b4c22c", func := "selion/selionlaw13.StartsBack", spec := "startsBack", inPlace := ["internal/reflectlite.TypeOf", "internal/reflectlite.ValueOf", "(internal/reflectlite.Value).Type", "(internal/reflectlite.Value).IsNil", "(internal/reflectlite.Value).Elem", "(internal/reflectlite.Value).Set"], unfollowed := true, recurses := true, named := ["selion/bits.errArg", "selion/bits.errBits", "selion/bits.errPlace", "selion/starts.errPlace", "errors.errorType"], apart := false, laid := [("errors.errorType", laid_errors_errorType), ("selion/bits.errArg", laid_selion_bits_errArg), ("selion/bits.errBits", laid_selion_bits_errBits), ("selion/bits.errPlace", laid_selion_bits_errPlace), ("selion/starts.errPlace", laid_selion_starts_errPlace)], narrowed := true }
def StartsBackUptoSaid : Prop := startsBackUptoRow.holds Tryd.pinned (OpenSpec.upto startsBackSpec)

/-- 'selionlaw13.StartsBefore', WHERE WHAT IT READS IS OF BULK AT MOST 1048576: true; the input reads as it did. -/
def startsBeforeUptoRow : OpenClaim := { program := "ytelbddnjnapoeaadoor", sum := "3cc652a1af2446ff215aa2932f79b0302c126c1d2afaedf260d541c511b4c22c", func := "selion/selionlaw13.StartsBefore", spec := "startsBefore", inPlace := ["internal/reflectlite.TypeOf", "internal/reflectlite.ValueOf", "(internal/reflectlite.Value).Type", "(internal/reflectlite.Value).IsNil", "(internal/reflectlite.Value).Elem", "(internal/reflectlite.Value).Set"], unfollowed := true, recurses := true, named := ["selion/bits.errArg", "selion/bits.errBits", "selion/bits.errPlace", "selion/starts.errPlace", "errors.errorType"], apart := false, laid := [("errors.errorType", laid_errors_errorType), ("selion/bits.errArg", laid_selion_bits_errArg), ("selion/bits.errBits", laid_selion_bits_errBits), ("selion/bits.errPlace", laid_selion_bits_errPlace), ("selion/starts.errPlace", laid_selion_starts_errPlace)], narrowed := true }
def StartsBeforeUptoSaid : Prop := startsBeforeUptoRow.holds Tryd.pinned (OpenSpec.upto startsBeforeSpec)

/-- 'selionlaw13.StartsIn', WHERE WHAT IT READS IS OF BULK AT MOST 1048576: true; the input reads as it did. -/
def startsInUptoRow : OpenClaim := { program := "ytelbddnjnapoeaadoor", sum := "3cc652a1af2446ff215aa2932f79b0302c126c1d2afaedf260d541c511b4c22c", func := "selion/selionlaw13.StartsIn", spec := "startsIn", inPlace := ["internal/reflectlite.TypeOf", "internal/reflectlite.ValueOf", "(internal/reflectlite.Value).Type", "(internal/reflectlite.Value).IsNil", "(internal/reflectlite.Value).Elem", "(internal/reflectlite.Value).Set"], unfollowed := true, recurses := true, named := ["selion/bits.errArg", "selion/bits.errBits", "selion/bits.errPlace", "selion/starts.errPlace", "errors.errorType"], apart := false, laid := [("errors.errorType", laid_errors_errorType), ("selion/bits.errArg", laid_selion_bits_errArg), ("selion/bits.errBits", laid_selion_bits_errBits), ("selion/bits.errPlace", laid_selion_bits_errPlace), ("selion/starts.errPlace", laid_selion_starts_errPlace)], narrowed := true }
def StartsInUptoSaid : Prop := startsInUptoRow.holds Tryd.pinned (OpenSpec.upto startsInSpec)

/-- 'selionlaw13.StartsAll', WHERE WHAT IT READS IS OF BULK AT MOST 1048576: true; the input reads as it did. -/
def startsAllUptoRow : OpenClaim := { program := "ytelbddnjnapoeaadoor", sum := "3cc652a1af2446ff215aa2932f79b0302c126c1d2afaedf260d541c511b4c22c", func := "selion/selionlaw13.StartsAll", spec := "startsAll", inPlace := ["internal/reflectlite.TypeOf", "internal/reflectlite.ValueOf", "(internal/reflectlite.Value).Type", "(internal/reflectlite.Value).IsNil", "(internal/reflectlite.Value).Elem", "(internal/reflectlite.Value).Set"], unfollowed := true, recurses := true, named := ["selion/bits.errArg", "selion/bits.errBits", "selion/bits.errPlace", "selion/starts.errPlace", "errors.errorType"], apart := false, laid := [("errors.errorType", laid_errors_errorType), ("selion/bits.errArg", laid_selion_bits_errArg), ("selion/bits.errBits", laid_selion_bits_errBits), ("selion/bits.errPlace", laid_selion_bits_errPlace), ("selion/starts.errPlace", laid_selion_starts_errPlace)], narrowed := true }
def StartsAllUptoSaid : Prop := startsAllUptoRow.holds Tryd.pinned (OpenSpec.upto startsAllSpec)

end Rows
end Go.Proofs.YtelbddnjnapoeaaDoor
