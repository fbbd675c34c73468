/-
  NARROWER THAN 'FOR EVERY INPUT', by the rows' own cells (each row's printed sentence says how): DescLengths: laid · DescSlots: laid · DescGrows: laid · DescFields: laid · DescTells: laid.
  DERIVED. THE GIVEN ROWS OF THIS SEAT. 5 by the template 'for every input the law returns true; each argument reads behind the call as it read before'; 0 by the template 'total and deterministic' (their statements: YtepnamlcofmccaaDoorTotals.lean).
  GIVEN WITH THE SEED: the statements are not yours to turn. If you find one false, say at which input.
  Laid BY PROGRAM, IN A SANDBOX (cutbox-rows.mjs): the forced cells as the released guide's own fill.sh prints them over the translation f352d218a3e08d77… (all of the seat's roots in one cut). By AI agents, Wed Nov 11 2026. No macro, syntax, notation, axiom, sorry.
-/
import Derived.Test.YtepnamlcofmccaaDoorChecked
import GoSem.PinnedTables
import GoSem.Claim
import GoSem.ClaimJoined
import GoSem.ClaimMapViews
import Derived.JoinedTies
import Derived.KernelRfl
namespace Go.Proofs.YtepnamlcofmccaaDoor
/- THE CELL 'sum', in the pinned program and in every row, IS THE sha256 OF THE DUMP (.gsa) THAT YtepnamlcofmccaaDoorProg.lean LOADS. Nothing in Lean hashes anything: it is a label: what it is worth is what the hold of that sum in a sandbox is worth. -/
noncomputable def Tryd.pinned : Pinned := { name := "ytepnamlcofmccaadoor", sum := "f352d218a3e08d770e1b0858893b3c51a7b1669151e6055c32b578e1467dc8a3", checked := Tryd.checked }
namespace Rows
def none {H : Type} : Left H := { results := [], args := [] }

/- WHAT THE LISTED PACKAGE-LEVEL VARIABLES READ AS WHEN THE CALL BEGINS. Each datum BY PROGRAM (the guide's laid-datum.mjs) off the statement by which the dump's own 'gosem.cut.vars' lays the variable. In a bare row this is a premise. The card (YtepnamlcofmccaaDoorCards.lean) ties it to the program's text. -/
def laid_unicode_utf8_acceptRanges {H : Type} : DataW H := .agg [.agg [.lit (.int .u8 128), .lit (.int .u8 191)], .agg [.lit (.int .u8 160), .lit (.int .u8 191)], .agg [.lit (.int .u8 128), .lit (.int .u8 159)], .agg [.lit (.int .u8 144), .lit (.int .u8 191)], .agg [.lit (.int .u8 128), .lit (.int .u8 143)], .agg [.lit (.int .u8 0), .lit (.int .u8 0)], .agg [.lit (.int .u8 0), .lit (.int .u8 0)], .agg [.lit (.int .u8 0), .lit (.int .u8 0)], .agg [.lit (.int .u8 0), .lit (.int .u8 0)], .agg [.lit (.int .u8 0), .lit (.int .u8 0)], .agg [.lit (.int .u8 0), .lit (.int .u8 0)], .agg [.lit (.int .u8 0), .lit (.int .u8 0)], .agg [.lit (.int .u8 0), .lit (.int .u8 0)], .agg [.lit (.int .u8 0), .lit (.int .u8 0)], .agg [.lit (.int .u8 0), .lit (.int .u8 0)], .agg [.lit (.int .u8 0), .lit (.int .u8 0)]]
def laid_errors_errorType {H : Type} : DataW H := .iface "internal/reflectlite.rtype" (.agg [.ptr (.lit (.string [101, 114, 114, 111, 114]))])
def laid_selion_addr_errAddr {H : Type} : DataW H := .iface "*errors.errorString" (.ptr (.agg [.lit (.string [97, 100, 100, 114, 58, 32, 110, 111, 32, 97, 100, 100, 114, 101, 115, 115])]))
def laid_selion_addr_errSize {H : Type} : DataW H := .iface "*errors.errorString" (.ptr (.agg [.lit (.string [97, 100, 100, 114, 58, 32, 110, 111, 32, 115, 105, 122, 101])]))
def laid_selion_addr_errRef {H : Type} : DataW H := .iface "*errors.errorString" (.ptr (.agg [.lit (.string [97, 100, 100, 114, 58, 32, 110, 111, 32, 114, 101, 102, 101, 114, 101, 110, 99, 101])]))
/-- One of Go's own tables, pinned by name: the form's constant. -/
def laid_unicode_utf8_first : DataW Unit := Go.Pinned.utf8First

/-- 'selionlaw04.DescLengths': WHATEVER THE INPUT: true; the input reads as it did. -/
def descLengthsSpec : ChangeSpec := { name := "descLengths", fn := fun _ => fun
  | [d1, d2] => { results := [.lit (.bool true)], args := [d1, d2] }
  | _ => none }
def descLengthsRow : OpenClaim := { program := "ytepnamlcofmccaadoor", sum := "f352d218a3e08d770e1b0858893b3c51a7b1669151e6055c32b578e1467dc8a3", func := "selion/selionlaw04.DescLengths", spec := "descLengths", inPlace := ["internal/bytealg.IndexByteString", "internal/bytealg.IndexString", "internal/bytealg.CountString", "internal/reflectlite.ValueOf", "(internal/reflectlite.Value).Type", "(internal/reflectlite.Value).IsNil", "internal/reflectlite.TypeOf", "(internal/reflectlite.Value).Elem", "(internal/reflectlite.Value).Set"], unfollowed := true, recurses := true, named := ["internal/bytealg.MaxLen", "unicode/utf8.first", "unicode/utf8.acceptRanges", "errors.errorType", "selion/addr.errSize", "selion/addr.errAddr", "selion/addr.errRef"], apart := false, laid := [("unicode/utf8.acceptRanges", laid_unicode_utf8_acceptRanges), ("errors.errorType", laid_errors_errorType), ("selion/addr.errAddr", laid_selion_addr_errAddr), ("selion/addr.errSize", laid_selion_addr_errSize), ("selion/addr.errRef", laid_selion_addr_errRef), ("unicode/utf8.first", laid_unicode_utf8_first)] }
def DescLengthsSaid : Prop := descLengthsRow.holds Tryd.pinned (OpenSpec.ofChange descLengthsSpec)

/-- ITS FALSE NEIGHBOUR: 'it returns false'. Refute it at one input. -/
def descLengthsWrong : ChangeSpec := { name := "descLengths", fn := fun _ => fun
  | [d1, d2] => { results := [.lit (.bool false)], args := [d1, d2] }
  | _ => none }
def DescLengthsWrongFalsely : Prop := descLengthsRow.holds Tryd.pinned (OpenSpec.ofChange descLengthsWrong)

/-- 'selionlaw04.DescSlots': WHATEVER THE INPUT: true; the input reads as it did. -/
def descSlotsSpec : ChangeSpec := { name := "descSlots", fn := fun _ => fun
  | [d1, d2, d3] => { results := [.lit (.bool true)], args := [d1, d2, d3] }
  | _ => none }
def descSlotsRow : OpenClaim := { program := "ytepnamlcofmccaadoor", sum := "f352d218a3e08d770e1b0858893b3c51a7b1669151e6055c32b578e1467dc8a3", func := "selion/selionlaw04.DescSlots", spec := "descSlots", inPlace := ["internal/bytealg.IndexByteString", "internal/bytealg.IndexString", "internal/bytealg.CountString", "internal/reflectlite.ValueOf", "(internal/reflectlite.Value).Type", "(internal/reflectlite.Value).IsNil", "internal/reflectlite.TypeOf", "(internal/reflectlite.Value).Elem", "(internal/reflectlite.Value).Set"], unfollowed := true, recurses := true, named := ["internal/bytealg.MaxLen", "unicode/utf8.first", "unicode/utf8.acceptRanges", "errors.errorType", "selion/addr.errSize", "selion/addr.errAddr", "selion/addr.errRef"], apart := false, laid := [("unicode/utf8.acceptRanges", laid_unicode_utf8_acceptRanges), ("errors.errorType", laid_errors_errorType), ("selion/addr.errAddr", laid_selion_addr_errAddr), ("selion/addr.errSize", laid_selion_addr_errSize), ("selion/addr.errRef", laid_selion_addr_errRef), ("unicode/utf8.first", laid_unicode_utf8_first)] }
def DescSlotsSaid : Prop := descSlotsRow.holds Tryd.pinned (OpenSpec.ofChange descSlotsSpec)

/-- ITS FALSE NEIGHBOUR: 'it returns false'. Refute it at one input. -/
def descSlotsWrong : ChangeSpec := { name := "descSlots", fn := fun _ => fun
  | [d1, d2, d3] => { results := [.lit (.bool false)], args := [d1, d2, d3] }
  | _ => none }
def DescSlotsWrongFalsely : Prop := descSlotsRow.holds Tryd.pinned (OpenSpec.ofChange descSlotsWrong)

/-- 'selionlaw04.DescGrows': WHATEVER THE INPUT: true; the input reads as it did. -/
def descGrowsSpec : ChangeSpec := { name := "descGrows", fn := fun _ => fun
  | [d1, d2, d3] => { results := [.lit (.bool true)], args := [d1, d2, d3] }
  | _ => none }
def descGrowsRow : OpenClaim := { program := "ytepnamlcofmccaadoor", sum := "f352d218a3e08d770e1b0858893b3c51a7b1669151e6055c32b578e1467dc8a3", func := "selion/selionlaw04.DescGrows", spec := "descGrows", inPlace := ["internal/bytealg.IndexByteString", "internal/bytealg.IndexString", "internal/bytealg.CountString", "internal/reflectlite.ValueOf", "(internal/reflectlite.Value).Type", "(internal/reflectlite.Value).IsNil", "internal/reflectlite.TypeOf", "(internal/reflectlite.Value).Elem", "(internal/reflectlite.Value).Set"], unfollowed := true, recurses := true, named := ["internal/bytealg.MaxLen", "unicode/utf8.first", "unicode/utf8.acceptRanges", "errors.errorType", "selion/addr.errSize", "selion/addr.errAddr", "selion/addr.errRef"], apart := false, laid := [("unicode/utf8.acceptRanges", laid_unicode_utf8_acceptRanges), ("errors.errorType", laid_errors_errorType), ("selion/addr.errAddr", laid_selion_addr_errAddr), ("selion/addr.errSize", laid_selion_addr_errSize), ("selion/addr.errRef", laid_selion_addr_errRef), ("unicode/utf8.first", laid_unicode_utf8_first)] }
def DescGrowsSaid : Prop := descGrowsRow.holds Tryd.pinned (OpenSpec.ofChange descGrowsSpec)

/-- ITS FALSE NEIGHBOUR: 'it returns false'. Refute it at one input. -/
def descGrowsWrong : ChangeSpec := { name := "descGrows", fn := fun _ => fun
  | [d1, d2, d3] => { results := [.lit (.bool false)], args := [d1, d2, d3] }
  | _ => none }
def DescGrowsWrongFalsely : Prop := descGrowsRow.holds Tryd.pinned (OpenSpec.ofChange descGrowsWrong)

/-- 'selionlaw04.DescFields': WHATEVER THE INPUT: true; the input reads as it did. -/
def descFieldsSpec : ChangeSpec := { name := "descFields", fn := fun _ => fun
  | [d1, d2, d3] => { results := [.lit (.bool true)], args := [d1, d2, d3] }
  | _ => none }
def descFieldsRow : OpenClaim := { program := "ytepnamlcofmccaadoor", sum := "f352d218a3e08d770e1b0858893b3c51a7b1669151e6055c32b578e1467dc8a3", func := "selion/selionlaw04.DescFields", spec := "descFields", inPlace := ["internal/bytealg.IndexByteString", "internal/bytealg.IndexString", "internal/bytealg.CountString", "internal/reflectlite.ValueOf", "(internal/reflectlite.Value).Type", "(internal/reflectlite.Value).IsNil", "internal/reflectlite.TypeOf", "(internal/reflectlite.Value).Elem", "(internal/reflectlite.Value).Set"], unfollowed := true, recurses := true, named := ["internal/bytealg.MaxLen", "unicode/utf8.first", "unicode/utf8.acceptRanges", "errors.errorType", "selion/addr.errSize", "selion/addr.errAddr", "selion/addr.errRef"], apart := false, laid := [("unicode/utf8.acceptRanges", laid_unicode_utf8_acceptRanges), ("errors.errorType", laid_errors_errorType), ("selion/addr.errAddr", laid_selion_addr_errAddr), ("selion/addr.errSize", laid_selion_addr_errSize), ("selion/addr.errRef", laid_selion_addr_errRef), ("unicode/utf8.first", laid_unicode_utf8_first)] }
def DescFieldsSaid : Prop := descFieldsRow.holds Tryd.pinned (OpenSpec.ofChange descFieldsSpec)

/-- ITS FALSE NEIGHBOUR: 'it returns false'. Refute it at one input. -/
def descFieldsWrong : ChangeSpec := { name := "descFields", fn := fun _ => fun
  | [d1, d2, d3] => { results := [.lit (.bool false)], args := [d1, d2, d3] }
  | _ => none }
def DescFieldsWrongFalsely : Prop := descFieldsRow.holds Tryd.pinned (OpenSpec.ofChange descFieldsWrong)

/-- 'selionlaw04.DescTells': WHATEVER THE INPUT: true; the input reads as it did. -/
def descTellsSpec : ChangeSpec := { name := "descTells", fn := fun _ => fun
  | [d1, d2, d3, d4] => { results := [.lit (.bool true)], args := [d1, d2, d3, d4] }
  | _ => none }
def descTellsRow : OpenClaim := { program := "ytepnamlcofmccaadoor", sum := "f352d218a3e08d770e1b0858893b3c51a7b1669151e6055c32b578e1467dc8a3", func := "selion/selionlaw04.DescTells", spec := "descTells", inPlace := ["internal/bytealg.IndexByteString", "internal/bytealg.IndexString", "internal/bytealg.CountString", "internal/reflectlite.ValueOf", "(internal/reflectlite.Value).Type", "(internal/reflectlite.Value).IsNil", "internal/reflectlite.TypeOf", "(internal/reflectlite.Value).Elem", "(internal/reflectlite.Value).Set"], unfollowed := true, recurses := true, named := ["internal/bytealg.MaxLen", "unicode/utf8.first", "unicode/utf8.acceptRanges", "errors.errorType", "selion/addr.errSize", "selion/addr.errAddr", "selion/addr.errRef"], apart := false, laid := [("unicode/utf8.acceptRanges", laid_unicode_utf8_acceptRanges), ("errors.errorType", laid_errors_errorType), ("selion/addr.errAddr", laid_selion_addr_errAddr), ("selion/addr.errSize", laid_selion_addr_errSize), ("selion/addr.errRef", laid_selion_addr_errRef), ("unicode/utf8.first", laid_unicode_utf8_first)] }
def DescTellsSaid : Prop := descTellsRow.holds Tryd.pinned (OpenSpec.ofChange descTellsSpec)

/-- ITS FALSE NEIGHBOUR: 'it returns false'. Refute it at one input. -/
def descTellsWrong : ChangeSpec := { name := "descTells", fn := fun _ => fun
  | [d1, d2, d3, d4] => { results := [.lit (.bool false)], args := [d1, d2, d3, d4] }
  | _ => none }
def DescTellsWrongFalsely : Prop := descTellsRow.holds Tryd.pinned (OpenSpec.ofChange descTellsWrong)

/- THE SECOND FORM. 'bulk': how many values and letters a reading holds, each counted each time it is reached (what is shared counts as often as it is met; a slice's spare places count too). A statement '..UptoSaid' is the law's where the arguments, and the package variables that the reading takes, are together of bulk at most 1048576: NARROWER than '..Said'. Prove '..Said' where nothing that the law and all that it calls make is longer than what came in: it says more and counts as full. Else prove '..UptoSaid'. A law counts once. -/
mutual
def uptoBulk {H : Type} : DataW H → Nat
  | .lit (.string bytes) => bytes.length + 1
  | .lit _ => 1
  | .nil => 1
  | .ptr d => uptoBulk d + 1
  | .slice elems spare => uptoBulkAll elems + uptoBulkAll spare + 1
  | .agg parts => uptoBulkAll parts + 1
  | .iface _ d => uptoBulk d + 1
  | .map entries => uptoBulkEntries entries + 1
  | .held _ => 1
def uptoBulkAll {H : Type} : List (DataW H) → Nat
  | [] => 0
  | d :: r => uptoBulk d + uptoBulkAll r
def uptoBulkEntries {H : Type} : List (Lit × DataW H) → Nat
  | [] => 0
  | x :: r => uptoBulkEntry x + uptoBulkEntries r
def uptoBulkEntry {H : Type} : Lit × DataW H → Nat
  | (.string bytes, d) => bytes.length + uptoBulk d + 1
  | (_, d) => uptoBulk d + 1
 end
def uptoSmall : (H : Type) → List (DataW H) → Bool := fun _ ds => decide (uptoBulkAll ds ≤ 1048576)
def OpenSpec.upto (s : _root_.Go.ChangeSpec) : _root_.Go.OpenSpec := { _root_.Go.OpenSpec.ofChange s with cond := some uptoSmall }

/-- 'selionlaw04.DescLengths', WHERE WHAT IT READS IS OF BULK AT MOST 1048576: true; the input reads as it did. -/
def descLengthsUptoRow : OpenClaim := { program := "ytepnamlcofmccaadoor", sum := "f352d218a3e08d770e1b0858893b3c51a7b1669151e6055c32b578e1467dc8a3", func := "selion/selionlaw04.DescLengths", spec := "descLengths", inPlace := ["internal/bytealg.IndexByteString", "internal/bytealg.IndexString", "internal/bytealg.CountString", "internal/reflectlite.ValueOf", "(internal/reflectlite.Value).Type", "(internal/reflectlite.Value).IsNil", "internal/reflectlite.TypeOf", "(internal/reflectlite.Value).Elem", "(internal/reflectlite.Value).Set"], unfollowed := true, recurses := true, named := ["internal/bytealg.MaxLen", "unicode/utf8.first", "unicode/utf8.acceptRanges", "errors.errorType", "selion/addr.errSize", "selion/addr.errAddr", "selion/addr.errRef"], apart := false, laid := [("unicode/utf8.acceptRanges", laid_unicode_utf8_acceptRanges), ("errors.errorType", laid_errors_errorType), ("selion/addr.errAddr", laid_selion_addr_errAddr), ("selion/addr.errSize", laid_selion_addr_errSize), ("selion/addr.errRef", laid_selion_addr_errRef), ("unicode/utf8.first", laid_unicode_utf8_first)], narrowed := true }
def DescLengthsUptoSaid : Prop := descLengthsUptoRow.holds Tryd.pinned (OpenSpec.upto descLengthsSpec)

/-- 'selionlaw04.DescSlots', WHERE WHAT IT READS IS OF BULK AT MOST 1048576: true; the input reads as it did. -/
def descSlotsUptoRow : OpenClaim := { program := "ytepnamlcofmccaadoor", sum := "f352d218a3e08d770e1b0858893b3c51a7b1669151e6055c32b578e1467dc8a3", func := "selion/selionlaw04.DescSlots", spec := "descSlots", inPlace := ["internal/bytealg.IndexByteString", "internal/bytealg.IndexString", "internal/bytealg.CountString", "internal/reflectlite.ValueOf", "(internal/reflectlite.Value).Type", "(internal/reflectlite.Value).IsNil", "internal/reflectlite.TypeOf", "(internal/reflectlite.Value).Elem", "(internal/reflectlite.Value).Set"], unfollowed := true, recurses := true, named := ["internal/bytealg.MaxLen", "unicode/utf8.first", "unicode/utf8.acceptRanges", "errors.errorType", "selion/addr.errSize", "selion/addr.errAddr", "selion/addr.errRef"], apart := false, laid := [("unicode/utf8.acceptRanges", laid_unicode_utf8_acceptRanges), ("errors.errorType", laid_errors_errorType), ("selion/addr.errAddr", laid_selion_addr_errAddr), ("selion/addr.errSize", laid_selion_addr_errSize), ("selion/addr.errRef", laid_selion_addr_errRef), ("unicode/utf8.first", laid_unicode_utf8_first)], narrowed := true }
def DescSlotsUptoSaid : Prop := descSlotsUptoRow.holds Tryd.pinned (OpenSpec.upto descSlotsSpec)

/-- 'selionlaw04.DescGrows', WHERE WHAT IT READS IS OF BULK AT MOST 1048576: true; the input reads as it did. -/
def descGrowsUptoRow : OpenClaim := { program := "ytepnamlcofmccaadoor", sum := "f352d218a3e08d770e1b0858893b3c51a7b1669151e6055c32b578e1467dc8a3", func := "selion/selionlaw04.DescGrows", spec := "descGrows", inPlace := ["internal/bytealg.IndexByteString", "internal/bytealg.IndexString", "internal/bytealg.CountString", "internal/reflectlite.ValueOf", "(internal/reflectlite.Value).Type", "(internal/reflectlite.Value).IsNil", "internal/reflectlite.TypeOf", "(internal/reflectlite.Value).Elem", "(internal/reflectlite.Value).Set"], unfollowed := true, recurses := true, named := ["internal/bytealg.MaxLen", "unicode/utf8.first", "unicode/utf8.acceptRanges", "errors.errorType", "selion/addr.errSize", "selion/addr.errAddr", "selion/addr.errRef"], apart := false, laid := [("unicode/utf8.acceptRanges", laid_unicode_utf8_acceptRanges), ("errors.errorType", laid_errors_errorType), ("selion/addr.errAddr", laid_selion_addr_errAddr), ("selion/addr.errSize", laid_selion_addr_errSize), ("selion/addr.errRef", laid_selion_addr_errRef), ("unicode/utf8.first", laid_unicode_utf8_first)], narrowed := true }
def DescGrowsUptoSaid : Prop := descGrowsUptoRow.holds Tryd.pinned (OpenSpec.upto descGrowsSpec)

/-- 'selionlaw04.DescFields', WHERE WHAT IT READS IS OF BULK AT MOST 1048576: true; the input reads as it did. -/
def descFieldsUptoRow : OpenClaim := { program := "ytepnamlcofmccaadoor", sum := "f352d218a3e08d770e1b0858893b3c51a7b1669151e6055c32b578e1467dc8a3", func := "selion/selionlaw04.DescFields", spec := "descFields", inPlace := ["internal/bytealg.IndexByteString", "internal/bytealg.IndexString", "internal/bytealg.CountString", "internal/reflectlite.ValueOf", "(internal/reflectlite.Value).Type", "(internal/reflectlite.Value).IsNil", "internal/reflectlite.TypeOf", "(internal/reflectlite.Value).Elem", "(internal/reflectlite.Value).Set"], unfollowed := true, recurses := true, named := ["internal/bytealg.MaxLen", "unicode/utf8.first", "unicode/utf8.acceptRanges", "errors.errorType", "selion/addr.errSize", "selion/addr.errAddr", "selion/addr.errRef"], apart := false, laid := [("unicode/utf8.acceptRanges", laid_unicode_utf8_acceptRanges), ("errors.errorType", laid_errors_errorType), ("selion/addr.errAddr", laid_selion_addr_errAddr), ("selion/addr.errSize", laid_selion_addr_errSize), ("selion/addr.errRef", laid_selion_addr_errRef), ("unicode/utf8.first", laid_unicode_utf8_first)], narrowed := true }
def DescFieldsUptoSaid : Prop := descFieldsUptoRow.holds Tryd.pinned (OpenSpec.upto descFieldsSpec)

/-- 'selionlaw04.DescTells', WHERE WHAT IT READS IS OF BULK AT MOST 1048576: true; the input reads as it did. -/
def descTellsUptoRow : OpenClaim := { program := "ytepnamlcofmccaadoor", sum := "f352d218a3e08d770e1b0858893b3c51a7b1669151e6055c32b578e1467dc8a3", func := "selion/selionlaw04.DescTells", spec := "descTells", inPlace := ["internal/bytealg.IndexByteString", "internal/bytealg.IndexString", "internal/bytealg.CountString", "internal/reflectlite.ValueOf", "(internal/reflectlite.Value).Type", "(internal/reflectlite.Value).IsNil", "internal/reflectlite.TypeOf", "(internal/reflectlite.Value).Elem", "(internal/reflectlite.Value).Set"], unfollowed := true, recurses := true, named := ["internal/bytealg.MaxLen", "unicode/utf8.first", "unicode/utf8.acceptRanges", "errors.errorType", "selion/addr.errSize", "selion/addr.errAddr", "selion/addr.errRef"], apart := false, laid := [("unicode/utf8.acceptRanges", laid_unicode_utf8_acceptRanges), ("errors.errorType", laid_errors_errorType), ("selion/addr.errAddr", laid_selion_addr_errAddr), ("selion/addr.errSize", laid_selion_addr_errSize), ("selion/addr.errRef", laid_selion_addr_errRef), ("unicode/utf8.first", laid_unicode_utf8_first)], narrowed := true }
def DescTellsUptoSaid : Prop := descTellsUptoRow.holds Tryd.pinned (OpenSpec.upto descTellsSpec)

end Rows
end Go.Proofs.YtepnamlcofmccaaDoor
