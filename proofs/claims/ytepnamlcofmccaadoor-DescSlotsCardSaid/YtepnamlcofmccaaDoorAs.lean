/-
  What is proved: what stands for reflectlite's functions that errors.As calls. No condition beyond those stated.
-/
import Derived.Test.YtepnamlcofmccaaDoorLib
import Derived.Test.YtepnamlcofmccaaDoorRows
import Derived.WalkSpells
import Derived.WalkLawsBesides
import Derived.LaidEql
import Derived.Stop.Asserts
import Derived.RowKitTokens
import Derived.Lib.ReflectliteSwap
namespace Go.Proofs.YtepnamlcofmccaaDoor
open Go.RowKit Go.Extern.Stop Go.Stop Go.Extern

/-- What stands for reflectlite's functions. -/
noncomputable def extOf (f : Func) : Array Value → Sem Value := (Extern.find f).getD (fun _ => pure undef)
theorem fnValueOf : Extern.find Tryd.f48 = some (extOf Tryd.f48) := by kernel_rfl
theorem fnVType : Extern.find Tryd.f49 = some (extOf Tryd.f49) := by kernel_rfl
theorem fnIsNil : Extern.find Tryd.f50 = some (extOf Tryd.f50) := by kernel_rfl
theorem fnVElem : Extern.find Tryd.f59 = some (extOf Tryd.f59) := by kernel_rfl
theorem fnSet : Extern.find Tryd.f60 = some (extOf Tryd.f60) := by kernel_rfl
theorem fnElem : Extern.find Tryd.f102 = some (extOf Tryd.f102) := by kernel_rfl
theorem fnKind : Extern.find Tryd.f90 = some (extOf Tryd.f90) := by kernel_rfl
theorem fnImpl : Extern.find Tryd.f103 = some (extOf Tryd.f103) := by kernel_rfl
theorem fnAssign : Extern.find Tryd.f100 = some (extOf Tryd.f100) := by kernel_rfl

/-- A type's handle. -/
abbrev hnd (t : Nat) : Value := .pointer (some ⟨7, t, none⟩)
abbrev rty (t : Nat) : Value := .iface 103 (.agg #[hnd t])
theorem mKind (v : Value) (w : World) : (Go.method 264 103 (.agg #[v]) "Kind").run Tryd.prog w = .ok (90, v) w := by kernel_rfl
theorem mElem (v : Value) (w : World) : (Go.method 264 103 (.agg #[v]) "Elem").run Tryd.prog w = .ok (102, .agg #[v]) w := by kernel_rfl
theorem mImpl (v : Value) (w : World) : (Go.method 264 103 (.agg #[v]) "Implements").run Tryd.prog w = .ok (103, .agg #[v]) w := by kernel_rfl
theorem mAssign (v : Value) (w : World) : (Go.method 264 103 (.agg #[v]) "AssignableTo").run Tryd.prog w = .ok (100, .agg #[v]) w := by kernel_rfl
theorem box_below (w : World) (o : Obj) : Below w.heap.size w (w.alloc o) := (Below.refl _ _).alloc (Nat.le_refl _) _

end Go.Proofs.YtepnamlcofmccaaDoor
