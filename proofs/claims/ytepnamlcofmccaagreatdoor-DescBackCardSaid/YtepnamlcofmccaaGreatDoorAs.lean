/-
  What is proved: what stands for reflectlite's functions that errors.As calls. No condition beyond those stated.
-/
import Derived.Test.YtepnamlcofmccaaGreatDoorLib
import Derived.Test.YtepnamlcofmccaaGreatDoorRows
import Derived.WalkSpells
import Derived.WalkLawsBesides
import Derived.LaidEql
import Derived.Stop.Asserts
import Derived.RowKitTokens
import Derived.Lib.ReflectliteSwap
namespace Go.Proofs.YtepnamlcofmccaaGreatDoor
open Go.RowKit Go.Extern.Stop Go.Stop Go.Extern

/-- What stands for reflectlite's functions. -/
noncomputable def extOf (f : Func) : Array Value → Sem Value := (Extern.find f).getD (fun _ => pure undef)
theorem fnValueOf : Extern.find Tryz.f55 = some (extOf Tryz.f55) := by kernel_rfl
theorem fnVType : Extern.find Tryz.f56 = some (extOf Tryz.f56) := by kernel_rfl
theorem fnIsNil : Extern.find Tryz.f57 = some (extOf Tryz.f57) := by kernel_rfl
theorem fnVElem : Extern.find Tryz.f68 = some (extOf Tryz.f68) := by kernel_rfl
theorem fnSet : Extern.find Tryz.f69 = some (extOf Tryz.f69) := by kernel_rfl
theorem fnElem : Extern.find Tryz.f122 = some (extOf Tryz.f122) := by kernel_rfl
theorem fnKind : Extern.find Tryz.f109 = some (extOf Tryz.f109) := by kernel_rfl
theorem fnImpl : Extern.find Tryz.f123 = some (extOf Tryz.f123) := by kernel_rfl
theorem fnAssign : Extern.find Tryz.f120 = some (extOf Tryz.f120) := by kernel_rfl

/-- A type's handle. -/
abbrev hnd (t : Nat) : Value := .pointer (some ⟨10, t, none⟩)
abbrev rty (t : Nat) : Value := .iface 118 (.agg #[hnd t])
theorem mKind (v : Value) (w : World) : (Go.method 290 118 (.agg #[v]) "Kind").run Tryz.prog w = .ok (109, v) w := by kernel_rfl
theorem mElem (v : Value) (w : World) : (Go.method 290 118 (.agg #[v]) "Elem").run Tryz.prog w = .ok (122, .agg #[v]) w := by kernel_rfl
theorem mImpl (v : Value) (w : World) : (Go.method 290 118 (.agg #[v]) "Implements").run Tryz.prog w = .ok (123, .agg #[v]) w := by kernel_rfl
theorem mAssign (v : Value) (w : World) : (Go.method 290 118 (.agg #[v]) "AssignableTo").run Tryz.prog w = .ok (120, .agg #[v]) w := by kernel_rfl
theorem box_below (w : World) (o : Obj) : Below w.heap.size w (w.alloc o) := (Below.refl _ _).alloc (Nat.le_refl _) _

end Go.Proofs.YtepnamlcofmccaaGreatDoor
