/-
  What is proved: what stands for reflectlite's functions that errors.As calls. No condition beyond those stated.
-/
import Derived.Test.YtmabokmnniiadaaGreatDoorLib
import Derived.Test.YtmabokmnniiadaaGreatDoorRows
import Derived.WalkSpells
import Derived.WalkLawsBesides
import Derived.LaidEql
import Derived.Stop.Asserts
import Derived.RowKitTokens
import Derived.Lib.ReflectliteSwap
namespace Go.Proofs.YtmabokmnniiadaaGreatDoor
open Go.RowKit Go.Extern.Stop Go.Stop Go.Extern

/-- What stands for reflectlite's functions. -/
noncomputable def extOf (f : Func) : Array Value → Sem Value := (Extern.find f).getD (fun _ => pure undef)
theorem fnValueOf : Extern.find Tryz.f64 = some (extOf Tryz.f64) := by kernel_rfl
theorem fnVType : Extern.find Tryz.f65 = some (extOf Tryz.f65) := by kernel_rfl
theorem fnIsNil : Extern.find Tryz.f66 = some (extOf Tryz.f66) := by kernel_rfl
theorem fnVElem : Extern.find Tryz.f76 = some (extOf Tryz.f76) := by kernel_rfl
theorem fnSet : Extern.find Tryz.f77 = some (extOf Tryz.f77) := by kernel_rfl
theorem fnElem : Extern.find Tryz.f137 = some (extOf Tryz.f137) := by kernel_rfl
theorem fnKind : Extern.find Tryz.f124 = some (extOf Tryz.f124) := by kernel_rfl
theorem fnImpl : Extern.find Tryz.f138 = some (extOf Tryz.f138) := by kernel_rfl
theorem fnAssign : Extern.find Tryz.f135 = some (extOf Tryz.f135) := by kernel_rfl

/-- A type's handle. -/
abbrev hnd (t : Nat) : Value := .pointer (some ⟨7, t, none⟩)
abbrev rty (t : Nat) : Value := .iface 122 (.agg #[hnd t])
theorem mKind (v : Value) (w : World) : (Go.method 305 122 (.agg #[v]) "Kind").run Tryz.prog w = .ok (124, v) w := by kernel_rfl
theorem mElem (v : Value) (w : World) : (Go.method 305 122 (.agg #[v]) "Elem").run Tryz.prog w = .ok (137, .agg #[v]) w := by kernel_rfl
theorem mImpl (v : Value) (w : World) : (Go.method 305 122 (.agg #[v]) "Implements").run Tryz.prog w = .ok (138, .agg #[v]) w := by kernel_rfl
theorem mAssign (v : Value) (w : World) : (Go.method 305 122 (.agg #[v]) "AssignableTo").run Tryz.prog w = .ok (135, .agg #[v]) w := by kernel_rfl
theorem box_below (w : World) (o : Obj) : Below w.heap.size w (w.alloc o) := (Below.refl _ _).alloc (Nat.le_refl _) _

end Go.Proofs.YtmabokmnniiadaaGreatDoor
