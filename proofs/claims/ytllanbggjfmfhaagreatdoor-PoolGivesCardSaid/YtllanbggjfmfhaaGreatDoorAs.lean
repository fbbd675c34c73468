/-
  What is proved: what stands for reflectlite's functions that errors.As calls. No condition beyond those stated.
-/
import Derived.Test.YtllanbggjfmfhaaGreatDoorLib
import Derived.Test.YtllanbggjfmfhaaGreatDoorRows
import Derived.WalkSpells
import Derived.WalkLawsBesides
import Derived.LaidEql
import Derived.Stop.Asserts
import Derived.RowKitTokens
import Derived.Lib.ReflectliteSwap
namespace Go.Proofs.YtllanbggjfmfhaaGreatDoor
open Go.RowKit Go.Extern.Stop Go.Stop Go.Extern

/-- What stands for reflectlite's functions. -/
noncomputable def extOf (f : Func) : Array Value → Sem Value := (Extern.find f).getD (fun _ => pure undef)
theorem fnValueOf : Extern.find Tryz.f76 = some (extOf Tryz.f76) := by kernel_rfl
theorem fnVType : Extern.find Tryz.f77 = some (extOf Tryz.f77) := by kernel_rfl
theorem fnIsNil : Extern.find Tryz.f78 = some (extOf Tryz.f78) := by kernel_rfl
theorem fnVElem : Extern.find Tryz.f89 = some (extOf Tryz.f89) := by kernel_rfl
theorem fnSet : Extern.find Tryz.f90 = some (extOf Tryz.f90) := by kernel_rfl
theorem fnElem : Extern.find Tryz.f119 = some (extOf Tryz.f119) := by kernel_rfl
theorem fnKind : Extern.find Tryz.f107 = some (extOf Tryz.f107) := by kernel_rfl
theorem fnImpl : Extern.find Tryz.f120 = some (extOf Tryz.f120) := by kernel_rfl
theorem fnAssign : Extern.find Tryz.f117 = some (extOf Tryz.f117) := by kernel_rfl

/-- A type's handle. -/
abbrev hnd (t : Nat) : Value := .pointer (some ⟨3, t, none⟩)
abbrev rty (t : Nat) : Value := .iface 121 (.agg #[hnd t])
theorem mKind (v : Value) (w : World) : (Go.method 270 121 (.agg #[v]) "Kind").run Tryz.prog w = .ok (107, v) w := by kernel_rfl
theorem mElem (v : Value) (w : World) : (Go.method 270 121 (.agg #[v]) "Elem").run Tryz.prog w = .ok (119, .agg #[v]) w := by kernel_rfl
theorem mImpl (v : Value) (w : World) : (Go.method 270 121 (.agg #[v]) "Implements").run Tryz.prog w = .ok (120, .agg #[v]) w := by kernel_rfl
theorem mAssign (v : Value) (w : World) : (Go.method 270 121 (.agg #[v]) "AssignableTo").run Tryz.prog w = .ok (117, .agg #[v]) w := by kernel_rfl
theorem box_below (w : World) (o : Obj) : Below w.heap.size w (w.alloc o) := (Below.refl _ _).alloc (Nat.le_refl _) _

end Go.Proofs.YtllanbggjfmfhaaGreatDoor
