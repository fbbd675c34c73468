/-
  What is proved: what stands for reflectlite's functions that errors.As calls. No condition beyond those stated.
-/
import Derived.Test.YtllanbggjfmfhaaDoorLib
import Derived.Test.YtllanbggjfmfhaaDoorRows
import Derived.WalkSpells
import Derived.WalkLawsBesides
import Derived.LaidEql
import Derived.Stop.Asserts
import Derived.RowKitTokens
import Derived.Lib.ReflectliteSwap
namespace Go.Proofs.YtllanbggjfmfhaaDoor
open Go.RowKit Go.Extern.Stop Go.Stop Go.Extern

/-- What stands for reflectlite's functions. -/
noncomputable def extOf (f : Func) : Array Value → Sem Value := (Extern.find f).getD (fun _ => pure undef)
theorem fnValueOf : Extern.find Tryd.f78 = some (extOf Tryd.f78) := by kernel_rfl
theorem fnVType : Extern.find Tryd.f79 = some (extOf Tryd.f79) := by kernel_rfl
theorem fnIsNil : Extern.find Tryd.f80 = some (extOf Tryd.f80) := by kernel_rfl
theorem fnVElem : Extern.find Tryd.f88 = some (extOf Tryd.f88) := by kernel_rfl
theorem fnSet : Extern.find Tryd.f89 = some (extOf Tryd.f89) := by kernel_rfl
theorem fnElem : Extern.find Tryd.f118 = some (extOf Tryd.f118) := by kernel_rfl
theorem fnKind : Extern.find Tryd.f106 = some (extOf Tryd.f106) := by kernel_rfl
theorem fnImpl : Extern.find Tryd.f119 = some (extOf Tryd.f119) := by kernel_rfl
theorem fnAssign : Extern.find Tryd.f116 = some (extOf Tryd.f116) := by kernel_rfl

/-- A type's handle. -/
abbrev hnd (t : Nat) : Value := .pointer (some ⟨3, t, none⟩)
abbrev rty (t : Nat) : Value := .iface 124 (.agg #[hnd t])
theorem mKind (v : Value) (w : World) : (Go.method 273 124 (.agg #[v]) "Kind").run Tryd.prog w = .ok (106, v) w := by kernel_rfl
theorem mElem (v : Value) (w : World) : (Go.method 273 124 (.agg #[v]) "Elem").run Tryd.prog w = .ok (118, .agg #[v]) w := by kernel_rfl
theorem mImpl (v : Value) (w : World) : (Go.method 273 124 (.agg #[v]) "Implements").run Tryd.prog w = .ok (119, .agg #[v]) w := by kernel_rfl
theorem mAssign (v : Value) (w : World) : (Go.method 273 124 (.agg #[v]) "AssignableTo").run Tryd.prog w = .ok (116, .agg #[v]) w := by kernel_rfl
theorem box_below (w : World) (o : Obj) : Below w.heap.size w (w.alloc o) := (Below.refl _ _).alloc (Nat.le_refl _) _

end Go.Proofs.YtllanbggjfmfhaaDoor
