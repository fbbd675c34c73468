/-
  What is proved: the contract of errors.As at an error at an address whose reason is a number (package starts). No condition beyond those stated.
-/
import Derived.Test.YtelbddnjnapoeaaDoorDe
import Derived.Lib.ReflectliteSwap
namespace Go.Proofs.YtelbddnjnapoeaaDoor
open Go.RowKit Go.Extern.Stop Go.Stop Go.Extern

/-- What stands for reflectlite's functions. -/
noncomputable def extOf (f : Func) : Array Value → Sem Value := (Extern.find f).getD (fun _ => pure undef)
theorem fnValueOf : Extern.find Tryd.f67 = some (extOf Tryd.f67) := by kernel_rfl
theorem fnVType : Extern.find Tryd.f68 = some (extOf Tryd.f68) := by kernel_rfl
theorem fnIsNil : Extern.find Tryd.f69 = some (extOf Tryd.f69) := by kernel_rfl
theorem fnVElem : Extern.find Tryd.f72 = some (extOf Tryd.f72) := by kernel_rfl
theorem fnSet : Extern.find Tryd.f73 = some (extOf Tryd.f73) := by kernel_rfl

theorem fnElem : Extern.find Tryd.f100 = some (extOf Tryd.f100) := by kernel_rfl
theorem fnKind : Extern.find Tryd.f88 = some (extOf Tryd.f88) := by kernel_rfl
theorem fnImpl : Extern.find Tryd.f101 = some (extOf Tryd.f101) := by kernel_rfl
theorem fnAssign : Extern.find Tryd.f98 = some (extOf Tryd.f98) := by kernel_rfl

/-- A type's handle. -/
abbrev hnd (t : Nat) : Value := .pointer (some ⟨5, t, none⟩)
abbrev rty (t : Nat) : Value := .iface 96 (.agg #[hnd t])

theorem valueOfP (p : Option Addr) (w : World) : (extOf Tryd.f67 #[.iface 69 (.pointer p)]).run Tryd.prog w = .ok (.agg #[hnd 69, .pointer (some ⟨w.heap.size, 0, none⟩), .int .u64 150]) (w.alloc (.cells #[.pointer p] 69)) := by kernel_rfl
theorem valueOfF (k : Int) (w : World) : (extOf Tryd.f67 #[.iface 67 (.int .i64 k)]).run Tryd.prog w = .ok (.agg #[hnd 67, .pointer (some ⟨w.heap.size, 0, none⟩), .int .u64 130]) (w.alloc (.cells #[.int .i64 k] 67)) := by kernel_rfl
theorem typeP (a : Addr) (w : World) : (extOf Tryd.f68 #[.agg #[hnd 69, .pointer (some a), .int .u64 150]]).run Tryd.prog w = .ok (rty 69) w := by kernel_rfl
theorem mKind (v : Value) (w : World) : (Go.method 243 96 (.agg #[v]) "Kind").run Tryd.prog w = .ok (88, v) w := by kernel_rfl
theorem mElem (v : Value) (w : World) : (Go.method 243 96 (.agg #[v]) "Elem").run Tryd.prog w = .ok (100, .agg #[v]) w := by kernel_rfl
theorem mImpl (v : Value) (w : World) : (Go.method 243 96 (.agg #[v]) "Implements").run Tryd.prog w = .ok (101, .agg #[v]) w := by kernel_rfl
theorem mAssign (v : Value) (w : World) : (Go.method 243 96 (.agg #[v]) "AssignableTo").run Tryd.prog w = .ok (98, .agg #[v]) w := by kernel_rfl
theorem kindP (w : World) : (extOf Tryd.f88 #[hnd 69]).run Tryd.prog w = .ok (.int .u8 22) w := by kernel_rfl
theorem kindF (w : World) : (extOf Tryd.f88 #[hnd 67]).run Tryd.prog w = .ok (.int .u8 2) w := by kernel_rfl
theorem elemP (w : World) : (extOf Tryd.f100 #[.agg #[hnd 69]]).run Tryd.prog w = .ok (rty 67) w := by kernel_rfl
theorem implF (w : World) : (extOf Tryd.f101 #[.agg #[hnd 67], rty 57]).run Tryd.prog w = .ok (.bool true) w := by kernel_rfl
theorem assignT (w : World) : (extOf Tryd.f98 #[.agg #[hnd 70], rty 67]).run Tryd.prog w = .ok (.bool false) w := by kernel_rfl
theorem assignF (w : World) : (extOf Tryd.f98 #[.agg #[hnd 67], rty 67]).run Tryd.prog w = .ok (.bool true) w := by kernel_rfl
theorem typeOfT (v : Value) (w : World) : (Extern.ReflectliteType.typeOf #[.iface 70 v]).run Tryd.prog w = .ok (rty 70) w := by kernel_rfl
theorem typeOfF (v : Value) (w : World) : (Extern.ReflectliteType.typeOf #[.iface 67 v]).run Tryd.prog w = .ok (rty 67) w := by kernel_rfl
theorem noAsT (v : Value) (xT : TypeId) (w : World) : (Instr.typeAssert (.iface 70 v) xT 107 true).run Tryd.prog w = .ok (.tuple #[.nilIface, .bool false]) w := run_typeAssert_lacksB Tryd.underlying107 (by kernel_rfl) (by kernel_rfl) v xT w

theorem isNil0 (a : Addr) (w : World) : (extOf Tryd.f69 #[.agg #[hnd 69, .pointer (some a), .int .u64 150]]).run Tryd.prog w = (do
    match ← load a with
    | .chan none | .nilFunc | .nilIface | .map none | .pointer none | .slice none _ _ => pure (.bool true)
    | _ => pure (.bool false) : Sem Value).run Tryd.prog w := by kernel_rfl
theorem isNilP (a q : Addr) (w : World) (hc : w.cell? a = some (.pointer (some q))) : (extOf Tryd.f69 #[.agg #[hnd 69, .pointer (some a), .int .u64 150]]).run Tryd.prog w = .ok (.bool false) w := by
  rw [isNil0]
  simp [hc, Result.andThen]
theorem vElem0 (a : Addr) (w : World) : (extOf Tryd.f72 #[.agg #[hnd 69, .pointer (some a), .int .u64 150]]).run Tryd.prog w = (do
    match ← load a with
    | .pointer none => pure Extern.ReflectliteValue.zeroV
    | .pointer (some p) => Extern.ReflectliteValue.mk 67 p 256
    | _ => Extern.ReflectliteValue.valueError "reflectlite.Value.Elem" 22).run Tryd.prog w := by kernel_rfl
theorem mkF (q : Addr) (w : World) : (Extern.ReflectliteValue.mk 67 q 256).run Tryd.prog w = .ok (.agg #[hnd 67, .pointer (some q), .int .u64 386]) w := by kernel_rfl
theorem vElemP (a q : Addr) (w : World) (hc : w.cell? a = some (.pointer (some q))) : (extOf Tryd.f72 #[.agg #[hnd 69, .pointer (some a), .int .u64 150]]).run Tryd.prog w = .ok (.agg #[hnd 67, .pointer (some q), .int .u64 386]) w := by
  rw [vElem0]
  simp [hc, Result.andThen, mkF]
theorem set0 (q b : Addr) (w : World) : (extOf Tryd.f73 #[.agg #[hnd 67, .pointer (some q), .int .u64 386], .agg #[hnd 67, .pointer (some b), .int .u64 130]]).run Tryd.prog w = (do
    let v ← load b
    storeVar 67 q v
    pure (.tuple #[]) : Sem Value).run Tryd.prog w := by kernel_rfl
theorem setF (q b : Addr) (x : Value) (k : Int) (w : World) (hb : w.cell? b = some (.int .i64 k)) (hq : w.cell? q = some x) (hf : w.frozen? q = false) : (extOf Tryd.f73 #[.agg #[hnd 67, .pointer (some q), .int .u64 386], .agg #[hnd 67, .pointer (some b), .int .u64 130]]).run Tryd.prog w = .ok (.tuple #[]) (w.setCell q (.int .i64 k)) := by
  rw [set0]
  have hi : (Tryd.prog.info? 67).map (·.size) = some 1 := by kernel_rfl
  obtain ⟨i, hi, hs⟩ := Option.map_eq_some_iff.1 hi
  have hst := Lib.rl_storeVar_one (P := Tryd.prog) 67 i hi hs q (.int .i64 k) x rfl w hq hf
  simp [hb, Result.andThen, hst]

end Go.Proofs.YtelbddnjnapoeaaDoor
