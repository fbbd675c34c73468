/-
  What is proved: contracts of errors.Is at an error at an address (package starts' trouble). No condition beyond those stated.
-/
import Derived.Test.YtelbddnjnapoeaaDoorDa
namespace Go.Proofs.YtelbddnjnapoeaaDoor
open Go.RowKit Go.Extern.Stop Go.Stop Go.Extern

def Trb (t : Nat) : Value := .iface 70 (.pointer (some ⟨t, 0, none⟩))
def Flt (k : Nat) : Value := .iface 67 (.int .i64 (k : Int))

theorem noIsT (v : Value) (xT : TypeId) (w : World) : (Instr.typeAssert (.iface 70 v) xT 98 true).run Tryd.prog w = .ok (.tuple #[.nilIface, .bool false]) w := run_typeAssert_lacksB Tryd.underlying98 (by kernel_rfl) (by kernel_rfl) v xT w
theorem hasUnwrapT (v : Value) (xT : TypeId) (w : World) : (Instr.typeAssert (.iface 70 v) xT 101 true).run Tryd.prog w = .ok (.tuple #[.iface 70 v, .bool true]) w := run_typeAssert_hasB Tryd.underlying101 (by kernel_rfl) v xT w
theorem noIsF (v : Value) (xT : TypeId) (w : World) : (Instr.typeAssert (.iface 67 v) xT 98 true).run Tryd.prog w = .ok (.tuple #[.nilIface, .bool false]) w := run_typeAssert_lacksB Tryd.underlying98 (by kernel_rfl) (by kernel_rfl) v xT w
theorem noUnwrapF (v : Value) (xT : TypeId) (w : World) : (Instr.typeAssert (.iface 67 v) xT 101 true).run Tryd.prog w = .ok (.tuple #[.nilIface, .bool false]) w := run_typeAssert_lacksB Tryd.underlying101 (by kernel_rfl) (by kernel_rfl) v xT w
theorem noUnwrapsF (v : Value) (xT : TypeId) (w : World) : (Instr.typeAssert (.iface 67 v) xT 103 true).run Tryd.prog w = .ok (.tuple #[.nilIface, .bool false]) w := run_typeAssert_lacksB Tryd.underlying103 (by kernel_rfl) (by kernel_rfl) v xT w
theorem methodUnwrap (v : Value) (w : World) : (Go.method 243 70 v "Unwrap").run Tryd.prog w = .ok (93, v) w := by kernel_rfl

set_option maxHeartbeats 400000 in
theorem unwrap_any (t : Nat) (why : Value) (w : World) (hc : w.cell? ⟨t, 1, none⟩ = some why) :
    Calls Tryd.prog 93 #[.pointer (some ⟨t, 0, none⟩)] w fun e w' => e = .returned why ∧ w = w' := by
  go_enter Tryd.func93, Tryd.ntmps93
  go_wp2
  go_ret
  exact ⟨rfl, rfl⟩

set_option maxRecDepth 100000 in
set_option maxHeartbeats 2000000 in
/-- errors.Is, of an error whose reason is the sentinel itself. -/
theorem is_trb_same (t : Nat) (a : Addr) (w : World) (hc : w.cell? ⟨t, 1, none⟩ = some (.iface 110 (.pointer (some a)))) :
    Calls Tryd.prog 57 #[.iface 70 (.pointer (some ⟨t, 0, none⟩)), .iface 110 (.pointer (some a))] w fun e w' => e = .returned (.bool true) ∧ w = w' := by
  obtain ⟨i, hi, hcmp⟩ := Option.map_eq_some_iff.1 isComp
  obtain ⟨j, hj, hjs⟩ := Option.map_eq_some_iff.1 isSize
  have h8 := @run_callFunc_extern Tryd.prog 65 _ Extern.ReflectliteType.typeOf Tryd.func65 (by kernel_rfl) (by kernel_rfl) (by kernel_rfl) (by kernel_rfl)
  have h32 := @run_callFunc_extern Tryd.prog 99 _ cmpExtern Tryd.func99 (by kernel_rfl) (by kernel_rfl) (by kernel_rfl) cmpFound
  have tT := isTypeOf
  have cT := isComparable
  have mR := isMethodComparable
  have nT := noIsT
  have uT := hasUnwrapT
  have mU := methodUnwrap
  have heq := run_eql_iface_ptr_same (P := Tryd.prog) w a Tryd.underlying57 Tryd.underlying110 hi hcmp hj
  have hne := run_eql_iface_types (P := Tryd.prog) 70 110 (.pointer (some ⟨t, 0, none⟩)) (.pointer (some a)) Tryd.underlying57 (by decide) w
  go_enter Tryd.func57, Tryd.ntmps57
  go_wp2
  refine wp_loop_rounds 2 ?_
  rw [rounds_succ]
  go_wp2_with (go_at_call 93; refine (unwrap_any _ _ _ hc).mono ?_; rintro e w' ⟨rfl, rfl⟩)
  rw [rounds_succ]
  go_wp2
  go_ret
  exact ⟨rfl, rfl⟩

set_option maxRecDepth 100000 in
set_option maxHeartbeats 2000000 in
/-- errors.Is, of an error whose reason is a number. -/
theorem is_trb_fault (t : Nat) (k : Int) (a : Addr) (w : World) (hc : w.cell? ⟨t, 1, none⟩ = some (.iface 67 (.int .i64 k))) :
    Calls Tryd.prog 57 #[.iface 70 (.pointer (some ⟨t, 0, none⟩)), .iface 110 (.pointer (some a))] w fun e w' => e = .returned (.bool false) ∧ w = w' := by
  have h8 := @run_callFunc_extern Tryd.prog 65 _ Extern.ReflectliteType.typeOf Tryd.func65 (by kernel_rfl) (by kernel_rfl) (by kernel_rfl) (by kernel_rfl)
  have h32 := @run_callFunc_extern Tryd.prog 99 _ cmpExtern Tryd.func99 (by kernel_rfl) (by kernel_rfl) (by kernel_rfl) cmpFound
  have tT := isTypeOf
  have cT := isComparable
  have mR := isMethodComparable
  have nT := noIsT
  have uT := hasUnwrapT
  have mU := methodUnwrap
  have nF := noIsF
  have uF := noUnwrapF
  have vF := noUnwrapsF
  have hne := run_eql_iface_types (P := Tryd.prog) 70 110 (.pointer (some ⟨t, 0, none⟩)) (.pointer (some a)) Tryd.underlying57 (by decide) w
  have hnf := run_eql_iface_types (P := Tryd.prog) 67 110 (.int .i64 k) (.pointer (some a)) Tryd.underlying57 (by decide) w
  go_enter Tryd.func57, Tryd.ntmps57
  go_wp2
  refine wp_loop_rounds 2 ?_
  rw [rounds_succ]
  go_wp2_with (go_at_call 93; refine (unwrap_any _ _ _ hc).mono ?_; rintro e w' ⟨rfl, rfl⟩)
  rw [rounds_succ]
  go_wp2
  go_ret
  exact ⟨rfl, rfl⟩

end Go.Proofs.YtelbddnjnapoeaaDoor
