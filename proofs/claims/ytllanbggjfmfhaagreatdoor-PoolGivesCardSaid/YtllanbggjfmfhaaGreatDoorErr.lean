/-
  What is proved: contracts of errors.Is at sentinels of errors.New's make. No condition beyond those stated.
-/
import Derived.Test.YtllanbggjfmfhaaGreatDoorLib
import Derived.Test.YtllanbggjfmfhaaGreatDoorRows
import Derived.WalkSpells
import Derived.WalkLawsBesides
import Derived.LaidEql
import Derived.Stop.Asserts
import Derived.RowKitTokens
namespace Go.Proofs.YtllanbggjfmfhaaGreatDoor
open Go.RowKit Go.Extern.Stop Go.Stop Go.Extern

theorem isTypeOf (v : Value) (w : World) : (Extern.ReflectliteType.typeOf #[.iface 136 v]).run Tryz.prog w = .ok (.iface 121 (.agg #[.pointer (some ⟨3, 136, none⟩)])) w := by kernel_rfl
/-- What stands for reflectlite's Comparable. -/
noncomputable def cmpExtern : Array Value → Sem Value := (Extern.find Tryz.f118).getD (fun _ => pure undef)
theorem cmpFound : Extern.find Tryz.f118 = some cmpExtern := by kernel_rfl
theorem isComparable (w : World) : (cmpExtern #[.agg #[.pointer (some ⟨3, 136, none⟩)]]).run Tryz.prog w = .ok (.bool true) w := by kernel_rfl
theorem isMethodComparable (v : Value) (w : World) : (Go.method 270 121 v "Comparable").run Tryz.prog w = .ok (118, v) w := by kernel_rfl
theorem isComp : (Tryz.prog.info? 136).map (·.comparable) = some true := by kernel_rfl
theorem isSize : (Tryz.prog.info? 158).map (·.size) = some 1 := by kernel_rfl

theorem noIsE (v : Value) (xT : TypeId) (w : World) : (Instr.typeAssert (.iface 136 v) xT 133 true).run Tryz.prog w = .ok (.tuple #[.nilIface, .bool false]) w := run_typeAssert_lacksB Tryz.underlying133 (by kernel_rfl) (by kernel_rfl) v xT w
theorem noUnwrapE (v : Value) (xT : TypeId) (w : World) : (Instr.typeAssert (.iface 136 v) xT 128 true).run Tryz.prog w = .ok (.tuple #[.nilIface, .bool false]) w := run_typeAssert_lacksB Tryz.underlying128 (by kernel_rfl) (by kernel_rfl) v xT w
theorem noUnwrapsE (v : Value) (xT : TypeId) (w : World) : (Instr.typeAssert (.iface 136 v) xT 130 true).run Tryz.prog w = .ok (.tuple #[.nilIface, .bool false]) w := run_typeAssert_lacksB Tryz.underlying130 (by kernel_rfl) (by kernel_rfl) v xT w

/-- errors.Is(x, x), x a pointer to an errors.errorString. -/
theorem is_same (a : Addr) (w : World) :
    Calls Tryz.prog 73 #[.iface 136 (.pointer (some a)), .iface 136 (.pointer (some a))] w fun e w' => e = .returned (.bool true) ∧ w = w' := by
  obtain ⟨i, hi, hcmp⟩ := Option.map_eq_some_iff.1 isComp
  obtain ⟨j, hj, hjs⟩ := Option.map_eq_some_iff.1 isSize
  have h8 := @run_callFunc_extern Tryz.prog 87 _ Extern.ReflectliteType.typeOf Tryz.func87 (by kernel_rfl) (by kernel_rfl) (by kernel_rfl) (by kernel_rfl)
  have h32 := @run_callFunc_extern Tryz.prog 118 _ cmpExtern Tryz.func118 (by kernel_rfl) (by kernel_rfl) (by kernel_rfl) cmpFound
  have tT := isTypeOf
  have cT := isComparable
  have mR := isMethodComparable
  have heq := run_eql_iface_ptr_same (P := Tryz.prog) w a Tryz.underlying47 Tryz.underlying136 hi hcmp hj
  go_enter Tryz.func73, Tryz.ntmps73
  go_wp2
  refine wp_loop_rounds 1 ?_
  rw [rounds_succ]
  go_wp2
  go_ret
  exact ⟨rfl, rfl⟩

/-- errors.Is(x, y), two different pointers to errors.errorString: neither has Is nor Unwrap: false. -/
theorem is_other (a b : Addr) (ca cb : Array Value) (ta tb : TypeId) (w : World) (hne : a ≠ b) (ha : w.heap[a.block]? = some (.cells ca ta (0, 0))) (hb : w.heap[b.block]? = some (.cells cb tb (0, 0))) :
    Calls Tryz.prog 73 #[.iface 136 (.pointer (some a)), .iface 136 (.pointer (some b))] w fun e w' => e = .returned (.bool false) ∧ w = w' := by
  obtain ⟨i, hi, hcmp⟩ := Option.map_eq_some_iff.1 isComp
  obtain ⟨j, hj, hjs⟩ := Option.map_eq_some_iff.1 isSize
  have h8 := @run_callFunc_extern Tryz.prog 87 _ Extern.ReflectliteType.typeOf Tryz.func87 (by kernel_rfl) (by kernel_rfl) (by kernel_rfl) (by kernel_rfl)
  have h32 := @run_callFunc_extern Tryz.prog 118 _ cmpExtern Tryz.func118 (by kernel_rfl) (by kernel_rfl) (by kernel_rfl) cmpFound
  have tT := isTypeOf
  have cT := isComparable
  have mR := isMethodComparable
  have nE := noIsE
  have uE := noUnwrapE
  have vE := noUnwrapsE
  have heq := run_eql_iface_ptr_other (P := Tryz.prog) w Tryz.underlying47 Tryz.underlying136 hi hcmp hj (by rw [hjs]; decide) hne ha hb
  go_enter Tryz.func73, Tryz.ntmps73
  go_wp2
  refine wp_loop_rounds 1 ?_
  rw [rounds_succ]
  go_wp2
  go_ret
  exact ⟨rfl, rfl⟩

/-- The world holds the sentinel at a: a row of cells of its own. -/
def Held (w : World) (g : Nat) (a : Addr) : Prop := w.cell? ⟨g, 0, none⟩ = some (.iface 136 (.pointer (some a))) ∧ ∃ c t, w.heap[a.block]? = some (.cells c t (0, 0))
theorem Held.ext {w w1 : World} {g : Nat} {a : Addr} (hb : Below w.heap.size w w1) (h : Held w g a) : Held w1 g a := by
  obtain ⟨h1, c, t, h2⟩ := h
  refine ⟨cell_ext hb h1, c, t, ?_⟩
  rw [hb.block _ (Array.getElem?_eq_some_iff.1 h2).1]
  exact h2
def Err (a : Addr) : Value := .iface 136 (.pointer (some a))

end Go.Proofs.YtllanbggjfmfhaaGreatDoor
