/-
  What is proved: contracts of package starts' check. No condition beyond those stated.
-/
import Derived.Test.YtelbddnjnapoeaaDoorDh
import Derived.ScopeJumps
namespace Go.Proofs.YtelbddnjnapoeaaDoor
open Go.RowKit

/-- What check gives back: a new error whose reason is why. -/
def Told (why : Value) (w : World) (e : Ending) (w' : World) : Prop := ∃ t, e = .returned (.iface 70 (.pointer (some ⟨t, 0, none⟩))) ∧ Below w.heap.size w w' ∧ w.heap.size ≤ t ∧ w'.cell? ⟨t, 1, none⟩ = some why

/-- The frame at the label refused. -/
def chkJ (sv : Value) (a : Int) (there : Bool) (why : Value) (w : World) : Act → World → Prop := fun a' W' => Below w.heap.size w W' ∧ ∃ t8 t9 t10 t11 t12 t13 t14 t15 t16 t17 t18 t19 t20 t21 t22 t23 t24 t25 t26 t27 t28 t29 t30 t31 t32 t33 t34 t35 t36 t37 : Value,
  a' = { tmps := #[sv, .int .i64 a, .bool there, .pointer (some ⟨w.heap.size, 0, none⟩), undef, undef, .nilIface, why, t8, t9, t10, t11, t12, t13, t14, t15, t16, t17, t18, t19, t20, t21, t22, t23, t24, t25, t26, t27, t28, t29, t30, t31, t32, t33, t34, t35, t36, t37, undef, undef, undef, undef, undef], defers := [] }

set_option maxRecDepth 100000 in
set_option maxHeartbeats 1000000 in
theorem check_wrong (A : Option Addr) (m c : Nat) (n a : Int) (there : Bool) (w : World) :
    Calls Tryd.prog 47 #[.agg #[.int .i64 n, .slice A m c, .bool false], .int .i64 a, .bool there] w (Told (.iface 67 (.int .i64 130)) w) := by
  go_enter Tryd.func47, Tryd.ntmps47
  go_wp2_with fail
  refine wp_scope_jumps 0 (chkJ (.agg #[.int .i64 n, .slice A m c, .bool false]) a there (.iface 67 (.int .i64 130)) w) (fun _ _ => 0) rfl ?first ?pass
  case first =>
    go_wp2
    refine wp_goto ?_
    exact ⟨rfl, below_box _ _, _, _, _, _, _, _, _, _, _, _, _, _, _, _, _, _, _, _, _, _, _, _, _, _, _, _, _, _, _, _, rfl⟩
  case pass =>
    rintro _ W' ⟨hb, t8, t9, t10, t11, t12, t13, t14, t15, t16, t17, t18, t19, t20, t21, t22, t23, t24, t25, t26, t27, t28, t29, t30, t31, t32, t33, t34, t35, t36, t37, rfl⟩
    have HB := Lib.hid hb
    clear hb
    go_wp2
    go_ret
    exact ⟨W'.heap.size, rfl, below_le HB.out (below_box _ _), HB.out.size, by rw [World.cell?, heap_alloc_new]; rfl⟩

/-- Is a a place? -/
def placeB (n a : Int) : Bool := decide (0 ≤ a) && decide (a % 8 = 0) && decide (a / 8 < n)

set_option maxRecDepth 100000 in
set_option maxHeartbeats 1000000 in
theorem check_place (A : Option Addr) (m c : Nat) (n a : Int) (there : Bool) (aS : Addr) (w : World) (ha : a ≤ 9223372036854775807) (hg : w.cell? ⟨1, 0, none⟩ = some (.iface 110 (.pointer (some aS)))) (hp : placeB n a = false) :
    Calls Tryd.prog 47 #[.agg #[.int .i64 n, .slice A m c, .bool true], .int .i64 a, .bool there] w (Told (.iface 110 (.pointer (some aS))) w) := by
  have hg1 := cell_ext (below_box w (.cells #[.int .i64 n, .slice A m c, .bool true] 44)) hg
  have HA := Lib.hid ha
  have HP := Lib.hid hp
  clear ha hp hg
  go_enter Tryd.func47, Tryd.ntmps47
  go_wp2_with fail
  refine wp_scope_jumps 0 (chkJ (.agg #[.int .i64 n, .slice A m c, .bool true]) a there (.iface 110 (.pointer (some aS))) w) (fun _ _ => 0) rfl ?first ?pass
  case first =>
    by_cases h0 : 0 ≤ a
    · have hq1 : IntKind.i64.wrap (a.tdiv 8) = a / 8 := by have := HA.out; rw [IntKind.wrap_i64, Int.tdiv_eq_ediv_of_nonneg h0]; omega
      have hq2 : IntKind.i64.wrap (a.tmod 8) = a % 8 := by have := HA.out; rw [IntKind.wrap_i64, Int.tmod_eq_emod_of_nonneg h0]; omega
      have hq3 : IntKind.i64.wrap (a / 8) = a / 8 := by have := HA.out; rw [IntKind.wrap_i64]; omega
      by_cases h8 : a % 8 = 0
      · have hn : ¬ (a / 8 < n) := by have := HP.out; simpa [placeB, h0, h8] using this
        have hd8 : (a % 8 != 0) = false := by simpa using h8
        have hl : decide (a < 0) = false := by simpa using h0
        clear h8
        go_wp2
        refine wp_goto ?_
        exact ⟨rfl, below_box _ _, _, _, _, _, _, _, _, _, _, _, _, _, _, _, _, _, _, _, _, _, _, _, _, _, _, _, _, _, _, _, rfl⟩
      · have hd8 : (a % 8 != 0) = true := by simpa using h8
        have hl : decide (a < 0) = false := by simpa using h0
        clear h8
        go_wp2
        refine wp_goto ?_
        exact ⟨rfl, below_box _ _, _, _, _, _, _, _, _, _, _, _, _, _, _, _, _, _, _, _, _, _, _, _, _, _, _, _, _, _, _, _, rfl⟩
    · go_wp2
      refine wp_goto ?_
      exact ⟨rfl, below_box _ _, _, _, _, _, _, _, _, _, _, _, _, _, _, _, _, _, _, _, _, _, _, _, _, _, _, _, _, _, _, _, rfl⟩
  case pass =>
    rintro _ W' ⟨hb, t8, t9, t10, t11, t12, t13, t14, t15, t16, t17, t18, t19, t20, t21, t22, t23, t24, t25, t26, t27, t28, t29, t30, t31, t32, t33, t34, t35, t36, t37, rfl⟩
    have HB := Lib.hid hb
    clear hb hg1
    go_wp2
    go_ret
    exact ⟨W'.heap.size, rfl, below_le HB.out (below_box _ _), HB.out.size, by rw [World.cell?, heap_alloc_new]; rfl⟩

end Go.Proofs.YtelbddnjnapoeaaDoor
