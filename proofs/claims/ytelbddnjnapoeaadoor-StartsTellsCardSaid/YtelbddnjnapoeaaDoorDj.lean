/-
  What is proved: contracts of package starts' check at a place. No condition beyond those stated.
-/
import Derived.Test.YtelbddnjnapoeaaDoorDi
namespace Go.Proofs.YtelbddnjnapoeaaDoor
open Go.RowKit

set_option maxRecDepth 100000 in
set_option maxHeartbeats 1000000 in
theorem check_same (A : Option Addr) (m c : Nat) (n a : Int) (ws : List Nat) (there : Bool) (aS : Addr) (w : World) (ha : a ≤ 9223372036854775807) (hg : w.cell? ⟨1, 0, none⟩ = some (.iface 110 (.pointer (some aS)))) (hp : placeB n a = true)
    (hR : Row w A m (ws.map U32)) (hF : Fits ws) (hh : hasB n ws (a / 8) = there) :
    Calls Tryd.prog 47 #[.agg #[.int .i64 n, .slice A m c, .bool true], .int .i64 a, .bool there] w fun e w' => e = .returned .nilIface ∧ Below w.heap.size w w' := by
  have hb0 := below_box w (.cells #[.int .i64 n, .slice A m c, .bool true] 44)
  have hg1 := cell_ext hb0 hg
  have HR := Lib.hid (hR.ext hb0)
  have HB := Lib.hid hb0
  have HF := Lib.hid hF
  have HH := Lib.hid hh
  obtain ⟨⟨h0, h8⟩, hn⟩ : (0 ≤ a ∧ a % 8 = 0) ∧ a / 8 < n := by simpa [placeB] using hp
  have hq1 : IntKind.i64.wrap (a.tdiv 8) = a / 8 := by rw [IntKind.wrap_i64, Int.tdiv_eq_ediv_of_nonneg h0]; omega
  have hq2 : IntKind.i64.wrap (a.tmod 8) = a % 8 := by rw [IntKind.wrap_i64, Int.tmod_eq_emod_of_nonneg h0]; omega
  have hq3 : IntKind.i64.wrap (a / 8) = a / 8 := by rw [IntKind.wrap_i64]; omega
  have hd8 : (a % 8 != 0) = false := by simpa using h8
  have hl : decide (a < 0) = false := by simpa using h0
  clear ha hp hg hh hR hF h8 hb0
  go_enter Tryd.func47, Tryd.ntmps47
  go_wp2_with fail
  refine wp_scope_jumps 0 (fun _ _ => False) (fun _ _ => 0) rfl ?_ (fun _ _ h => h.elim)
  go_wp2_with fail
  generalize w.alloc (.cells #[.int .i64 n, .slice A m c, .bool true] 44) = W0 at *
  have h := has_any A m c n ws (a / 8) W0 HR.out HF.out
  rw [HH.out] at h
  refine h.mono ?_
  rintro e w1 ⟨rfl, hb1⟩
  have HB1 := Lib.hid (below_le HB.out hb1)
  clear h hb1
  go_wp2
  simp only [Exit.jump]
  go_ret
  exact ⟨rfl, HB1.out⟩

set_option maxRecDepth 100000 in
set_option maxHeartbeats 1000000 in
theorem check_other (A : Option Addr) (m c : Nat) (n a : Int) (ws : List Nat) (there : Bool) (aS : Addr) (w : World) (ha : a ≤ 9223372036854775807) (hg : w.cell? ⟨1, 0, none⟩ = some (.iface 110 (.pointer (some aS)))) (hp : placeB n a = true)
    (hR : Row w A m (ws.map U32)) (hF : Fits ws) (hh : hasB n ws (a / 8) = !there) :
    Calls Tryd.prog 47 #[.agg #[.int .i64 n, .slice A m c, .bool true], .int .i64 a, .bool there] w (Told (.iface 67 (.int .i64 (bif there then 131 else 52))) w) := by
  have hb0 := below_box w (.cells #[.int .i64 n, .slice A m c, .bool true] 44)
  have hg1 := cell_ext hb0 hg
  have HR := Lib.hid (hR.ext hb0)
  have HB := Lib.hid hb0
  have HF := Lib.hid hF
  have HH := Lib.hid hh
  obtain ⟨⟨h0, h8⟩, hn⟩ : (0 ≤ a ∧ a % 8 = 0) ∧ a / 8 < n := by simpa [placeB] using hp
  have hq1 : IntKind.i64.wrap (a.tdiv 8) = a / 8 := by rw [IntKind.wrap_i64, Int.tdiv_eq_ediv_of_nonneg h0]; omega
  have hq2 : IntKind.i64.wrap (a.tmod 8) = a % 8 := by rw [IntKind.wrap_i64, Int.tmod_eq_emod_of_nonneg h0]; omega
  have hq3 : IntKind.i64.wrap (a / 8) = a / 8 := by rw [IntKind.wrap_i64]; omega
  have hd8 : (a % 8 != 0) = false := by simpa using h8
  have hl : decide (a < 0) = false := by simpa using h0
  clear ha hp hg hh hR hF h8 hb0
  go_enter Tryd.func47, Tryd.ntmps47
  go_wp2_with fail
  refine wp_scope_jumps 0 (fun _ _ => False) (fun _ _ => 0) rfl ?_ (fun _ _ h => h.elim)
  go_wp2_with fail
  generalize w.alloc (.cells #[.int .i64 n, .slice A m c, .bool true] 44) = W0 at *
  have h := has_any A m c n ws (a / 8) W0 HR.out HF.out
  rw [HH.out] at h
  cases there
  all_goals
    refine h.mono ?_
    rintro e w1 ⟨rfl, hb1⟩
    have HB1 := Lib.hid (below_le HB.out hb1)
    clear h hb1
    go_wp2
    refine wp_label ?_
    go_wp2
    simp only [Exit.jump]
    go_ret
    exact ⟨w1.heap.size, rfl, below_le HB1.out (below_box _ _), HB1.out.size, by rw [World.cell?, heap_alloc_new]; rfl⟩

end Go.Proofs.YtelbddnjnapoeaaDoor
