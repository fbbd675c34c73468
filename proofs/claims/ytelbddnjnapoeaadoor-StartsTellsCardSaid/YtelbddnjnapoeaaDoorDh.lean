/-
  What is proved: contracts of package starts' number. No condition beyond those stated.
-/
import Derived.Test.YtelbddnjnapoeaaDoorDg
namespace Go.Proofs.YtelbddnjnapoeaaDoor
open Go.RowKit

theorem number_nil (w : World) : Calls Tryd.prog 46 #[.nilIface] w fun e w' => e = .returned (.int .i64 0) ∧ w = w' := by
  go_enter Tryd.func46, Tryd.ntmps46
  go_wp2
  go_ret
  exact ⟨rfl, rfl⟩

set_option maxRecDepth 100000 in
theorem number_place (t : Nat) (a : Addr) (w : World) (hc : w.cell? ⟨t, 1, none⟩ = some (.iface 110 (.pointer (some a))))
    (hg : w.cell? ⟨1, 0, none⟩ = some (.iface 110 (.pointer (some a)))) :
    Calls Tryd.prog 46 #[.iface 70 (.pointer (some ⟨t, 0, none⟩))] w fun e w' => e = .returned (.int .i64 10) ∧ w = w' := by
  go_enter Tryd.func46, Tryd.ntmps46
  go_wp2_with fail
  go_at_call 57
  refine (is_trb_same t a w hc).mono ?_
  rintro e w' ⟨rfl, rfl⟩
  go_wp2
  go_ret
  exact ⟨rfl, rfl⟩

set_option maxRecDepth 100000 in
set_option maxHeartbeats 1000000 in
theorem number_fault (t : Nat) (a : Addr) (k : Int) (w : World) (hc : w.cell? ⟨t, 1, none⟩ = some (.iface 67 (.int .i64 k)))
    (hg : w.cell? ⟨1, 0, none⟩ = some (.iface 110 (.pointer (some a))))
    (hE : w.cell? ⟨4, 0, none⟩ = some (rty 57)) :
    Calls Tryd.prog 46 #[.iface 70 (.pointer (some ⟨t, 0, none⟩))] w fun e w' => e = .returned (.int .i64 k) ∧ Below w.heap.size w w' := by
  go_enter Tryd.func46, Tryd.ntmps46
  go_wp2_with fail
  go_at_call 57
  refine (is_trb_fault t k a w hc).mono ?_
  rintro e w' ⟨rfl, rfl⟩
  go_wp2_with fail
  go_at_call 58
  refine Calls.mono (as_fault t w.heap.size k 0 _ ?_ ?_ ?_) ?_
  · exact cell_ext (below_box _ _) hc
  · exact Blk.new _ _ _
  · exact cell_ext (below_box _ _) hE
  · rintro e w' ⟨rfl, hD⟩
    have hb : Below w.heap.size w w' := (below_box _ _).trans hD.1
    have hcell := hD.2
    clear hD
    go_wp2
    go_ret
    exact ⟨rfl, hb⟩

end Go.Proofs.YtelbddnjnapoeaaDoor
