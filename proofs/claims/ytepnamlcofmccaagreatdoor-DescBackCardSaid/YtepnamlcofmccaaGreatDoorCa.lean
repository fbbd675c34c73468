/-
  What is proved: contracts of unless, refused and Round of package addr where nothing is refused. No condition beyond those stated.
-/
import Derived.Test.YtepnamlcofmccaaGreatDoorC5
import Derived.Test.YtepnamlcofmccaaGreatDoorIt
namespace Go.Proofs.YtepnamlcofmccaaGreatDoor
open Go.RowKit

set_option maxHeartbeats 400000 in
theorem unless1_ok (b1 b2 : Nat) (w : World) (hc : w.cell? ⟨b1, 0, none⟩ = some (.bool true)) :
    Calls Tryz.prog 61 #[.pointer (some ⟨b1, 0, none⟩), .pointer (some ⟨b2, 0, none⟩)] w fun e w' => e = .returned .nilIface ∧ w = w' := by
  go_enter Tryz.func61, Tryz.ntmps61
  go_wp2
  go_ret
  exact ⟨rfl, rfl⟩

set_option maxHeartbeats 400000 in
theorem unless_any (b : Bool) (t : TypeId) (x : Value) (w : World) :
    Calls Tryz.prog 45 #[.bool b, .iface t x] w fun e w' => e = .returned (.func (.func 61) #[] #[.pointer (some ⟨w.heap.size, 0, none⟩), .pointer (some ⟨w.heap.size + 1, 0, none⟩)]) ∧ (w.alloc (.cells #[.bool b] 4)).alloc (.cells #[.iface t x] 45) = w' := by
  go_enter Tryz.func45, Tryz.ntmps45
  go_wp2
  go_ret
  exact ⟨rfl, rfl⟩

set_option maxHeartbeats 1000000 in
theorem refused_ok (g b1 b2 : Nat) (w : World) (hg : w.cell? ⟨g, 0, none⟩ = some (.func (.func 61) #[] #[.pointer (some ⟨b1, 0, none⟩), .pointer (some ⟨b2, 0, none⟩)])) (hc : w.cell? ⟨b1, 0, none⟩ = some (.bool true)) :
    Calls Tryz.prog 44 #[.slice (some ⟨g, 0, none⟩) 1 1] w fun e w' => e = .returned (.int .i64 0) ∧ w = w' := by
  go_enter Tryz.func44, Tryz.ntmps44
  go_wp2
  refine wp_loop_rounds 2 ?_
  rw [rounds_succ]
  go_wp2_with (refine (unless1_ok b1 b2 _ hc).mono ?_; rintro e w' ⟨rfl, rfl⟩)
  rw [rounds_succ]
  go_wp2
  go_ret
  exact ⟨rfl, rfl⟩

theorem run_funcs (f : FuncId) (a b : Array Value) (W : World) : (Instr.buildSlice 110 1 #[(0, .func (.func f) a b)]).run Tryz.prog W = .ok (.slice (some ⟨W.heap.size, 0, none⟩) 1 1) (W.alloc (.cells #[.func (.func f) a b] 87)) := by go_simp

set_option maxHeartbeats 1000000 in
theorem round_ok (n : Int) (h1 : 1 ≤ n) (h2 : n ≤ 131072) (t : TypeId) (x : Value) (w : World) (hv : w.cell? ⟨0, 0, none⟩ = some (.iface t x)) :
    Calls Tryz.prog 29 #[.int .i64 n] w fun e w' => e = .returned (.tuple #[.int .i64 ((n + 7).tdiv 8 * 8), .int .i64 0]) ∧ Below w.heap.size w w' := by
  have t1 := fun z : Ext w => ext_cell hv z
  clear hv
  rw [show (n + 7).tdiv 8 = (n + 7) / 8 from Int.tdiv_eq_ediv_of_nonneg (by omega)]
  go_enter Tryz.func29, Tryz.ntmps29
  go_wp2
  refine wp_region_plan [(0, true), (1, true), (2, true), (3, false), (4, false), (5, false), (6, true)] (by kernel_rfl) (by kernel_rfl) ?_
  repeat (first | (refine plan_skip rfl rfl ?_; go_frame) | (refine plan_soft rfl rfl (fun K hK => ?_); go_simp; first | (refine hK _ ?_; clear hK K) | (apply Exists.intro; refine ⟨fun x => ?_, hK _ ?_⟩; (· (exact Calls.still (isSize_any n h1 h2 _))); clear hK K; try go_frame)))
  refine plan_hard rfl rfl ?_; intro w1 hb1 K hK; go_simp
  refine (unless_any true _ _ _).mono ?_
  rintro e w' ⟨rfl, rfl⟩
  have hx := below_le (below_box w1 (.cells #[.bool true] 4)) (below_box _ (.cells #[.iface t x] 45))
  refine hK _ _ hx ?_
  have hc1 : ((w1.alloc (.cells #[.bool true] 4)).alloc (.cells #[.iface t x] 45)).cell? ⟨w1.heap.size, 0, none⟩ = some (.bool true) := by simp [go_sem]
  clear hK K
  generalize (w1.alloc (.cells #[.bool true] 4)).alloc (.cells #[.iface t x] 45) = W1 at *
  refine plan_build1 rfl rfl 110 (.tmp 8) rfl _ rfl _ (run_funcs _ _ _) ?_
  intro w2 hb2
  have hy := below_box w2 (.cells #[.func (.func 61) #[] #[.pointer (some ⟨w1.heap.size, 0, none⟩), .pointer (some ⟨w1.heap.size + 1, 0, none⟩)]] 87)
  have hg : (w2.alloc (.cells #[.func (.func 61) #[] #[.pointer (some ⟨w1.heap.size, 0, none⟩), .pointer (some ⟨w1.heap.size + 1, 0, none⟩)]] 87)).cell? ⟨w2.heap.size, 0, none⟩ = some (.func (.func 61) #[] #[.pointer (some ⟨w1.heap.size, 0, none⟩), .pointer (some ⟨w1.heap.size + 1, 0, none⟩)]) := by simp [go_sem]
  generalize w2.alloc (.cells #[.func (.func 61) #[] #[.pointer (some ⟨w1.heap.size, 0, none⟩), .pointer (some ⟨w1.heap.size + 1, 0, none⟩)]] 87) = W2 at *
  have hB := below_le (below_le hb1 hx) (below_le hb2 hy)
  have hc2 := cell_ext (below_le hb2 hy) hc1
  have HB := Lib.hid hB
  clear hB hx hy hb1 hb2 hc1 t1
  go_frame
  refine plan_hard rfl rfl ?_; intro w3 hb3 K hK; go_simp
  refine (refused_ok _ _ _ _ (cell_ext hb3 hg) (cell_ext hb3 hc2)).mono ?_
  rintro e w' ⟨rfl, rfl⟩
  refine hK _ _ (Below.refl _ _) ?_
  clear hK K
  repeat (first | (refine plan_skip rfl rfl ?_; go_frame) | (refine plan_soft rfl rfl (fun K hK => ?_); go_simp; first | (refine hK _ ?_; clear hK K) | (apply Exists.intro; refine ⟨fun x => ?_, hK _ ?_⟩; (· (fail)); clear hK K; try go_frame)))
  refine plan_nil ?_; intro w4 h0b; have Hb4 := Lib.hid h0b; clear h0b
  have HB := Lib.hid (below_le (below_le HB.out hb3) Hb4.out)
  clear hg hc2 hb3
  have e1 : (n + 8 - 1) = n + 7 := by omega
  go_wp2
  go_ret2
  exact ⟨rfl, HB.out⟩

end Go.Proofs.YtepnamlcofmccaaGreatDoor
