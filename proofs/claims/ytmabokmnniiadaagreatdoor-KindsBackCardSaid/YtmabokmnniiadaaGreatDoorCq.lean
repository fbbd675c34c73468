/-
  What is proved: contracts of those functions that this program has, and plain facts beside them. No condition beyond those stated.
-/
import Derived.Test.YtmabokmnniiadaaGreatDoorCp
import Derived.Test.YtmabokmnniiadaaGreatDoorTail
namespace Go.Proofs.YtmabokmnniiadaaGreatDoor
open Go.RowKit Go.Stop

theorem Row.cut {w : World} {A : Option Addr} {m : Nat} {xs : List Value} (h : Row w A m xs) (k : Nat) (hk : k ≤ m) : Row w A k (xs.take k) := by
  refine ⟨by have := h.1; simp; omega, fun h0 => ?_⟩
  obtain ⟨b, off, e, hc⟩ := h.2 (by omega)
  exact ⟨b, off, e, fun j u hu => hc j u (by rw [List.getElem?_take] at hu; split at hu <;> simp_all)⟩
theorem row_cut {w : World} {A : Option Addr} {m : Nat} {l : List Int} (h : Row w A m (l.map Iv)) : Row w A (min m 20) ((l.take 20).map Iv) := by
  have h1 := h.cut (min m 20) (Nat.min_le_left _ _)
  have hl := h.1
  simp at hl
  rw [← List.map_take, Nat.min_comm, ← List.take_take, List.take_of_length_le (l := l) (by omega), Nat.min_comm] at h1
  exact h1

set_option maxRecDepth 100000 in
set_option maxHeartbeats 4000000 in
/-- Cut. -/
theorem dcut_any (z e : Int) (P Q : Option Addr) (m c q f : Nat) (w : World) (hm : m ≤ c) (hq : q ≤ f) :
    Calls Tryz.prog 21 #[descV z P m c e Q q f] w fun x w' => x = .returned (descV z P (min m 20) c e Q (min q 20) f) ∧ Below w.heap.size w w' := by
  have hb1 := below_le (below_box w (descO z P m c e Q q f)) (below_box _ (descO 0 none 0 0 0 none 0 0))
  have h1 : Blk ((w.alloc (descO z P m c e Q q f)).alloc (descO 0 none 0 0 0 none 0 0)) w.heap.size 35 #[.int .i64 z, .slice P m c, .int .i64 e, .slice Q q f] := Blk.alloc (Blk.new _ _ _) _
  have h2 : Blk ((w.alloc (descO z P m c e Q q f)).alloc (descO 0 none 0 0 0 none 0 0)) (w.heap.size + 1) 35 #[.int .i64 0, .slice none 0 0, .int .i64 0, .slice none 0 0] := heap_new (by simp) _
  have HB := Lib.hid hb1
  have H2 := Lib.hid h2
  have k0 := h1.at_ (i := 0) rfl
  have k1 := h1.at_ (i := 1) rfl
  have k2 := h1.at_ (i := 2) rfl
  have k3 := h1.at_ (i := 3) rfl
  have HMC := Lib.hid hm
  have HQF := Lib.hid hq
  clear hb1 h2 h1 hm hq
  go_enter Tryz.func21, Tryz.ntmps21
  go_wp2
  generalize (w.alloc (descO z P m c e Q q f)).alloc (descO 0 none 0 0 0 none 0 0) = W0 at *
  have t0 := ext_cell k0
  have t1 := ext_cell k1
  have t2 := ext_cell k2
  have t3 := ext_cell k3
  refine wp_region_tail 19 (by kernel_rfl) (by kernel_rfl) ?_; simp only [List.take_succ_cons, List.take_zero, List.drop_succ_cons, List.drop_zero]
  repeat (first | (refine head_skip rfl ?_; go_frame) | (refine head_soft rfl (fun K hK => ?_); go_simp; first | (refine hK _ ?_; clear hK K) | (apply Exists.intro; refine ⟨fun x => ?_, hK _ ?_⟩; (· (fail)); clear hK K; try go_frame)))
  obtain ⟨x, hx⟩ : ∃ x : Int, min (m : Int) 20 = x := ⟨_, rfl⟩
  rw [hx]
  have hxe : x = (min m 20 : Nat) := by omega
  have hx0 : 0 ≤ x := by omega
  have hx1 : x ≤ c := by have := HMC.out; omega
  have HX : Hid (x.toNat = min m 20) := Lib.hid (by omega)
  clear hx hxe
  repeat (first | (refine head_skip rfl ?_; go_frame) | (refine head_soft rfl (fun K hK => ?_); go_simp; first | (refine hK _ ?_; clear hK K) | (apply Exists.intro; refine ⟨fun x => ?_, hK _ ?_⟩; (· (fail)); clear hK K; try go_frame)))
  obtain ⟨y, hy⟩ : ∃ y : Int, min (q : Int) 20 = y := ⟨_, rfl⟩
  rw [hy]
  have hye : y = (min q 20 : Nat) := by omega
  have hy0 : 0 ≤ y := by omega
  have hy1 : y ≤ f := by have := HQF.out; omega
  have HY : Hid (y.toNat = min q 20) := Lib.hid (by omega)
  clear hy hye
  repeat (first | (refine head_skip rfl ?_; go_frame) | (refine head_soft rfl (fun K hK => ?_); go_simp; first | (refine hK _ ?_; clear hK K) | (apply Exists.intro; refine ⟨fun x => ?_, hK _ ?_⟩; (· (fail)); clear hK K; try go_frame)))
  refine head_nil fun w2 hb2 => ?_
  have h2 := H2.out.ext hb2
  have f0 := h2.frozen 0
  have f1 := h2.frozen 1
  have f2 := h2.frozen 2
  have f3 := h2.frozen 3
  have c0 := h2.at_ (i := 0) rfl
  have c1 := h2.at_ (i := 1) rfl
  have c2 := h2.at_ (i := 2) rfl
  have c3 := h2.at_ (i := 3) rfl
  have H9 := Lib.hid (h2.set4 (.int .i64 z) (.slice P x.toNat c) (.int .i64 e) (.slice Q y.toNat f))
  have HB9 := Lib.hid (below_set4 (below_le HB.out hb2) (show w.heap.size ≤ w.heap.size + 1 by omega) (.int .i64 z) (.slice P x.toNat c) (.int .i64 e) (.slice Q y.toNat f))
  clear h2 hb2 t0 t1 t2 t3 k0 k1 k2 k3
  go_wp2
  have q0 := H9.out.at_ (i := 0) rfl
  have q1 := H9.out.at_ (i := 1) rfl
  have q2 := H9.out.at_ (i := 2) rfl
  have q3 := H9.out.at_ (i := 3) rfl
  refine bodyPost_ret (v := descV z P x.toNat c e Q y.toNat f) (by simp [results, Tryz.results21, go_sem, q0, q1, q2, q3]) rfl ⟨?_, HB9.out⟩
  rw [HX.out, HY.out]

/-! ### What shown comes by -/
theorem read_any_print {z e : Int} {ps es : List Int} (hz : 0 ≤ z ∧ z ≤ 1024) (hp : smallB ps) (he : 0 ≤ e ∧ e ≤ 1024) (hq : smallB es) : readT (printT z ps e es) = joinT (some (z, ps)) (some (e, es)) := by
  have hc : Lib.cut (printT z ps e es) [59, 32] = (halfT z ps, halfT e es, true) := cut_at (half_no hz.1 hp)
  rw [read_join hc, half_read hz hp, half_read he hq]
  rfl

end Go.Proofs.YtmabokmnniiadaaGreatDoor
