/-
  What is proved: the contract of Cut of the laws. No condition beyond those stated.
-/
import Derived.Test.YtpoopkieoidhjaaDoorBn
import Derived.Test.YtpoopkieoidhjaaDoorBm
import Derived.Test.YtpoopkieoidhjaaDoorRa
namespace Go.Proofs.YtpoopkieoidhjaaDoor
open Go.RowKit Go.Shelf

theorem Row.cut {w : World} {A : Option Addr} {m : Nat} {xs : List Value} (h : Row w A m xs) (k : Nat) (hk : k ≤ m) : Row w A k (xs.take k) := by
  refine ⟨by have := h.1; simp; omega, fun h0 => ?_⟩
  obtain ⟨b, off, e, hc⟩ := h.2 (by omega)
  exact ⟨b, off, e, fun j u hu => hc j u (by rw [List.getElem?_take] at hu; split at hu <;> simp_all)⟩

theorem row_cut {w : World} {A : Option Addr} {m : Nat} {ws : List Nat} (h : Row w A m (ws.map U32)) : Row w A (min m 12) ((ws.take 12).map U32) := by
  have h1 := h.cut (min m 12) (Nat.min_le_left _ _)
  have hl := h.1
  simp at hl
  rw [← List.map_take, Nat.min_comm, ← List.take_take, List.take_of_length_le (l := ws) (by omega), Nat.min_comm] at h1
  exact h1

set_option maxRecDepth 100000 in
set_option maxHeartbeats 2000000 in
/-- Cut. -/
theorem cut_any (A : Option Addr) (m c : Nat) (n : Int) (w : World) (hc : m ≤ c) :
    Calls Tryd.prog 12 #[.agg #[.int .i64 n, .slice A m c]] w fun e w' => (∃ c', e = .returned (.agg #[.int .i64 n, .slice A (min m 12) c'])) ∧ Below w.heap.size w w' := by
  have hb0 : Below w.heap.size w ((w.alloc (.cells #[.int .i64 n, .slice A m c] 24)).alloc (.cells #[.int .i64 0, .slice none 0 0] 24)) := below_le (below_box _ _) (below_box _ _)
  have k0 : ((w.alloc (.cells #[.int .i64 n, .slice A m c] 24)).alloc (.cells #[.int .i64 0, .slice none 0 0] 24)).cell? ⟨w.heap.size, 0, none⟩ = some (.int .i64 n) := by simp [go_sem]
  have k1 : ((w.alloc (.cells #[.int .i64 n, .slice A m c] 24)).alloc (.cells #[.int .i64 0, .slice none 0 0] 24)).cell? ⟨w.heap.size, 1, none⟩ = some (.slice A m c) := by simp [go_sem]
  have hbl : Blk ((w.alloc (.cells #[.int .i64 n, .slice A m c] 24)).alloc (.cells #[.int .i64 0, .slice none 0 0] 24)) (w.heap.size + 1) 24 #[.int .i64 0, .slice none 0 0] := heap_new (by simp) _
  have HB0 := Lib.hid hb0
  have HBL := Lib.hid hbl
  clear hb0 hbl
  go_enter Tryd.func12, Tryd.ntmps12
  go_wp2
  generalize (w.alloc (.cells #[.int .i64 n, .slice A m c] 24)).alloc (.cells #[.int .i64 0, .slice none 0 0] 24) = W0 at *
  have t0 := ext_cell k0
  have t1 := ext_cell k1
  refine wp_region_tail 10 (by kernel_rfl) (by kernel_rfl) ?_; simp only [List.take_succ_cons, List.take_zero, List.drop_succ_cons, List.drop_zero]
  repeat (first | (refine head_skip rfl ?_; go_frame) | (refine head_soft rfl (fun K hK => ?_); go_simp; first | (refine hK _ ?_; clear hK K) | (apply Exists.intro; refine ⟨fun x => ?_, hK _ ?_⟩; (· (fail)); clear hK K; try go_frame)))
  obtain ⟨q, hq⟩ : ∃ q : Int, (if 12 < (m : Int) then 12 else (m : Int)) = q := ⟨_, rfl⟩
  rw [hq]
  have hqe : q = (min m 12 : Nat) := by rw [← hq]; split <;> omega
  have hq0 : 0 ≤ q := by omega
  have hq1 : q ≤ c := by omega
  have HQ : Hid (q.toNat = min m 12) := Lib.hid (by omega)
  clear hq hqe
  repeat (first | (refine head_skip rfl ?_; go_frame) | (refine head_soft rfl (fun K hK => ?_); go_simp; first | (refine hK _ ?_; clear hK K) | (apply Exists.intro; refine ⟨fun x => ?_, hK _ ?_⟩; (· (fail)); clear hK K; try go_frame)))
  refine head_nil fun w2 hb2 => ?_
  have h2 := HBL.out.ext hb2
  have f0 := h2.frozen 0
  have f1 := h2.frozen 1
  have c0 := h2.cell 0
  have c1 := h2.cell 1
  have H2 := Lib.hid h2
  have Hb2 := Lib.hid hb2
  clear h2 hb2 t0 t1 k0 k1
  go_wp2
  have h3 := (H2.out.set_ 0 (.int .i64 n)).set_ 1 (.slice A q.toNat c)
  have hbf : Below w.heap.size w ((w2.setCell ⟨w.heap.size + 1, 0, none⟩ (.int .i64 n)).setCell ⟨w.heap.size + 1, 1, none⟩ (.slice A q.toNat c)) :=
    ((below_le HB0.out Hb2.out).setCell (p := ⟨w.heap.size + 1, 0, none⟩) (by show w.heap.size ≤ w.heap.size + 1; omega) _).setCell (p := ⟨w.heap.size + 1, 1, none⟩) (by show w.heap.size ≤ w.heap.size + 1; omega) _
  have q0 := h3.cell 0
  have q1 := h3.cell 1
  simp at q0 q1
  refine bodyPost_ret (v := .agg #[.int .i64 n, .slice A q.toNat c]) (by simp [results, Tryd.results12, go_sem, q0, q1]) rfl ⟨⟨_, by rw [HQ.out]⟩, hbf⟩

end Go.Proofs.YtpoopkieoidhjaaDoor
