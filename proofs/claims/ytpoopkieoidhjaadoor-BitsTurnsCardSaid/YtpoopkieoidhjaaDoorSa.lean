/-
  What is proved: BitsSets returns true. No condition beyond those stated.
-/
import Derived.Test.YtpoopkieoidhjaaDoorSp
namespace Go.Proofs.YtpoopkieoidhjaaDoor
open Go.RowKit Go.Shelf

/-- A law holds: it returns true, and what was stays. -/
def Holds (w : World) (e : Ending) (w' : World) : Prop := e = .returned (.bool true) ∧ Below w.heap.size w w'

set_option maxRecDepth 100000 in
set_option maxHeartbeats 2000000 in
theorem sets_any (A : Option Addr) (m c : Nat) (n : Int) (ws : List Nat) (i k : Int) (on : Bool) (aA aB aP : Addr) (w : World) (hS : BSent w aA aB aP) (hR : Row w A m (ws.map U32)) (hF : Fits ws) (hc : m ≤ c) :
    Calls Tryd.prog 3 #[.agg #[.int .i64 n, .slice A m c], .int .i64 i, .int .i64 k, .bool on] w (Holds w) := by
  have hx := below_box w (.cells #[.int .i64 n, .slice A m c] 24)
  have k0 : (w.alloc (.cells #[.int .i64 n, .slice A m c] 24)).cell? ⟨w.heap.size, 0, none⟩ = some (.int .i64 n) := by simp [go_sem]
  have k1 : (w.alloc (.cells #[.int .i64 n, .slice A m c] 24)).cell? ⟨w.heap.size, 1, none⟩ = some (.slice A m c) := by simp [go_sem]
  have hbl : Blk (w.alloc (.cells #[.int .i64 n, .slice A m c] 24)) w.heap.size 24 #[.int .i64 n, .slice A m c] := heap_new rfl _
  have HS := Lib.hid hS
  have HR := Lib.hid (row_cut hR)
  have HF := Lib.hid (fits_take hF 12)
  generalize ws.take 12 = vs at HR HF
  have HB := Lib.hid hx
  have HBL := Lib.hid hbl
  clear hS hR hx hbl hF
  go_enter Tryd.func3, Tryd.ntmps3
  go_wp2_with fail
  generalize w.alloc (.cells #[.int .i64 n, .slice A m c] 24) = W0 at *
  refine (shown_any aA aB aP W0 (HS.out.ext HB.out)).mono ?_
  rintro e w1 ⟨rfl, hb1⟩
  have e0 := cell_ext hb1 k0
  have e1 := cell_ext hb1 k1
  have HBL1 := Lib.hid (HBL.out.ext hb1)
  have HB1 := Lib.hid (below_le HB.out hb1)
  clear hb1 k0 k1 HBL HB
  go_wp2_with fail
  refine (cut_any A m c n w1 hc).mono ?_
  rintro e w2 ⟨⟨c', rfl⟩, hb2⟩
  generalize min m 12 = m' at *
  have h2 := HBL1.out.ext hb2
  have f0 := h2.frozen 0
  have f1 := h2.frozen 1
  have d0 := h2.cell 0
  have d1 := h2.cell 1
  have h3 := (h2.set_ 0 (.int .i64 n)).set_ 1 (.slice A m' c')
  have hb3 : Below w.heap.size w ((w2.setCell ⟨w.heap.size, 0, none⟩ (.int .i64 n)).setCell ⟨w.heap.size, 1, none⟩ (.slice A m' c')) :=
    ((below_le HB1.out hb2).setCell (p := ⟨w.heap.size, 0, none⟩) (Nat.le_refl _) _).setCell (p := ⟨w.heap.size, 1, none⟩) (Nat.le_refl _) _
  have k0 := h3.cell 0
  have k1 := h3.cell 1
  simp at k0 k1
  have H3 := Lib.hid h3
  have HB3 := Lib.hid hb3
  clear h2 h3 hb2 hb3 HB1 HBL1 e0 e1
  go_wp2_with fail
  generalize (w2.setCell ⟨w.heap.size, 0, none⟩ (.int .i64 n)).setCell ⟨w.heap.size, 1, none⟩ (.slice A m' c') = W3 at *
  clear f0 f1 d0 d1
  cases hr : rightB n vs
  · refine (set_any A m' c' n vs i on aA aB aP W3 (HS.out.ext HB3.out) (HR.out.ext HB3.out) HF.out 20 (by rw [hr, chk_false, first2_nz _ _ (by omega)])).mono ?_
    rintro e w4 h4
    obtain ⟨C, q, f, rfl, -, hb4⟩ := h4.bad (by omega)
    have hx := below_box w4 (.cells #[.int .i64 0, .slice C q f] 24)
    have e0 := cell_ext (below_le hb4 hx) k0
    have e1 := cell_ext (below_le hb4 hx) k1
    have HB4 := Lib.hid (below_le HB3.out (below_le hb4 hx))
    have Hr := Lib.hid hr
    clear hr h4 hb4 hx k0 k1
    go_wp2_with fail
    generalize w4.alloc (.cells #[.int .i64 0, .slice C q f] 24) = W4 at *
    refine (right_any A m' c' n vs W4 (HR.out.ext HB4.out) HF.out).mono ?_
    rw [Hr.out]
    rintro e w5 ⟨rfl, hb5⟩
    have HB5 := Lib.hid (below_le HB4.out hb5)
    clear hb5
    go_wp2
    go_ret
    exact ⟨rfl, HB5.out⟩
  · cases hp : placeOk n i
    · refine (set_any A m' c' n vs i on aA aB aP W3 (HS.out.ext HB3.out) (HR.out.ext HB3.out) HF.out 21 (by rw [hr, hp, chk_true, chk_false, first2_z])).mono ?_
      rintro e w4 h4
      obtain ⟨C, q, f, rfl, -, hb4⟩ := h4.bad (by omega)
      have hx := below_box w4 (.cells #[.int .i64 0, .slice C q f] 24)
      have e0 := cell_ext (below_le hb4 hx) k0
      have e1 := cell_ext (below_le hb4 hx) k1
      have HB4 := Lib.hid (below_le HB3.out (below_le hb4 hx))
      have Hr := Lib.hid hr
      clear hr h4 hb4 hx k0 k1 hp
      go_wp2_with fail
      generalize w4.alloc (.cells #[.int .i64 0, .slice C q f] 24) = W4 at *
      refine (right_any A m' c' n vs W4 (HR.out.ext HB4.out) HF.out).mono ?_
      rw [Hr.out]
      rintro e w5 ⟨rfl, hb5⟩
      have HB5 := Lib.hid (below_le HB4.out hb5)
      clear hb5
      go_wp2
      go_ret
      exact ⟨rfl, HB5.out⟩
    · obtain ⟨hi0, hi1⟩ : 0 ≤ i ∧ i < n := by simpa [placeOk] using hp
      refine (set_any A m' c' n vs i on aA aB aP W3 (HS.out.ext HB3.out) (HR.out.ext HB3.out) HF.out 0 (by rw [hr, hp, chk_true, chk_true, first2_z])).mono ?_
      rintro e w4 h4
      obtain ⟨C, q, f, rfl, hR4, hb4⟩ := h4.ok
      have hx := below_box w4 (.cells #[.int .i64 n, .slice C q f] 24)
      have g0 : (w4.alloc (.cells #[.int .i64 n, .slice C q f] 24)).cell? ⟨w4.heap.size, 0, none⟩ = some (.int .i64 n) := by simp [go_sem]
      have g1 : (w4.alloc (.cells #[.int .i64 n, .slice C q f] 24)).cell? ⟨w4.heap.size, 1, none⟩ = some (.slice C q f) := by simp [go_sem]
      have e0 := cell_ext (below_le hb4 hx) k0
      have e1 := cell_ext (below_le hb4 hx) k1
      have HB4 := Lib.hid (below_le HB3.out (below_le hb4 hx))
      have HR4 := Lib.hid (hR4.ext hx)
      have HF4 := Lib.hid (fits_set HF.out i.toNat on)
      have r1 := right_set hr i.toNat on (by omega)
      have r2 := has_set_same hr i on hi0 hi1
      have r3 : k ≠ i → hasB n (setW vs i.toNat on) k = hasB n vs k := has_set_other hr i k on hi0 hi1
      generalize setW vs i.toNat on = us at *
      have R1 := Lib.hid r1
      have R2 := Lib.hid r2
      have R3 := Lib.hid r3
      clear hr h4 hb4 hx k0 k1 hp r1 r2 r3 hR4
      go_wp2_with fail
      generalize w4.alloc (.cells #[.int .i64 n, .slice C q f] 24) = W4 at *
      have u0 := ext_cell g0
      have u1 := ext_cell g1
      have v0 := ext_cell e0
      have v1 := ext_cell e1
      have AR : Hid (∀ x : Ext W4, Calls Tryd.prog 14 #[.agg #[.int .i64 n, .slice C q f]] x.val fun e w' => e = .returned (.bool true) ∧ Below x.val.heap.size x.val w') := Lib.hid (fun x => by rw [← R1.out]; exact right_any C q f n us x.val (HR4.out.ext x.below) HF4.out)
      have AI : Hid (∀ x : Ext W4, Calls Tryd.prog 15 #[.agg #[.int .i64 n, .slice C q f], .int .i64 i] x.val fun e w' => e = .returned (.bool on) ∧ Below x.val.heap.size x.val w') := Lib.hid (fun x => by have h := has_any C q f n us i x.val (HR4.out.ext x.below) HF4.out; rw [R2.out] at h; exact h)
      by_cases hk : k = i
      · have hd : (k == i) = true := by simpa using hk
        clear hk R1 R2 R3
        refine wp_region_plan [(0, true), (1, true), (2, true), (3, true), (4, true), (5, true), (6, true), (7, true), (8, true), (9, true), (10, true), (11, true), (12, true), (13, true), (14, true), (15, true), (16, true), (17, true), (18, true), (19, true), (20, true), (21, true), (22, true), (23, true), (24, true), (25, true), (26, true), (27, true), (28, true), (29, true), (30, true), (31, true), (32, true), (33, true)] (by kernel_rfl) (by kernel_rfl) ?_
        repeat (first | (refine plan_skip rfl rfl ?_; go_frame) | (refine plan_soft rfl rfl (fun K hK => ?_); go_simp; first | (refine hK _ ?_; clear hK K) | (apply Exists.intro; refine ⟨fun x => ?_, hK _ ?_⟩; (· (first | (go_at_call 14; with_reducible exact AR.out x) | (go_at_call 15; with_reducible exact AI.out x))); clear hK K; try go_frame)))
        refine plan_nil ?_; intro w5 h0b; have HB5 := Lib.hid h0b; clear h0b
        go_wp2
        go_ret
        exact ⟨rfl, below_le HB4.out HB5.out⟩
      · have hd : (k == i) = false := by simpa using hk
        obtain ⟨y, hy⟩ : ∃ y : Bool, hasB n vs k = y := ⟨_, rfl⟩
        have hy2 : hasB n us k = y := (R3.out hk).trans hy
        have AK : Hid (∀ x : Ext W4, Calls Tryd.prog 15 #[.agg #[.int .i64 n, .slice C q f], .int .i64 k] x.val fun e w' => e = .returned (.bool y) ∧ Below x.val.heap.size x.val w') := Lib.hid (fun x => by rw [← hy2]; exact has_any C q f n us k x.val (HR4.out.ext x.below) HF4.out)
        have AB : Hid (∀ x : Ext W4, Calls Tryd.prog 15 #[.agg #[.int .i64 n, .slice A m' c'], .int .i64 k] x.val fun e w' => e = .returned (.bool y) ∧ Below x.val.heap.size x.val w') := Lib.hid (fun x => by rw [← hy]; exact has_any A m' c' n vs k x.val ((HR.out.ext HB4.out).ext x.below) HF.out)
        clear hk R1 R2 R3 hy hy2
        refine wp_region_plan [(0, true), (1, true), (2, true), (3, true), (4, true), (5, true), (6, true), (7, true), (8, true), (9, true), (10, true), (11, true), (12, true), (13, true), (14, true), (15, true), (16, true), (17, true), (18, true), (19, true), (20, true), (21, true), (22, true), (23, true), (24, true), (25, true), (26, true), (27, true), (28, true), (29, true), (30, true), (31, true), (32, true), (33, true)] (by kernel_rfl) (by kernel_rfl) ?_
        repeat (first | (refine plan_skip rfl rfl ?_; go_frame) | (refine plan_soft rfl rfl (fun K hK => ?_); go_simp; first | (refine hK _ ?_; clear hK K) | (apply Exists.intro; refine ⟨fun x => ?_, hK _ ?_⟩; (· (first | (go_at_call 14; with_reducible exact AR.out x) | (go_at_call 15; with_reducible exact AI.out x) | (go_at_call 15; with_reducible exact AK.out x) | (go_at_call 15; with_reducible exact AB.out x))); clear hK K; try go_frame)))
        refine plan_nil ?_; intro w5 h0b; have HB5 := Lib.hid h0b; clear h0b
        go_wp2
        go_ret
        exact ⟨rfl, below_le HB4.out HB5.out⟩

end Go.Proofs.YtpoopkieoidhjaaDoor
