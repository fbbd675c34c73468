/-
  What is proved: BitsFills returns true. No condition beyond those stated.
-/
import Derived.Test.YtpoopkieoidhjaaDoorSa
import Derived.Test.YtpoopkieoidhjaaDoorSq
import Derived.OpenShut
namespace Go.Proofs.YtpoopkieoidhjaaDoor
open Go.RowKit Go.Shelf

set_option maxRecDepth 100000 in
set_option maxHeartbeats 2000000 in
theorem fills_any (A : Option Addr) (m c : Nat) (n : Int) (ws : List Nat) (lo hi : Int) (aA aB aP : Addr) (w : World) (hS : BSent w aA aB aP) (hR : Row w A m (ws.map U32)) (hF : Fits ws) (hc : m ≤ c) :
    Calls Tryd.prog 6 #[.agg #[.int .i64 n, .slice A m c], .int .i64 lo, .int .i64 hi] w (Holds w) := by
  have hx := below_box w (.cells #[.int .i64 n, .slice A m c] 24)
  have k0 : (w.alloc (.cells #[.int .i64 n, .slice A m c] 24)).cell? ⟨w.heap.size, 0, none⟩ = some (.int .i64 n) := by simp [go_sem]
  have k1 : (w.alloc (.cells #[.int .i64 n, .slice A m c] 24)).cell? ⟨w.heap.size, 1, none⟩ = some (.slice A m c) := by simp [go_sem]
  have hbl : Blk (w.alloc (.cells #[.int .i64 n, .slice A m c] 24)) w.heap.size 24 #[.int .i64 n, .slice A m c] := heap_new rfl _
  have HS := Lib.hid hS
  have HR := Lib.hid (row_cut hR)
  have HF := Lib.hid (fits_take hF 12)
  generalize ws.take 12 = vs at HR HF
  have HB := Lib.hid hx
  have HBL := Lib.hid hbl
  clear hS hR hx hbl hF
  go_enter Tryd.func6, Tryd.ntmps6
  go_wp2_with fail
  generalize w.alloc (.cells #[.int .i64 n, .slice A m c] 24) = W0 at *
  refine (shown_any aA aB aP W0 (HS.out.ext HB.out)).mono ?_
  rintro e w1 ⟨rfl, hb1⟩
  have e0 := cell_ext hb1 k0
  have e1 := cell_ext hb1 k1
  have HBL1 := Lib.hid (HBL.out.ext hb1)
  have HB1 := Lib.hid (below_le HB.out hb1)
  clear hb1 k0 k1 HBL HB
  go_wp2_with fail
  refine (cut_any A m c n w1 hc).mono ?_
  rintro e w2 ⟨⟨c', rfl⟩, hb2⟩
  generalize min m 12 = m' at *
  have h2 := HBL1.out.ext hb2
  have f0 := h2.frozen 0
  have f1 := h2.frozen 1
  have d0 := h2.cell 0
  have d1 := h2.cell 1
  have h3 := (h2.set_ 0 (.int .i64 n)).set_ 1 (.slice A m' c')
  have hb3 : Below w.heap.size w ((w2.setCell ⟨w.heap.size, 0, none⟩ (.int .i64 n)).setCell ⟨w.heap.size, 1, none⟩ (.slice A m' c')) :=
    ((below_le HB1.out hb2).setCell (p := ⟨w.heap.size, 0, none⟩) (Nat.le_refl _) _).setCell (p := ⟨w.heap.size, 1, none⟩) (Nat.le_refl _) _
  have k0 := h3.cell 0
  have k1 := h3.cell 1
  simp at k0 k1
  have HB3 := Lib.hid hb3
  clear h2 h3 hb2 hb3 HB1 HBL1 e0 e1
  go_wp2_with fail
  generalize (w2.setCell ⟨w.heap.size, 0, none⟩ (.int .i64 n)).setCell ⟨w.heap.size, 1, none⟩ (.slice A m' c') = W3 at *
  clear f0 f1 d0 d1 hc
  obtain ⟨code, hcode⟩ : ∃ k, k = first2 (chk (rightB n vs) 20) (chk (fillOk n lo hi) 21) := ⟨_, rfl⟩
  refine (fill_any A m' c' n vs lo hi true aA aB aP W3 (HS.out.ext HB3.out) (HR.out.ext HB3.out) HF.out code hcode).mono ?_
  rintro e w4 h4
  by_cases hz : code = 0
  · subst hz
    obtain ⟨hr, hf⟩ := first2_zero (by omega) (by omega) hcode
    obtain ⟨g0, g1, g2⟩ := fill_in hf
    obtain ⟨r0, r1, r2, _⟩ := rightB_elim hr
    have b1 := fill_back HF.out hr hf
    have b2 := fill_right hr hf true
    have b3 := fill_right hr hf false
    have b4 := fill_count hr hf
    have b5 := fits_fillW HF.out (placesN lo hi) true
    have b6 := fits_fillW HF.out (placesN lo hi) false
    have l2 := fun on => length_fillW vs (placesN lo hi) on
    obtain ⟨C, q, f, rfl, hR4, hb4⟩ := h4.ok
    have hx := below_box w4 (.cells #[.int .i64 n, .slice C q f] 24)
    have u0 : (w4.alloc (.cells #[.int .i64 n, .slice C q f] 24)).cell? ⟨w4.heap.size, 0, none⟩ = some (.int .i64 n) := by simp [go_sem]
    have u1 : (w4.alloc (.cells #[.int .i64 n, .slice C q f] 24)).cell? ⟨w4.heap.size, 1, none⟩ = some (.slice C q f) := by simp [go_sem]
    have e0 := cell_ext (below_le hb4 hx) k0
    have e1 := cell_ext (below_le hb4 hx) k1
    have HB4 := Lib.hid (below_le HB3.out (below_le hb4 hx))
    have HR4 := Lib.hid (hR4.ext hx)
    have Hc := Lib.hid hcode
    have Hr := Lib.hid hr
    have Hf := Lib.hid hf
    clear hcode h4 hb4 hx k0 k1 hR4 hr hf
    go_wp2_with fail
    generalize w4.alloc (.cells #[.int .i64 n, .slice C q f] 24) = W4 at *
    refine (fill_any A m' c' n vs lo hi false aA aB aP W4 (HS.out.ext HB4.out) (HR.out.ext HB4.out) HF.out 0 Hc.out).mono ?_
    rintro e w5 h5
    obtain ⟨D, q2, f2, rfl, hR5, hb5⟩ := h5.ok
    have hx := below_box w5 (.cells #[.int .i64 n, .slice D q2 f2] 24)
    have x0 : (w5.alloc (.cells #[.int .i64 n, .slice D q2 f2] 24)).cell? ⟨w5.heap.size, 0, none⟩ = some (.int .i64 n) := by simp [go_sem]
    have x1 : (w5.alloc (.cells #[.int .i64 n, .slice D q2 f2] 24)).cell? ⟨w5.heap.size, 1, none⟩ = some (.slice D q2 f2) := by simp [go_sem]
    have hbx := below_le hb5 hx
    have y0 := cell_ext hbx u0
    have y1 := cell_ext hbx u1
    have HB5 := Lib.hid (below_le HB4.out hbx)
    have HR5 := Lib.hid (hR5.ext hx)
    have HR5b := Lib.hid (HR4.out.ext hbx)
    clear h5 hb5 hx hR5 hbx u0 u1 e0 e1
    go_wp2_with fail
    generalize w5.alloc (.cells #[.int .i64 n, .slice D q2 f2] 24) = W5 at *
    refine (fill_any C q f n _ lo hi false aA aB aP W5 (HS.out.ext HB5.out) HR5b.out b5 0 (by rw [b2, Hf.out, chk_true, chk_true, first2_z])).mono ?_
    rintro e w6 h6
    obtain ⟨E, q3, f3, rfl, hR6, hb6⟩ := h6.ok
    rw [b1] at hR6
    have hx := below_box w6 (.cells #[.int .i64 n, .slice E q3 f3] 24)
    have z0 : (w6.alloc (.cells #[.int .i64 n, .slice E q3 f3] 24)).cell? ⟨w6.heap.size, 0, none⟩ = some (.int .i64 n) := by simp [go_sem]
    have z1 : (w6.alloc (.cells #[.int .i64 n, .slice E q3 f3] 24)).cell? ⟨w6.heap.size, 1, none⟩ = some (.slice E q3 f3) := by simp [go_sem]
    have hbx := below_le hb6 hx
    have p0 := cell_ext hbx y0
    have p1 := cell_ext hbx y1
    have o0 := cell_ext hbx x0
    have o1 := cell_ext hbx x1
    have HB6 := Lib.hid (below_le HB5.out hbx)
    have HR6 := Lib.hid (hR6.ext hx)
    have HR6b := Lib.hid (HR5.out.ext hbx)
    have HR6c := Lib.hid (HR5b.out.ext hbx)
    clear h6 hb6 hx hR6 hbx y0 y1 x0 x1
    have lq2 : q2 ≤ 1099511627776 := by have := HR6b.out.1; simp [l2] at this; omega
    have lq3 : q3 ≤ 1099511627776 := by have := HR6.out.1; simp [l2] at this; omega
    generalize fillW vs (placesN lo hi) true = us at *
    generalize fillW vs (placesN lo hi) false = ts at *
    have c1 : (countN n us : Int) ≤ 100000 := by
      rw [count_eq b2]; have := List.countP_le_length (p := tb us) (l := List.range n.toNat); simp at this; omega
    have c2 : (countN n ts : Int) ≤ 100000 := by
      rw [count_eq b3]; have := List.countP_le_length (p := tb ts) (l := List.range n.toNat); simp at this; omega
    go_wp2_with fail
    generalize w6.alloc (.cells #[.int .i64 n, .slice E q3 f3] 24) = W6 at *
    have P0 := ext_cell p0
    have P1 := ext_cell p1
    have O0 := ext_cell o0
    have O1 := ext_cell o1
    have Z0 := ext_cell z0
    have Z1 := ext_cell z1
    obtain ⟨x, hx⟩ : ∃ x, countN n us = x := ⟨_, rfl⟩
    obtain ⟨y, hy⟩ : ∃ y, countN n ts = y := ⟨_, rfl⟩
    have AS : Hid (∀ z : Ext W6, Calls Tryd.prog 25 #[.agg #[.int .i64 n, .slice E q3 f3], .agg #[.int .i64 n, .slice D q2 f2]] z.val fun e w' => e = .returned (.bool true) ∧ Below z.val.heap.size z.val w') :=
      Lib.hid (fun z => by have h := same_any E D n n q3 f3 q2 f2 ts ts z.val (HR6.out.ext z.below) (HR6b.out.ext z.below) b6 b6 lq3 lq2; rw [show sameB n ts n ts = true by simp [sameB]] at h; exact h)
    have A1 : Hid (∀ z : Ext W6, Calls Tryd.prog 24 #[.agg #[.int .i64 n, .slice C q f]] z.val fun e w' => e = .returned (.int .i64 x) ∧ Below z.val.heap.size z.val w') := Lib.hid (fun z => by rw [← hx]; exact count_any C q f n us z.val (HR6c.out.ext z.below) b5)
    have A2 : Hid (∀ z : Ext W6, Calls Tryd.prog 24 #[.agg #[.int .i64 n, .slice D q2 f2]] z.val fun e w' => e = .returned (.int .i64 y) ∧ Below z.val.heap.size z.val w') := Lib.hid (fun z => by rw [← hy]; exact count_any D q2 f2 n ts z.val (HR6b.out.ext z.below) b6)
    rw [hx, hy] at b4
    rw [hx] at c1
    rw [hy] at c2
    have B4 := Lib.hid b4
    clear b1 b2 b3 b4 b5 b6 l2 lq2 lq3 hx hy Hc
    refine wp_region_plan [(0, true), (1, true), (2, true), (3, true), (4, true), (5, true), (6, true), (7, true), (8, true), (9, true), (10, true), (11, true), (12, true), (13, true), (14, true), (15, true), (16, true), (17, true), (18, true), (19, true), (20, true), (21, true), (22, true), (23, true), (24, true), (25, true)] (by kernel_rfl) (by kernel_rfl) ?_
    repeat (first | (refine plan_skip rfl rfl ?_; go_frame) | (refine plan_soft rfl rfl (fun K hK => ?_); go_simp; first | (refine hK _ ?_; clear hK K) | (apply Exists.intro; refine ⟨fun x => ?_, hK _ ?_⟩; (· (first | (go_at_call 25; with_reducible exact AS.out x) | (go_at_call 24; with_reducible exact A1.out x) | (go_at_call 24; with_reducible exact A2.out x))); clear hK K; try go_frame)))
    refine plan_nil ?_; intro w7 h0b; have HB7 := Lib.hid h0b; clear h0b
    go_wp2
    go_ret
    exact ⟨ret_bool (by rw [B4.out]; simp), below_le HB6.out HB7.out⟩
  · have hzi : ((code : Int) != 0) = true := by simp; omega
    obtain ⟨C, q, f, rfl, hR4, hb4⟩ := h4.bad hz
    have hx := below_box w4 (.cells #[.int .i64 0, .slice C q f] 24)
    have u0 : (w4.alloc (.cells #[.int .i64 0, .slice C q f] 24)).cell? ⟨w4.heap.size, 0, none⟩ = some (.int .i64 0) := by simp [go_sem]
    have u1 : (w4.alloc (.cells #[.int .i64 0, .slice C q f] 24)).cell? ⟨w4.heap.size, 1, none⟩ = some (.slice C q f) := by simp [go_sem]
    have e0 := cell_ext (below_le hb4 hx) k0
    have e1 := cell_ext (below_le hb4 hx) k1
    have HB4 := Lib.hid (below_le HB3.out (below_le hb4 hx))
    have HR4 := Lib.hid (hR4.ext hx)
    have Hc := Lib.hid hcode
    have Hz := Lib.hid hz
    clear hcode h4 hb4 hx k0 k1 hR4 hz
    go_wp2_with fail
    generalize w4.alloc (.cells #[.int .i64 0, .slice C q f] 24) = W4 at *
    refine (fill_any A m' c' n vs lo hi false aA aB aP W4 (HS.out.ext HB4.out) (HR.out.ext HB4.out) HF.out code Hc.out).mono ?_
    rintro e w5 h5
    obtain ⟨D, q2, f2, rfl, -, hb5⟩ := h5.bad Hz.out
    have hx := below_box w5 (.cells #[.int .i64 0, .slice D q2 f2] 24)
    have hbx := below_le hb5 hx
    have y0 := cell_ext hbx u0
    have y1 := cell_ext hbx u1
    have HB5 := Lib.hid (below_le HB4.out hbx)
    have HR5b := Lib.hid (HR4.out.ext hbx)
    clear h5 hb5 hx hbx u0 u1 e0 e1
    go_wp2_with fail
    generalize w5.alloc (.cells #[.int .i64 0, .slice D q2 f2] 24) = W5 at *
    obtain ⟨code3, hcode3⟩ : ∃ k, k = first2 (chk (rightB 0 []) 20) (chk (fillOk 0 lo hi) 21) := ⟨_, rfl⟩
    refine (fill_any C q f 0 [] lo hi false aA aB aP W5 (HS.out.ext HB5.out) HR5b.out (by simp [Fits]) code3 hcode3).mono ?_
    rintro e w6 h6
    obtain ⟨E, q3, f3, rfl, -, hb6⟩ := h6
    obtain ⟨n3, hn3⟩ : ∃ k : Int, (if code3 = 0 then 0 else 0) = k := ⟨_, rfl⟩
    rw [hn3]
    have hx := below_box w6 (.cells #[.int .i64 n3, .slice E q3 f3] 24)
    have hbx := below_le hb6 hx
    have p0 := cell_ext hbx y0
    have HB6 := Lib.hid (below_le HB5.out hbx)
    clear hb6 hx hbx y0 y1 hcode3 hn3
    go_wp2
    go_ret
    exact ⟨rfl, HB6.out⟩

end Go.Proofs.YtpoopkieoidhjaaDoor
