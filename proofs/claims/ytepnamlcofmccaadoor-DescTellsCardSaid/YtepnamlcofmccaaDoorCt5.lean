/-
  What is proved: DescTells returns true. No condition beyond those stated.
-/
import Derived.Test.YtepnamlcofmccaaDoorCt1
namespace Go.Proofs.YtepnamlcofmccaaDoor
open Go.RowKit Go.Stop

theorem slotsR_le {z e n : Int} {ps es : List Int} (hp : ps.length ≤ 1000) (hq : es.length ≤ 1000) (hn : n ≤ 300) : (slotsR z ps e es n).length ≤ 1000000 := by
  unfold slotsR
  split
  · rw [slots_len]
    have h1 : n.toNat * es.length ≤ 300 * 1000 := Nat.mul_le_mul (by omega) hq
    omega
  · simp

set_option maxRecDepth 100000 in
set_option maxHeartbeats 8000000 in
theorem descTells_any (z : Int) (P : Option Addr) (m c : Nat) (e : Int) (Q : Option Addr) (q f : Nat) (ps es : List Int) (z2 : Int) (P2 : Option Addr) (m2 c2 : Nat) (e2 : Int) (Q2 : Option Addr) (q2 f2 : Nat) (ps2 es2 : List Int) (n a : Int) (w : World) (hD : DE w)
    (hP : Row w P m (ps.map Iv)) (hQ : Row w Q q (es.map Iv)) (hm : m ≤ c) (hq : q ≤ f) (hP2 : Row w P2 m2 (ps2.map Iv)) (hQ2 : Row w Q2 q2 (es2.map Iv)) (hm2 : m2 ≤ c2) (hq2 : q2 ≤ f2) :
    Calls Tryd.prog 7 #[descV z P m c e Q q f, descV z2 P2 m2 c2 e2 Q2 q2 f2, .int .i64 n, .int .i64 a] w (Holds w) := by
  have hb0 := below_le (below_box w (descO z P m c e Q q f)) (below_box _ (descO z2 P2 m2 c2 e2 Q2 q2 f2))
  have h4 : Blk ((w.alloc (descO z P m c e Q q f)).alloc (descO z2 P2 m2 c2 e2 Q2 q2 f2)) w.heap.size 24 #[.int .i64 z, .slice P m c, .int .i64 e, .slice Q q f] := Blk.alloc (Blk.new _ _ _) _
  have h5 : Blk ((w.alloc (descO z P m c e Q q f)).alloc (descO z2 P2 m2 c2 e2 Q2 q2 f2)) (w.heap.size + 1) 24 #[.int .i64 z2, .slice P2 m2 c2, .int .i64 e2, .slice Q2 q2 f2] := heap_new (by simp) _
  have HP := Lib.hid (row_cut hP)
  have HQ := Lib.hid (row_cut hQ)
  have HP2 := Lib.hid (row_cut hP2)
  have HQ2 := Lib.hid (row_cut hQ2)
  have HB := Lib.hid hb0
  have H4 := Lib.hid h4
  have H5 := Lib.hid h5
  have HD := Lib.hid hD
  have HM := Lib.hid (And.intro hm (And.intro hq (And.intro hm2 hq2)))
  have hm20 : min m 20 ≤ 20 := Nat.min_le_right _ _
  have hq20 : min q 20 ≤ 20 := Nat.min_le_right _ _
  have hm220 : min m2 20 ≤ 20 := Nat.min_le_right _ _
  have hq220 : min q2 20 ≤ 20 := Nat.min_le_right _ _
  clear hb0 h4 h5 hD hm hq hm2 hq2 hP hQ hP2 hQ2
  go_enter Tryd.func7, Tryd.ntmps7
  go_wp2_with fail
  generalize (w.alloc (descO z P m c e Q q f)).alloc (descO z2 P2 m2 c2 e2 Q2 q2 f2) = W0 at *
  refine (dshown_any W0 (HD.out.ext HB.out)).mono ?_
  rintro x w1 ⟨rfl, hb1⟩
  have h4 := H4.out.ext hb1
  have k0 := h4.at_ (i := 0) rfl
  have k1 := h4.at_ (i := 1) rfl
  have k2 := h4.at_ (i := 2) rfl
  have k3 := h4.at_ (i := 3) rfl
  replace H4 := Lib.hid h4
  replace H5 := Lib.hid (H5.out.ext hb1)
  replace HB := Lib.hid (below_le HB.out hb1)
  clear h4 hb1
  go_wp2_with fail
  refine (dcut_any z e P Q m c q f w1 HM.out.1 HM.out.2.1).mono ?_
  rintro x w2 ⟨rfl, hb2⟩
  have h4 := H4.out.ext hb2
  clear k0 k1 k2 k3
  have c0 := h4.at_ (i := 0) rfl
  have c1 := h4.at_ (i := 1) rfl
  have c2' := h4.at_ (i := 2) rfl
  have c3 := h4.at_ (i := 3) rfl
  have f0 := h4.frozen 0
  have f1 := h4.frozen 1
  have f2' := h4.frozen 2
  have f3 := h4.frozen 3
  generalize min m 20 = m' at *
  generalize min q 20 = q' at *
  generalize ps.take 20 = ps' at *
  generalize es.take 20 = es' at *
  have h9 := h4.set4 (.int .i64 z) (.slice P m' c) (.int .i64 e) (.slice Q q' f)
  replace HB := Lib.hid (below_set4 (below_le HB.out hb2) (Nat.le_refl _) (.int .i64 z) (.slice P m' c) (.int .i64 e) (.slice Q q' f))
  have h5 := far_set4 (H5.out.ext hb2) (g := w.heap.size) (by omega) (.int .i64 z) (.slice P m' c) (.int .i64 e) (.slice Q q' f)
  have j0 := h5.at_ (i := 0) rfl
  have j1 := h5.at_ (i := 1) rfl
  have j2 := h5.at_ (i := 2) rfl
  have j3 := h5.at_ (i := 3) rfl
  replace H4 := Lib.hid h9
  replace H5 := Lib.hid h5
  clear h4 h9 h5 hb2
  go_wp2_with fail
  generalize (((w2.setCell ⟨w.heap.size, 0, none⟩ (.int .i64 z)).setCell ⟨w.heap.size, 1, none⟩ (.slice P m' c)).setCell ⟨w.heap.size, 2, none⟩ (.int .i64 e)).setCell ⟨w.heap.size, 3, none⟩ (.slice Q q' f) = W2 at *
  clear c0 c1 c2' c3 f0 f1 f2' f3
  refine (dcut_any z2 e2 P2 Q2 m2 c2 q2 f2 W2 HM.out.2.2.1 HM.out.2.2.2).mono ?_
  clear HM
  rintro x w3 ⟨rfl, hb3⟩
  have h5 := H5.out.ext hb3
  clear j0 j1 j2 j3
  have c0 := h5.at_ (i := 0) rfl
  have c1 := h5.at_ (i := 1) rfl
  have c2' := h5.at_ (i := 2) rfl
  have c3 := h5.at_ (i := 3) rfl
  have f0 := h5.frozen 0
  have f1 := h5.frozen 1
  have f2' := h5.frozen 2
  have f3 := h5.frozen 3
  generalize min m2 20 = m2' at *
  generalize min q2 20 = q2' at *
  generalize ps2.take 20 = ps2' at *
  generalize es2.take 20 = es2' at *
  have h9 := h5.set4 (.int .i64 z2) (.slice P2 m2' c2) (.int .i64 e2) (.slice Q2 q2' f2)
  replace HB := Lib.hid (below_set4 (below_le HB.out hb3) (g := w.heap.size + 1) (by omega) (.int .i64 z2) (.slice P2 m2' c2) (.int .i64 e2) (.slice Q2 q2' f2))
  have h4 := far_set4 (H4.out.ext hb3) (g := w.heap.size + 1) (by omega) (.int .i64 z2) (.slice P2 m2' c2) (.int .i64 e2) (.slice Q2 q2' f2)
  have k0 := h4.at_ (i := 0) rfl
  have k1 := h4.at_ (i := 1) rfl
  have k2 := h4.at_ (i := 2) rfl
  have k3 := h4.at_ (i := 3) rfl
  have j0 := h9.at_ (i := 0) rfl
  have j1 := h9.at_ (i := 1) rfl
  have j2 := h9.at_ (i := 2) rfl
  have j3 := h9.at_ (i := 3) rfl
  clear h4 h9 h5 hb3 H4 H5
  go_wp2_with fail
  generalize (((w3.setCell ⟨w.heap.size + 1, 0, none⟩ (.int .i64 z2)).setCell ⟨w.heap.size + 1, 1, none⟩ (.slice P2 m2' c2)).setCell ⟨w.heap.size + 1, 2, none⟩ (.int .i64 e2)).setCell ⟨w.heap.size + 1, 3, none⟩ (.slice Q2 q2' f2) = W3 at *
  clear c0 c1 c2' c3 f0 f1 f2' f3
  obtain ⟨n', hn'⟩ : ∃ n', min n 300 = n' := ⟨_, rfl⟩
  have hn1 : n' ≤ 300 := by omega
  rw [hn']
  clear hn'
  refine (bytes_any z e n' P Q m' c q' f ps' es' W3 (HD.out.1.ext HB.out) (HD.out.2.1.ext HB.out) (HP.out.ext HB.out) (HQ.out.ext HB.out) (by omega) (by omega)).mono ?_
  rintro x_ w4 ⟨rfl, hb_⟩
  replace k0 := cell_ext hb_ k0
  replace k1 := cell_ext hb_ k1
  replace k2 := cell_ext hb_ k2
  replace k3 := cell_ext hb_ k3
  replace j0 := cell_ext hb_ j0
  replace j1 := cell_ext hb_ j1
  replace j2 := cell_ext hb_ j2
  replace j3 := cell_ext hb_ j3
  replace HB := Lib.hid (below_le HB.out hb_)
  clear hb_
  go_wp2_with fail
  refine (rbytes_any z e n' P Q m' c q' f ps' es' w4 (HP.out.ext HB.out) (HQ.out.ext HB.out) (by omega) (by omega)).mono ?_
  rintro x_ w5 ⟨rfl, hb_⟩
  replace k0 := cell_ext hb_ k0
  replace k1 := cell_ext hb_ k1
  replace k2 := cell_ext hb_ k2
  replace k3 := cell_ext hb_ k3
  replace j0 := cell_ext hb_ j0
  replace j1 := cell_ext hb_ j1
  replace j2 := cell_ext hb_ j2
  replace j3 := cell_ext hb_ j3
  replace HB := Lib.hid (below_le HB.out hb_)
  clear hb_
  go_wp2_with fail
  refine (kind_any z e n' a P Q m' c q' f ps' es' w5 (HD.out.1.ext HB.out) (HP.out.ext HB.out) (HQ.out.ext HB.out) (by omega) (by omega)).mono ?_
  rintro x_ w6 ⟨rfl, hb_⟩
  replace k0 := cell_ext hb_ k0
  replace k1 := cell_ext hb_ k1
  replace k2 := cell_ext hb_ k2
  replace k3 := cell_ext hb_ k3
  replace j0 := cell_ext hb_ j0
  replace j1 := cell_ext hb_ j1
  replace j2 := cell_ext hb_ j2
  replace j3 := cell_ext hb_ j3
  replace HB := Lib.hid (below_le HB.out hb_)
  clear hb_
  go_wp2_with fail
  refine (rkind_any z e n' a P Q m' c q' f ps' es' w6 (HP.out.ext HB.out) (HQ.out.ext HB.out) (by omega) (by omega)).mono ?_
  rintro x_ w7 ⟨rfl, hb_⟩
  replace k0 := cell_ext hb_ k0
  replace k1 := cell_ext hb_ k1
  replace k2 := cell_ext hb_ k2
  replace k3 := cell_ext hb_ k3
  replace j0 := cell_ext hb_ j0
  replace j1 := cell_ext hb_ j1
  replace j2 := cell_ext hb_ j2
  replace j3 := cell_ext hb_ j3
  replace HB := Lib.hid (below_le HB.out hb_)
  clear hb_
  go_wp2_with fail
  refine (slots_any z e n' P Q m' c q' f ps' es' w7 (HD.out.1.ext HB.out) (HP.out.ext HB.out) (HQ.out.ext HB.out) (by omega) (by omega) hn1).mono ?_
  rintro x w8 ⟨K1, l1, d1, rfl, hK1, -, hb8⟩
  replace k0 := cell_ext hb8 k0; replace k1 := cell_ext hb8 k1; replace k2 := cell_ext hb8 k2; replace k3 := cell_ext hb8 k3; replace j0 := cell_ext hb8 j0; replace j1 := cell_ext hb8 j1; replace j2 := cell_ext hb8 j2; replace j3 := cell_ext hb8 j3
  replace HB := Lib.hid (below_le HB.out hb8)
  have HK1 := Lib.hid hK1
  clear hb8 hK1
  go_wp2_with fail
  refine (rslots_any z e n' P Q m' c q' f ps' es' w8 (HP.out.ext HB.out) (HQ.out.ext HB.out) (by omega) (by omega)).mono ?_
  rintro x w9 ⟨K2, l2, d2, rfl, hK2, -, hb9⟩
  replace k0 := cell_ext hb9 k0; replace k1 := cell_ext hb9 k1; replace k2 := cell_ext hb9 k2; replace k3 := cell_ext hb9 k3; replace j0 := cell_ext hb9 j0; replace j1 := cell_ext hb9 j1; replace j2 := cell_ext hb9 j2; replace j3 := cell_ext hb9 j3; replace HK1 := Lib.hid (HK1.out.ext hb9)
  replace HB := Lib.hid (below_le HB.out hb9)
  have HK2 := Lib.hid hK2
  have hlp := HP.out.1
  have hlq := HQ.out.1
  simp only [List.length_map] at hlp hlq
  have hsl := slotsR_le (z := z) (e := e) (ps := ps') (es := es') (n := n') (by omega) (by omega) hn1
  have hl1 := HK1.out.1
  have hl2 := HK2.out.1
  simp only [List.length_map] at hl1 hl2
  have T0 := fun y : Ext w9 => ext_cell k0 y
  have T1 := fun y : Ext w9 => ext_cell k1 y
  have T2 := fun y : Ext w9 => ext_cell k2 y
  have T3 := fun y : Ext w9 => ext_cell k3 y
  have U0 := fun y : Ext w9 => ext_cell j0 y
  have U1 := fun y : Ext w9 => ext_cell j1 y
  have U2 := fun y : Ext w9 => ext_cell j2 y
  have U3 := fun y : Ext w9 => ext_cell j3 y
  have A1 := Lib.hid (fun (W : World) (hb : Below w9.heap.size w9 W) => dright_any z e P Q m' c q' f ps' es' W (HP.out.ext (below_le HB.out hb)) (HQ.out.ext (below_le HB.out hb)) (by omega) (by omega))
  have A2 := Lib.hid (fun (W : World) (hb : Below w9.heap.size w9 W) => rright_any z e P Q m' c q' f ps' es' W (HP.out.ext (below_le HB.out hb)) (HQ.out.ext (below_le HB.out hb)) (by omega) (by omega))
  have A3 := Lib.hid (fun (W : World) (hb : Below w9.heap.size w9 W) => dsame_any z e P Q m' c q' f ps' es' z2 e2 P2 Q2 m2' c2 q2' f2 ps2' es2' W (HP.out.ext (below_le HB.out hb)) (HQ.out.ext (below_le HB.out hb)) (HP2.out.ext (below_le HB.out hb)) (HQ2.out.ext (below_le HB.out hb)) (by omega) (by omega) (by omega) (by omega))
  have A4 := Lib.hid (fun (W : World) (hb : Below w9.heap.size w9 W) => rsame_any z e P Q m' c q' f ps' es' z2 e2 P2 Q2 m2' c2 q2' f2 ps2' es2' W (HP.out.ext (below_le HB.out hb)) (HQ.out.ext (below_le HB.out hb)) (HP2.out.ext (below_le HB.out hb)) (HQ2.out.ext (below_le HB.out hb)) (by omega) (by omega) (by omega) (by omega))
  have hss : dSame z e ps' es' z e ps' es' = true := by simp [dSame]
  have a5 := fun (W : World) (hb : Below w9.heap.size w9 W) => dsame_any z e P Q m' c q' f ps' es' z e P Q m' c q' f ps' es' W (HP.out.ext (below_le HB.out hb)) (HQ.out.ext (below_le HB.out hb)) (HP.out.ext (below_le HB.out hb)) (HQ.out.ext (below_le HB.out hb)) (by omega) (by omega) (by omega) (by omega)
  rw [hss] at a5
  have A5 := Lib.hid a5
  have a6 := fun (W : World) (hb : Below w9.heap.size w9 W) => ints_any K1 K2 l1 d1 l2 d2 _ _ W (HK1.out.ext hb) (HK2.out.ext hb) (by omega) (by omega)
  rw [decide_eq_true (rfl : slotsR z ps' e es' n' = slotsR z ps' e es' n')] at a6
  have A6 := Lib.hid a6
  clear hss a5 a6 hl1 hl2 hlp hlq hsl hb9 hK2 k0 k1 k2 k3 j0 j1 j2 j3
  generalize dRight z ps' e es' = r1 at *
  generalize dSame z e ps' es' z2 e2 ps2' es2' = r2 at *
  generalize bytesR z ps' e es' n' = r3 at *
  generalize kindR z ps' e es' n' a = r4 at *
  generalize formC z ps' e es' n' = r5 at *
  go_wp2
  refine wp_region_plan [(0, true), (1, true), (2, true), (3, true), (4, true), (5, true), (6, true), (7, true), (8, true), (9, true), (10, true), (11, true), (12, true), (13, true), (14, true), (15, true), (16, true), (17, true), (18, true), (19, true), (20, true), (21, true), (22, true), (23, true), (24, true), (25, true), (26, true), (27, true), (28, true), (29, true), (30, true), (31, true), (32, true), (33, true), (34, true), (35, true), (36, true), (37, true), (38, true), (39, true), (40, true), (41, true), (42, true), (43, true), (44, true), (45, true), (46, true), (47, true), (48, true), (49, true), (50, true), (51, true), (52, true)] (by kernel_rfl) (by kernel_rfl) ?_
  repeat (first | (refine plan_skip rfl rfl ?_; go_frame) | (refine plan_soft rfl rfl (fun K hK => ?_); go_simp; first | (refine hK _ ?_; clear hK K) | (apply Exists.intro; refine ⟨fun x => ?_, hK _ ?_⟩; (· (first | (go_at_call 15; with_reducible exact A1.out x.val x.below) | (go_at_call 18; with_reducible exact A2.out x.val x.below) | (go_at_call 19; with_reducible exact A3.out x.val x.below) | (go_at_call 19; with_reducible exact A5.out x.val x.below) | (go_at_call 20; with_reducible exact A4.out x.val x.below) | (go_at_call 21; with_reducible exact A6.out x.val x.below))); clear hK K; try go_frame)))
  refine plan_nil ?_; intro w10 h0b; have HB10 := Lib.hid h0b; clear h0b
  clear T0 T1 T2 T3 U0 U1 U2 U3
  go_wp2
  go_ret
  exact ⟨rfl, below_le HB.out HB10.out⟩

end Go.Proofs.YtepnamlcofmccaaDoor
