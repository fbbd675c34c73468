/-
  What is proved: BitsTells returns true. No condition beyond those stated.
-/
import Derived.Test.YtpoopkieoidhjaaDoorRc
import Derived.Test.YtpoopkieoidhjaaDoorXa
namespace Go.Proofs.YtpoopkieoidhjaaDoor
open Go.RowKit Go.Shelf

theorem map_I64 (l : List Nat) : l.map I64 = (l.map fun x : Nat => (x : Int)).map Iv := by
  rw [List.map_map]; rfl
theorem ints_same (A B : Option Addr) (n c m d : Nat) (l : List Nat) (w : World) (hA : Row w A n (l.map I64)) (hB : Row w B m (l.map I64)) (hl : l.length ≤ 1099511627776) :
    Calls Tryd.prog 32 #[.slice A n c, .slice B m d] w fun e w' => e = .returned (.bool true) ∧ Below w.heap.size w w' := by
  have h1 := hA.1
  have h2 := hB.1
  simp at h1 h2
  rw [map_I64] at hA hB
  have h := ints_any A B n c m d _ _ w hA hB (by omega) (by omega)
  rwa [show decide ((l.map fun x : Nat => (x : Int)) = l.map fun x : Nat => (x : Int)) = true by simp] at h

/-- Both make the same. -/
theorem make_both (n : Int) : ∃ (code : Nat) (q : Int) (us : List Nat), Fits us ∧ us.length ≤ 1000 ∧ code ≤ 100 ∧
    (∀ (aA aB aP : Addr) (w : World), BSent w aA aB aP → Calls Tryd.prog 27 #[.int .i64 n] w (GivesBits w code q us)) ∧
    (∀ w : World, Calls Tryd.prog 28 #[.int .i64 n] w (GivesBits w code q us)) := by
  by_cases h : n < 0 ∨ 20000 < n
  · exact ⟨2, 0, [], by simp [Fits], by simp, by omega, fun aA aB aP w hS => make_bad n aA aB aP w hS h, fun w => refmake_bad n w h⟩
  · exact ⟨0, n, _, fits_none n, by simp [noneW]; omega, by omega, fun aA aB aP w hS => make_ok n aA aB aP w hS (by omega) (by omega), fun w => refmake_ok n w (by omega) (by omega)⟩

set_option maxRecDepth 100000 in
set_option maxHeartbeats 4000000 in
theorem tells_any (A : Option Addr) (ma ca : Nat) (na : Int) (wa : List Nat) (B : Option Addr) (mb cb : Nat) (nb : Int) (wb : List Nat) (i n : Int) (aA aB aP : Addr) (w : World) (hS : BSent w aA aB aP)
    (hR : Row w A ma (wa.map U32)) (hF : Fits wa) (hc : ma ≤ ca) (hRb : Row w B mb (wb.map U32)) (hFb : Fits wb) (hcb : mb ≤ cb) :
    Calls Tryd.prog 10 #[.agg #[.int .i64 na, .slice A ma ca], .agg #[.int .i64 nb, .slice B mb cb], .int .i64 i, .int .i64 n] w (Holds w) := by
  have hx : Below w.heap.size w ((w.alloc (.cells #[.int .i64 na, .slice A ma ca] 24)).alloc (.cells #[.int .i64 nb, .slice B mb cb] 24)) := below_le (below_box _ _) (below_box _ _)
  have k0 : ((w.alloc (.cells #[.int .i64 na, .slice A ma ca] 24)).alloc (.cells #[.int .i64 nb, .slice B mb cb] 24)).cell? ⟨w.heap.size, 0, none⟩ = some (.int .i64 na) := by simp [go_sem]
  have k1 : ((w.alloc (.cells #[.int .i64 na, .slice A ma ca] 24)).alloc (.cells #[.int .i64 nb, .slice B mb cb] 24)).cell? ⟨w.heap.size, 1, none⟩ = some (.slice A ma ca) := by simp [go_sem]
  have hbl : Blk ((w.alloc (.cells #[.int .i64 na, .slice A ma ca] 24)).alloc (.cells #[.int .i64 nb, .slice B mb cb] 24)) w.heap.size 24 #[.int .i64 na, .slice A ma ca] := Blk.alloc (heap_new rfl _) _
  have hbm : Blk ((w.alloc (.cells #[.int .i64 na, .slice A ma ca] 24)).alloc (.cells #[.int .i64 nb, .slice B mb cb] 24)) (w.heap.size + 1) 24 #[.int .i64 nb, .slice B mb cb] := heap_new (by simp) _
  have HS := Lib.hid hS
  have HR := Lib.hid (row_cut hR)
  have HF := Lib.hid (fits_take hF 12)
  have HRb := Lib.hid (row_cut hRb)
  have HFb := Lib.hid (fits_take hFb 12)
  have HM : Hid (min ma 12 ≤ 12) := Lib.hid (Nat.min_le_right _ _)
  have HMb : Hid (min mb 12 ≤ 12) := Lib.hid (Nat.min_le_right _ _)
  generalize wa.take 12 = xs at HR HF
  generalize wb.take 12 = ys at HRb HFb
  have HB := Lib.hid hx
  have HBL := Lib.hid hbl
  have HBM := Lib.hid hbm
  clear hS hR hRb hx hbl hbm hF hFb
  go_enter Tryd.func10, Tryd.ntmps10
  go_wp2_with fail
  generalize (w.alloc (.cells #[.int .i64 na, .slice A ma ca] 24)).alloc (.cells #[.int .i64 nb, .slice B mb cb] 24) = W0 at *
  refine (shown_any aA aB aP W0 (HS.out.ext HB.out)).mono ?_
  rintro e w1 ⟨rfl, hb1⟩
  have e0 := cell_ext hb1 k0
  have e1 := cell_ext hb1 k1
  have HBL1 := Lib.hid (HBL.out.ext hb1)
  have HBM1 := Lib.hid (HBM.out.ext hb1)
  have HB1 := Lib.hid (below_le HB.out hb1)
  clear hb1 k0 k1 HBL HB HBM
  go_wp2_with fail
  refine (cut_any A ma ca na w1 hc).mono ?_
  rintro e w2 ⟨⟨c', rfl⟩, hb2⟩
  generalize min ma 12 = m' at *
  have h2 := HBL1.out.ext hb2
  have f0 := h2.frozen 0
  have f1 := h2.frozen 1
  have d0 := h2.cell 0
  have d1 := h2.cell 1
  have h3 := (h2.set_ 0 (.int .i64 na)).set_ 1 (.slice A m' c')
  have h4 := ((HBM1.out.ext hb2).far (p := ⟨w.heap.size, 0, none⟩) (by show w.heap.size + 1 ≠ _; simp) (.int .i64 na)).far (p := ⟨w.heap.size, 1, none⟩) (by show w.heap.size + 1 ≠ _; simp) (.slice A m' c')
  have hb3 : Below w.heap.size w ((w2.setCell ⟨w.heap.size, 0, none⟩ (.int .i64 na)).setCell ⟨w.heap.size, 1, none⟩ (.slice A m' c')) :=
    ((below_le HB1.out hb2).setCell (p := ⟨w.heap.size, 0, none⟩) (Nat.le_refl _) _).setCell (p := ⟨w.heap.size, 1, none⟩) (Nat.le_refl _) _
  have k2 := h4.cell 0
  have k3 := h4.cell 1
  simp at k2 k3
  have HB3 := Lib.hid hb3
  have H3 := Lib.hid h3
  have H4 := Lib.hid h4
  clear h2 h3 h4 hb2 hb3 HB1 HBL1 HBM1 e0 e1
  go_wp2_with fail
  generalize (w2.setCell ⟨w.heap.size, 0, none⟩ (.int .i64 na)).setCell ⟨w.heap.size, 1, none⟩ (.slice A m' c') = W3 at *
  clear f0 f1 d0 d1 hc
  refine (cut_any B mb cb nb W3 hcb).mono ?_
  rintro e w4 ⟨⟨d', rfl⟩, hb4⟩
  generalize min mb 12 = l' at *
  have h2 := H4.out.ext hb4
  have f0 := h2.frozen 0
  have f1 := h2.frozen 1
  have d0 := h2.cell 0
  have d1 := h2.cell 1
  have h3 := ((H3.out.ext hb4).far (p := ⟨w.heap.size + 1, 0, none⟩) (by show w.heap.size ≠ _; simp) (.int .i64 nb)).far (p := ⟨w.heap.size + 1, 1, none⟩) (by show w.heap.size ≠ _; simp) (.slice B l' d')
  have h4 := (h2.set_ 0 (.int .i64 nb)).set_ 1 (.slice B l' d')
  have hb5 : Below w.heap.size w ((w4.setCell ⟨w.heap.size + 1, 0, none⟩ (.int .i64 nb)).setCell ⟨w.heap.size + 1, 1, none⟩ (.slice B l' d')) :=
    ((below_le HB3.out hb4).setCell (p := ⟨w.heap.size + 1, 0, none⟩) (by show w.heap.size ≤ w.heap.size + 1; omega) _).setCell (p := ⟨w.heap.size + 1, 1, none⟩) (by show w.heap.size ≤ w.heap.size + 1; omega) _
  have k0 := h3.cell 0
  have k1 := h3.cell 1
  have r0 := h4.cell 0
  have r1 := h4.cell 1
  simp at k0 k1 r0 r1
  have HB5 := Lib.hid hb5
  clear h2 h3 h4 hb4 hb5 HB3 H3 H4 k2 k3
  go_wp2_with fail
  generalize (w4.setCell ⟨w.heap.size + 1, 0, none⟩ (.int .i64 nb)).setCell ⟨w.heap.size + 1, 1, none⟩ (.slice B l' d') = W5 at *
  clear f0 f1 d0 d1 hcb
  obtain ⟨code, q, us, hfu, hlu, hcu, hM1, hM2⟩ := make_both n
  have HM1 := Lib.hid hM1
  have HM2 := Lib.hid hM2
  have HFU := Lib.hid hfu
  have HLU := Lib.hid hlu
  clear hM1 hM2 hfu hlu
  refine (HM1.out aA aB aP W5 (HS.out.ext HB5.out)).mono ?_
  rintro e w6 ⟨C, q1, f1, rfl, hR6, hb6⟩
  have hx := below_box w6 (.cells #[.int .i64 q, .slice C q1 f1] 24)
  have s0 := box0 (w := w6) (t := 24) (v0 := .int .i64 q) (v1 := .slice C q1 f1)
  have s1 := box1 (w := w6) (t := 24) (v0 := .int .i64 q) (v1 := .slice C q1 f1)
  have e0 := cell_ext (below_le hb6 hx) k0
  have e1 := cell_ext (below_le hb6 hx) k1
  have g0 := cell_ext (below_le hb6 hx) r0
  have g1 := cell_ext (below_le hb6 hx) r1
  have HB6 := Lib.hid (below_le HB5.out (below_le hb6 hx))
  have HR6 := Lib.hid (hR6.ext hx)
  clear hR6 hb6 hx k0 k1 r0 r1
  go_wp2_with fail
  generalize w6.alloc (.cells #[.int .i64 q, .slice C q1 f1] 24) = W6 at *
  refine (HM2.out W6).mono ?_
  rintro e w7 ⟨D, q2, f2, rfl, hR7, hb7⟩
  have hx := below_box w7 (.cells #[.int .i64 q, .slice D q2 f2] 24)
  have z0 := box0 (w := w7) (t := 24) (v0 := .int .i64 q) (v1 := .slice D q2 f2)
  have z1 := box1 (w := w7) (t := 24) (v0 := .int .i64 q) (v1 := .slice D q2 f2)
  have k0 := cell_ext (below_le hb7 hx) e0
  have k1 := cell_ext (below_le hb7 hx) e1
  have r0 := cell_ext (below_le hb7 hx) g0
  have r1 := cell_ext (below_le hb7 hx) g1
  have t0 := cell_ext (below_le hb7 hx) s0
  have t1 := cell_ext (below_le hb7 hx) s1
  have HB7 := Lib.hid (below_le HB6.out (below_le hb7 hx))
  have HR7 := Lib.hid (hR7.ext hx)
  have HC7 := Lib.hid ((HR6.out.ext hb7).ext hx)
  clear hR7 hb7 hx e0 e1 g0 g1 s0 s1 HR6 HB6
  go_wp2_with fail
  generalize w7.alloc (.cells #[.int .i64 q, .slice D q2 f2] 24) = W7 at *
  have K0 := ext_cell k0
  have K1 := ext_cell k1
  have R0 := ext_cell r0
  have R1 := ext_cell r1
  have T0 := ext_cell t0
  have T1 := ext_cell t1
  have Z0 := ext_cell z0
  have Z1 := ext_cell z1
  have HA7 := Lib.hid (HR.out.ext HB7.out)
  have HB7' := Lib.hid (HRb.out.ext HB7.out)
  obtain ⟨br, hbr⟩ : ∃ u, rightB na xs = u := ⟨_, rfl⟩
  obtain ⟨bh, hbh⟩ : ∃ u, hasB na xs i = u := ⟨_, rfl⟩
  obtain ⟨bc, hbc⟩ : ∃ u, countN na xs = u := ⟨_, rfl⟩
  obtain ⟨bs, hbs⟩ : ∃ u, sameB na xs nb ys = u := ⟨_, rfl⟩
  have hlc := list_length na xs
  have hcl := count_le na xs
  have ha1 := HA7.out.1
  have ha2 := HB7'.out.1
  have ha3 := HC7.out.1
  have ha4 := HR7.out.1
  have hl3 := HLU.out
  simp at ha1 ha2 ha3 ha4
  have hm1 := HM.out
  have hm2 := HMb.out
  have A1 : Hid (∀ x : Ext W7, Calls Tryd.prog 14 #[.agg #[.int .i64 na, .slice A m' c']] x.val fun e w' => e = .returned (.bool br) ∧ Below x.val.heap.size x.val w') := Lib.hid (fun x => by rw [← hbr]; exact right_any A m' c' na xs x.val (HA7.out.ext x.below) HF.out)
  have A2 : Hid (∀ x : Ext W7, Calls Tryd.prog 29 #[.agg #[.int .i64 na, .slice A m' c']] x.val fun e w' => e = .returned (.bool br) ∧ Below x.val.heap.size x.val w') := Lib.hid (fun x => by rw [← hbr]; exact refright_any A m' c' na xs x.val (HA7.out.ext x.below) HF.out)
  have A3 : Hid (∀ x : Ext W7, Calls Tryd.prog 15 #[.agg #[.int .i64 na, .slice A m' c'], .int .i64 i] x.val fun e w' => e = .returned (.bool bh) ∧ Below x.val.heap.size x.val w') := Lib.hid (fun x => by rw [← hbh]; exact has_any A m' c' na xs i x.val (HA7.out.ext x.below) HF.out)
  have A4 : Hid (∀ x : Ext W7, Calls Tryd.prog 30 #[.agg #[.int .i64 na, .slice A m' c'], .int .i64 i] x.val fun e w' => e = .returned (.bool bh) ∧ Below x.val.heap.size x.val w') := Lib.hid (fun x => by rw [← hbh]; exact refhas_any A m' c' na xs i x.val (HA7.out.ext x.below) HF.out)
  have A5 : Hid (∀ x : Ext W7, Calls Tryd.prog 24 #[.agg #[.int .i64 na, .slice A m' c']] x.val fun e w' => e = .returned (.int .i64 bc) ∧ Below x.val.heap.size x.val w') := Lib.hid (fun x => by rw [← hbc]; exact count_any A m' c' na xs x.val (HA7.out.ext x.below) HF.out)
  have A6 : Hid (∀ x : Ext W7, Calls Tryd.prog 31 #[.agg #[.int .i64 na, .slice A m' c']] x.val fun e w' => e = .returned (.int .i64 bc) ∧ Below x.val.heap.size x.val w') := Lib.hid (fun x => by rw [← hbc, ← hlc]; exact refcount_any A m' c' na xs x.val (HA7.out.ext x.below) HF.out)
  have A7 : Hid (∀ x : Ext W7, Calls Tryd.prog 25 #[.agg #[.int .i64 na, .slice A m' c'], .agg #[.int .i64 nb, .slice B l' d']] x.val fun e w' => e = .returned (.bool bs) ∧ Below x.val.heap.size x.val w') := Lib.hid (fun x => by rw [← hbs]; exact same_any A B na nb m' c' l' d' xs ys x.val (HA7.out.ext x.below) (HB7'.out.ext x.below) HF.out HFb.out (by omega) (by omega))
  have A8 : Hid (∀ x : Ext W7, Calls Tryd.prog 23 #[.agg #[.int .i64 na, .slice A m' c'], .agg #[.int .i64 nb, .slice B l' d']] x.val fun e w' => e = .returned (.bool bs) ∧ Below x.val.heap.size x.val w') := Lib.hid (fun x => by rw [← hbs]; exact refsame_any A B na nb m' c' l' d' xs ys x.val (HA7.out.ext x.below) (HB7'.out.ext x.below) HF.out HFb.out (by omega) (by omega))
  have A9 : Hid (∀ x : Ext W7, Calls Tryd.prog 25 #[.agg #[.int .i64 na, .slice A m' c'], .agg #[.int .i64 na, .slice A m' c']] x.val fun e w' => e = .returned (.bool true) ∧ Below x.val.heap.size x.val w') := Lib.hid (fun x => by
    have h := same_any A A na na m' c' m' c' xs xs x.val (HA7.out.ext x.below) (HA7.out.ext x.below) HF.out HF.out (by omega) (by omega)
    rwa [show sameB na xs na xs = true by simp [sameB]] at h)
  have A10 : Hid (∀ x : Ext W7, Calls Tryd.prog 23 #[.agg #[.int .i64 q, .slice C q1 f1], .agg #[.int .i64 q, .slice D q2 f2]] x.val fun e w' => e = .returned (.bool true) ∧ Below x.val.heap.size x.val w') := Lib.hid (fun x => by
    have h := refsame_any C D q q q1 f1 q2 f2 us us x.val (HC7.out.ext x.below) (HR7.out.ext x.below) HFU.out HFU.out (by omega) (by omega)
    rwa [show sameB q us q us = true by simp [sameB]] at h)
  have HLC : Hid ((listN na xs).length ≤ 1099511627776) := Lib.hid (by rw [hlc]; omega)
  clear hbr hbh hbc hbs hlc hcl ha1 ha2 ha3 ha4 hl3 hm1 hm2 k0 k1 r0 r1 t0 t1 z0 z1
  refine wp_region_mix (by kernel_rfl) ?_
  first | (refine mix_skip 0 rfl (by kernel_rfl) rfl ?_; go_frame) | (refine mix_soft 0 rfl (by kernel_rfl) rfl (fun K hK => ?_); go_simp; first | (refine hK _ ?_; clear hK K) | (apply Exists.intro; refine ⟨fun x => ?_, hK _ ?_⟩; (· (first | (go_at_call 14; with_reducible exact A1.out x) | (go_at_call 29; with_reducible exact A2.out x) | (go_at_call 15; with_reducible exact A3.out x) | (go_at_call 30; with_reducible exact A4.out x) | (go_at_call 24; with_reducible exact A5.out x) | (go_at_call 31; with_reducible exact A6.out x))); clear hK K; try go_frame))
  first | (refine mix_skip 1 rfl (by kernel_rfl) rfl ?_; go_frame) | (refine mix_soft 1 rfl (by kernel_rfl) rfl (fun K hK => ?_); go_simp; first | (refine hK _ ?_; clear hK K) | (apply Exists.intro; refine ⟨fun x => ?_, hK _ ?_⟩; (· (first | (go_at_call 14; with_reducible exact A1.out x) | (go_at_call 29; with_reducible exact A2.out x) | (go_at_call 15; with_reducible exact A3.out x) | (go_at_call 30; with_reducible exact A4.out x) | (go_at_call 24; with_reducible exact A5.out x) | (go_at_call 31; with_reducible exact A6.out x))); clear hK K; try go_frame))
  first | (refine mix_skip 2 rfl (by kernel_rfl) rfl ?_; go_frame) | (refine mix_soft 2 rfl (by kernel_rfl) rfl (fun K hK => ?_); go_simp; first | (refine hK _ ?_; clear hK K) | (apply Exists.intro; refine ⟨fun x => ?_, hK _ ?_⟩; (· (first | (go_at_call 14; with_reducible exact A1.out x) | (go_at_call 29; with_reducible exact A2.out x) | (go_at_call 15; with_reducible exact A3.out x) | (go_at_call 30; with_reducible exact A4.out x) | (go_at_call 24; with_reducible exact A5.out x) | (go_at_call 31; with_reducible exact A6.out x))); clear hK K; try go_frame))
  first | (refine mix_skip 3 rfl (by kernel_rfl) rfl ?_; go_frame) | (refine mix_soft 3 rfl (by kernel_rfl) rfl (fun K hK => ?_); go_simp; first | (refine hK _ ?_; clear hK K) | (apply Exists.intro; refine ⟨fun x => ?_, hK _ ?_⟩; (· (first | (go_at_call 14; with_reducible exact A1.out x) | (go_at_call 29; with_reducible exact A2.out x) | (go_at_call 15; with_reducible exact A3.out x) | (go_at_call 30; with_reducible exact A4.out x) | (go_at_call 24; with_reducible exact A5.out x) | (go_at_call 31; with_reducible exact A6.out x))); clear hK K; try go_frame))
  first | (refine mix_skip 4 rfl (by kernel_rfl) rfl ?_; go_frame) | (refine mix_soft 4 rfl (by kernel_rfl) rfl (fun K hK => ?_); go_simp; first | (refine hK _ ?_; clear hK K) | (apply Exists.intro; refine ⟨fun x => ?_, hK _ ?_⟩; (· (first | (go_at_call 14; with_reducible exact A1.out x) | (go_at_call 29; with_reducible exact A2.out x) | (go_at_call 15; with_reducible exact A3.out x) | (go_at_call 30; with_reducible exact A4.out x) | (go_at_call 24; with_reducible exact A5.out x) | (go_at_call 31; with_reducible exact A6.out x))); clear hK K; try go_frame))
  first | (refine mix_skip 5 rfl (by kernel_rfl) rfl ?_; go_frame) | (refine mix_soft 5 rfl (by kernel_rfl) rfl (fun K hK => ?_); go_simp; first | (refine hK _ ?_; clear hK K) | (apply Exists.intro; refine ⟨fun x => ?_, hK _ ?_⟩; (· (first | (go_at_call 14; with_reducible exact A1.out x) | (go_at_call 29; with_reducible exact A2.out x) | (go_at_call 15; with_reducible exact A3.out x) | (go_at_call 30; with_reducible exact A4.out x) | (go_at_call 24; with_reducible exact A5.out x) | (go_at_call 31; with_reducible exact A6.out x))); clear hK K; try go_frame))
  first | (refine mix_skip 6 rfl (by kernel_rfl) rfl ?_; go_frame) | (refine mix_soft 6 rfl (by kernel_rfl) rfl (fun K hK => ?_); go_simp; first | (refine hK _ ?_; clear hK K) | (apply Exists.intro; refine ⟨fun x => ?_, hK _ ?_⟩; (· (first | (go_at_call 14; with_reducible exact A1.out x) | (go_at_call 29; with_reducible exact A2.out x) | (go_at_call 15; with_reducible exact A3.out x) | (go_at_call 30; with_reducible exact A4.out x) | (go_at_call 24; with_reducible exact A5.out x) | (go_at_call 31; with_reducible exact A6.out x))); clear hK K; try go_frame))
  first | (refine mix_skip 7 rfl (by kernel_rfl) rfl ?_; go_frame) | (refine mix_soft 7 rfl (by kernel_rfl) rfl (fun K hK => ?_); go_simp; first | (refine hK _ ?_; clear hK K) | (apply Exists.intro; refine ⟨fun x => ?_, hK _ ?_⟩; (· (first | (go_at_call 14; with_reducible exact A1.out x) | (go_at_call 29; with_reducible exact A2.out x) | (go_at_call 15; with_reducible exact A3.out x) | (go_at_call 30; with_reducible exact A4.out x) | (go_at_call 24; with_reducible exact A5.out x) | (go_at_call 31; with_reducible exact A6.out x))); clear hK K; try go_frame))
  first | (refine mix_skip 8 rfl (by kernel_rfl) rfl ?_; go_frame) | (refine mix_soft 8 rfl (by kernel_rfl) rfl (fun K hK => ?_); go_simp; first | (refine hK _ ?_; clear hK K) | (apply Exists.intro; refine ⟨fun x => ?_, hK _ ?_⟩; (· (first | (go_at_call 14; with_reducible exact A1.out x) | (go_at_call 29; with_reducible exact A2.out x) | (go_at_call 15; with_reducible exact A3.out x) | (go_at_call 30; with_reducible exact A4.out x) | (go_at_call 24; with_reducible exact A5.out x) | (go_at_call 31; with_reducible exact A6.out x))); clear hK K; try go_frame))
  first | (refine mix_skip 9 rfl (by kernel_rfl) rfl ?_; go_frame) | (refine mix_soft 9 rfl (by kernel_rfl) rfl (fun K hK => ?_); go_simp; first | (refine hK _ ?_; clear hK K) | (apply Exists.intro; refine ⟨fun x => ?_, hK _ ?_⟩; (· (first | (go_at_call 14; with_reducible exact A1.out x) | (go_at_call 29; with_reducible exact A2.out x) | (go_at_call 15; with_reducible exact A3.out x) | (go_at_call 30; with_reducible exact A4.out x) | (go_at_call 24; with_reducible exact A5.out x) | (go_at_call 31; with_reducible exact A6.out x))); clear hK K; try go_frame))
  first | (refine mix_skip 10 rfl (by kernel_rfl) rfl ?_; go_frame) | (refine mix_soft 10 rfl (by kernel_rfl) rfl (fun K hK => ?_); go_simp; first | (refine hK _ ?_; clear hK K) | (apply Exists.intro; refine ⟨fun x => ?_, hK _ ?_⟩; (· (first | (go_at_call 14; with_reducible exact A1.out x) | (go_at_call 29; with_reducible exact A2.out x) | (go_at_call 15; with_reducible exact A3.out x) | (go_at_call 30; with_reducible exact A4.out x) | (go_at_call 24; with_reducible exact A5.out x) | (go_at_call 31; with_reducible exact A6.out x))); clear hK K; try go_frame))
  first | (refine mix_skip 11 rfl (by kernel_rfl) rfl ?_; go_frame) | (refine mix_soft 11 rfl (by kernel_rfl) rfl (fun K hK => ?_); go_simp; first | (refine hK _ ?_; clear hK K) | (apply Exists.intro; refine ⟨fun x => ?_, hK _ ?_⟩; (· (first | (go_at_call 14; with_reducible exact A1.out x) | (go_at_call 29; with_reducible exact A2.out x) | (go_at_call 15; with_reducible exact A3.out x) | (go_at_call 30; with_reducible exact A4.out x) | (go_at_call 24; with_reducible exact A5.out x) | (go_at_call 31; with_reducible exact A6.out x))); clear hK K; try go_frame))
  first | (refine mix_skip 12 rfl (by kernel_rfl) rfl ?_; go_frame) | (refine mix_soft 12 rfl (by kernel_rfl) rfl (fun K hK => ?_); go_simp; first | (refine hK _ ?_; clear hK K) | (apply Exists.intro; refine ⟨fun x => ?_, hK _ ?_⟩; (· (first | (go_at_call 14; with_reducible exact A1.out x) | (go_at_call 29; with_reducible exact A2.out x) | (go_at_call 15; with_reducible exact A3.out x) | (go_at_call 30; with_reducible exact A4.out x) | (go_at_call 24; with_reducible exact A5.out x) | (go_at_call 31; with_reducible exact A6.out x))); clear hK K; try go_frame))
  first | (refine mix_skip 13 rfl (by kernel_rfl) rfl ?_; go_frame) | (refine mix_soft 13 rfl (by kernel_rfl) rfl (fun K hK => ?_); go_simp; first | (refine hK _ ?_; clear hK K) | (apply Exists.intro; refine ⟨fun x => ?_, hK _ ?_⟩; (· (first | (go_at_call 14; with_reducible exact A1.out x) | (go_at_call 29; with_reducible exact A2.out x) | (go_at_call 15; with_reducible exact A3.out x) | (go_at_call 30; with_reducible exact A4.out x) | (go_at_call 24; with_reducible exact A5.out x) | (go_at_call 31; with_reducible exact A6.out x))); clear hK K; try go_frame))
  first | (refine mix_skip 14 rfl (by kernel_rfl) rfl ?_; go_frame) | (refine mix_soft 14 rfl (by kernel_rfl) rfl (fun K hK => ?_); go_simp; first | (refine hK _ ?_; clear hK K) | (apply Exists.intro; refine ⟨fun x => ?_, hK _ ?_⟩; (· (first | (go_at_call 14; with_reducible exact A1.out x) | (go_at_call 29; with_reducible exact A2.out x) | (go_at_call 15; with_reducible exact A3.out x) | (go_at_call 30; with_reducible exact A4.out x) | (go_at_call 24; with_reducible exact A5.out x) | (go_at_call 31; with_reducible exact A6.out x))); clear hK K; try go_frame))
  first | (refine mix_skip 15 rfl (by kernel_rfl) rfl ?_; go_frame) | (refine mix_soft 15 rfl (by kernel_rfl) rfl (fun K hK => ?_); go_simp; first | (refine hK _ ?_; clear hK K) | (apply Exists.intro; refine ⟨fun x => ?_, hK _ ?_⟩; (· (first | (go_at_call 14; with_reducible exact A1.out x) | (go_at_call 29; with_reducible exact A2.out x) | (go_at_call 15; with_reducible exact A3.out x) | (go_at_call 30; with_reducible exact A4.out x) | (go_at_call 24; with_reducible exact A5.out x) | (go_at_call 31; with_reducible exact A6.out x))); clear hK K; try go_frame))
  first | (refine mix_skip 16 rfl (by kernel_rfl) rfl ?_; go_frame) | (refine mix_soft 16 rfl (by kernel_rfl) rfl (fun K hK => ?_); go_simp; first | (refine hK _ ?_; clear hK K) | (apply Exists.intro; refine ⟨fun x => ?_, hK _ ?_⟩; (· (first | (go_at_call 14; with_reducible exact A1.out x) | (go_at_call 29; with_reducible exact A2.out x) | (go_at_call 15; with_reducible exact A3.out x) | (go_at_call 30; with_reducible exact A4.out x) | (go_at_call 24; with_reducible exact A5.out x) | (go_at_call 31; with_reducible exact A6.out x))); clear hK K; try go_frame))
  first | (refine mix_skip 17 rfl (by kernel_rfl) rfl ?_; go_frame) | (refine mix_soft 17 rfl (by kernel_rfl) rfl (fun K hK => ?_); go_simp; first | (refine hK _ ?_; clear hK K) | (apply Exists.intro; refine ⟨fun x => ?_, hK _ ?_⟩; (· (first | (go_at_call 14; with_reducible exact A1.out x) | (go_at_call 29; with_reducible exact A2.out x) | (go_at_call 15; with_reducible exact A3.out x) | (go_at_call 30; with_reducible exact A4.out x) | (go_at_call 24; with_reducible exact A5.out x) | (go_at_call 31; with_reducible exact A6.out x))); clear hK K; try go_frame))
  first | (refine mix_skip 18 rfl (by kernel_rfl) rfl ?_; go_frame) | (refine mix_soft 18 rfl (by kernel_rfl) rfl (fun K hK => ?_); go_simp; first | (refine hK _ ?_; clear hK K) | (apply Exists.intro; refine ⟨fun x => ?_, hK _ ?_⟩; (· (first | (go_at_call 14; with_reducible exact A1.out x) | (go_at_call 29; with_reducible exact A2.out x) | (go_at_call 15; with_reducible exact A3.out x) | (go_at_call 30; with_reducible exact A4.out x) | (go_at_call 24; with_reducible exact A5.out x) | (go_at_call 31; with_reducible exact A6.out x))); clear hK K; try go_frame))
  first | (refine mix_skip 19 rfl (by kernel_rfl) rfl ?_; go_frame) | (refine mix_soft 19 rfl (by kernel_rfl) rfl (fun K hK => ?_); go_simp; first | (refine hK _ ?_; clear hK K) | (apply Exists.intro; refine ⟨fun x => ?_, hK _ ?_⟩; (· (first | (go_at_call 14; with_reducible exact A1.out x) | (go_at_call 29; with_reducible exact A2.out x) | (go_at_call 15; with_reducible exact A3.out x) | (go_at_call 30; with_reducible exact A4.out x) | (go_at_call 24; with_reducible exact A5.out x) | (go_at_call 31; with_reducible exact A6.out x))); clear hK K; try go_frame))
  first | (refine mix_skip 20 rfl (by kernel_rfl) rfl ?_; go_frame) | (refine mix_soft 20 rfl (by kernel_rfl) rfl (fun K hK => ?_); go_simp; first | (refine hK _ ?_; clear hK K) | (apply Exists.intro; refine ⟨fun x => ?_, hK _ ?_⟩; (· (first | (go_at_call 14; with_reducible exact A1.out x) | (go_at_call 29; with_reducible exact A2.out x) | (go_at_call 15; with_reducible exact A3.out x) | (go_at_call 30; with_reducible exact A4.out x) | (go_at_call 24; with_reducible exact A5.out x) | (go_at_call 31; with_reducible exact A6.out x))); clear hK K; try go_frame))
  first | (refine mix_skip 21 rfl (by kernel_rfl) rfl ?_; go_frame) | (refine mix_soft 21 rfl (by kernel_rfl) rfl (fun K hK => ?_); go_simp; first | (refine hK _ ?_; clear hK K) | (apply Exists.intro; refine ⟨fun x => ?_, hK _ ?_⟩; (· (first | (go_at_call 14; with_reducible exact A1.out x) | (go_at_call 29; with_reducible exact A2.out x) | (go_at_call 15; with_reducible exact A3.out x) | (go_at_call 30; with_reducible exact A4.out x) | (go_at_call 24; with_reducible exact A5.out x) | (go_at_call 31; with_reducible exact A6.out x))); clear hK K; try go_frame))
  first | (refine mix_skip 22 rfl (by kernel_rfl) rfl ?_; go_frame) | (refine mix_soft 22 rfl (by kernel_rfl) rfl (fun K hK => ?_); go_simp; first | (refine hK _ ?_; clear hK K) | (apply Exists.intro; refine ⟨fun x => ?_, hK _ ?_⟩; (· (first | (go_at_call 14; with_reducible exact A1.out x) | (go_at_call 29; with_reducible exact A2.out x) | (go_at_call 15; with_reducible exact A3.out x) | (go_at_call 30; with_reducible exact A4.out x) | (go_at_call 24; with_reducible exact A5.out x) | (go_at_call 31; with_reducible exact A6.out x))); clear hK K; try go_frame))
  first | (refine mix_skip 23 rfl (by kernel_rfl) rfl ?_; go_frame) | (refine mix_soft 23 rfl (by kernel_rfl) rfl (fun K hK => ?_); go_simp; first | (refine hK _ ?_; clear hK K) | (apply Exists.intro; refine ⟨fun x => ?_, hK _ ?_⟩; (· (first | (go_at_call 14; with_reducible exact A1.out x) | (go_at_call 29; with_reducible exact A2.out x) | (go_at_call 15; with_reducible exact A3.out x) | (go_at_call 30; with_reducible exact A4.out x) | (go_at_call 24; with_reducible exact A5.out x) | (go_at_call 31; with_reducible exact A6.out x))); clear hK K; try go_frame))
  first | (refine mix_skip 24 rfl (by kernel_rfl) rfl ?_; go_frame) | (refine mix_soft 24 rfl (by kernel_rfl) rfl (fun K hK => ?_); go_simp; first | (refine hK _ ?_; clear hK K) | (apply Exists.intro; refine ⟨fun x => ?_, hK _ ?_⟩; (· (first | (go_at_call 14; with_reducible exact A1.out x) | (go_at_call 29; with_reducible exact A2.out x) | (go_at_call 15; with_reducible exact A3.out x) | (go_at_call 30; with_reducible exact A4.out x) | (go_at_call 24; with_reducible exact A5.out x) | (go_at_call 31; with_reducible exact A6.out x))); clear hK K; try go_frame))
  first | (refine mix_skip 25 rfl (by kernel_rfl) rfl ?_; go_frame) | (refine mix_soft 25 rfl (by kernel_rfl) rfl (fun K hK => ?_); go_simp; first | (refine hK _ ?_; clear hK K) | (apply Exists.intro; refine ⟨fun x => ?_, hK _ ?_⟩; (· (first | (go_at_call 14; with_reducible exact A1.out x) | (go_at_call 29; with_reducible exact A2.out x) | (go_at_call 15; with_reducible exact A3.out x) | (go_at_call 30; with_reducible exact A4.out x) | (go_at_call 24; with_reducible exact A5.out x) | (go_at_call 31; with_reducible exact A6.out x))); clear hK K; try go_frame))
  first | (refine mix_skip 27 rfl (by kernel_rfl) rfl ?_; go_frame) | (refine mix_soft 27 rfl (by kernel_rfl) rfl (fun K hK => ?_); go_simp; first | (refine hK _ ?_; clear hK K) | (apply Exists.intro; refine ⟨fun x => ?_, hK _ ?_⟩; (· (first | (go_at_call 14; with_reducible exact A1.out x) | (go_at_call 29; with_reducible exact A2.out x) | (go_at_call 15; with_reducible exact A3.out x) | (go_at_call 30; with_reducible exact A4.out x) | (go_at_call 24; with_reducible exact A5.out x) | (go_at_call 31; with_reducible exact A6.out x))); clear hK K; try go_frame))
  refine mix_one 26 (by kernel_rfl) ?_
  refine mix_now rfl rfl ?_; intro w8 hb8 hB8 K hK; go_simp
  refine (list_any A m' c' na xs w8 (HA7.out.ext hB8) HF.out).mono ?_
  rintro e w9 ⟨L1, p1, d1, rfl, hL1, -, hb9⟩
  refine hK _ _ (below_le hB8 hb9) ?_
  clear hK K
  try go_frame
  refine mix_one 28 (by kernel_rfl) ?_
  refine mix_now rfl rfl ?_; intro wa hba hBa K hK; go_simp
  refine (reflist_any A m' c' na xs wa (HA7.out.ext hBa) HF.out).mono ?_
  rintro e wb ⟨L2, p2, d2, rfl, hL2, -, hbb⟩
  refine hK _ _ (below_le hBa hbb) ?_
  clear hK K
  try go_frame
  have hL1 := (hL1.ext hba).ext hbb
  clear hba hBa hbb hb9 hB8 hb8
  refine mix_one 29 (by kernel_rfl) ?_
  refine mix_now rfl rfl ?_; intro wc hbc hBc K hK; go_simp
  refine (ints_same L1 L2 p1 d1 p2 d2 (listN na xs) wc (hL1.ext hbc) (hL2.ext hbc) HLC.out).mono ?_
  rintro e wd ⟨rfl, hbd⟩
  refine hK _ _ (below_le hBc hbd) ?_
  clear hK K
  try go_frame
  first | (refine mix_skip 30 rfl (by kernel_rfl) rfl ?_; go_frame) | (refine mix_soft 30 rfl (by kernel_rfl) rfl (fun K hK => ?_); go_simp; first | (refine hK _ ?_; clear hK K) | (apply Exists.intro; refine ⟨fun x => ?_, hK _ ?_⟩; (· (first | (go_at_call 25; with_reducible exact A7.out x) | (go_at_call 23; with_reducible exact A8.out x) | (go_at_call 25; with_reducible exact A9.out x) | (go_at_call 23; with_reducible exact A10.out x))); clear hK K; try go_frame))
  first | (refine mix_skip 31 rfl (by kernel_rfl) rfl ?_; go_frame) | (refine mix_soft 31 rfl (by kernel_rfl) rfl (fun K hK => ?_); go_simp; first | (refine hK _ ?_; clear hK K) | (apply Exists.intro; refine ⟨fun x => ?_, hK _ ?_⟩; (· (first | (go_at_call 25; with_reducible exact A7.out x) | (go_at_call 23; with_reducible exact A8.out x) | (go_at_call 25; with_reducible exact A9.out x) | (go_at_call 23; with_reducible exact A10.out x))); clear hK K; try go_frame))
  first | (refine mix_skip 32 rfl (by kernel_rfl) rfl ?_; go_frame) | (refine mix_soft 32 rfl (by kernel_rfl) rfl (fun K hK => ?_); go_simp; first | (refine hK _ ?_; clear hK K) | (apply Exists.intro; refine ⟨fun x => ?_, hK _ ?_⟩; (· (first | (go_at_call 25; with_reducible exact A7.out x) | (go_at_call 23; with_reducible exact A8.out x) | (go_at_call 25; with_reducible exact A9.out x) | (go_at_call 23; with_reducible exact A10.out x))); clear hK K; try go_frame))
  first | (refine mix_skip 33 rfl (by kernel_rfl) rfl ?_; go_frame) | (refine mix_soft 33 rfl (by kernel_rfl) rfl (fun K hK => ?_); go_simp; first | (refine hK _ ?_; clear hK K) | (apply Exists.intro; refine ⟨fun x => ?_, hK _ ?_⟩; (· (first | (go_at_call 25; with_reducible exact A7.out x) | (go_at_call 23; with_reducible exact A8.out x) | (go_at_call 25; with_reducible exact A9.out x) | (go_at_call 23; with_reducible exact A10.out x))); clear hK K; try go_frame))
  first | (refine mix_skip 34 rfl (by kernel_rfl) rfl ?_; go_frame) | (refine mix_soft 34 rfl (by kernel_rfl) rfl (fun K hK => ?_); go_simp; first | (refine hK _ ?_; clear hK K) | (apply Exists.intro; refine ⟨fun x => ?_, hK _ ?_⟩; (· (first | (go_at_call 25; with_reducible exact A7.out x) | (go_at_call 23; with_reducible exact A8.out x) | (go_at_call 25; with_reducible exact A9.out x) | (go_at_call 23; with_reducible exact A10.out x))); clear hK K; try go_frame))
  first | (refine mix_skip 35 rfl (by kernel_rfl) rfl ?_; go_frame) | (refine mix_soft 35 rfl (by kernel_rfl) rfl (fun K hK => ?_); go_simp; first | (refine hK _ ?_; clear hK K) | (apply Exists.intro; refine ⟨fun x => ?_, hK _ ?_⟩; (· (first | (go_at_call 25; with_reducible exact A7.out x) | (go_at_call 23; with_reducible exact A8.out x) | (go_at_call 25; with_reducible exact A9.out x) | (go_at_call 23; with_reducible exact A10.out x))); clear hK K; try go_frame))
  first | (refine mix_skip 36 rfl (by kernel_rfl) rfl ?_; go_frame) | (refine mix_soft 36 rfl (by kernel_rfl) rfl (fun K hK => ?_); go_simp; first | (refine hK _ ?_; clear hK K) | (apply Exists.intro; refine ⟨fun x => ?_, hK _ ?_⟩; (· (first | (go_at_call 25; with_reducible exact A7.out x) | (go_at_call 23; with_reducible exact A8.out x) | (go_at_call 25; with_reducible exact A9.out x) | (go_at_call 23; with_reducible exact A10.out x))); clear hK K; try go_frame))
  first | (refine mix_skip 37 rfl (by kernel_rfl) rfl ?_; go_frame) | (refine mix_soft 37 rfl (by kernel_rfl) rfl (fun K hK => ?_); go_simp; first | (refine hK _ ?_; clear hK K) | (apply Exists.intro; refine ⟨fun x => ?_, hK _ ?_⟩; (· (first | (go_at_call 25; with_reducible exact A7.out x) | (go_at_call 23; with_reducible exact A8.out x) | (go_at_call 25; with_reducible exact A9.out x) | (go_at_call 23; with_reducible exact A10.out x))); clear hK K; try go_frame))
  first | (refine mix_skip 38 rfl (by kernel_rfl) rfl ?_; go_frame) | (refine mix_soft 38 rfl (by kernel_rfl) rfl (fun K hK => ?_); go_simp; first | (refine hK _ ?_; clear hK K) | (apply Exists.intro; refine ⟨fun x => ?_, hK _ ?_⟩; (· (first | (go_at_call 25; with_reducible exact A7.out x) | (go_at_call 23; with_reducible exact A8.out x) | (go_at_call 25; with_reducible exact A9.out x) | (go_at_call 23; with_reducible exact A10.out x))); clear hK K; try go_frame))
  first | (refine mix_skip 39 rfl (by kernel_rfl) rfl ?_; go_frame) | (refine mix_soft 39 rfl (by kernel_rfl) rfl (fun K hK => ?_); go_simp; first | (refine hK _ ?_; clear hK K) | (apply Exists.intro; refine ⟨fun x => ?_, hK _ ?_⟩; (· (first | (go_at_call 25; with_reducible exact A7.out x) | (go_at_call 23; with_reducible exact A8.out x) | (go_at_call 25; with_reducible exact A9.out x) | (go_at_call 23; with_reducible exact A10.out x))); clear hK K; try go_frame))
  first | (refine mix_skip 40 rfl (by kernel_rfl) rfl ?_; go_frame) | (refine mix_soft 40 rfl (by kernel_rfl) rfl (fun K hK => ?_); go_simp; first | (refine hK _ ?_; clear hK K) | (apply Exists.intro; refine ⟨fun x => ?_, hK _ ?_⟩; (· (first | (go_at_call 25; with_reducible exact A7.out x) | (go_at_call 23; with_reducible exact A8.out x) | (go_at_call 25; with_reducible exact A9.out x) | (go_at_call 23; with_reducible exact A10.out x))); clear hK K; try go_frame))
  first | (refine mix_skip 41 rfl (by kernel_rfl) rfl ?_; go_frame) | (refine mix_soft 41 rfl (by kernel_rfl) rfl (fun K hK => ?_); go_simp; first | (refine hK _ ?_; clear hK K) | (apply Exists.intro; refine ⟨fun x => ?_, hK _ ?_⟩; (· (first | (go_at_call 25; with_reducible exact A7.out x) | (go_at_call 23; with_reducible exact A8.out x) | (go_at_call 25; with_reducible exact A9.out x) | (go_at_call 23; with_reducible exact A10.out x))); clear hK K; try go_frame))
  first | (refine mix_skip 42 rfl (by kernel_rfl) rfl ?_; go_frame) | (refine mix_soft 42 rfl (by kernel_rfl) rfl (fun K hK => ?_); go_simp; first | (refine hK _ ?_; clear hK K) | (apply Exists.intro; refine ⟨fun x => ?_, hK _ ?_⟩; (· (first | (go_at_call 25; with_reducible exact A7.out x) | (go_at_call 23; with_reducible exact A8.out x) | (go_at_call 25; with_reducible exact A9.out x) | (go_at_call 23; with_reducible exact A10.out x))); clear hK K; try go_frame))
  first | (refine mix_skip 43 rfl (by kernel_rfl) rfl ?_; go_frame) | (refine mix_soft 43 rfl (by kernel_rfl) rfl (fun K hK => ?_); go_simp; first | (refine hK _ ?_; clear hK K) | (apply Exists.intro; refine ⟨fun x => ?_, hK _ ?_⟩; (· (first | (go_at_call 25; with_reducible exact A7.out x) | (go_at_call 23; with_reducible exact A8.out x) | (go_at_call 25; with_reducible exact A9.out x) | (go_at_call 23; with_reducible exact A10.out x))); clear hK K; try go_frame))
  first | (refine mix_skip 44 rfl (by kernel_rfl) rfl ?_; go_frame) | (refine mix_soft 44 rfl (by kernel_rfl) rfl (fun K hK => ?_); go_simp; first | (refine hK _ ?_; clear hK K) | (apply Exists.intro; refine ⟨fun x => ?_, hK _ ?_⟩; (· (first | (go_at_call 25; with_reducible exact A7.out x) | (go_at_call 23; with_reducible exact A8.out x) | (go_at_call 25; with_reducible exact A9.out x) | (go_at_call 23; with_reducible exact A10.out x))); clear hK K; try go_frame))
  first | (refine mix_skip 45 rfl (by kernel_rfl) rfl ?_; go_frame) | (refine mix_soft 45 rfl (by kernel_rfl) rfl (fun K hK => ?_); go_simp; first | (refine hK _ ?_; clear hK K) | (apply Exists.intro; refine ⟨fun x => ?_, hK _ ?_⟩; (· (first | (go_at_call 25; with_reducible exact A7.out x) | (go_at_call 23; with_reducible exact A8.out x) | (go_at_call 25; with_reducible exact A9.out x) | (go_at_call 23; with_reducible exact A10.out x))); clear hK K; try go_frame))
  first | (refine mix_skip 46 rfl (by kernel_rfl) rfl ?_; go_frame) | (refine mix_soft 46 rfl (by kernel_rfl) rfl (fun K hK => ?_); go_simp; first | (refine hK _ ?_; clear hK K) | (apply Exists.intro; refine ⟨fun x => ?_, hK _ ?_⟩; (· (first | (go_at_call 25; with_reducible exact A7.out x) | (go_at_call 23; with_reducible exact A8.out x) | (go_at_call 25; with_reducible exact A9.out x) | (go_at_call 23; with_reducible exact A10.out x))); clear hK K; try go_frame))
  first | (refine mix_skip 47 rfl (by kernel_rfl) rfl ?_; go_frame) | (refine mix_soft 47 rfl (by kernel_rfl) rfl (fun K hK => ?_); go_simp; first | (refine hK _ ?_; clear hK K) | (apply Exists.intro; refine ⟨fun x => ?_, hK _ ?_⟩; (· (first | (go_at_call 25; with_reducible exact A7.out x) | (go_at_call 23; with_reducible exact A8.out x) | (go_at_call 25; with_reducible exact A9.out x) | (go_at_call 23; with_reducible exact A10.out x))); clear hK K; try go_frame))
  first | (refine mix_skip 48 rfl (by kernel_rfl) rfl ?_; go_frame) | (refine mix_soft 48 rfl (by kernel_rfl) rfl (fun K hK => ?_); go_simp; first | (refine hK _ ?_; clear hK K) | (apply Exists.intro; refine ⟨fun x => ?_, hK _ ?_⟩; (· (first | (go_at_call 25; with_reducible exact A7.out x) | (go_at_call 23; with_reducible exact A8.out x) | (go_at_call 25; with_reducible exact A9.out x) | (go_at_call 23; with_reducible exact A10.out x))); clear hK K; try go_frame))
  first | (refine mix_skip 49 rfl (by kernel_rfl) rfl ?_; go_frame) | (refine mix_soft 49 rfl (by kernel_rfl) rfl (fun K hK => ?_); go_simp; first | (refine hK _ ?_; clear hK K) | (apply Exists.intro; refine ⟨fun x => ?_, hK _ ?_⟩; (· (first | (go_at_call 25; with_reducible exact A7.out x) | (go_at_call 23; with_reducible exact A8.out x) | (go_at_call 25; with_reducible exact A9.out x) | (go_at_call 23; with_reducible exact A10.out x))); clear hK K; try go_frame))
  first | (refine mix_skip 50 rfl (by kernel_rfl) rfl ?_; go_frame) | (refine mix_soft 50 rfl (by kernel_rfl) rfl (fun K hK => ?_); go_simp; first | (refine hK _ ?_; clear hK K) | (apply Exists.intro; refine ⟨fun x => ?_, hK _ ?_⟩; (· (first | (go_at_call 25; with_reducible exact A7.out x) | (go_at_call 23; with_reducible exact A8.out x) | (go_at_call 25; with_reducible exact A9.out x) | (go_at_call 23; with_reducible exact A10.out x))); clear hK K; try go_frame))
  first | (refine mix_skip 51 rfl (by kernel_rfl) rfl ?_; go_frame) | (refine mix_soft 51 rfl (by kernel_rfl) rfl (fun K hK => ?_); go_simp; first | (refine hK _ ?_; clear hK K) | (apply Exists.intro; refine ⟨fun x => ?_, hK _ ?_⟩; (· (first | (go_at_call 25; with_reducible exact A7.out x) | (go_at_call 23; with_reducible exact A8.out x) | (go_at_call 25; with_reducible exact A9.out x) | (go_at_call 23; with_reducible exact A10.out x))); clear hK K; try go_frame))
  first | (refine mix_skip 52 rfl (by kernel_rfl) rfl ?_; go_frame) | (refine mix_soft 52 rfl (by kernel_rfl) rfl (fun K hK => ?_); go_simp; first | (refine hK _ ?_; clear hK K) | (apply Exists.intro; refine ⟨fun x => ?_, hK _ ?_⟩; (· (first | (go_at_call 25; with_reducible exact A7.out x) | (go_at_call 23; with_reducible exact A8.out x) | (go_at_call 25; with_reducible exact A9.out x) | (go_at_call 23; with_reducible exact A10.out x))); clear hK K; try go_frame))
  first | (refine mix_skip 53 rfl (by kernel_rfl) rfl ?_; go_frame) | (refine mix_soft 53 rfl (by kernel_rfl) rfl (fun K hK => ?_); go_simp; first | (refine hK _ ?_; clear hK K) | (apply Exists.intro; refine ⟨fun x => ?_, hK _ ?_⟩; (· (first | (go_at_call 25; with_reducible exact A7.out x) | (go_at_call 23; with_reducible exact A8.out x) | (go_at_call 25; with_reducible exact A9.out x) | (go_at_call 23; with_reducible exact A10.out x))); clear hK K; try go_frame))
  first | (refine mix_skip 54 rfl (by kernel_rfl) rfl ?_; go_frame) | (refine mix_soft 54 rfl (by kernel_rfl) rfl (fun K hK => ?_); go_simp; first | (refine hK _ ?_; clear hK K) | (apply Exists.intro; refine ⟨fun x => ?_, hK _ ?_⟩; (· (first | (go_at_call 25; with_reducible exact A7.out x) | (go_at_call 23; with_reducible exact A8.out x) | (go_at_call 25; with_reducible exact A9.out x) | (go_at_call 23; with_reducible exact A10.out x))); clear hK K; try go_frame))
  first | (refine mix_skip 55 rfl (by kernel_rfl) rfl ?_; go_frame) | (refine mix_soft 55 rfl (by kernel_rfl) rfl (fun K hK => ?_); go_simp; first | (refine hK _ ?_; clear hK K) | (apply Exists.intro; refine ⟨fun x => ?_, hK _ ?_⟩; (· (first | (go_at_call 25; with_reducible exact A7.out x) | (go_at_call 23; with_reducible exact A8.out x) | (go_at_call 25; with_reducible exact A9.out x) | (go_at_call 23; with_reducible exact A10.out x))); clear hK K; try go_frame))
  refine mix_nil (by kernel_rfl) fun we _ hBe => ?_
  go_wp2
  go_ret
  exact ⟨rfl, below_le HB7.out hBe⟩

end Go.Proofs.YtpoopkieoidhjaaDoor
