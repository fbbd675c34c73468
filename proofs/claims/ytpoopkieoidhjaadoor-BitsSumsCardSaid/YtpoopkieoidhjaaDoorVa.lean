/-
  What is proved: BitsSums returns true. No condition beyond those stated.
-/
import Derived.Test.YtpoopkieoidhjaaDoorSa
import Derived.Test.YtpoopkieoidhjaaDoorSr
import Derived.Laws.BitsLemmas
namespace Go.Proofs.YtpoopkieoidhjaaDoor
open Go.RowKit Go.Shelf

set_option maxRecDepth 100000 in
set_option maxHeartbeats 2000000 in
theorem sums_any (A : Option Addr) (ma ca : Nat) (na : Int) (wa : List Nat) (B : Option Addr) (mb cb : Nat) (nb : Int) (wb : List Nat) (aA aB aP : Addr) (w : World) (hS : BSent w aA aB aP) (hR : Row w A ma (wa.map U32)) (hF : Fits wa) (hc : ma ≤ ca) (hRb : Row w B mb (wb.map U32)) (hFb : Fits wb) (hcb : mb ≤ cb) :
    Calls Tryd.prog 5 #[.agg #[.int .i64 na, .slice A ma ca], .agg #[.int .i64 nb, .slice B mb cb]] w (Holds w) := by
  have hx : Below w.heap.size w ((w.alloc (.cells #[.int .i64 na, .slice A ma ca] 24)).alloc (.cells #[.int .i64 nb, .slice B mb cb] 24)) := below_le (below_box _ _) (below_box _ _)
  have k0 : ((w.alloc (.cells #[.int .i64 na, .slice A ma ca] 24)).alloc (.cells #[.int .i64 nb, .slice B mb cb] 24)).cell? ⟨w.heap.size, 0, none⟩ = some (.int .i64 na) := by simp [go_sem]
  have k1 : ((w.alloc (.cells #[.int .i64 na, .slice A ma ca] 24)).alloc (.cells #[.int .i64 nb, .slice B mb cb] 24)).cell? ⟨w.heap.size, 1, none⟩ = some (.slice A ma ca) := by simp [go_sem]
  have hbl : Blk ((w.alloc (.cells #[.int .i64 na, .slice A ma ca] 24)).alloc (.cells #[.int .i64 nb, .slice B mb cb] 24)) w.heap.size 24 #[.int .i64 na, .slice A ma ca] := Blk.alloc (heap_new rfl _) _
  have hbm : Blk ((w.alloc (.cells #[.int .i64 na, .slice A ma ca] 24)).alloc (.cells #[.int .i64 nb, .slice B mb cb] 24)) (w.heap.size + 1) 24 #[.int .i64 nb, .slice B mb cb] := heap_new (by simp) _
  have HS := Lib.hid hS
  have HR := Lib.hid (row_cut hR)
  have HF := Lib.hid (fits_take hF 12)
  have HRb := Lib.hid (row_cut hRb)
  have HFb := Lib.hid (fits_take hFb 12)
  have HM : Hid (min ma 12 ≤ 12) := Lib.hid (Nat.min_le_right _ _)
  have HMb : Hid (min mb 12 ≤ 12) := Lib.hid (Nat.min_le_right _ _)
  generalize wa.take 12 = xs at HR HF
  generalize wb.take 12 = ys at HRb HFb
  have HB := Lib.hid hx
  have HBL := Lib.hid hbl
  have HBM := Lib.hid hbm
  clear hS hR hRb hx hbl hbm hF hFb
  go_enter Tryd.func5, Tryd.ntmps5
  go_wp2_with fail
  generalize (w.alloc (.cells #[.int .i64 na, .slice A ma ca] 24)).alloc (.cells #[.int .i64 nb, .slice B mb cb] 24) = W0 at *
  refine (shown_any aA aB aP W0 (HS.out.ext HB.out)).mono ?_
  rintro e w1 ⟨rfl, hb1⟩
  have e0 := cell_ext hb1 k0
  have e1 := cell_ext hb1 k1
  have HBL1 := Lib.hid (HBL.out.ext hb1)
  have HBM1 := Lib.hid (HBM.out.ext hb1)
  have HB1 := Lib.hid (below_le HB.out hb1)
  clear hb1 k0 k1 HBL HB HBM
  go_wp2_with fail
  refine (cut_any A ma ca na w1 hc).mono ?_
  rintro e w2 ⟨⟨c', rfl⟩, hb2⟩
  generalize min ma 12 = m' at *
  have h2 := HBL1.out.ext hb2
  have f0 := h2.frozen 0
  have f1 := h2.frozen 1
  have d0 := h2.cell 0
  have d1 := h2.cell 1
  have h3 := (h2.set_ 0 (.int .i64 na)).set_ 1 (.slice A m' c')
  have h4 := ((HBM1.out.ext hb2).far (p := ⟨w.heap.size, 0, none⟩) (by show w.heap.size + 1 ≠ _; simp) (.int .i64 na)).far (p := ⟨w.heap.size, 1, none⟩) (by show w.heap.size + 1 ≠ _; simp) (.slice A m' c')
  have hb3 : Below w.heap.size w ((w2.setCell ⟨w.heap.size, 0, none⟩ (.int .i64 na)).setCell ⟨w.heap.size, 1, none⟩ (.slice A m' c')) :=
    ((below_le HB1.out hb2).setCell (p := ⟨w.heap.size, 0, none⟩) (Nat.le_refl _) _).setCell (p := ⟨w.heap.size, 1, none⟩) (Nat.le_refl _) _
  have k2 := h4.cell 0
  have k3 := h4.cell 1
  simp at k2 k3
  have HB3 := Lib.hid hb3
  have H3 := Lib.hid h3
  have H4 := Lib.hid h4
  clear h2 h3 h4 hb2 hb3 HB1 HBL1 HBM1 e0 e1
  go_wp2_with fail
  generalize (w2.setCell ⟨w.heap.size, 0, none⟩ (.int .i64 na)).setCell ⟨w.heap.size, 1, none⟩ (.slice A m' c') = W3 at *
  clear f0 f1 d0 d1 hc
  refine (cut_any B mb cb nb W3 hcb).mono ?_
  rintro e w4 ⟨⟨d', rfl⟩, hb4⟩
  generalize min mb 12 = l' at *
  have h2 := H4.out.ext hb4
  have f0 := h2.frozen 0
  have f1 := h2.frozen 1
  have d0 := h2.cell 0
  have d1 := h2.cell 1
  have h3 := ((H3.out.ext hb4).far (p := ⟨w.heap.size + 1, 0, none⟩) (by show w.heap.size ≠ _; simp) (.int .i64 nb)).far (p := ⟨w.heap.size + 1, 1, none⟩) (by show w.heap.size ≠ _; simp) (.slice B l' d')
  have h4 := (h2.set_ 0 (.int .i64 nb)).set_ 1 (.slice B l' d')
  have hb5 : Below w.heap.size w ((w4.setCell ⟨w.heap.size + 1, 0, none⟩ (.int .i64 nb)).setCell ⟨w.heap.size + 1, 1, none⟩ (.slice B l' d')) :=
    ((below_le HB3.out hb4).setCell (p := ⟨w.heap.size + 1, 0, none⟩) (by show w.heap.size ≤ w.heap.size + 1; omega) _).setCell (p := ⟨w.heap.size + 1, 1, none⟩) (by show w.heap.size ≤ w.heap.size + 1; omega) _
  have k0 := h3.cell 0
  have k1 := h3.cell 1
  have r0 := h4.cell 0
  have r1 := h4.cell 1
  simp at k0 k1 r0 r1
  have HB5 := Lib.hid hb5
  clear h2 h3 h4 hb4 hb5 HB3 H3 H4 k2 k3
  go_wp2_with fail
  generalize (w4.setCell ⟨w.heap.size + 1, 0, none⟩ (.int .i64 nb)).setCell ⟨w.heap.size + 1, 1, none⟩ (.slice B l' d') = W5 at *
  clear f0 f1 d0 d1 hcb
  cases ho : eitherOk na xs nb ys
  · refine (either_any A B na nb m' c' l' d' xs ys aA aB aP W5 (HS.out.ext HB5.out) (HR.out.ext HB5.out) (HRb.out.ext HB5.out) HF.out HFb.out 20 (by rw [ho, chk_false])).mono ?_
    rintro e w6 h6
    obtain ⟨C, q, f, rfl, hR6, hb6⟩ := h6.bad (by omega)
    have hx := below_box w6 (.cells #[.int .i64 0, .slice C q f] 24)
    have HB6 := Lib.hid (below_le HB5.out (below_le hb6 hx))
    have HR6 := Lib.hid (hR6.ext hx)
    clear h6 hb6 hx k0 k1 r0 r1 ho hR6
    go_wp2_with fail
    generalize w6.alloc (.cells #[.int .i64 0, .slice C q f] 24) = W6 at *
    refine (count_any C q f 0 [] W6 HR6.out (by simp [Fits])).mono ?_
    rw [show countN 0 [] = 0 by decide]
    rintro e w7 ⟨rfl, hb7⟩
    have HB7 := Lib.hid (below_le HB6.out hb7)
    clear hb7
    go_wp2
    go_ret
    exact ⟨rfl, HB7.out⟩
  · obtain ⟨⟨hx1, hy1⟩, rfl⟩ : (rightB na xs = true ∧ rightB nb ys = true) ∧ na = nb := by simpa [eitherOk] using ho
    obtain ⟨q0, q1, q2, _⟩ := rightB_elim hx1
    have b1 := right_or hx1 hy1
    have b2 := count_or_ge hx1 hy1
    have b3 := off_on b1
    have b4 := fits_orW HF.out HFb.out
    refine (either_any A B na na m' c' l' d' xs ys aA aB aP W5 (HS.out.ext HB5.out) (HR.out.ext HB5.out) (HRb.out.ext HB5.out) HF.out HFb.out 0 (by rw [ho, chk_true])).mono ?_
    rintro e w6 h6
    obtain ⟨C, q, f, rfl, hR6, hb6⟩ := h6.ok
    generalize orW xs ys = us at *
    have hx := below_box w6 (.cells #[.int .i64 na, .slice C q f] 24)
    have s0 : (w6.alloc (.cells #[.int .i64 na, .slice C q f] 24)).cell? ⟨w6.heap.size, 0, none⟩ = some (.int .i64 na) := by simp [go_sem]
    have s1 : (w6.alloc (.cells #[.int .i64 na, .slice C q f] 24)).cell? ⟨w6.heap.size, 1, none⟩ = some (.slice C q f) := by simp [go_sem]
    have hbx := below_le hb6 hx
    have e0 := cell_ext hbx k0
    have e1 := cell_ext hbx k1
    have g0 := cell_ext hbx r0
    have g1 := cell_ext hbx r1
    have HB6 := Lib.hid (below_le HB5.out hbx)
    have HR6 := Lib.hid (hR6.ext hx)
    have B1 := Lib.hid b1
    have B2 := Lib.hid b2
    have B3 := Lib.hid b3
    have B4 := Lib.hid b4
    clear h6 hb6 hx hbx k0 k1 r0 r1 hR6 ho hx1 hy1 b1 b2 b3 b4 q2
    go_wp2_with fail
    generalize w6.alloc (.cells #[.int .i64 na, .slice C q f] 24) = W6 at *
    refine (next_any C q f na us 0 false W6 HR6.out B4.out).mono ?_
    obtain ⟨o, hn⟩ : ∃ o, nextN na us 0 false = o := ⟨_, rfl⟩
    have hI : SumI us na.toNat o 0 := by rw [← hn]; exact sum_start B1.out
    rw [hn]
    rintro e w7 ⟨rfl, hb7⟩
    have k0 := cell_ext hb7 e0
    have k1 := cell_ext hb7 e1
    have r0 := cell_ext hb7 g0
    have r1 := cell_ext hb7 g1
    have t0 := cell_ext hb7 s0
    have t1 := cell_ext hb7 s1
    have HB7 := Lib.hid (below_le HB6.out hb7)
    have HR7 := Lib.hid (HR6.out.ext hb7)
    clear hn hb7 e0 e1 g0 g1 s0 s1 HR6 HB6
    go_wp2
    go_loopw [8, 9, 10] (fun s t u wr => ∃ (o : Option Nat) (x : Nat), s = .int .i64 x ∧ t = .int .i64 (o.getD 0 : Nat) ∧ u = .bool o.isSome ∧ SumI us na.toNat o x ∧ Below w7.heap.size w7 wr) (fun s _ _ _ => na.toNat + 1 - (intOf s).toNat)
    case atStart => exact ⟨o, 0, rfl, rfl, rfl, hI, Below.refl _ _⟩
    case round =>
      obtain ⟨o, x, rfl, rfl, rfl, hJ, hb⟩ := hrel
      have HJ := Lib.hid hJ
      have Hb := Lib.hid hb
      have e0 := cell_ext hb t0
      have e1 := cell_ext hb t1
      cases o with
      | some p =>
        obtain ⟨j1, j2, j3⟩ := hJ
        have j4 := offN_le us p
        have hle : (x : Int) ≤ na := by omega
        have hxs : (x : Int) ≤ 20000 := by omega
        have hps : (p : Int) ≤ 20000 := by omega
        have J3 := Lib.hid j3
        have J4 := Lib.hid j4
        clear hb j2 j3 j4
        simp only [Option.getD_some, Option.isSome_some]
        go_wp2_with fail
        refine (next_any C q f na us ((p : Int) + 1) false wr (HR7.out.ext Hb.out) B4.out).mono ?_
        obtain ⟨o, hn⟩ : ∃ o, nextN na us ((p : Int) + 1) false = o := ⟨_, rfl⟩
        have hI2 : SumI us na.toNat o (x + 1) := by rw [← hn]; exact sum_step B1.out HJ.out
        rw [hn]
        rintro e w8 ⟨rfl, hb8⟩
        have Hb8 := Lib.hid hb8
        have HI2 := Lib.hid hI2
        clear hb8 hI2 hn
        go_wp2
        go_roundw
        case rel => exact ⟨o, x + 1, by go_num, rfl, rfl, HI2.out, below_le Hb.out Hb8.out⟩
        case measure => simp [intOf]; omega
      | none =>
        simp only [Option.getD_none, Option.isSome_none]
        have hx : x = offN us na.toNat := HJ.out
        obtain ⟨b1, b2, b3⟩ := B2.out
        have b4 := B3.out
        have K0 := ext_cell (cell_ext Hb.out k0)
        have K1 := ext_cell (cell_ext Hb.out k1)
        have R0 := ext_cell (cell_ext Hb.out r0)
        have R1 := ext_cell (cell_ext Hb.out r1)
        have T0 := ext_cell (cell_ext Hb.out t0)
        have T1 := ext_cell (cell_ext Hb.out t1)
        obtain ⟨u, hu⟩ : ∃ u, countN na us = u := ⟨_, rfl⟩
        obtain ⟨y, hy⟩ : ∃ y, countN na xs = y := ⟨_, rfl⟩
        obtain ⟨z, hz⟩ : ∃ z, countN na ys = z := ⟨_, rfl⟩
        have AC : Hid (∀ v : Ext wr, Calls Tryd.prog 24 #[.agg #[.int .i64 na, .slice C q f]] v.val fun e w' => e = .returned (.int .i64 u) ∧ Below v.val.heap.size v.val w') := Lib.hid (fun v => by rw [← hu]; exact count_any C q f na us v.val ((HR7.out.ext Hb.out).ext v.below) B4.out)
        have AA : Hid (∀ v : Ext wr, Calls Tryd.prog 24 #[.agg #[.int .i64 na, .slice A m' c']] v.val fun e w' => e = .returned (.int .i64 y) ∧ Below v.val.heap.size v.val w') := Lib.hid (fun v => by rw [← hy]; exact count_any A m' c' na xs v.val ((HR.out.ext (below_le HB7.out Hb.out)).ext v.below) HF.out)
        have AB : Hid (∀ v : Ext wr, Calls Tryd.prog 24 #[.agg #[.int .i64 na, .slice B l' d']] v.val fun e w' => e = .returned (.int .i64 z) ∧ Below v.val.heap.size v.val w') := Lib.hid (fun v => by rw [← hz]; exact count_any B l' d' na ys v.val ((HRb.out.ext (below_le HB7.out Hb.out)).ext v.below) HFb.out)
        rw [hu] at b1 b2 b3 b4
        rw [hy] at b1 b3
        rw [hz] at b2 b3
        have u1 : (u : Int) ≤ 20000 := by omega
        have y1 : (y : Int) ≤ 20000 := by omega
        have z1 : (z : Int) ≤ 20000 := by omega
        have x1 : (x : Int) ≤ 20000 := by omega
        have n1 : decide (y ≤ u) = true := by simpa using b1
        have n2 : decide (z ≤ u) = true := by simpa using b2
        have d1 : decide ((y : Int) ≤ (u : Int)) = true := by simp; omega
        have d2 : decide ((z : Int) ≤ (u : Int)) = true := by simp; omega
        have w1 : IntKind.i64.wrap ((y : Int) + (z : Int)) = (y : Int) + (z : Int) := by rw [IntKind.wrap_i64]; omega
        have w2 : IntKind.i64.wrap ((x : Int) + (u : Int)) = na := by rw [IntKind.wrap_i64]; omega
        have d3 : decide ((u : Int) ≤ IntKind.i64.wrap ((y : Int) + (z : Int))) = true := by rw [w1]; simp; omega
        have W2 := Lib.hid w2
        clear w1 w2
        clear b1 b2 b3 b4 hu hy hz hx hJ hb
        go_wp2
        refine wp_region_plan [(0, true), (1, true), (2, true), (3, true), (4, true), (5, true), (6, true), (7, true), (8, true), (9, true), (10, true), (11, true), (12, true), (13, true), (14, true), (15, true), (16, true), (17, true), (18, true), (19, true), (20, true), (21, true), (22, true), (23, true), (24, true), (25, true), (26, true), (27, true), (28, true), (29, true), (30, true), (31, true), (32, true), (33, true), (34, true)] (by kernel_rfl) (by kernel_rfl) ?_
        repeat (first | (refine plan_skip rfl rfl ?_; go_frame) | (refine plan_soft rfl rfl (fun K hK => ?_); go_simp; first | (refine hK _ ?_; clear hK K) | (apply Exists.intro; refine ⟨fun x => ?_, hK _ ?_⟩; (· (first | (go_at_call 24; with_reducible exact AC.out x) | (go_at_call 24; with_reducible exact AA.out x) | (go_at_call 24; with_reducible exact AB.out x))); clear hK K; try go_frame)))
        refine plan_nil ?_; intro w9 h0b; have HB9 := Lib.hid h0b; clear h0b
        go_wp2
        go_ret
        exact ⟨ret_bool (by rw [W2.out]; simp), below_le HB7.out (below_le Hb.out HB9.out)⟩

end Go.Proofs.YtpoopkieoidhjaaDoor
