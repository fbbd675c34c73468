/-
  What is proved: BitsEither returns true. No condition beyond those stated.
-/
import Derived.Test.YtpoopkieoidhjaaDoorSa
import Derived.Test.YtpoopkieoidhjaaDoorSq
namespace Go.Proofs.YtpoopkieoidhjaaDoor
open Go.RowKit Go.Shelf

theorem either_sym (n : Int) (xs : List Nat) (m : Int) (ys : List Nat) : eitherOk n xs m ys = eitherOk m ys n xs := by
  unfold eitherOk
  by_cases h : n = m
  · subst h
    rw [Bool.and_comm (rightB n xs)]
  · have h1 : (n == m) = false := by simpa using h
    have h2 : (m == n) = false := by simpa using fun e : m = n => h e.symm
    rw [h1, h2, Bool.and_false, Bool.and_false]

set_option maxRecDepth 100000 in
set_option maxHeartbeats 2000000 in
theorem eithers_any (A : Option Addr) (ma ca : Nat) (na : Int) (wa : List Nat) (B : Option Addr) (mb cb : Nat) (nb : Int) (wb : List Nat) (i : Int) (aA aB aP : Addr) (w : World) (hS : BSent w aA aB aP) (hR : Row w A ma (wa.map U32)) (hF : Fits wa) (hc : ma ≤ ca) (hRb : Row w B mb (wb.map U32)) (hFb : Fits wb) (hcb : mb ≤ cb) :
    Calls Tryd.prog 9 #[.agg #[.int .i64 na, .slice A ma ca], .agg #[.int .i64 nb, .slice B mb cb], .int .i64 i] w (Holds w) := by
  have hx : Below w.heap.size w ((w.alloc (.cells #[.int .i64 na, .slice A ma ca] 24)).alloc (.cells #[.int .i64 nb, .slice B mb cb] 24)) := below_le (below_box _ _) (below_box _ _)
  have k0 : ((w.alloc (.cells #[.int .i64 na, .slice A ma ca] 24)).alloc (.cells #[.int .i64 nb, .slice B mb cb] 24)).cell? ⟨w.heap.size, 0, none⟩ = some (.int .i64 na) := by simp [go_sem]
  have k1 : ((w.alloc (.cells #[.int .i64 na, .slice A ma ca] 24)).alloc (.cells #[.int .i64 nb, .slice B mb cb] 24)).cell? ⟨w.heap.size, 1, none⟩ = some (.slice A ma ca) := by simp [go_sem]
  have hbl : Blk ((w.alloc (.cells #[.int .i64 na, .slice A ma ca] 24)).alloc (.cells #[.int .i64 nb, .slice B mb cb] 24)) w.heap.size 24 #[.int .i64 na, .slice A ma ca] := Blk.alloc (heap_new rfl _) _
  have hbm : Blk ((w.alloc (.cells #[.int .i64 na, .slice A ma ca] 24)).alloc (.cells #[.int .i64 nb, .slice B mb cb] 24)) (w.heap.size + 1) 24 #[.int .i64 nb, .slice B mb cb] := heap_new (by simp) _
  have HS := Lib.hid hS
  have HR := Lib.hid (row_cut hR)
  have HF := Lib.hid (fits_take hF 12)
  have HRb := Lib.hid (row_cut hRb)
  have HFb := Lib.hid (fits_take hFb 12)
  have HM : Hid (min ma 12 ≤ 12) := Lib.hid (Nat.min_le_right _ _)
  have HMb : Hid (min mb 12 ≤ 12) := Lib.hid (Nat.min_le_right _ _)
  generalize wa.take 12 = xs at HR HF
  generalize wb.take 12 = ys at HRb HFb
  have HB := Lib.hid hx
  have HBL := Lib.hid hbl
  have HBM := Lib.hid hbm
  clear hS hR hRb hx hbl hbm hF hFb
  go_enter Tryd.func9, Tryd.ntmps9
  go_wp2_with fail
  generalize (w.alloc (.cells #[.int .i64 na, .slice A ma ca] 24)).alloc (.cells #[.int .i64 nb, .slice B mb cb] 24) = W0 at *
  refine (shown_any aA aB aP W0 (HS.out.ext HB.out)).mono ?_
  rintro e w1 ⟨rfl, hb1⟩
  have e0 := cell_ext hb1 k0
  have e1 := cell_ext hb1 k1
  have HBL1 := Lib.hid (HBL.out.ext hb1)
  have HBM1 := Lib.hid (HBM.out.ext hb1)
  have HB1 := Lib.hid (below_le HB.out hb1)
  clear hb1 k0 k1 HBL HB HBM
  go_wp2_with fail
  refine (cut_any A ma ca na w1 hc).mono ?_
  rintro e w2 ⟨⟨c', rfl⟩, hb2⟩
  generalize min ma 12 = m' at *
  have h2 := HBL1.out.ext hb2
  have f0 := h2.frozen 0
  have f1 := h2.frozen 1
  have d0 := h2.cell 0
  have d1 := h2.cell 1
  have h3 := (h2.set_ 0 (.int .i64 na)).set_ 1 (.slice A m' c')
  have h4 := ((HBM1.out.ext hb2).far (p := ⟨w.heap.size, 0, none⟩) (by show w.heap.size + 1 ≠ _; simp) (.int .i64 na)).far (p := ⟨w.heap.size, 1, none⟩) (by show w.heap.size + 1 ≠ _; simp) (.slice A m' c')
  have hb3 : Below w.heap.size w ((w2.setCell ⟨w.heap.size, 0, none⟩ (.int .i64 na)).setCell ⟨w.heap.size, 1, none⟩ (.slice A m' c')) :=
    ((below_le HB1.out hb2).setCell (p := ⟨w.heap.size, 0, none⟩) (Nat.le_refl _) _).setCell (p := ⟨w.heap.size, 1, none⟩) (Nat.le_refl _) _
  have k2 := h4.cell 0
  have k3 := h4.cell 1
  simp at k2 k3
  have HB3 := Lib.hid hb3
  have H3 := Lib.hid h3
  have H4 := Lib.hid h4
  clear h2 h3 h4 hb2 hb3 HB1 HBL1 HBM1 e0 e1
  go_wp2_with fail
  generalize (w2.setCell ⟨w.heap.size, 0, none⟩ (.int .i64 na)).setCell ⟨w.heap.size, 1, none⟩ (.slice A m' c') = W3 at *
  clear f0 f1 d0 d1 hc
  refine (cut_any B mb cb nb W3 hcb).mono ?_
  rintro e w4 ⟨⟨d', rfl⟩, hb4⟩
  generalize min mb 12 = l' at *
  have h2 := H4.out.ext hb4
  have f0 := h2.frozen 0
  have f1 := h2.frozen 1
  have d0 := h2.cell 0
  have d1 := h2.cell 1
  have h3 := ((H3.out.ext hb4).far (p := ⟨w.heap.size + 1, 0, none⟩) (by show w.heap.size ≠ _; simp) (.int .i64 nb)).far (p := ⟨w.heap.size + 1, 1, none⟩) (by show w.heap.size ≠ _; simp) (.slice B l' d')
  have h4 := (h2.set_ 0 (.int .i64 nb)).set_ 1 (.slice B l' d')
  have hb5 : Below w.heap.size w ((w4.setCell ⟨w.heap.size + 1, 0, none⟩ (.int .i64 nb)).setCell ⟨w.heap.size + 1, 1, none⟩ (.slice B l' d')) :=
    ((below_le HB3.out hb4).setCell (p := ⟨w.heap.size + 1, 0, none⟩) (by show w.heap.size ≤ w.heap.size + 1; omega) _).setCell (p := ⟨w.heap.size + 1, 1, none⟩) (by show w.heap.size ≤ w.heap.size + 1; omega) _
  have k0 := h3.cell 0
  have k1 := h3.cell 1
  have r0 := h4.cell 0
  have r1 := h4.cell 1
  simp at k0 k1 r0 r1
  have HB5 := Lib.hid hb5
  clear h2 h3 h4 hb4 hb5 HB3 H3 H4 k2 k3
  go_wp2_with fail
  generalize (w4.setCell ⟨w.heap.size + 1, 0, none⟩ (.int .i64 nb)).setCell ⟨w.heap.size + 1, 1, none⟩ (.slice B l' d') = W5 at *
  clear f0 f1 d0 d1 hcb
  have esym := either_sym nb ys na xs
  cases ho : eitherOk na xs nb ys
  · rw [ho] at esym
    have c3 : eitherOk na xs na xs = rightB na xs := by simp [eitherOk]
    have E1 := Lib.hid ho
    have E2 := Lib.hid esym
    have E3 := Lib.hid c3
    clear ho esym c3
    refine (either_any A B na nb m' c' l' d' xs ys aA aB aP W5 (HS.out.ext HB5.out) (HR.out.ext HB5.out) (HRb.out.ext HB5.out) HF.out HFb.out 20 (by rw [E1.out, chk_false])).mono ?_
    rintro e w6 h6
    obtain ⟨C, q, f, rfl, -, hb6⟩ := h6.bad (by omega)
    have hx := below_box w6 (.cells #[.int .i64 0, .slice C q f] 24)
    have hbx := below_le hb6 hx
    have e0 := cell_ext hbx k0
    have e1 := cell_ext hbx k1
    have g0 := cell_ext hbx r0
    have g1 := cell_ext hbx r1
    have HB6 := Lib.hid (below_le HB5.out hbx)
    clear h6 hb6 hx hbx k0 k1 r0 r1
    go_wp2_with fail
    generalize w6.alloc (.cells #[.int .i64 0, .slice C q f] 24) = W6 at *
    refine (either_any B A nb na l' d' m' c' ys xs aA aB aP W6 (HS.out.ext HB6.out) (HRb.out.ext HB6.out) (HR.out.ext HB6.out) HFb.out HF.out 20 (by rw [E2.out, chk_false])).mono ?_
    rintro e w7 h7
    obtain ⟨D, q2, f2, rfl, -, hb7⟩ := h7.bad (by omega)
    have hx := below_box w7 (.cells #[.int .i64 0, .slice D q2 f2] 24)
    have hbx := below_le hb7 hx
    have k0 := cell_ext hbx e0
    have k1 := cell_ext hbx e1
    have HB7 := Lib.hid (below_le HB6.out hbx)
    clear h7 hb7 hx hbx e0 e1 g0 g1
    go_wp2_with fail
    generalize w7.alloc (.cells #[.int .i64 0, .slice D q2 f2] 24) = W7 at *
    cases hr : rightB na xs
    · refine (either_any A A na na m' c' m' c' xs xs aA aB aP W7 (HS.out.ext HB7.out) (HR.out.ext HB7.out) (HR.out.ext HB7.out) HF.out HF.out 20 (by rw [E3.out, hr, chk_false])).mono ?_
      rintro e w8 h8
      obtain ⟨E, q3, f3, rfl, -, hb8⟩ := h8.bad (by omega)
      have hx := below_box w8 (.cells #[.int .i64 0, .slice E q3 f3] 24)
      have hbx := below_le hb8 hx
      have e0 := cell_ext hbx k0
      have e1 := cell_ext hbx k1
      have HB8 := Lib.hid (below_le HB7.out hbx)
      have Hr := Lib.hid hr
      clear h8 hb8 hx hbx k0 k1 hr
      go_wp2_with fail
      generalize w8.alloc (.cells #[.int .i64 0, .slice E q3 f3] 24) = W8 at *
      refine (right_any A m' c' na xs W8 (HR.out.ext HB8.out) HF.out).mono ?_
      rw [Hr.out]
      rintro e w9 ⟨rfl, hb9⟩
      have HB9 := Lib.hid (below_le HB8.out hb9)
      clear hb9
      go_wp2
      go_ret
      exact ⟨rfl, HB9.out⟩
    · refine (either_any A A na na m' c' m' c' xs xs aA aB aP W7 (HS.out.ext HB7.out) (HR.out.ext HB7.out) (HR.out.ext HB7.out) HF.out HF.out 0 (by rw [E3.out, hr, chk_true])).mono ?_
      rintro e w8 h8
      obtain ⟨E, q3, f3, rfl, -, hb8⟩ := h8.ok
      have hx := below_box w8 (.cells #[.int .i64 na, .slice E q3 f3] 24)
      have hbx := below_le hb8 hx
      have e0 := cell_ext hbx k0
      have e1 := cell_ext hbx k1
      have HB8 := Lib.hid (below_le HB7.out hbx)
      have Hr := Lib.hid hr
      clear h8 hb8 hx hbx k0 k1 hr
      go_wp2_with fail
      generalize w8.alloc (.cells #[.int .i64 na, .slice E q3 f3] 24) = W8 at *
      refine (right_any A m' c' na xs W8 (HR.out.ext HB8.out) HF.out).mono ?_
      rw [Hr.out]
      rintro e w9 ⟨rfl, hb9⟩
      have HB9 := Lib.hid (below_le HB8.out hb9)
      clear hb9
      go_wp2
      go_ret
      exact ⟨rfl, HB9.out⟩
  · rw [ho] at esym
    obtain ⟨⟨hx1, hy1⟩, rfl⟩ : (rightB na xs = true ∧ rightB nb ys = true) ∧ na = nb := by simpa [eitherOk] using ho
    have c3 : eitherOk na xs na xs = true := by simp [eitherOk, hx1]
    have b1 := or_comm HF.out HFb.out hx1 hy1
    have b2 := or_self HF.out
    have b3 := has_or hx1 hy1 i
    have b4 := fits_orW HF.out HFb.out
    have hl : xs.length = ys.length := by
      obtain ⟨_, _, g1, _⟩ := rightB_elim hx1
      obtain ⟨_, _, g2, _⟩ := rightB_elim hy1
      omega
    have b5 := length_or hl
    have b6 : xs.length ≤ 12 := by have := HR.out.1; have := HM.out; simp at *; omega
    have B1 := Lib.hid b1
    have B2 := Lib.hid b2
    have B3 := Lib.hid b3
    have B4 := Lib.hid b4
    have B5 := Lib.hid b5
    have B6 := Lib.hid b6
    have E1 := Lib.hid ho
    have E2 := Lib.hid esym
    have E3 := Lib.hid c3
    clear ho esym c3 b1 b2 b3 b4 b5 b6 hl hx1 hy1
    refine (either_any A B na na m' c' l' d' xs ys aA aB aP W5 (HS.out.ext HB5.out) (HR.out.ext HB5.out) (HRb.out.ext HB5.out) HF.out HFb.out 0 (by rw [E1.out, chk_true])).mono ?_
    rintro e w6 h6
    obtain ⟨C, q, f, rfl, hR6, hb6⟩ := h6.ok
    have hx := below_box w6 (.cells #[.int .i64 na, .slice C q f] 24)
    have s0 : (w6.alloc (.cells #[.int .i64 na, .slice C q f] 24)).cell? ⟨w6.heap.size, 0, none⟩ = some (.int .i64 na) := by simp [go_sem]
    have s1 : (w6.alloc (.cells #[.int .i64 na, .slice C q f] 24)).cell? ⟨w6.heap.size, 1, none⟩ = some (.slice C q f) := by simp [go_sem]
    have hbx := below_le hb6 hx
    have e0 := cell_ext hbx k0
    have e1 := cell_ext hbx k1
    have g0 := cell_ext hbx r0
    have g1 := cell_ext hbx r1
    have HB6 := Lib.hid (below_le HB5.out hbx)
    have HR6 := Lib.hid (hR6.ext hx)
    clear h6 hb6 hx hbx k0 k1 r0 r1 hR6
    go_wp2_with fail
    generalize w6.alloc (.cells #[.int .i64 na, .slice C q f] 24) = W6 at *
    refine (either_any B A na na l' d' m' c' ys xs aA aB aP W6 (HS.out.ext HB6.out) (HRb.out.ext HB6.out) (HR.out.ext HB6.out) HFb.out HF.out 0 (by rw [E2.out, chk_true])).mono ?_
    rintro e w7 h7
    obtain ⟨D, q2, f2, rfl, hR7, hb7⟩ := h7.ok
    rw [← B1.out] at hR7
    have hx := below_box w7 (.cells #[.int .i64 na, .slice D q2 f2] 24)
    have t0 : (w7.alloc (.cells #[.int .i64 na, .slice D q2 f2] 24)).cell? ⟨w7.heap.size, 0, none⟩ = some (.int .i64 na) := by simp [go_sem]
    have t1 : (w7.alloc (.cells #[.int .i64 na, .slice D q2 f2] 24)).cell? ⟨w7.heap.size, 1, none⟩ = some (.slice D q2 f2) := by simp [go_sem]
    have hbx := below_le hb7 hx
    have k0 := cell_ext hbx e0
    have k1 := cell_ext hbx e1
    have r0 := cell_ext hbx g0
    have r1 := cell_ext hbx g1
    have y0 := cell_ext hbx s0
    have y1 := cell_ext hbx s1
    have HB7 := Lib.hid (below_le HB6.out hbx)
    have HR7 := Lib.hid (hR7.ext hx)
    have HR7c := Lib.hid (HR6.out.ext hbx)
    clear h7 hb7 hx hbx e0 e1 g0 g1 hR7 s0 s1 HR6
    go_wp2_with fail
    generalize w7.alloc (.cells #[.int .i64 na, .slice D q2 f2] 24) = W7 at *
    refine (either_any A A na na m' c' m' c' xs xs aA aB aP W7 (HS.out.ext HB7.out) (HR.out.ext HB7.out) (HR.out.ext HB7.out) HF.out HF.out 0 (by rw [E3.out, chk_true])).mono ?_
    rintro e w8 h8
    obtain ⟨E, q3, f3, rfl, hR8, hb8⟩ := h8.ok
    rw [B2.out] at hR8
    have hx := below_box w8 (.cells #[.int .i64 na, .slice E q3 f3] 24)
    have p0 : (w8.alloc (.cells #[.int .i64 na, .slice E q3 f3] 24)).cell? ⟨w8.heap.size, 0, none⟩ = some (.int .i64 na) := by simp [go_sem]
    have p1 : (w8.alloc (.cells #[.int .i64 na, .slice E q3 f3] 24)).cell? ⟨w8.heap.size, 1, none⟩ = some (.slice E q3 f3) := by simp [go_sem]
    have hbx := below_le hb8 hx
    have K0 := ext_cell (cell_ext hbx k0)
    have K1 := ext_cell (cell_ext hbx k1)
    have R0 := ext_cell (cell_ext hbx r0)
    have R1 := ext_cell (cell_ext hbx r1)
    have Y0 := ext_cell (cell_ext hbx y0)
    have Y1 := ext_cell (cell_ext hbx y1)
    have T0 := ext_cell (cell_ext hbx t0)
    have T1 := ext_cell (cell_ext hbx t1)
    have P0 := ext_cell p0
    have P1 := ext_cell p1
    have HB8 := Lib.hid (below_le HB7.out hbx)
    have HR8 := Lib.hid (hR8.ext hx)
    have HR8c := Lib.hid (HR7c.out.ext hbx)
    have HR8d := Lib.hid (HR7.out.ext hbx)
    clear h8 hb8 hx hbx k0 k1 r0 r1 y0 y1 t0 t1 p0 p1 hR8 HR7 HR7c
    go_wp2_with fail
    generalize w8.alloc (.cells #[.int .i64 na, .slice E q3 f3] 24) = W8 at *
    have lq : q ≤ 1099511627776 := by have := HR8c.out.1; have := B5.out; have := B6.out; simp at *; omega
    have lq2 : q2 ≤ 1099511627776 := by have := HR8d.out.1; have := B5.out; have := B6.out; simp at *; omega
    have lq3 : q3 ≤ 1099511627776 := by have := HR8.out.1; have := B6.out; simp at *; omega
    have lm : m' ≤ 1099511627776 := by have := HM.out; omega
    generalize orW xs ys = us at *
    have AS : Hid (∀ z : Ext W8, Calls Tryd.prog 25 #[.agg #[.int .i64 na, .slice C q f], .agg #[.int .i64 na, .slice D q2 f2]] z.val fun e w' => e = .returned (.bool true) ∧ Below z.val.heap.size z.val w') :=
      Lib.hid (fun z => by have h := same_any C D na na q f q2 f2 us us z.val (HR8c.out.ext z.below) (HR8d.out.ext z.below) B4.out B4.out lq lq2; rw [show sameB na us na us = true by simp [sameB]] at h; exact h)
    have AT : Hid (∀ z : Ext W8, Calls Tryd.prog 25 #[.agg #[.int .i64 na, .slice E q3 f3], .agg #[.int .i64 na, .slice A m' c']] z.val fun e w' => e = .returned (.bool true) ∧ Below z.val.heap.size z.val w') :=
      Lib.hid (fun z => by have h := same_any E A na na q3 f3 m' c' xs xs z.val (HR8.out.ext z.below) ((HR.out.ext HB8.out).ext z.below) HF.out HF.out lq3 lm; rw [show sameB na xs na xs = true by simp [sameB]] at h; exact h)
    obtain ⟨ha, hha⟩ : ∃ v, hasB na xs i = v := ⟨_, rfl⟩
    obtain ⟨hb, hhb⟩ : ∃ v, hasB na ys i = v := ⟨_, rfl⟩
    have hcc : hasB na us i = (ha || hb) := by rw [B3.out, hha, hhb]
    have AC : Hid (∀ z : Ext W8, Calls Tryd.prog 15 #[.agg #[.int .i64 na, .slice C q f], .int .i64 i] z.val fun e w' => e = .returned (.bool (ha || hb)) ∧ Below z.val.heap.size z.val w') := Lib.hid (fun z => by rw [← hcc]; exact has_any C q f na us i z.val (HR8c.out.ext z.below) B4.out)
    have AA : Hid (∀ z : Ext W8, Calls Tryd.prog 15 #[.agg #[.int .i64 na, .slice A m' c'], .int .i64 i] z.val fun e w' => e = .returned (.bool ha) ∧ Below z.val.heap.size z.val w') := Lib.hid (fun z => by rw [← hha]; exact has_any A m' c' na xs i z.val ((HR.out.ext HB8.out).ext z.below) HF.out)
    have AB : Hid (∀ z : Ext W8, Calls Tryd.prog 15 #[.agg #[.int .i64 na, .slice B l' d'], .int .i64 i] z.val fun e w' => e = .returned (.bool hb) ∧ Below z.val.heap.size z.val w') := Lib.hid (fun z => by rw [← hhb]; exact has_any B l' d' na ys i z.val ((HRb.out.ext HB8.out).ext z.below) HFb.out)
    clear hha hhb hcc lq lq2 lq3 lm
    cases ha
    · rw [Bool.false_or] at AC
      refine wp_region_plan [(0, true), (1, true), (2, true), (3, true), (4, true), (5, true), (6, true), (7, true), (8, true), (9, true), (10, true), (11, true), (12, true), (13, true), (14, true), (15, true), (16, true), (17, true), (18, true), (19, true), (20, true), (21, true), (22, true), (23, true), (24, true), (25, true), (26, true), (27, true), (28, true), (29, true), (30, true), (31, true), (32, true), (33, true)] (by kernel_rfl) (by kernel_rfl) ?_
      repeat (first | (refine plan_skip rfl rfl ?_; go_frame) | (refine plan_soft rfl rfl (fun K hK => ?_); go_simp; first | (refine hK _ ?_; clear hK K) | (apply Exists.intro; refine ⟨fun x => ?_, hK _ ?_⟩; (· (first | (go_at_call 25; with_reducible exact AS.out x) | (go_at_call 25; with_reducible exact AT.out x) | (go_at_call 15; with_reducible exact AC.out x) | (go_at_call 15; with_reducible exact AA.out x) | (go_at_call 15; with_reducible exact AB.out x))); clear hK K; try go_frame)))
      refine plan_nil ?_; intro w9 h0b; have HB9 := Lib.hid h0b; clear h0b
      go_wp2
      go_ret
      exact ⟨ret_bool (by simp), below_le HB8.out HB9.out⟩
    · rw [Bool.true_or] at AC
      refine wp_region_plan [(0, true), (1, true), (2, true), (3, true), (4, true), (5, true), (6, true), (7, true), (8, true), (9, true), (10, true), (11, true), (12, true), (13, true), (14, true), (15, true), (16, true), (17, true), (18, true), (19, true), (20, true), (21, true), (22, true), (23, true), (24, true), (25, true), (26, true), (27, true), (28, true), (29, true), (30, true), (31, true), (32, true), (33, true)] (by kernel_rfl) (by kernel_rfl) ?_
      repeat (first | (refine plan_skip rfl rfl ?_; go_frame) | (refine plan_soft rfl rfl (fun K hK => ?_); go_simp; first | (refine hK _ ?_; clear hK K) | (apply Exists.intro; refine ⟨fun x => ?_, hK _ ?_⟩; (· (first | (go_at_call 25; with_reducible exact AS.out x) | (go_at_call 25; with_reducible exact AT.out x) | (go_at_call 15; with_reducible exact AC.out x) | (go_at_call 15; with_reducible exact AA.out x) | (go_at_call 15; with_reducible exact AB.out x))); clear hK K; try go_frame)))
      refine plan_nil ?_; intro w9 h0b; have HB9 := Lib.hid h0b; clear h0b
      go_wp2
      go_ret
      exact ⟨ret_bool (by simp), below_le HB8.out HB9.out⟩

end Go.Proofs.YtpoopkieoidhjaaDoor
