/-
  What is proved: BitsTurns returns true. No condition beyond those stated.
-/
import Derived.Test.YtpoopkieoidhjaaDoorRg
import Derived.Test.YtpoopkieoidhjaaDoorYa
namespace Go.Proofs.YtpoopkieoidhjaaDoor
open Go.RowKit Go.Shelf

theorem gives_cases {P : (Nat → Int → List Nat → Prop)} {code : Nat} {n : Int} {us : List Nat} (h0 : code = 0 → P 0 n us) (h1 : code ≠ 0 → P code 0 []) : P code (if code = 0 then n else 0) (if code = 0 then us else []) := by
  by_cases h : code = 0
  · subst h; exact h0 rfl
  · rw [if_neg h, if_neg h]; exact h1 h
theorem code2_le (a b : Bool) : first2 (chk a 20) (chk b 21) ≤ 100 := by
  cases a
  · rw [chk_false, first2_nz _ _ (by omega)]; omega
  · rw [chk_true, first2_z]; cases b
    · rw [chk_false]; omega
    · rw [chk_true]; omega
theorem code1_le (a : Bool) : chk a 20 ≤ 100 := by
  cases a
  · rw [chk_false]; omega
  · rw [chk_true]; omega

/-- Both set the same. -/
theorem set_both (A : Option Addr) (m c : Nat) (n : Int) (ws : List Nat) (i : Int) (on : Bool) (hF : Fits ws) (hl : ws.length ≤ 1000) : ∃ (code : Nat) (q : Int) (us : List Nat), Fits us ∧ us.length ≤ 1000 ∧ code ≤ 100 ∧
    (∀ (aA aB aP : Addr) (w : World), BSent w aA aB aP → Row w A m (ws.map U32) → Calls Tryd.prog 13 #[.agg #[.int .i64 n, .slice A m c], .int .i64 i, .bool on] w (GivesBits w code q us)) ∧
    (∀ w : World, Row w A m (ws.map U32) → Calls Tryd.prog 16 #[.agg #[.int .i64 n, .slice A m c], .int .i64 i, .bool on] w (GivesBits w code q us)) := by
  refine ⟨first2 (chk (rightB n ws) 20) (chk (placeOk n i) 21), _, _, ?_, ?_, code2_le _ _, fun aA aB aP w hS hR => set_any A m c n ws i on aA aB aP w hS hR hF _ rfl, fun w hR => refset_any A m c n ws i on w hR hF _ rfl⟩
  · split
    · exact fits_set hF _ _
    · simp [Fits]
  · split
    · rw [length_setW]; exact hl
    · simp
/-- Both fill the same. -/
theorem fill_both (A : Option Addr) (m c : Nat) (n : Int) (ws : List Nat) (lo hi : Int) (on : Bool) (hF : Fits ws) (hl : ws.length ≤ 1000) : ∃ (code : Nat) (q : Int) (us : List Nat), Fits us ∧ us.length ≤ 1000 ∧ code ≤ 100 ∧
    (∀ (aA aB aP : Addr) (w : World), BSent w aA aB aP → Row w A m (ws.map U32) → Calls Tryd.prog 17 #[.agg #[.int .i64 n, .slice A m c], .int .i64 lo, .int .i64 hi, .bool on] w (GivesBits w code q us)) ∧
    (∀ w : World, Row w A m (ws.map U32) → Calls Tryd.prog 18 #[.agg #[.int .i64 n, .slice A m c], .int .i64 lo, .int .i64 hi, .bool on] w (GivesBits w code q us)) := by
  refine ⟨first2 (chk (rightB n ws) 20) (chk (fillOk n lo hi) 21), _, _, ?_, ?_, code2_le _ _, fun aA aB aP w hS hR => fill_any A m c n ws lo hi on aA aB aP w hS hR hF _ rfl, fun w hR => reffill_any A m c n ws lo hi on w hR hF _ rfl⟩
  · split
    · exact fits_fillW hF _ _
    · simp [Fits]
  · split
    · rw [length_fillW]; exact hl
    · simp
/-- Both join the same. -/
theorem either_both (A B : Option Addr) (n n2 : Int) (m c l d : Nat) (ws ys : List Nat) (hF : Fits ws) (hG : Fits ys) (hl : ws.length ≤ 1000) : ∃ (code : Nat) (q : Int) (us : List Nat), Fits us ∧ us.length ≤ 1000 ∧ code ≤ 100 ∧
    (∀ (aA aB aP : Addr) (w : World), BSent w aA aB aP → Row w A m (ws.map U32) → Row w B l (ys.map U32) → Calls Tryd.prog 21 #[.agg #[.int .i64 n, .slice A m c], .agg #[.int .i64 n2, .slice B l d]] w (GivesBits w code q us)) ∧
    (∀ w : World, Row w A m (ws.map U32) → Row w B l (ys.map U32) → Calls Tryd.prog 22 #[.agg #[.int .i64 n, .slice A m c], .agg #[.int .i64 n2, .slice B l d]] w (GivesBits w code q us)) := by
  refine ⟨chk (eitherOk n ws n2 ys) 20, _, _, ?_, ?_, code1_le _, fun aA aB aP w hS hA hB => either_any A B n n2 m c l d ws ys aA aB aP w hS hA hB hF hG _ rfl, fun w hA hB => refeither_any A B n n2 m c l d ws ys w hA hB hF hG _ rfl⟩
  · split
    · exact fits_orW hF hG
    · simp [Fits]
  · split
    · have : (orW ws ys).length ≤ ws.length := by simp [orW]; omega
      omega
    · simp

theorem refsame_true (C D : Option Addr) (q : Int) (q1 f1 q2 f2 : Nat) (us : List Nat) (w : World) (hC : Row w C q1 (us.map U32)) (hD : Row w D q2 (us.map U32)) (hF : Fits us) (hl : us.length ≤ 1000) :
    Calls Tryd.prog 23 #[.agg #[.int .i64 q, .slice C q1 f1], .agg #[.int .i64 q, .slice D q2 f2]] w fun e w' => e = .returned (.bool true) ∧ Below w.heap.size w w' := by
  have h1 := hC.1
  have h2 := hD.1
  simp at h1 h2
  have h := refsame_any C D q q q1 f1 q2 f2 us us w hC hD hF hF (by omega) (by omega)
  rwa [show sameB q us q us = true by simp [sameB]] at h

set_option maxRecDepth 100000 in
set_option maxHeartbeats 4000000 in
theorem turns_any (A : Option Addr) (ma ca : Nat) (na : Int) (wa : List Nat) (B : Option Addr) (mb cb : Nat) (nb : Int) (wb : List Nat) (lo hi : Int) (on : Bool) (aA aB aP : Addr) (w : World) (hS : BSent w aA aB aP)
    (hR : Row w A ma (wa.map U32)) (hF : Fits wa) (hc : ma ≤ ca) (hRb : Row w B mb (wb.map U32)) (hFb : Fits wb) (hcb : mb ≤ cb) :
    Calls Tryd.prog 4 #[.agg #[.int .i64 na, .slice A ma ca], .agg #[.int .i64 nb, .slice B mb cb], .int .i64 lo, .int .i64 hi, .bool on] w (Holds w) := by
  have hx : Below w.heap.size w ((w.alloc (.cells #[.int .i64 na, .slice A ma ca] 24)).alloc (.cells #[.int .i64 nb, .slice B mb cb] 24)) := below_le (below_box _ _) (below_box _ _)
  have k0 : ((w.alloc (.cells #[.int .i64 na, .slice A ma ca] 24)).alloc (.cells #[.int .i64 nb, .slice B mb cb] 24)).cell? ⟨w.heap.size, 0, none⟩ = some (.int .i64 na) := by simp [go_sem]
  have k1 : ((w.alloc (.cells #[.int .i64 na, .slice A ma ca] 24)).alloc (.cells #[.int .i64 nb, .slice B mb cb] 24)).cell? ⟨w.heap.size, 1, none⟩ = some (.slice A ma ca) := by simp [go_sem]
  have hbl : Blk ((w.alloc (.cells #[.int .i64 na, .slice A ma ca] 24)).alloc (.cells #[.int .i64 nb, .slice B mb cb] 24)) w.heap.size 24 #[.int .i64 na, .slice A ma ca] := Blk.alloc (heap_new rfl _) _
  have hbm : Blk ((w.alloc (.cells #[.int .i64 na, .slice A ma ca] 24)).alloc (.cells #[.int .i64 nb, .slice B mb cb] 24)) (w.heap.size + 1) 24 #[.int .i64 nb, .slice B mb cb] := heap_new (by simp) _
  have HS := Lib.hid hS
  have HR := Lib.hid (row_cut hR)
  have HF := Lib.hid (fits_take hF 12)
  have HRb := Lib.hid (row_cut hRb)
  have HFb := Lib.hid (fits_take hFb 12)
  have HM : Hid (min ma 12 ≤ 12) := Lib.hid (Nat.min_le_right _ _)
  have HMb : Hid (min mb 12 ≤ 12) := Lib.hid (Nat.min_le_right _ _)
  generalize wa.take 12 = xs at HR HF
  generalize wb.take 12 = ys at HRb HFb
  have HB := Lib.hid hx
  have HBL := Lib.hid hbl
  have HBM := Lib.hid hbm
  clear hS hR hRb hx hbl hbm hF hFb
  go_enter Tryd.func4, Tryd.ntmps4
  go_wp2_with fail
  generalize (w.alloc (.cells #[.int .i64 na, .slice A ma ca] 24)).alloc (.cells #[.int .i64 nb, .slice B mb cb] 24) = W0 at *
  refine (shown_any aA aB aP W0 (HS.out.ext HB.out)).mono ?_
  rintro e w1 ⟨rfl, hb1⟩
  have e0 := cell_ext hb1 k0
  have e1 := cell_ext hb1 k1
  have HBL1 := Lib.hid (HBL.out.ext hb1)
  have HBM1 := Lib.hid (HBM.out.ext hb1)
  have HB1 := Lib.hid (below_le HB.out hb1)
  clear hb1 k0 k1 HBL HB HBM
  go_wp2_with fail
  refine (cut_any A ma ca na w1 hc).mono ?_
  rintro e w2 ⟨⟨c', rfl⟩, hb2⟩
  generalize min ma 12 = m' at *
  have h2 := HBL1.out.ext hb2
  have f0 := h2.frozen 0
  have f1 := h2.frozen 1
  have d0 := h2.cell 0
  have d1 := h2.cell 1
  have h3 := (h2.set_ 0 (.int .i64 na)).set_ 1 (.slice A m' c')
  have h4 := ((HBM1.out.ext hb2).far (p := ⟨w.heap.size, 0, none⟩) (by show w.heap.size + 1 ≠ _; simp) (.int .i64 na)).far (p := ⟨w.heap.size, 1, none⟩) (by show w.heap.size + 1 ≠ _; simp) (.slice A m' c')
  have hb3 : Below w.heap.size w ((w2.setCell ⟨w.heap.size, 0, none⟩ (.int .i64 na)).setCell ⟨w.heap.size, 1, none⟩ (.slice A m' c')) :=
    ((below_le HB1.out hb2).setCell (p := ⟨w.heap.size, 0, none⟩) (Nat.le_refl _) _).setCell (p := ⟨w.heap.size, 1, none⟩) (Nat.le_refl _) _
  have k2 := h4.cell 0
  have k3 := h4.cell 1
  simp at k2 k3
  have HB3 := Lib.hid hb3
  have H3 := Lib.hid h3
  have H4 := Lib.hid h4
  clear h2 h3 h4 hb2 hb3 HB1 HBL1 HBM1 e0 e1
  go_wp2_with fail
  generalize (w2.setCell ⟨w.heap.size, 0, none⟩ (.int .i64 na)).setCell ⟨w.heap.size, 1, none⟩ (.slice A m' c') = W3 at *
  clear f0 f1 d0 d1 hc
  refine (cut_any B mb cb nb W3 hcb).mono ?_
  rintro e w4 ⟨⟨d', rfl⟩, hb4⟩
  generalize min mb 12 = l' at *
  have h2 := H4.out.ext hb4
  have f0 := h2.frozen 0
  have f1 := h2.frozen 1
  have d0 := h2.cell 0
  have d1 := h2.cell 1
  have h3 := ((H3.out.ext hb4).far (p := ⟨w.heap.size + 1, 0, none⟩) (by show w.heap.size ≠ _; simp) (.int .i64 nb)).far (p := ⟨w.heap.size + 1, 1, none⟩) (by show w.heap.size ≠ _; simp) (.slice B l' d')
  have h4 := (h2.set_ 0 (.int .i64 nb)).set_ 1 (.slice B l' d')
  have hb5 : Below w.heap.size w ((w4.setCell ⟨w.heap.size + 1, 0, none⟩ (.int .i64 nb)).setCell ⟨w.heap.size + 1, 1, none⟩ (.slice B l' d')) :=
    ((below_le HB3.out hb4).setCell (p := ⟨w.heap.size + 1, 0, none⟩) (by show w.heap.size ≤ w.heap.size + 1; omega) _).setCell (p := ⟨w.heap.size + 1, 1, none⟩) (by show w.heap.size ≤ w.heap.size + 1; omega) _
  have k0 := h3.cell 0
  have k1 := h3.cell 1
  have r0 := h4.cell 0
  have r1 := h4.cell 1
  simp at k0 k1 r0 r1
  have HB5 := Lib.hid hb5
  clear h2 h3 h4 hb4 hb5 HB3 H3 H4 k2 k3
  go_wp2_with fail
  generalize (w4.setCell ⟨w.heap.size + 1, 0, none⟩ (.int .i64 nb)).setCell ⟨w.heap.size + 1, 1, none⟩ (.slice B l' d') = W5 at *
  clear f0 f1 d0 d1 hcb
  have hlx : xs.length ≤ 1000 := by have h1 := HR.out.1; have h2 := HM.out; simp at h1; omega

  obtain ⟨codeS, qS, usS, hfuS, hluS, hcuS, hM1, hM2⟩ := set_both A m' c' na xs lo on HF.out hlx
  have MS1 := Lib.hid hM1
  have MS2 := Lib.hid hM2
  have FUS := Lib.hid hfuS
  have LUS := Lib.hid hluS
  clear hM1 hM2 hfuS hluS
  refine (MS1.out aA aB aP W5 (HS.out.ext HB5.out) (HR.out.ext HB5.out)).mono ?_
  rintro e w6 ⟨CS1, pS1, fS1, rfl, hRn, hbn⟩
  have hx := below_box w6 (.cells #[.int .i64 qS, .slice CS1 pS1 fS1] 24)
  have sS10 := box0 (w := w6) (t := 24) (v0 := .int .i64 qS) (v1 := .slice CS1 pS1 fS1)
  have sS11 := box1 (w := w6) (t := 24) (v0 := .int .i64 qS) (v1 := .slice CS1 pS1 fS1)
  have hbx := below_le hbn hx
  replace k0 := cell_ext hbx k0; replace k1 := cell_ext hbx k1; replace r0 := cell_ext hbx r0; replace r1 := cell_ext hbx r1
  have HRS1 := Lib.hid (hRn.ext hx)
  replace HB5 := Lib.hid (below_le HB5.out hbx)
  clear hRn hbn hx hbx
  go_wp2_with fail
  generalize w6.alloc (.cells #[.int .i64 qS, .slice CS1 pS1 fS1] 24) = W6 at *
  refine (MS2.out W6 (HR.out.ext HB5.out)).mono ?_
  rintro e w7 ⟨CS2, pS2, fS2, rfl, hRn, hbn⟩
  have hx := below_box w7 (.cells #[.int .i64 qS, .slice CS2 pS2 fS2] 24)
  have sS20 := box0 (w := w7) (t := 24) (v0 := .int .i64 qS) (v1 := .slice CS2 pS2 fS2)
  have sS21 := box1 (w := w7) (t := 24) (v0 := .int .i64 qS) (v1 := .slice CS2 pS2 fS2)
  have hbx := below_le hbn hx
  replace k0 := cell_ext hbx k0; replace k1 := cell_ext hbx k1; replace r0 := cell_ext hbx r0; replace r1 := cell_ext hbx r1; replace sS10 := cell_ext hbx sS10; replace sS11 := cell_ext hbx sS11; replace HRS1 := Lib.hid (HRS1.out.ext hbx)
  have HRS2 := Lib.hid (hRn.ext hx)
  replace HB5 := Lib.hid (below_le HB5.out hbx)
  clear hRn hbn hx hbx
  go_wp2_with fail
  generalize w7.alloc (.cells #[.int .i64 qS, .slice CS2 pS2 fS2] 24) = W7 at *
  obtain ⟨codeF, qF, usF, hfuF, hluF, hcuF, hM1, hM2⟩ := fill_both A m' c' na xs lo hi on HF.out hlx
  have MF1 := Lib.hid hM1
  have MF2 := Lib.hid hM2
  have FUF := Lib.hid hfuF
  have LUF := Lib.hid hluF
  clear hM1 hM2 hfuF hluF
  refine (MF1.out aA aB aP W7 (HS.out.ext HB5.out) (HR.out.ext HB5.out)).mono ?_
  rintro e w8 ⟨CF1, pF1, fF1, rfl, hRn, hbn⟩
  have hx := below_box w8 (.cells #[.int .i64 qF, .slice CF1 pF1 fF1] 24)
  have sF10 := box0 (w := w8) (t := 24) (v0 := .int .i64 qF) (v1 := .slice CF1 pF1 fF1)
  have sF11 := box1 (w := w8) (t := 24) (v0 := .int .i64 qF) (v1 := .slice CF1 pF1 fF1)
  have hbx := below_le hbn hx
  replace k0 := cell_ext hbx k0; replace k1 := cell_ext hbx k1; replace r0 := cell_ext hbx r0; replace r1 := cell_ext hbx r1; replace sS10 := cell_ext hbx sS10; replace sS11 := cell_ext hbx sS11; replace sS20 := cell_ext hbx sS20; replace sS21 := cell_ext hbx sS21; replace HRS1 := Lib.hid (HRS1.out.ext hbx); replace HRS2 := Lib.hid (HRS2.out.ext hbx)
  have HRF1 := Lib.hid (hRn.ext hx)
  replace HB5 := Lib.hid (below_le HB5.out hbx)
  clear hRn hbn hx hbx
  go_wp2_with fail
  generalize w8.alloc (.cells #[.int .i64 qF, .slice CF1 pF1 fF1] 24) = W8 at *
  refine (MF2.out W8 (HR.out.ext HB5.out)).mono ?_
  rintro e w9 ⟨CF2, pF2, fF2, rfl, hRn, hbn⟩
  have hx := below_box w9 (.cells #[.int .i64 qF, .slice CF2 pF2 fF2] 24)
  have sF20 := box0 (w := w9) (t := 24) (v0 := .int .i64 qF) (v1 := .slice CF2 pF2 fF2)
  have sF21 := box1 (w := w9) (t := 24) (v0 := .int .i64 qF) (v1 := .slice CF2 pF2 fF2)
  have hbx := below_le hbn hx
  replace k0 := cell_ext hbx k0; replace k1 := cell_ext hbx k1; replace r0 := cell_ext hbx r0; replace r1 := cell_ext hbx r1; replace sS10 := cell_ext hbx sS10; replace sS11 := cell_ext hbx sS11; replace sS20 := cell_ext hbx sS20; replace sS21 := cell_ext hbx sS21; replace sF10 := cell_ext hbx sF10; replace sF11 := cell_ext hbx sF11; replace HRS1 := Lib.hid (HRS1.out.ext hbx); replace HRS2 := Lib.hid (HRS2.out.ext hbx); replace HRF1 := Lib.hid (HRF1.out.ext hbx)
  have HRF2 := Lib.hid (hRn.ext hx)
  replace HB5 := Lib.hid (below_le HB5.out hbx)
  clear hRn hbn hx hbx
  go_wp2_with fail
  generalize w9.alloc (.cells #[.int .i64 qF, .slice CF2 pF2 fF2] 24) = W9 at *
  obtain ⟨nx, hnx⟩ : ∃ nx, nextN na xs lo on = nx := ⟨_, rfl⟩
  have HNX := Lib.hid hnx
  clear hnx
  have h := next_any A m' c' na xs lo on W9 (HR.out.ext HB5.out) HF.out
  rw [HNX.out] at h
  refine h.mono ?_
  clear h
  rintro e w10 ⟨rfl, hbn⟩
  replace k0 := cell_ext hbn k0; replace k1 := cell_ext hbn k1; replace r0 := cell_ext hbn r0; replace r1 := cell_ext hbn r1; replace sS10 := cell_ext hbn sS10; replace sS11 := cell_ext hbn sS11; replace sS20 := cell_ext hbn sS20; replace sS21 := cell_ext hbn sS21; replace sF10 := cell_ext hbn sF10; replace sF11 := cell_ext hbn sF11; replace sF20 := cell_ext hbn sF20; replace sF21 := cell_ext hbn sF21; replace HRS1 := Lib.hid (HRS1.out.ext hbn); replace HRS2 := Lib.hid (HRS2.out.ext hbn); replace HRF1 := Lib.hid (HRF1.out.ext hbn); replace HRF2 := Lib.hid (HRF2.out.ext hbn)
  replace HB5 := Lib.hid (below_le HB5.out hbn)
  clear hbn
  go_wp2_with fail
  have h := refnext_any A m' c' na xs lo on w10 (HR.out.ext HB5.out) HF.out
  rw [HNX.out] at h
  refine h.mono ?_
  clear h
  rintro e w11 ⟨rfl, hbn⟩
  replace k0 := cell_ext hbn k0; replace k1 := cell_ext hbn k1; replace r0 := cell_ext hbn r0; replace r1 := cell_ext hbn r1; replace sS10 := cell_ext hbn sS10; replace sS11 := cell_ext hbn sS11; replace sS20 := cell_ext hbn sS20; replace sS21 := cell_ext hbn sS21; replace sF10 := cell_ext hbn sF10; replace sF11 := cell_ext hbn sF11; replace sF20 := cell_ext hbn sF20; replace sF21 := cell_ext hbn sF21; replace HRS1 := Lib.hid (HRS1.out.ext hbn); replace HRS2 := Lib.hid (HRS2.out.ext hbn); replace HRF1 := Lib.hid (HRF1.out.ext hbn); replace HRF2 := Lib.hid (HRF2.out.ext hbn)
  replace HB5 := Lib.hid (below_le HB5.out hbn)
  clear hbn
  go_wp2_with fail
  obtain ⟨codeE, qE, usE, hfuE, hluE, hcuE, hM1, hM2⟩ := either_both A B na nb m' c' l' d' xs ys HF.out HFb.out hlx
  have ME1 := Lib.hid hM1
  have ME2 := Lib.hid hM2
  have FUE := Lib.hid hfuE
  have LUE := Lib.hid hluE
  clear hM1 hM2 hfuE hluE
  refine (ME1.out aA aB aP w11 (HS.out.ext HB5.out) (HR.out.ext HB5.out) (HRb.out.ext HB5.out)).mono ?_
  rintro e w12 ⟨CE1, pE1, fE1, rfl, hRn, hbn⟩
  have hx := below_box w12 (.cells #[.int .i64 qE, .slice CE1 pE1 fE1] 24)
  have sE10 := box0 (w := w12) (t := 24) (v0 := .int .i64 qE) (v1 := .slice CE1 pE1 fE1)
  have sE11 := box1 (w := w12) (t := 24) (v0 := .int .i64 qE) (v1 := .slice CE1 pE1 fE1)
  have hbx := below_le hbn hx
  replace k0 := cell_ext hbx k0; replace k1 := cell_ext hbx k1; replace r0 := cell_ext hbx r0; replace r1 := cell_ext hbx r1; replace sS10 := cell_ext hbx sS10; replace sS11 := cell_ext hbx sS11; replace sS20 := cell_ext hbx sS20; replace sS21 := cell_ext hbx sS21; replace sF10 := cell_ext hbx sF10; replace sF11 := cell_ext hbx sF11; replace sF20 := cell_ext hbx sF20; replace sF21 := cell_ext hbx sF21; replace HRS1 := Lib.hid (HRS1.out.ext hbx); replace HRS2 := Lib.hid (HRS2.out.ext hbx); replace HRF1 := Lib.hid (HRF1.out.ext hbx); replace HRF2 := Lib.hid (HRF2.out.ext hbx)
  have HRE1 := Lib.hid (hRn.ext hx)
  replace HB5 := Lib.hid (below_le HB5.out hbx)
  clear hRn hbn hx hbx
  go_wp2_with fail
  generalize w12.alloc (.cells #[.int .i64 qE, .slice CE1 pE1 fE1] 24) = W12 at *
  refine (ME2.out W12 (HR.out.ext HB5.out) (HRb.out.ext HB5.out)).mono ?_
  rintro e w13 ⟨CE2, pE2, fE2, rfl, hRn, hbn⟩
  have hx := below_box w13 (.cells #[.int .i64 qE, .slice CE2 pE2 fE2] 24)
  have sE20 := box0 (w := w13) (t := 24) (v0 := .int .i64 qE) (v1 := .slice CE2 pE2 fE2)
  have sE21 := box1 (w := w13) (t := 24) (v0 := .int .i64 qE) (v1 := .slice CE2 pE2 fE2)
  have hbx := below_le hbn hx
  replace k0 := cell_ext hbx k0; replace k1 := cell_ext hbx k1; replace r0 := cell_ext hbx r0; replace r1 := cell_ext hbx r1; replace sS10 := cell_ext hbx sS10; replace sS11 := cell_ext hbx sS11; replace sS20 := cell_ext hbx sS20; replace sS21 := cell_ext hbx sS21; replace sF10 := cell_ext hbx sF10; replace sF11 := cell_ext hbx sF11; replace sF20 := cell_ext hbx sF20; replace sF21 := cell_ext hbx sF21; replace sE10 := cell_ext hbx sE10; replace sE11 := cell_ext hbx sE11; replace HRS1 := Lib.hid (HRS1.out.ext hbx); replace HRS2 := Lib.hid (HRS2.out.ext hbx); replace HRF1 := Lib.hid (HRF1.out.ext hbx); replace HRF2 := Lib.hid (HRF2.out.ext hbx); replace HRE1 := Lib.hid (HRE1.out.ext hbx)
  have HRE2 := Lib.hid (hRn.ext hx)
  replace HB5 := Lib.hid (below_le HB5.out hbx)
  clear hRn hbn hx hbx
  go_wp2_with fail
  generalize w13.alloc (.cells #[.int .i64 qE, .slice CE2 pE2 fE2] 24) = W13 at *
  refine (refsame_true CS1 CS2 qS pS1 fS1 pS2 fS2 usS W13 HRS1.out HRS2.out FUS.out LUS.out).mono ?_
  rintro e w14 ⟨rfl, hbn⟩
  replace k0 := cell_ext hbn k0; replace k1 := cell_ext hbn k1; replace r0 := cell_ext hbn r0; replace r1 := cell_ext hbn r1; replace sS10 := cell_ext hbn sS10; replace sS11 := cell_ext hbn sS11; replace sS20 := cell_ext hbn sS20; replace sS21 := cell_ext hbn sS21; replace sF10 := cell_ext hbn sF10; replace sF11 := cell_ext hbn sF11; replace sF20 := cell_ext hbn sF20; replace sF21 := cell_ext hbn sF21; replace sE10 := cell_ext hbn sE10; replace sE11 := cell_ext hbn sE11; replace sE20 := cell_ext hbn sE20; replace sE21 := cell_ext hbn sE21; replace HRS1 := Lib.hid (HRS1.out.ext hbn); replace HRS2 := Lib.hid (HRS2.out.ext hbn); replace HRF1 := Lib.hid (HRF1.out.ext hbn); replace HRF2 := Lib.hid (HRF2.out.ext hbn); replace HRE1 := Lib.hid (HRE1.out.ext hbn); replace HRE2 := Lib.hid (HRE2.out.ext hbn)
  replace HB5 := Lib.hid (below_le HB5.out hbn)
  clear hbn
  go_wp2_with fail
  refine (refsame_true CF1 CF2 qF pF1 fF1 pF2 fF2 usF w14 HRF1.out HRF2.out FUF.out LUF.out).mono ?_
  rintro e w15 ⟨rfl, hbn⟩
  replace k0 := cell_ext hbn k0; replace k1 := cell_ext hbn k1; replace r0 := cell_ext hbn r0; replace r1 := cell_ext hbn r1; replace sS10 := cell_ext hbn sS10; replace sS11 := cell_ext hbn sS11; replace sS20 := cell_ext hbn sS20; replace sS21 := cell_ext hbn sS21; replace sF10 := cell_ext hbn sF10; replace sF11 := cell_ext hbn sF11; replace sF20 := cell_ext hbn sF20; replace sF21 := cell_ext hbn sF21; replace sE10 := cell_ext hbn sE10; replace sE11 := cell_ext hbn sE11; replace sE20 := cell_ext hbn sE20; replace sE21 := cell_ext hbn sE21; replace HRS1 := Lib.hid (HRS1.out.ext hbn); replace HRS2 := Lib.hid (HRS2.out.ext hbn); replace HRF1 := Lib.hid (HRF1.out.ext hbn); replace HRF2 := Lib.hid (HRF2.out.ext hbn); replace HRE1 := Lib.hid (HRE1.out.ext hbn); replace HRE2 := Lib.hid (HRE2.out.ext hbn)
  replace HB5 := Lib.hid (below_le HB5.out hbn)
  clear hbn
  go_wp2_with fail
  refine (refsame_true CE1 CE2 qE pE1 fE1 pE2 fE2 usE w15 HRE1.out HRE2.out FUE.out LUE.out).mono ?_
  rintro e w16 ⟨rfl, hbn⟩
  replace k0 := cell_ext hbn k0; replace k1 := cell_ext hbn k1; replace r0 := cell_ext hbn r0; replace r1 := cell_ext hbn r1; replace sS10 := cell_ext hbn sS10; replace sS11 := cell_ext hbn sS11; replace sS20 := cell_ext hbn sS20; replace sS21 := cell_ext hbn sS21; replace sF10 := cell_ext hbn sF10; replace sF11 := cell_ext hbn sF11; replace sF20 := cell_ext hbn sF20; replace sF21 := cell_ext hbn sF21; replace sE10 := cell_ext hbn sE10; replace sE11 := cell_ext hbn sE11; replace sE20 := cell_ext hbn sE20; replace sE21 := cell_ext hbn sE21; replace HRS1 := Lib.hid (HRS1.out.ext hbn); replace HRS2 := Lib.hid (HRS2.out.ext hbn); replace HRF1 := Lib.hid (HRF1.out.ext hbn); replace HRF2 := Lib.hid (HRF2.out.ext hbn); replace HRE1 := Lib.hid (HRE1.out.ext hbn); replace HRE2 := Lib.hid (HRE2.out.ext hbn)
  replace HB5 := Lib.hid (below_le HB5.out hbn)
  clear hbn
  go_wp2
  go_ret
  exact ⟨ret_bool (by simp), HB5.out⟩

end Go.Proofs.YtpoopkieoidhjaaDoor
