/-
  What is proved: the contract of shown of the laws of layer 10. No condition beyond those stated.
-/
import Derived.Test.YtllanbggjfmfhaaGreatDoorIb
namespace Go.Proofs.YtllanbggjfmfhaaGreatDoor
open Go.RowKit Go.Shelf

theorem pbox0 (w : World) (t : TypeId) (a b : Value) : (w.alloc (.cells #[a, b] t)).cell? ⟨w.heap.size, 0, none⟩ = some a := by simp [go_sem]
theorem pbox1 (w : World) (t : TypeId) (a b : Value) : (w.alloc (.cells #[a, b] t)).cell? ⟨w.heap.size, 1, none⟩ = some b := by simp [go_sem]
theorem run_four (x y z u : Int) (W : World) : (Instr.buildSlice 22 4 #[(0, .int .i64 x), (1, .int .i64 y), (2, .int .i64 z), (3, .int .i64 u)]).run Tryz.prog W = .ok (.slice (some ⟨W.heap.size, 0, none⟩) 4 4) (W.alloc (.cells #[.int .i64 x, .int .i64 y, .int .i64 z, .int .i64 u] 3)) := by go_simp

/-- The lists that shown comes by. -/
def sh0 : List (List Int) := [tab0, tab0, tab0, tab0]
theorem sh_new : pnewL 4 = [0, 0, 0, 0] ∧ pnewT 4 = sh0 ∧ pnewC 4 = 0 := by decide +kernel
theorem sh_free : takeL [0, 0, 0, 0] sh0 0 = [5, 0, 0, 0] ∧ takeT [0, 0, 0, 0] sh0 0 = sh0 ∧ takeN [0, 0, 0, 0] sh0 0 = 0 ∧ takeOk [0, 0, 0, 0] sh0 0 = true := by decide +kernel
theorem sh_run : runL [5, 0, 0, 0] sh0 2 = [5, 3, 4, 0] ∧ runT [5, 0, 0, 0] sh0 2 = sh0 ∧ runN [5, 0, 0, 0] sh0 2 = 1 ∧ runOk [5, 0, 0, 0] sh0 2 = true := by decide +kernel
theorem sh_close : closeL [5, 3, 4, 0] sh0 0 = [2, 3, 4, 0] ∧ closeT [5, 3, 4, 0] sh0 0 = sh0 ∧ closeC [5, 3, 4, 0] sh0 0 = 0 := by decide +kernel
theorem sh_hole : takeOk [2, 3, 4, 0] sh0 1 = false := by decide +kernel
theorem sh_close2 : closeC [2, 3, 4, 0] sh0 0 = 90 := by decide +kernel
theorem sh_count : pcL [5, 3, 4, 0] sh0 = [1, 0, 0, 1, 1, 1] ∧ pcC [5, 3, 4, 0] sh0 = 0 := by decide +kernel

set_option maxRecDepth 100000 in
set_option maxHeartbeats 4000000 in
/-- shown. -/
theorem pshown_any (aS aR : Addr) (w : World) (hRS : RSent w aS aR) (hE : EType w) :
    Calls Tryz.prog 5 #[] w fun e w' => e = .returned (.bool true) ∧ Below w.heap.size w w' := by
  have HRS := Lib.hid hRS
  have HE := Lib.hid hE
  have HB := Lib.hid (Below.refl w.heap.size w)
  clear hRS hE
  go_enter Tryz.func5, Tryz.ntmps5
  go_wp2_with fail
  have h := pnew_any 4 w HE.out
  rw [sh_new.1, sh_new.2.1, sh_new.2.2] at h
  refine h.mono ?_
  clear h
  rintro e w1 ⟨v, rfl, hp, hb1⟩
  obtain ⟨S1, m1, c1, T1, k1, d1, rfl, hR, hT, -⟩ := hp.read
  obtain rfl : m1 = 4 := by have := hR.1; simpa using this.symm
  obtain rfl : k1 = 4 := by have := hT.1; simpa [sh0] using this.symm
  have R1 := Lib.hid hR
  have T1h := Lib.hid hT
  replace HB := Lib.hid (below_le HB.out hb1)
  clear hp hR hT hb1
  have hx_ := below_box w1 (.cells #[.slice S1 4 c1, .slice T1 4 d1] 25)
  replace R1 := Lib.hid (R1.out.ext hx_)
  replace T1h := Lib.hid (T1h.out.ext hx_)
  have a0 := pbox0 w1 25 (.slice S1 4 c1) (.slice T1 4 d1)
  have a1 := pbox1 w1 25 (.slice S1 4 c1) (.slice T1 4 d1)
  replace HB := Lib.hid (below_le HB.out hx_)
  clear hx_
  go_wp2_with fail
  generalize w1.alloc (.cells #[.slice S1 4 c1, .slice T1 4 d1] 25) = W1 at *
  have h := takeFree_any S1 4 c1 T1 4 d1 [0, 0, 0, 0] sh0 W1 R1.out T1h.out (by omega) (by omega)
  rw [sh_free.1, sh_free.2.1, sh_free.2.2.1, sh_free.2.2.2] at h
  refine h.mono ?_
  clear h
  rintro e w2 ⟨v, rfl, hp, hb2⟩
  obtain ⟨S2, m2, c2, T2, k2, d2, rfl, hR, hT, -⟩ := hp.read
  obtain rfl : m2 = 4 := by have := hR.1; simpa using this.symm
  obtain rfl : k2 = 4 := by have := hT.1; simpa [sh0] using this.symm
  have R2 := Lib.hid hR
  have T2h := Lib.hid hT
  replace HB := Lib.hid (below_le HB.out hb2)
  clear hp hR hT hb2 R1 T1h a0 a1
  have hx_ := below_box w2 (.cells #[.slice S2 4 c2, .slice T2 4 d2] 25)
  replace R2 := Lib.hid (R2.out.ext hx_)
  replace T2h := Lib.hid (T2h.out.ext hx_)
  have a0 := pbox0 w2 25 (.slice S2 4 c2) (.slice T2 4 d2)
  have a1 := pbox1 w2 25 (.slice S2 4 c2) (.slice T2 4 d2)
  replace HB := Lib.hid (below_le HB.out hx_)
  clear hx_
  go_wp2_with fail
  generalize w2.alloc (.cells #[.slice S2 4 c2, .slice T2 4 d2] 25) = W2 at *
  have h := takeRun_any S2 4 c2 T2 4 d2 [5, 0, 0, 0] sh0 2 aS aR W2 (HRS.out.ext HB.out) R2.out T2h.out (by omega) (by omega)
  rw [sh_run.1, sh_run.2.1, sh_run.2.2.1, sh_run.2.2.2] at h
  refine h.mono ?_
  clear h
  rintro e w3 ⟨v, rfl, hp, hb3⟩
  obtain ⟨S3, m3, c3, T3, k3, d3, rfl, hR, hT, -⟩ := hp.read
  obtain rfl : m3 = 4 := by have := hR.1; simpa using this.symm
  obtain rfl : k3 = 4 := by have := hT.1; simpa [sh0] using this.symm
  have R3 := Lib.hid hR
  have T3h := Lib.hid hT
  replace HB := Lib.hid (below_le HB.out hb3)
  clear hp hR hT hb3 R2 T2h a0 a1
  have hx_ := below_box w3 (.cells #[.slice S3 4 c3, .slice T3 4 d3] 25)
  replace R3 := Lib.hid (R3.out.ext hx_)
  replace T3h := Lib.hid (T3h.out.ext hx_)
  have a0 := pbox0 w3 25 (.slice S3 4 c3) (.slice T3 4 d3)
  have a1 := pbox1 w3 25 (.slice S3 4 c3) (.slice T3 4 d3)
  replace HB := Lib.hid (below_le HB.out hx_)
  clear hx_
  go_wp2_with fail
  generalize w3.alloc (.cells #[.slice S3 4 c3, .slice T3 4 d3] 25) = W3 at *
  have h := close_any S3 4 c3 T3 4 d3 [5, 3, 4, 0] sh0 0 W3 (HE.out.ext HB.out) R3.out T3h.out (by omega) (by omega)
  rw [sh_close.1, sh_close.2.1, sh_close.2.2] at h
  refine h.mono ?_
  clear h
  rintro e w4 ⟨v, rfl, hp, hb4⟩
  obtain ⟨S4, m4, c4, T4, k4, d4, rfl, hR, hT, -⟩ := hp.read
  obtain rfl : m4 = 4 := by have := hR.1; simpa using this.symm
  obtain rfl : k4 = 4 := by have := hT.1; simpa [sh0] using this.symm
  have R4 := Lib.hid hR
  have T4h := Lib.hid hT
  replace HB := Lib.hid (below_le HB.out hb4)
  replace R3 := Lib.hid (R3.out.ext hb4)
  replace T3h := Lib.hid (T3h.out.ext hb4)
  replace a0 := cell_ext hb4 a0
  replace a1 := cell_ext hb4 a1
  clear hp hR hT hb4
  have hx_ := below_box w4 (.cells #[.slice S4 4 c4, .slice T4 4 d4] 25)
  replace a0 := cell_ext hx_ a0
  replace a1 := cell_ext hx_ a1
  replace R3 := Lib.hid (R3.out.ext hx_)
  replace T3h := Lib.hid (T3h.out.ext hx_)
  replace R4 := Lib.hid (R4.out.ext hx_)
  replace T4h := Lib.hid (T4h.out.ext hx_)
  have b0 := pbox0 w4 25 (.slice S4 4 c4) (.slice T4 4 d4)
  have b1 := pbox1 w4 25 (.slice S4 4 c4) (.slice T4 4 d4)
  replace HB := Lib.hid (below_le HB.out hx_)
  clear hx_
  go_wp2_with fail
  generalize w4.alloc (.cells #[.slice S4 4 c4, .slice T4 4 d4] 25) = W4 at *
  have h := takeHole_any S4 4 c4 T4 4 d4 [2, 3, 4, 0] sh0 W4 R4.out T4h.out (by omega) (by omega)
  rw [sh_hole] at h
  refine h.mono ?_
  clear h
  rintro e w5 ⟨v, rfl, hp, hb5⟩
  obtain ⟨S5, m5, c5, T5, k5, d5, rfl, -, -, -⟩ := hp.read
  replace HB := Lib.hid (below_le HB.out hb5)
  replace R3 := Lib.hid (R3.out.ext hb5)
  replace T3h := Lib.hid (T3h.out.ext hb5)
  replace R4 := Lib.hid (R4.out.ext hb5)
  replace T4h := Lib.hid (T4h.out.ext hb5)
  replace a0 := cell_ext hb5 a0
  replace a1 := cell_ext hb5 a1
  replace b0 := cell_ext hb5 b0
  replace b1 := cell_ext hb5 b1
  clear hp hb5
  generalize takeN [2, 3, 4, 0] sh0 1 = tn at *
  have hx_ := below_box w5 (.cells #[.slice S5 m5 c5, .slice T5 k5 d5] 25)
  replace a0 := cell_ext hx_ a0
  replace a1 := cell_ext hx_ a1
  replace b0 := cell_ext hx_ b0
  replace b1 := cell_ext hx_ b1
  replace R3 := Lib.hid (R3.out.ext hx_)
  replace T3h := Lib.hid (T3h.out.ext hx_)
  replace R4 := Lib.hid (R4.out.ext hx_)
  replace T4h := Lib.hid (T4h.out.ext hx_)
  have z0 := pbox0 w5 25 (.slice S5 m5 c5) (.slice T5 k5 d5)
  have z1 := pbox1 w5 25 (.slice S5 m5 c5) (.slice T5 k5 d5)
  replace HB := Lib.hid (below_le HB.out hx_)
  clear hx_
  go_wp2_with fail
  generalize w5.alloc (.cells #[.slice S5 m5 c5, .slice T5 k5 d5] 25) = W5 at *
  clear z0 z1
  have h := close_any S4 4 c4 T4 4 d4 [2, 3, 4, 0] sh0 0 W5 (HE.out.ext HB.out) R4.out T4h.out (by omega) (by omega)
  rw [sh_close2] at h
  refine h.mono ?_
  clear h
  rintro e w6 ⟨v, rfl, hp, hb6⟩
  obtain ⟨S6, m6, c6, T6, k6, d6, rfl, -, -, -⟩ := hp.read
  replace HB := Lib.hid (below_le HB.out hb6)
  replace R3 := Lib.hid (R3.out.ext hb6)
  replace T3h := Lib.hid (T3h.out.ext hb6)
  replace R4 := Lib.hid (R4.out.ext hb6)
  replace a0 := cell_ext hb6 a0
  replace a1 := cell_ext hb6 a1
  replace b0 := cell_ext hb6 b0
  clear hp hb6 T4h b1
  have hx_ := below_box w6 (.cells #[.slice S6 m6 c6, .slice T6 k6 d6] 25)
  replace a0 := cell_ext hx_ a0
  replace a1 := cell_ext hx_ a1
  replace b0 := cell_ext hx_ b0
  replace R3 := Lib.hid (R3.out.ext hx_)
  replace T3h := Lib.hid (T3h.out.ext hx_)
  replace R4 := Lib.hid (R4.out.ext hx_)
  have z0 := pbox0 w6 25 (.slice S6 m6 c6) (.slice T6 k6 d6)
  have z1 := pbox1 w6 25 (.slice S6 m6 c6) (.slice T6 k6 d6)
  replace HB := Lib.hid (below_le HB.out hx_)
  clear hx_
  go_wp2_with fail
  generalize w6.alloc (.cells #[.slice S6 m6 c6, .slice T6 k6 d6] 25) = W6 at *
  clear z0 z1
  have h := pcounts_any S3 4 c3 T3 4 d3 [5, 3, 4, 0] sh0 W6 (HE.out.ext HB.out) R3.out T3h.out (by omega) (by omega)
  rw [sh_count.1, sh_count.2] at h
  refine h.mono ?_
  clear h
  rintro e w7 ⟨A7, m7, c7, rfl, hR7, hb7⟩
  obtain rfl : m7 = 6 := by have := hR7.1; simpa using this.symm
  have R7 := Lib.hid hR7
  replace HB := Lib.hid (below_le HB.out hb7)
  replace R4 := Lib.hid (R4.out.ext hb7)
  replace b0 := cell_ext hb7 b0
  clear hR7 hb7 a0 a1 R3 T3h
  have hr4 := run_four 2 3 4 0
  have hr6 := run_six 1 0 0 1 1 1
  have hx := below_box w7 (.cells #[.int .i64 2, .int .i64 3, .int .i64 4, .int .i64 0] 3)
  have L4 : Hid (Row (w7.alloc (.cells #[.int .i64 2, .int .i64 3, .int .i64 4, .int .i64 0] 3)) (some ⟨w7.heap.size, 0, none⟩) 4 (([2, 3, 4, 0] : List Int).map Iv)) := Lib.hid (row_new w7 [2, 3, 4, 0] _ rfl)
  replace HB := Lib.hid (below_le HB.out hx)
  replace R4 := Lib.hid (R4.out.ext hx)
  replace R7 := Lib.hid (R7.out.ext hx)
  clear hx
  go_wp2_with fail
  generalize w7.alloc (.cells #[.int .i64 2, .int .i64 3, .int .i64 4, .int .i64 0] 3) = W7 at *
  have h := ints_any S4 _ 4 c4 4 4 [2, 3, 4, 0] [2, 3, 4, 0] W7 R4.out L4.out (by omega) (by omega)
  rw [decide_eq_true rfl] at h
  refine h.mono ?_
  clear h
  rintro e w8 ⟨rfl, hb8⟩
  have hx := below_box w8 (.cells #[.int .i64 1, .int .i64 0, .int .i64 0, .int .i64 1, .int .i64 1, .int .i64 1] 3)
  have L6 : Hid (Row (w8.alloc (.cells #[.int .i64 1, .int .i64 0, .int .i64 0, .int .i64 1, .int .i64 1, .int .i64 1] 3)) (some ⟨w8.heap.size, 0, none⟩) 6 (([1, 0, 0, 1, 1, 1] : List Int).map Iv)) := Lib.hid (row_new w8 [1, 0, 0, 1, 1, 1] _ rfl)
  replace HB := Lib.hid (below_le HB.out (below_le hb8 hx))
  replace R7 := Lib.hid (R7.out.ext (below_le hb8 hx))
  clear hx hb8
  go_wp2_with fail
  generalize w8.alloc (.cells #[.int .i64 1, .int .i64 0, .int .i64 0, .int .i64 1, .int .i64 1, .int .i64 1] 3) = W8 at *
  have h := ints_any A7 _ 6 c7 6 6 [1, 0, 0, 1, 1, 1] [1, 0, 0, 1, 1, 1] W8 R7.out L6.out (by omega) (by omega)
  rw [decide_eq_true rfl] at h
  refine h.mono ?_
  clear h
  rintro e w9 ⟨rfl, hb9⟩
  replace HB := Lib.hid (below_le HB.out hb9)
  clear hb9
  go_wp2
  go_ret
  exact ⟨rfl, HB.out⟩

end Go.Proofs.YtllanbggjfmfhaaGreatDoor
