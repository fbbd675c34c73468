/-
  What is proved: RunTurns returns true. No condition beyond those stated.
-/
import Derived.Test.YtncopnknjohplaaDoorPb
namespace Go.Proofs.YtncopnknjohplaaDoor
open Go.RowKit Go.Shelf

theorem codeP_le (l : List Int) (f k : Int) : codeP l f k ≤ 100 := by unfold codeP; split <;> (try split) <;> omega
theorem codeC_le (l : List Int) (f : Int) : codeC l f ≤ 100 := by unfold codeC; split <;> (try split) <;> omega
theorem resP_le (l : List Int) (f k : Int) (h : l.length ≤ 1000) : (resP l f k).length ≤ 1000 := by
  unfold resP; split
  · rw [put_len]; exact h
  · simp
theorem resC_le (l : List Int) (f : Int) (h : l.length ≤ 1000) : (resC l f).length ≤ 1000 := by
  unfold resC; split
  · rw [cut_len]; exact h
  · simp
theorem numC_le (l : List Int) (f : Int) (h : l.length ≤ 1000) : numC l f ≤ 1000 := by
  unfold numC; split
  · rename_i hc
    simp only [Bool.and_eq_true, cutOk, decide_eq_true_eq] at hc
    have := tail_le l (f.toNat + 1) (by omega)
    unfold endC
    omega
  · omega

set_option maxRecDepth 100000 in
set_option maxHeartbeats 2000000 in
theorem runturns_any (A : Option Addr) (m c : Nat) (l : List Int) (f k : Int) (hf : f ≤ 9223372036854775807) (aS aR : Addr) (w : World) (hS : RSent w aS aR) (hR : Row w A m (l.map Iv)) (hc : m ≤ c) :
    Calls Tryd.prog 3 #[.slice A m c, .int .i64 f, .int .i64 k] w (Holds w) := by
  have HA := Lib.hid hf
  clear hf
  have HS := Lib.hid hS
  have HR := Lib.hid (row_few hR)
  have hmm : min m 34 ≤ 34 := Nat.min_le_right _ _
  have hmc : min m 34 ≤ c := Nat.le_trans (Nat.min_le_left _ _) hc
  clear hS hR
  go_enter Tryd.func3, Tryd.ntmps3
  go_wp2_with fail
  refine (shown_any aS aR w HS.out).mono ?_
  rintro e w1 ⟨rfl, hb1⟩
  have HB := Lib.hid hb1
  clear hb1
  go_wp2_with fail
  refine (few_any A m c w1 hc).mono ?_
  rintro e w' ⟨rfl, rfl⟩
  generalize min m 34 = m' at *
  generalize l.take 34 = l' at HR
  clear hc
  go_wp2_with fail
  have hl := HR.out.1
  simp at hl
  have h1 := codeP_le l' f k
  have h2 := codeC_le l' f
  have h3 := resP_le l' f k (by omega)
  have h4 := resC_le l' f (by omega)
  have h5 := numC_le l' f (by omega)
  have HP := Lib.hid (fun (w : World) (hS : RSent w aS aR) (hR : Row w A m' (l'.map Iv)) => put_any A m' c l' f k aS aR w hS hR (by omega) hmc HA.out)
  have HQ := Lib.hid (fun (w : World) (hR : Row w A m' (l'.map Iv)) => refput_any A m' c l' f k w hR (by omega))
  have HC := Lib.hid (fun (w : World) (hS : RSent w aS aR) (hR : Row w A m' (l'.map Iv)) => cut_any A m' c l' f aS aR w hS hR (by omega))
  have HD := Lib.hid (fun (w : World) (hR : Row w A m' (l'.map Iv)) => refcut_any A m' c l' f w hR (by omega))
  generalize codeP l' f k = cp at *
  generalize resP l' f k = rp at *
  generalize codeC l' f = cc at *
  generalize resC l' f = rc at *
  generalize numC l' f = nc at *
  clear hl
  refine (HP.out w1 (HS.out.ext HB.out) (HR.out.ext HB.out)).mono ?_
  rintro e w2 ⟨A1, m1, c1, rfl, hR1, -, hb2⟩
  have HR1 := Lib.hid hR1
  replace HB := Lib.hid (below_le HB.out hb2)
  clear hb2 hR1
  go_wp2_with fail
  refine (HQ.out w2 (HR.out.ext HB.out)).mono ?_
  rintro e w3 ⟨A2, m2, c2, rfl, hR2, hb3⟩
  have HR2 := Lib.hid hR2
  replace HR1 := Lib.hid (HR1.out.ext hb3)
  replace HB := Lib.hid (below_le HB.out hb3)
  clear hb3 hR2
  go_wp2_with fail
  refine (HC.out w3 (HS.out.ext HB.out) (HR.out.ext HB.out)).mono ?_
  rintro e w4 ⟨A3, m3, c3, rfl, hR3, -, hb4⟩
  have HR3 := Lib.hid hR3
  replace HR1 := Lib.hid (HR1.out.ext hb4)
  replace HR2 := Lib.hid (HR2.out.ext hb4)
  replace HB := Lib.hid (below_le HB.out hb4)
  clear hb4 hR3
  go_wp2_with fail
  refine (HD.out w4 (HR.out.ext HB.out)).mono ?_
  rintro e w5 ⟨A4, m4, c4, rfl, hR4, hb5⟩
  have HR4 := Lib.hid hR4
  replace HR1 := Lib.hid (HR1.out.ext hb5)
  replace HR2 := Lib.hid (HR2.out.ext hb5)
  replace HR3 := Lib.hid (HR3.out.ext hb5)
  replace HB := Lib.hid (below_le HB.out hb5)
  clear hb5 hR4
  have l1 := HR1.out.1
  have l2 := HR2.out.1
  have l3 := HR3.out.1
  have l4 := HR4.out.1
  simp at l1 l2 l3 l4
  have hm1 : m1 ≤ 1000 := by omega
  have hm2 : m2 ≤ 1000 := by omega
  have hm3 : m3 ≤ 1000 := by omega
  have hm4 : m4 ≤ 1000 := by omega
  clear l1 l2 l3 l4
  go_wp2_with fail
  have h := ints_any A1 A2 m1 c1 m2 c2 rp rp w5 HR1.out HR2.out (by omega) (by omega)
  rw [show decide (rp = rp) = true by simp] at h
  refine h.mono ?_
  clear h
  rintro e w6 ⟨rfl, hb6⟩
  replace HR3 := Lib.hid (HR3.out.ext hb6)
  replace HR4 := Lib.hid (HR4.out.ext hb6)
  replace HB := Lib.hid (below_le HB.out hb6)
  clear hb6
  go_wp2_with fail
  have h := ints_any A3 A4 m3 c3 m4 c4 rc rc w6 HR3.out HR4.out (by omega) (by omega)
  rw [show decide (rc = rc) = true by simp] at h
  refine h.mono ?_
  clear h
  rintro e w7 ⟨rfl, hb7⟩
  replace HB := Lib.hid (below_le HB.out hb7)
  clear hb7
  go_wp2
  go_ret
  exact ⟨ret_bool (by simp), HB.out⟩

end Go.Proofs.YtncopnknjohplaaDoor
