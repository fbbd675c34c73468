/-
  What is proved: RunTells returns true. No condition beyond those stated.
-/
import Derived.Test.YtncopnknjohplaaDoorQe
namespace Go.Proofs.YtncopnknjohplaaDoor
open Go.RowKit Go.Shelf

theorem wf_of_bounds {x : Int} (h : -9223372036854775808 ≤ x ∧ x ≤ 9223372036854775807) : (Lit.int .i64 x).wf = true := by
  simp [Lit.wf, IntKind.min, IntKind.max, IntKind.signed, IntKind.bits]
  omega

set_option maxRecDepth 100000 in
set_option maxHeartbeats 4000000 in
theorem runtells_any (A : Option Addr) (m c : Nat) (l : List Int) (hF : Wf l) (st k : Int) (hst : (Lit.int .i64 st).wf = true) (aS aR : Addr) (w : World) (hS : RSent w aS aR) (hR : Row w A m (l.map Iv)) (hc : m ≤ c) :
    Calls Tryd.prog 7 #[.slice A m c, .int .i64 st, .int .i64 k] w (Holds w) := by
  have HF : Hid (Wf (l.take 34)) := Lib.hid (fun x hx => hF x (List.mem_of_mem_take hx))
  have HST := Lib.hid hst
  clear hF hst
  have HS := Lib.hid hS
  have HR := Lib.hid (row_few hR)
  have hmm : min m 34 ≤ 34 := Nat.min_le_right _ _
  have hmc : min m 34 ≤ c := Nat.le_trans (Nat.min_le_left _ _) hc
  clear hS hR
  go_enter Tryd.func7, Tryd.ntmps7
  go_wp2_with fail
  refine (shown_any aS aR w HS.out).mono ?_
  rintro e w1 ⟨rfl, hb1⟩
  have HB := Lib.hid hb1
  clear hb1
  go_wp2_with fail
  refine (few_any A m c w1 hc).mono ?_
  rintro e w' ⟨rfl, rfl⟩
  generalize min m 34 = m' at *
  generalize l.take 34 = l' at HR HF
  clear hc hmc
  go_wp2_with fail
  have hl := HR.out.1
  simp at hl
  have hca : codeA l' ≤ 100 := by unfold codeA; split <;> omega
  have hra : (resA l').length ≤ 1000 := by
    unfold resA
    split
    · have h2 : (runsL l').length ≤ l'.length := by
        unfold runsL runsFrom
        have := List.length_filterMap_le (startAt l') (List.range' 0 (l'.length - 0))
        simpa using this
      omega
    · simp
  have H1 := Lib.hid (fun (w : World) (hS : RSent w aS aR) (hR : Row w A m' (l'.map Iv)) => all_any A m' c l' aS aR w hS hR (by omega))
  have H2 := Lib.hid (fun (w : World) (hR : Row w A m' (l'.map Iv)) => refall_any A m' c l' w hR (by omega))
  have H3 := Lib.hid (fun (w : World) (hR : Row w A m' (l'.map Iv)) => first_any A m' c l' k w hR (by omega))
  have H4 := Lib.hid (fun (w : World) (hR : Row w A m' (l'.map Iv)) => reffirst_any A m' c l' k w hR (by omega))
  have H5 := Lib.hid (fun (w : World) (hR : Row w A m' (l'.map Iv)) => right_any A m' c l' w hR (by omega))
  have H6 := Lib.hid (fun (w : World) (hR : Row w A m' (l'.map Iv)) => refright_any A m' c l' w hR (by omega))
  have H7 := Lib.hid (fun (w : World) (hR : Row w A m' (l'.map Iv)) => whole_any A m' c l' w hR (by omega))
  have H8 := Lib.hid (fun (w : World) (hR : Row w A m' (l'.map Iv)) => refwhole_any A m' c l' w hR (by omega))
  have H9 := Lib.hid (fun (w : World) (hR : Row w A m' (l'.map Iv)) => count_any A m' c l' st w hR (by omega) HF.out HST.out)
  have H10 := Lib.hid (fun (w : World) (hR : Row w A m' (l'.map Iv)) => refcount_any A m' c l' st w hR (by omega))
  have H11 := Lib.hid (fun (w : World) (hR : Row w A m' (l'.map Iv)) => longest_any A m' c l' w hR (by omega))
  have H12 := Lib.hid (fun (w : World) (hR : Row w A m' (l'.map Iv)) => reflongest_any A m' c l' w hR (by omega))
  generalize codeA l' = ca at *
  generalize resA l' = ra at *
  generalize firstR l' k = fr at *
  generalize rightL l' = rl at *
  generalize wholeL l' = wl at *
  generalize countL l' st = cl at *
  generalize longR l' = lo at *
  clear hl
  refine (H1.out w1 (HS.out.ext HB.out) (HR.out.ext HB.out)).mono ?_
  rintro e w2 ⟨A1, m1, c1, rfl, hR1, hb2⟩
  have HR1 := Lib.hid hR1
  replace HB := Lib.hid (below_le HB.out hb2)
  clear hb2 hR1
  go_wp2_with fail
  refine (H2.out w2 (HR.out.ext HB.out)).mono ?_
  rintro e w3 ⟨A2, m2, c2, rfl, hR2, hb3⟩
  have HR2 := Lib.hid hR2
  replace HR1 := Lib.hid (HR1.out.ext hb3)
  replace HB := Lib.hid (below_le HB.out hb3)
  have hm1 : m1 ≤ 1000 := by have := HR1.out.1; omega
  have hm2 : m2 ≤ 1000 := by have := HR2.out.1; omega
  clear hb3 hR2
  go_wp2_with fail
  refine (H3.out w3 (HR.out.ext HB.out)).mono ?_
  rintro e w4 ⟨rfl, hb4⟩
  replace HR1 := Lib.hid (HR1.out.ext hb4)
  replace HR2 := Lib.hid (HR2.out.ext hb4)
  replace HB := Lib.hid (below_le HB.out hb4)
  clear hb4
  go_wp2_with fail
  refine (H4.out w4 (HR.out.ext HB.out)).mono ?_
  rintro e w5 ⟨rfl, hb5⟩
  replace HR1 := Lib.hid (HR1.out.ext hb5)
  replace HR2 := Lib.hid (HR2.out.ext hb5)
  replace HB := Lib.hid (below_le HB.out hb5)
  clear hb5
  go_wp2_with fail
  refine (H5.out w5 (HR.out.ext HB.out)).mono ?_
  rintro e w6 ⟨rfl, hbn⟩
  replace HR1 := Lib.hid (HR1.out.ext hbn)
  replace HR2 := Lib.hid (HR2.out.ext hbn)
  replace HB := Lib.hid (below_le HB.out hbn)
  clear hbn
  go_wp2_with fail
  refine (H6.out w6 (HR.out.ext HB.out)).mono ?_
  rintro e w' ⟨rfl, rfl⟩
  have hb1 : (rl == rl) = true := by simp
  have hb2 : (wl == wl) = true := by simp
  go_wp2_with fail
  refine (H7.out w6 (HR.out.ext HB.out)).mono ?_
  rintro e w7 ⟨rfl, hbn⟩
  replace HR1 := Lib.hid (HR1.out.ext hbn)
  replace HR2 := Lib.hid (HR2.out.ext hbn)
  replace HB := Lib.hid (below_le HB.out hbn)
  clear hbn
  go_wp2_with fail
  refine (H8.out w7 (HR.out.ext HB.out)).mono ?_
  rintro e w' ⟨rfl, rfl⟩
  go_wp2_with fail
  refine (H9.out w7 (HR.out.ext HB.out)).mono ?_
  rintro e w8 ⟨rfl, hbn⟩
  replace HR1 := Lib.hid (HR1.out.ext hbn)
  replace HR2 := Lib.hid (HR2.out.ext hbn)
  replace HB := Lib.hid (below_le HB.out hbn)
  clear hbn
  go_wp2_with fail
  refine (H10.out w8 (HR.out.ext HB.out)).mono ?_
  rintro e w' ⟨rfl, rfl⟩
  go_wp2_with fail
  have h := sameh_any A1 A2 m1 c1 m2 c2 ra ra w8 HR1.out HR2.out hm1 hm2
  rw [show decide (ra = ra) = true by simp] at h
  refine h.mono ?_
  clear h
  rintro e w9 ⟨rfl, hbn⟩
  replace HB := Lib.hid (below_le HB.out hbn)
  clear hbn HR1 HR2
  go_wp2_with fail
  refine (H11.out w9 (HR.out.ext HB.out)).mono ?_
  rintro e w10 ⟨rfl, hbn⟩
  replace HB := Lib.hid (below_le HB.out hbn)
  clear hbn
  go_wp2_with fail
  refine (H12.out w10 (HR.out.ext HB.out)).mono ?_
  rintro e w' ⟨rfl, rfl⟩
  go_wp2
  go_ret
  exact ⟨ret_bool (by simp), HB.out⟩

end Go.Proofs.YtncopnknjohplaaDoor
