/-
  What is proved: RunBack returns true. No condition beyond those stated.
-/
import Derived.Test.YtncopnknjohplaaDoorOq
namespace Go.Proofs.YtncopnknjohplaaDoor
open Go.RowKit Go.Shelf

set_option maxRecDepth 100000 in
set_option maxHeartbeats 2000000 in
theorem runback_any (A : Option Addr) (m c : Nat) (l : List Int) (f k : Int) (hf : f ≤ 9223372036854775807) (aS aR : Addr) (w : World) (hS : RSent w aS aR) (hR : Row w A m (l.map Iv)) (hc : m ≤ c) :
    Calls Tryd.prog 6 #[.slice A m c, .int .i64 f, .int .i64 k] w (Holds w) := by
  have HA := Lib.hid hf
  clear hf
  have HS := Lib.hid hS
  have HR := Lib.hid (row_few hR)
  have hmm : min m 34 ≤ 34 := Nat.min_le_right _ _
  have hmc : min m 34 ≤ c := Nat.le_trans (Nat.min_le_left _ _) hc
  clear hS hR
  go_enter Tryd.func6, Tryd.ntmps6
  go_wp2_with fail
  refine (shown_any aS aR w HS.out).mono ?_
  rintro e w1 ⟨rfl, hb1⟩
  have HB := Lib.hid hb1
  clear hb1
  go_wp2_with fail
  refine (few_any A m c w1 hc).mono ?_
  rintro e w' ⟨rfl, rfl⟩
  generalize min m 34 = m' at *
  generalize l.take 34 = l' at HR
  clear hc
  go_wp2_with fail
  cases hw : wholeL l'
  · have h := put_any A m' c l' f k aS aR w1 (HS.out.ext HB.out) (HR.out.ext HB.out) (by omega) hmc HA.out
    rw [show codeP l' f k = 90 by simp [codeP, hw], show resP l' f k = [] by simp [resP, hw]] at h
    refine h.mono ?_
    clear h
    rintro e w2 ⟨A1, m1, c1, rfl, hR1, -, hb2⟩
    have hm1 : m1 = 0 := by have := hR1.1; simpa using this.symm
    subst hm1
    replace HB := Lib.hid (below_le HB.out hb2)
    have HW := Lib.hid hw
    clear hb2 hR1 hw
    go_wp2_with fail
    have h := whole_any A m' c l' w2 (HR.out.ext HB.out) (by omega)
    rw [HW.out] at h
    refine h.mono ?_
    clear h
    rintro e w3 ⟨rfl, hb3⟩
    replace HB := Lib.hid (below_le HB.out hb3)
    clear hb3
    go_wp2
    go_ret
    exact ⟨rfl, HB.out⟩
  · cases hp : putOk l' f k
    · have h := put_any A m' c l' f k aS aR w1 (HS.out.ext HB.out) (HR.out.ext HB.out) (by omega) hmc HA.out
      rw [show codeP l' f k = 91 by simp [codeP, hw, hp], show resP l' f k = [] by simp [resP, hp]] at h
      refine h.mono ?_
      clear h
      rintro e w2 ⟨A1, m1, c1, rfl, hR1, -, hb2⟩
      have hm1 : m1 = 0 := by have := hR1.1; simpa using this.symm
      subst hm1
      replace HB := Lib.hid (below_le HB.out hb2)
      have HW := Lib.hid hw
      clear hb2 hR1 hw hp
      go_wp2_with fail
      have h := whole_any A m' c l' w2 (HR.out.ext HB.out) (by omega)
      rw [HW.out] at h
      refine h.mono ?_
      clear h
      rintro e w3 ⟨rfl, hb3⟩
      replace HB := Lib.hid (below_le HB.out hb3)
      clear hb3
      go_wp2
      go_ret
      exact ⟨rfl, HB.out⟩
    · obtain ⟨hpi, hf0, hk1, hfk⟩ := PutIn.of hp
      have hl := HR.out.1
      simp at hl
      have hwa := put_whole_whole hw hpi
      have hhd := put_head hpi
      have hen := put_end hw hpi
      have hct := put_cut hpi
      have hcn := put_count hpi
      have hlen := right_len (whole_right hw)
      have hcl := count_len l' 0
      have h := put_any A m' c l' f k aS aR w1 (HS.out.ext HB.out) (HR.out.ext HB.out) (by omega) hmc HA.out
      rw [show codeP l' f k = 0 by simp [codeP, hw, hp], show resP l' f k = putL l' f.toNat k.toNat by simp [resP, hw, hp]] at h
      have hla : (putL l' f.toNat k.toNat).length = l'.length := put_len _ _ _
      have hwf0 := right_wf (whole_right hw)
      have hwf1 := right_wf (whole_right hwa)
      generalize putL l' f.toNat k.toNat = la at *
      have hco : cutOk la f = true := by
        unfold cutOk
        rw [decide_eq_true hf0, decide_eq_true (show f < la.length by omega), hhd]
        rfl
      have hcc : codeC la f = 0 := by simp [codeC, hwa, hco]
      have hec : endC la f = f.toNat + k.toNat := hen
      have hnc : numC la f = k.toNat := by simp [numC, hwa, hco, hec]
      have hrc : resC la f = l' := by simp [resC, hwa, hco, hec]; exact hct
      refine h.mono ?_
      clear h
      rintro e w2 ⟨A1, m1, c1, rfl, hR1, -, hb2⟩
      have hm1 : m1 ≤ 1000 := by have := hR1.1; simp at this; omega
      replace HB := Lib.hid (below_le HB.out hb2)
      have HRa := Lib.hid hR1
      have HCC := Lib.hid hcc
      have HNC := Lib.hid hnc
      have HRC := Lib.hid hrc
      have HW := Lib.hid hw
      have HWA := Lib.hid hwa
      have HF0 := Lib.hid hwf0
      have HF1 := Lib.hid hwf1
      have Hf0 := Lib.hid hf0
      obtain ⟨kk, hkk⟩ : ∃ kk : Nat, k = kk := ⟨k.toNat, by omega⟩
      subst hkk
      rw [Int.toNat_natCast] at HNC hcn
      have hkl : kk ≤ 32 := by omega
      obtain ⟨n0, hn0⟩ : ∃ n0, countL l' 0 = n0 := ⟨_, rfl⟩
      obtain ⟨n1, hn1⟩ : ∃ n1, countL la 0 = n1 := ⟨_, rfl⟩
      rw [hn0] at hcl hcn
      rw [hn1] at hcn
      have hn0b : n0 ≤ 32 := by omega
      have HN0 := Lib.hid hn0
      have HN1 := Lib.hid hn1
      have HLE := Lib.hid hlen
      clear hb2 hR1 hcc hnc hrc hec hco hw hwa hwf0 hwf1 hp hpi hhd hen hct hlen hn0 hn1 hl hla hcl hf0
      go_wp2_with fail
      have h := cut_any A1 m1 c1 la f aS aR w2 (HS.out.ext HB.out) HRa.out hm1
      rw [HCC.out, HNC.out, HRC.out] at h
      refine h.mono ?_
      clear h
      rintro e w3 ⟨A2, m2, c2, rfl, hR2, -, hb3⟩
      have hm2 : m2 ≤ 1000 := by have h1 := hR2.1; have h2 := HLE.out; simp at h1; omega
      have HRb := Lib.hid hR2
      replace HRa := Lib.hid (HRa.out.ext hb3)
      replace HB := Lib.hid (below_le HB.out hb3)
      clear hb3 hR2
      go_wp2_with fail
      have h := whole_any A1 m1 c1 la w3 HRa.out hm1
      rw [HWA.out] at h
      refine h.mono ?_
      clear h
      rintro e w4 ⟨rfl, hb4⟩
      replace HRa := Lib.hid (HRa.out.ext hb4)
      replace HRb := Lib.hid (HRb.out.ext hb4)
      replace HB := Lib.hid (below_le HB.out hb4)
      clear hb4
      go_wp2_with fail
      have h := whole_any A2 m2 c2 l' w4 HRb.out hm2
      rw [HW.out] at h
      refine h.mono ?_
      clear h
      rintro e w5 ⟨rfl, hb5⟩
      replace HRa := Lib.hid (HRa.out.ext hb5)
      replace HRb := Lib.hid (HRb.out.ext hb5)
      replace HB := Lib.hid (below_le HB.out hb5)
      clear hb5
      go_wp2_with fail
      have h := count_any A1 m1 c1 la 0 w5 HRa.out hm1 HF1.out (wf_small (by omega) (by omega))
      rw [HN1.out] at h
      refine h.mono ?_
      clear h
      rintro e w6 ⟨rfl, hb6⟩
      replace HRb := Lib.hid (HRb.out.ext hb6)
      replace HB := Lib.hid (below_le HB.out hb6)
      clear hb6
      go_wp2_with fail
      have h := count_any A m' c l' 0 w6 (HR.out.ext HB.out) (by omega) HF0.out (wf_small (by omega) (by omega))
      rw [HN0.out] at h
      refine h.mono ?_
      clear h
      rintro e w7 ⟨rfl, hb7⟩
      replace HRb := Lib.hid (HRb.out.ext hb7)
      replace HB := Lib.hid (below_le HB.out hb7)
      clear hb7
      have hq1 : ((n1 : Int) == (n0 : Int) - (kk : Int)) = true := by simp; omega
      go_wp2_with fail
      have h := count_any A2 m2 c2 l' 0 w7 HRb.out hm2 HF0.out (wf_small (by omega) (by omega))
      rw [HN0.out] at h
      refine h.mono ?_
      clear h
      rintro e w8 ⟨rfl, hb8⟩
      replace HRb := Lib.hid (HRb.out.ext hb8)
      replace HB := Lib.hid (below_le HB.out hb8)
      clear hb8
      go_wp2_with fail
      have h := count_any A m' c l' 0 w8 (HR.out.ext HB.out) (by omega) HF0.out (wf_small (by omega) (by omega))
      rw [HN0.out] at h
      refine h.mono ?_
      clear h
      rintro e w9 ⟨rfl, hb9⟩
      replace HRb := Lib.hid (HRb.out.ext hb9)
      replace HB := Lib.hid (below_le HB.out hb9)
      clear hb9
      have hq2 : ((n0 : Int) == (n0 : Int) + (kk : Int) - (kk : Int)) = true := by simp
      go_wp2_with fail
      have h := ints_any A2 A m2 c2 m' c l' l' w9 HRb.out (HR.out.ext HB.out) (by omega) (by omega)
      rw [show decide (l' = l') = true by simp] at h
      refine h.mono ?_
      clear h
      rintro e w10 ⟨rfl, hb10⟩
      replace HB := Lib.hid (below_le HB.out hb10)
      clear hb10
      go_wp2
      go_ret
      exact ⟨rfl, HB.out⟩

end Go.Proofs.YtncopnknjohplaaDoor
