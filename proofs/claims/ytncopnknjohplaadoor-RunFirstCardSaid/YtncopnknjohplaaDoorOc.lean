/-
  What is proved: RunFirst returns true. No condition beyond those stated.
-/
import Derived.Test.YtncopnknjohplaaDoorOp
namespace Go.Proofs.YtncopnknjohplaaDoor
open Go.RowKit Go.Shelf

set_option maxRecDepth 100000 in
set_option maxHeartbeats 2000000 in
theorem runfirst_any (A : Option Addr) (m c : Nat) (l : List Int) (k a : Int) (ha : a ≤ 9223372036854775807) (aS aR : Addr) (w : World) (hS : RSent w aS aR) (hR : Row w A m (l.map Iv)) (hc : m ≤ c) :
    Calls Tryd.prog 4 #[.slice A m c, .int .i64 k, .int .i64 a] w (Holds w) := by
  have HA := Lib.hid ha
  clear ha
  have HS := Lib.hid hS
  have HR := Lib.hid (row_few hR)
  have hmm : min m 34 ≤ 34 := Nat.min_le_right _ _
  have hmc : min m 34 ≤ c := Nat.le_trans (Nat.min_le_left _ _) hc
  clear hS hR
  go_enter Tryd.func4, Tryd.ntmps4
  go_wp2_with fail
  refine (shown_any aS aR w HS.out).mono ?_
  rintro e w1 ⟨rfl, hb1⟩
  have HB := Lib.hid hb1
  clear hb1
  go_wp2_with fail
  refine (few_any A m c w1 hc).mono ?_
  rintro e w' ⟨rfl, rfl⟩
  generalize min m 34 = m' at *
  generalize l.take 34 = l' at HR
  clear hc
  go_wp2_with fail
  obtain ⟨o, ho⟩ : ∃ o, firstR l' k = o := ⟨_, rfl⟩
  have h := first_any A m' c l' k w1 (HR.out.ext HB.out) (by omega)
  rw [ho] at h
  refine h.mono ?_
  clear h
  rintro e w2 ⟨rfl, hb2⟩
  replace HB := Lib.hid (below_le HB.out hb2)
  clear hb2
  have HO := Lib.hid ho
  clear ho
  go_wp2_with fail
  refine (whole_any A m' c l' w2 (HR.out.ext HB.out) (by omega)).mono ?_
  rintro e w3 ⟨rfl, hb3⟩
  replace HB := Lib.hid (below_le HB.out hb3)
  clear hb3
  have hdone : Hid (o = none → (o.getD (0, 0)).1 = 0) := Lib.hid (fun h => by rw [h]; rfl)
  cases hw : wholeL l'
  · clear hw
    cases o with
    | none =>
      simp only [Option.getD_none, Option.isSome_none]
      go_wp2
      go_ret
      exact ⟨rfl, HB.out⟩
    | some r =>
      simp only [Option.getD_some, Option.isSome_some]
      go_wp2
      go_ret
      exact ⟨rfl, HB.out⟩
  · by_cases hk : k < 1
    · clear hw
      cases o with
      | none =>
        simp only [Option.getD_none, Option.isSome_none]
        go_wp2
        go_ret
        exact ⟨rfl, HB.out⟩
      | some r =>
        simp only [Option.getD_some, Option.isSome_some]
        go_wp2
        go_ret
        exact ⟨rfl, HB.out⟩
    · have hr : rightL l' = true := by
        simp only [wholeL, Bool.and_eq_true] at hw
        exact hw.1
      have hk1 : 1 ≤ k := by omega
      have hlong := first_longest hr hk1
      rw [HO.out] at hlong
      have hlen := right_len hr
      have hp1 : ∀ r, o = some r → codeP l' (r.1 : Int) k = 0 := fun r e => by
        have := (first_fits (HO.out.trans e)).1
        simp [codeP, hw, this]
      have hp2 : codeP l' a k = 0 → ∃ r, o = some r ∧ (r.1 : Int) ≤ a := fun h => by
        have hpo : putOk l' a k = true := by
          cases e : putOk l' a k
          · simp [codeP, hw, e] at h
          · rfl
        simp only [putOk, Bool.and_eq_true, decide_eq_true_eq] at hpo
        obtain ⟨⟨⟨h0, h1⟩, h2⟩, h3⟩ := hpo
        obtain ⟨r, hr1, hr2⟩ := fits_first (k := k.toNat) (a := a.toNat) hr (by omega) (by omega) h3
        rw [Int.toNat_of_nonneg (by omega), HO.out] at hr1
        exact ⟨r, hr1, by omega⟩
      have hcl : ∀ b, codeP l' b k ≤ 100 := fun b => by unfold codeP; split <;> (try split) <;> omega
      have HP1 := Lib.hid hp1
      have HP2 := Lib.hid hp2
      have hng : (((o.getD (0, 0)).1 : Nat) : Int) ≤ 1000 := by
        cases o with
        | none => simp
        | some r => have := first_bounds HO.out; simp; omega
      have HLO := Lib.hid hlong
      have HCL := Lib.hid hcl
      clear hlong hp1 hp2 hcl hr hlen hw
      obtain ⟨nn, hnn⟩ : ∃ nn : Nat, (o.getD (0, 0)).1 = nn := ⟨_, rfl⟩
      rw [hnn] at hng ⊢
      have HNN := Lib.hid hnn
      clear hnn
      go_wp2_with fail
      obtain ⟨ce, hce⟩ : ∃ ce, codeP l' (nn : Int) k = ce := ⟨_, rfl⟩
      obtain ⟨cf, hcf⟩ : ∃ cf, codeP l' a k = cf := ⟨_, rfl⟩
      have hce1 := HCL.out (nn : Int)
      have hcf1 := HCL.out a
      rw [hce] at hce1
      rw [hcf] at hcf1
      have HCE := Lib.hid hce
      have HCF := Lib.hid hcf
      clear hce hcf
      have h := put_any A m' c l' (nn : Int) k aS aR w3 (HS.out.ext HB.out) (HR.out.ext HB.out) (by omega) hmc (by omega)
      rw [HCE.out] at h
      refine h.mono ?_
      clear h
      rintro e w4 ⟨A1, m1, c1, rfl, -, -, hb4⟩
      replace HB := Lib.hid (below_le HB.out hb4)
      clear hb4
      go_wp2_with fail
      have h := put_any A m' c l' a k aS aR w4 (HS.out.ext HB.out) (HR.out.ext HB.out) (by omega) hmc HA.out
      rw [HCF.out] at h
      refine h.mono ?_
      clear h
      rintro e w5 ⟨A2, m2, c2, rfl, -, -, hb5⟩
      replace HB := Lib.hid (below_le HB.out hb5)
      clear hb5
      go_wp2_with fail
      refine (longest_any A m' c l' w5 (HR.out.ext HB.out) (by omega)).mono ?_
      rintro e w6 ⟨rfl, hb6⟩
      replace HB := Lib.hid (below_le HB.out hb6)
      clear hb6
      generalize longR l' = lg at *
      cases o with
      | none =>
        have hd : decide (k ≤ (lg : Int)) = false := by simpa using HLO.out.symm
        have hcz : ¬ cf = 0 := fun e => by
          obtain ⟨r, h, _⟩ := HP2.out (HCF.out.trans e)
          cases h
        have hcz1 : ((cf : Int) == 0) = false := by simp; omega
        have hcz2 : ((cf : Int) != 0) = true := by simp; omega
        simp only [Option.isSome_none]
        go_wp2
        go_ret
        exact ⟨rfl, HB.out⟩
      | some r =>
        have hd : decide (k ≤ (lg : Int)) = true := by simpa using HLO.out.symm
        obtain rfl : r.1 = nn := HNN.out
        obtain rfl : ce = 0 := by rw [← HCE.out]; exact HP1.out r rfl
        simp only [Option.isSome_some]
        by_cases hcz : cf = 0
        · subst hcz
          obtain ⟨r', h1, h2⟩ := HP2.out HCF.out
          cases h1
          have hd2 : decide ((r.1 : Int) ≤ a) = true := by simpa using h2
          go_wp2
          go_ret
          exact ⟨rfl, HB.out⟩
        · have hcz1 : ((cf : Int) == 0) = false := by simp; omega
          have hcz2 : ((cf : Int) != 0) = true := by simp; omega
          go_wp2
          go_ret
          exact ⟨rfl, HB.out⟩

end Go.Proofs.YtncopnknjohplaaDoor
