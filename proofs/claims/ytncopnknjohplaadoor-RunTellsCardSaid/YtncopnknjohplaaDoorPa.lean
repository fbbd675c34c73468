/-
  What is proved: contracts of Right, Whole, Count, free of the reference of layer 9. No condition beyond those stated.
-/
import Derived.Test.YtncopnknjohplaaDoorOq
namespace Go.Proofs.YtncopnknjohplaaDoor
open Go.RowKit Go.Shelf

set_option maxHeartbeats 1000000 in
theorem refright_any (A : Option Addr) (m c : Nat) (l : List Int) (w : World) (hR : Row w A m (l.map Iv)) (hm : m ≤ 1000) :
    Calls Tryd.prog 24 #[.slice A m c] w fun e w' => e = .returned (.bool (rightL l)) ∧ w = w' := by
  have hl := hR.1
  simp at hl
  have HR := Lib.hid hR
  have HL := Lib.hid hl
  clear hR hl
  go_enter Tryd.func24, Tryd.ntmps24
  go_wp2
  go_loop [3] (fun i => ∃ k : Nat, k ≤ m ∧ i = .int .i64 k ∧ ∀ j, j < k → knownB (l.getD j 0) = true) (fun i => m - (intOf i).toNat)
  case atStart => exact ⟨0, Nat.zero_le _, rfl, fun j hj => absurd hj (by omega)⟩
  case round =>
    obtain ⟨k, hk, rfl, hz⟩ := hrel
    have HZ := Lib.hid hz
    clear hz
    by_cases hlt : k < m
    · obtain ⟨b, off, x, rfl, hcx, hx, hx2⟩ := num_at HR.out hlt
      have hbad : knownB x = false → rightL l = false := fun h => by
        unfold rightL
        rw [show l.all knownB = false by rw [List.all_eq_false]; exact ⟨x, List.mem_of_getElem? hx2, by rw [h]; exact Bool.false_ne_true⟩]
        simp
      have BAD := Lib.hid hbad
      have HX := Lib.hid hx
      clear hbad hx hx2
      by_cases h0 : x < 0
      · have HK : Hid (knownB x = false) := Lib.hid (by simp [knownB]; omega)
        go_wp2
        go_ret
        exact ⟨ret_bool (BAD.out HK.out).symm, rfl⟩
      by_cases h1 : 5 < x
      · have HK : Hid (knownB x = false) := Lib.hid (by simp [knownB]; omega)
        go_wp2
        go_ret
        exact ⟨ret_bool (BAD.out HK.out).symm, rfl⟩
      · have HK : Hid (knownB x = true) := Lib.hid (by simp [knownB]; omega)
        go_wp2
        go_round
        case rel => exact ⟨k + 1, by omega, by go_num, fun j hj => by
          by_cases e : j = k
          · rw [e, HX.out]; exact HK.out
          · exact HZ.out j (by omega)⟩
        case measure => simp [intOf]; omega
    · have HALL : Hid (l.all knownB = true) := Lib.hid (by
        rw [List.all_eq_true]
        intro x hx
        obtain ⟨j, hj, rfl⟩ := List.mem_iff_getElem.1 hx
        have := HZ.out j (by have := HL.out; omega)
        rwa [List.getD_eq_getElem?_getD, List.getElem?_eq_getElem hj] at this)
      by_cases h1 : 1 ≤ m
      · by_cases h2 : m ≤ 32
        · go_wp2
          go_ret
          refine ⟨ret_bool ?_, rfl⟩
          have := HL.out
          rw [rightL, HALL.out, decide_eq_true (show 1 ≤ l.length by omega), decide_eq_true (show l.length ≤ 32 by omega)]
          simp
          omega
        · go_wp2
          go_ret
          refine ⟨ret_bool ?_, rfl⟩
          have := HL.out
          rw [rightL, decide_eq_false (show ¬ l.length ≤ 32 by omega)]
          simp
          omega
      · go_wp2
        go_ret
        refine ⟨ret_bool ?_, rfl⟩
        have := HL.out
        rw [rightL, decide_eq_false (show ¬ 1 ≤ l.length by omega)]
        simp

set_option maxRecDepth 100000 in
set_option maxHeartbeats 1000000 in
theorem refwhole_any (A : Option Addr) (m c : Nat) (l : List Int) (w : World) (hR : Row w A m (l.map Iv)) (hm : m ≤ 1000) :
    Calls Tryd.prog 25 #[.slice A m c] w fun e w' => e = .returned (.bool (wholeL l)) ∧ w = w' := by
  have hl := hR.1
  simp at hl
  have HR := Lib.hid hR
  have HL := Lib.hid hl
  clear hR hl
  go_enter Tryd.func25, Tryd.ntmps25
  go_wp2
  go_loop [3] (fun i => ∃ k : Nat, k ≤ m ∧ i = .int .i64 k ∧ ∀ j, j < k → okAt l j = true) (fun i => m - (intOf i).toNat)
  case atStart => exact ⟨0, Nat.zero_le _, rfl, fun j hj => absurd hj (by omega)⟩
  case round =>
    obtain ⟨k, hk, rfl, hz⟩ := hrel
    have HZ := Lib.hid hz
    clear hz
    have NX : Hid (okAt l k = true → ∀ j, j < k + 1 → okAt l j = true) := Lib.hid (fun h j hj => by
      by_cases e : j = k
      · rw [e]; exact h
      · exact HZ.out j (by omega))
    by_cases hlt : k < m
    · obtain ⟨b, off, y, rfl, hcy, hy, -⟩ := num_at HR.out hlt
      have BAD : Hid (okAt l k = false → wholeL l = false) := Lib.hid (fun h => by
        unfold wholeL
        rw [show (List.range l.length).all (okAt l) = false by
          rw [List.all_eq_false]
          exact ⟨k, by simp; have := HL.out; omega, by rw [h]; exact Bool.false_ne_true⟩]
        simp)
      have HY := Lib.hid hy
      clear hy
      by_cases h4 : y = 4
      · subst h4
        by_cases hk0 : k = 0
        · have ho : okAt l k = false := by
            unfold okAt
            rw [HY.out, show (k == 0) = true by simpa using hk0]
            rfl
          have hkz : ((k : Int) == 0) = true := by simp; omega
          have HO := Lib.hid ho
          clear ho hk0
          go_wp2
          go_ret
          exact ⟨ret_bool (BAD.out HO.out).symm, rfl⟩
        · obtain ⟨b', off', x, e', hcx, hx, -⟩ := num_at (k := k - 1) HR.out (by omega)
          cases e'
          have hk1 : 1 ≤ k := by omega
          have hkz : ((k : Int) == 0) = false := by simp; omega
          have hsub : ((k : Int) - 1).toNat = k - 1 := by omega
          have hkn : ((k : Int) - 1) < m := by omega
          have ho : okAt l k = (x == 3 || x == 4) := by
            simp only [okAt, HY.out, hx]
            simp [hk0]
          have HO := Lib.hid ho
          clear ho hx
          by_cases h3 : x = 3
          · have hd3 : (x != 3) = false := by simpa using h3
            have HP : Hid ((x == 3 || x == 4) = true) := Lib.hid (by simp [h3])
            clear h3
            go_wp2
            go_round
            case rel => exact ⟨k + 1, by omega, by go_num, NX.out (HO.out.trans HP.out)⟩
            case measure => simp [intOf]; omega
          · have hd3 : (x != 3) = true := by simpa using h3
            by_cases h5 : x = 4
            · have hd4 : (x != 4) = false := by simpa using h5
              have HP : Hid ((x == 3 || x == 4) = true) := Lib.hid (by simp [h5])
              clear h3 h5
              go_wp2
              go_round
              case rel => exact ⟨k + 1, by omega, by go_num, NX.out (HO.out.trans HP.out)⟩
              case measure => simp [intOf]; omega
            · have hd4 : (x != 4) = true := by simpa using h5
              have HP : Hid ((x == 3 || x == 4) = false) := Lib.hid (by simp [h3, h5])
              clear h3 h5
              go_wp2
              go_ret
              exact ⟨ret_bool (BAD.out (HO.out.trans HP.out)).symm, rfl⟩
      · have hd : (y == 4) = false := by simpa using h4
        have ho : okAt l k = true := by simp only [okAt, HY.out, hd]; rfl
        have HO := Lib.hid ho
        clear ho
        go_wp2
        go_round
        case rel => exact ⟨k + 1, by omega, by go_num, NX.out HO.out⟩
        case measure => simp [intOf]; omega
    · have HALL : Hid (wholeL l = rightL l) := Lib.hid (by
        unfold wholeL
        rw [show (List.range l.length).all (okAt l) = true by
          rw [List.all_eq_true]
          exact fun j hj => HZ.out j (by have := HL.out; simp at hj; omega)]
        simp)
      go_wp2_with fail
      refine (refright_any A m c l w HR.out hm).mono ?_
      rintro e w' ⟨rfl, rfl⟩
      go_wp2
      go_ret
      exact ⟨ret_bool HALL.out.symm, rfl⟩

set_option maxHeartbeats 1000000 in
theorem refcount_any (A : Option Addr) (m c : Nat) (l : List Int) (s : Int) (w : World) (hR : Row w A m (l.map Iv)) (hm : m ≤ 1000) :
    Calls Tryd.prog 26 #[.slice A m c, .int .i64 s] w fun e w' => e = .returned (.int .i64 (countL l s : Nat)) ∧ w = w' := by
  have hl := hR.1
  simp at hl
  have HR := Lib.hid hR
  have HL := Lib.hid hl
  clear hR hl
  go_enter Tryd.func26, Tryd.ntmps26
  go_wp2
  go_loop [5, 6] (fun n i => ∃ k : Nat, k ≤ m ∧ i = .int .i64 k ∧ n = .int .i64 (countL (l.take k) s : Nat)) (fun _ i => m - (intOf i).toNat)
  case atStart => exact ⟨0, Nat.zero_le _, rfl, rfl⟩
  case round =>
    obtain ⟨k, hk, rfl, rfl⟩ := hrel
    by_cases hlt : k < m
    · obtain ⟨b, off, x, rfl, hcx, hx, -⟩ := num_at HR.out hlt
      have hsn := count_snoc l k (by have := HL.out; omega) s
      rw [hx] at hsn
      have hcl := count_len (l.take k) s
      have hcl2 : (l.take k).length ≤ k := List.length_take_le _ _
      generalize countL (l.take k) s = cc at *
      have hcm : cc ≤ 1000 := by omega
      have HSN := Lib.hid hsn
      clear hsn hx hcl hcl2
      by_cases hxs : x = s
      · have hd : (x == s) = true := by simpa using hxs
        have HX := Lib.hid hxs
        clear hxs
        go_wp2
        go_round
        case rel => exact ⟨k + 1, by omega, by go_num, by rw [HSN.out, if_pos (by simpa using HX.out)]; go_num⟩
        case measure => simp [intOf]; omega
      · have hd : (x == s) = false := by simpa using hxs
        have HX := Lib.hid hxs
        clear hxs
        go_wp2
        go_round
        case rel => exact ⟨k + 1, by omega, by go_num, by rw [HSN.out, if_neg (by simpa using HX.out)]; rfl⟩
        case measure => simp [intOf]; omega
    · have HFIN : Hid (countL (l.take k) s = countL l s) := Lib.hid (by rw [List.take_of_length_le (by have := HL.out; omega)])
      go_wp2
      go_ret
      exact ⟨ret_int (by rw [HFIN.out]), rfl⟩

set_option maxHeartbeats 1000000 in
theorem free_any (A : Option Addr) (m c : Nat) (l : List Int) (f : Nat) (w : World) (hR : Row w A m (l.map Iv)) (hm : m ≤ 1000) (hf : f ≤ m) :
    Calls Tryd.prog 33 #[.slice A m c, .int .i64 f] w fun e w' => e = .returned (.int .i64 (freeN l f : Nat)) ∧ w = w' := by
  have hl := hR.1
  simp at hl
  have hle := free_le l f (by omega)
  have hall := free_all l f
  have hstp := free_stop l f (by omega)
  obtain ⟨q, hq⟩ : ∃ q, freeN l f = q := ⟨_, rfl⟩
  rw [hq] at hle hall hstp
  have HR := Lib.hid hR
  have HL := Lib.hid hl
  have HAL := Lib.hid hall
  have HSP := Lib.hid hstp
  have HQ := Lib.hid hq
  have hqm : f + q ≤ m := by omega
  clear hR hl hall hstp hq hle
  go_enter Tryd.func33, Tryd.ntmps33
  go_wp2
  go_loop [5] (fun i => ∃ j : Nat, j ≤ q ∧ i = .int .i64 j) (fun i => q - (intOf i).toNat)
  case atStart => exact ⟨0, Nat.zero_le _, rfl⟩
  case round =>
    obtain ⟨j, hj, rfl⟩ := hrel
    have hwr : ((f : Int) + (j : Int)).toNat = f + j := by omega
    by_cases hlt : j < q
    · obtain ⟨b, off, x, rfl, hcx, hx, -⟩ := num_at (k := f + j) HR.out (by omega)
      rw [HAL.out (f + j) (by omega) (by omega)] at hx
      subst hx
      have hb1 : (f : Int) + (j : Int) < m := by omega
      go_wp2
      go_round
      case rel => exact ⟨j + 1, by omega, by go_num⟩
      case measure => simp [intOf]; omega
    · obtain rfl : j = q := by omega
      have hcase : (m ≤ f + j) ∨ (f + j < m ∧ l.getD (f + j) 0 ≠ 0) := by
        rcases Nat.lt_or_ge (f + j) m with h | h
        · refine .inr ⟨h, ?_⟩
          rcases HSP.out with h2 | h2
          · have := HL.out; omega
          · exact h2
        · exact .inl h
      rcases hcase with hc1 | ⟨hc1, hc2⟩
      · have hb1 : ¬ (f : Int) + (j : Int) < m := by omega
        go_wp2
        go_ret
        exact ⟨ret_int (by rw [HQ.out]), rfl⟩
      · obtain ⟨b, off, x, rfl, hcx, hx, -⟩ := num_at (k := f + j) HR.out hc1
        have hzd : (x == 0) = false := by rw [hx] at hc2; simpa using hc2
        have hb1 : (f : Int) + (j : Int) < m := by omega
        clear hx hc2
        go_wp2
        go_ret
        exact ⟨ret_int (by rw [HQ.out]), rfl⟩

end Go.Proofs.YtncopnknjohplaaDoor
