/-
  What is proved: plain laws of words and places, with no program in sight. No condition beyond those stated.
-/
import Derived.Test.YtelbddnjnapoeaaDoorLb
namespace Go.Proofs.YtelbddnjnapoeaaDoor
open Go.RowKit

theorem rightB_intro {n : Int} {ws : List Nat} (h0 : 0 ≤ n) (h1 : n ≤ 20000) (h2 : ws.length = (n.toNat + 31) / 32) (h3 : n.toNat % 32 = 0 ∨ ws.getD (ws.length - 1) 0 < 2 ^ (n.toNat % 32)) : rightB n ws = true := by
  unfold rightB
  rw [h2] at h3 ⊢
  rcases h3 with h3 | h3
  · simp [h0, h1, h3]
  · simp [h0, h1]
    right
    have := h3
    rwa [List.getD_eq_getElem?_getD] at this
theorem rightB_last {n : Int} {ws : List Nat} (h : rightB n ws = true) : n.toNat % 32 = 0 ∨ ws.getD (ws.length - 1) 0 < 2 ^ (n.toNat % 32) := by
  obtain ⟨_, _, _, h | h⟩ := rightB_elim h
  · exact .inl h
  · right
    rcases Nat.div_eq_zero_iff.1 h with h | h
    · exact absurd h (by have := Nat.two_pow_pos (n.toNat % 32); omega)
    · exact h

theorem getD_setAt (ws : List Nat) (j k x : Nat) (hj : j < ws.length) : (ws.set j x).getD k 0 = if k = j then x else ws.getD k 0 := by
  rw [List.getD_eq_getElem?_getD, List.getElem?_set]
  by_cases h : j = k
  · subst h; simp [hj]
  · simp [h, Ne.symm h]
theorem mask_bit (j k : Nat) (hj : j < 32) : (4294967295 - 2 ^ j).testBit k = (decide (k < 32) && !decide (j = k)) := by
  have h : 4294967295 - 2 ^ j = 2 ^ 32 - (2 ^ j + 1) := by
    have : 2 ^ j < 2 ^ 32 := Nat.pow_lt_pow_right (by omega) hj
    omega
  rw [h, Nat.testBit_two_pow_sub_succ (Nat.pow_lt_pow_right (by omega) hj), Nat.testBit_two_pow]
theorem big_bit {x k : Nat} (hx : x < 4294967296) (hk : 32 ≤ k) : x.testBit k = false := Nat.testBit_lt_two_pow (Nat.lt_of_lt_of_le hx (Nat.pow_le_pow_right (n := 2) (by omega) hk))

theorem setW_getD {ws : List Nat} (i k : Nat) (on : Bool) (hi : i / 32 < ws.length) : (setW ws i on).getD k 0 = if k = i / 32 then (if on then ws.getD (i / 32) 0 ||| 2 ^ (i % 32) else ws.getD (i / 32) 0 &&& (4294967295 - 2 ^ (i % 32))) else ws.getD k 0 := by
  unfold setW
  exact getD_setAt _ _ _ _ hi

theorem tb_set {ws : List Nat} (i k : Nat) (on : Bool) (hi : i / 32 < ws.length) : tb (setW ws i on) k = if k = i then on else tb ws k := by
  unfold tb
  rw [setW_getD i _ on hi]
  by_cases hq : k / 32 = i / 32
  · rw [if_pos hq]
    have hl : k % 32 < 32 := Nat.mod_lt _ (by omega)
    by_cases hk : k = i
    · subst hk
      cases on
      · simp [Nat.testBit_and, mask_bit _ _ hl]
      · simp [Nat.testBit_or]
    · have hr : ¬ i % 32 = k % 32 := by omega
      cases on
      · simp [Nat.testBit_and, mask_bit _ _ (Nat.mod_lt i (show 0 < 32 by omega)), hr, hk, hq, hl]
      · simp [Nat.testBit_or, hr, hk, hq]
  · rw [if_neg hq, if_neg (fun e => hq (by rw [e]))]

theorem right_set {n : Int} {ws : List Nat} (h : rightB n ws = true) (i : Nat) (on : Bool) (hi : (i : Int) < n) : rightB n (setW ws i on) = true := by
  obtain ⟨h0, h1, h2, _⟩ := rightB_elim h
  have hq : i / 32 < ws.length := by omega
  refine rightB_intro h0 h1 (by rw [length_setW]; exact h2) ?_
  rcases rightB_last h with h3 | h3
  · exact .inl h3
  · by_cases hr : n.toNat % 32 = 0
    · exact .inl hr
    right
    rw [length_setW, setW_getD i _ on hq]
    by_cases hl : ws.length - 1 = i / 32
    · rw [if_pos hl, ← hl]
      have hj : i % 32 < n.toNat % 32 := by omega
      cases on
      · exact Nat.lt_of_le_of_lt Nat.and_le_left h3
      · exact Nat.or_lt_two_pow h3 (Nat.pow_lt_pow_right (by omega) hj)
    · rw [if_neg hl]; exact h3

theorem has_eq {n : Int} {ws : List Nat} (h : rightB n ws = true) (i : Int) : hasB n ws i = (decide (0 ≤ i) && decide (i < n) && tb ws i.toNat) := by
  unfold hasB
  rw [h, Bool.true_and]

theorem has_set_same {n : Int} {ws : List Nat} (h : rightB n ws = true) (i : Int) (on : Bool) (h0 : 0 ≤ i) (h1 : i < n) : hasB n (setW ws i.toNat on) i = on := by
  obtain ⟨g0, g1, g2, _⟩ := rightB_elim h
  rw [has_eq (right_set h _ _ (by omega)), tb_set _ _ _ (by omega)]
  simp [h0, h1]
theorem has_set_other {n : Int} {ws : List Nat} (h : rightB n ws = true) (i k : Int) (on : Bool) (h0 : 0 ≤ i) (h1 : i < n) (hk : k ≠ i) : hasB n (setW ws i.toNat on) k = hasB n ws k := by
  obtain ⟨g0, g1, g2, _⟩ := rightB_elim h
  rw [has_eq (right_set h _ _ (by omega)), has_eq h, tb_set _ _ _ (by omega)]
  by_cases k0 : 0 ≤ k
  · rw [if_neg (by omega)]
  · simp [k0]

theorem fits_take {ws : List Nat} (h : Fits ws) (k : Nat) : Fits (ws.take k) := fun x hx => h x (List.mem_of_mem_take hx)

end Go.Proofs.YtelbddnjnapoeaaDoor
