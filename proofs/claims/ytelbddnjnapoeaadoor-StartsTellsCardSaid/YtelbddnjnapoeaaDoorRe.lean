/-
  What is proved: plain facts on words whose digits are added and taken away. No program in sight. No condition beyond those stated.
-/
import Derived.Test.YtelbddnjnapoeaaDoorSq
namespace Go.Proofs.YtelbddnjnapoeaaDoor
open Go.RowKit

theorem or_add {x b : Nat} (h : x.testBit b = false) : x ||| 2 ^ b = x + 2 ^ b := by
  have e : x = 2 ^ b * (x / 2 ^ b) + x % 2 ^ b := (Nat.div_add_mod x (2 ^ b)).symm
  have hlt : x % 2 ^ b < 2 ^ b := Nat.mod_lt _ (Nat.two_pow_pos b)
  have hev : x / 2 ^ b % 2 = 0 := by
    have := Nat.testBit_eq_decide_div_mod_eq (x := x) (i := b)
    rw [h] at this
    have h2 := of_decide_eq_false this.symm
    omega
  have e2 : x + 2 ^ b = 2 ^ b * (x / 2 ^ b + 1) + x % 2 ^ b := by
    rw [Nat.mul_add, Nat.mul_one]
    omega
  rw [e2]
  apply Nat.eq_of_testBit_eq
  intro i
  rw [Nat.testBit_or, Nat.testBit_two_pow]
  rw [Nat.testBit_two_pow_mul_add _ hlt]
  by_cases hi : i < b
  · rw [if_pos hi, Nat.testBit_mod_two_pow]
    simp [hi]
    omega
  · rw [if_neg hi]
    have e3 : x.testBit i = (x / 2 ^ b).testBit (i - b) := by
      rw [Nat.testBit_div_two_pow, show i - b + b = i by omega]
    rw [e3]
    generalize x / 2 ^ b = y at hev
    by_cases hib : i = b
    · subst hib
      simp [Nat.testBit_zero]
      omega
    · obtain ⟨j, hj⟩ : ∃ j, i - b = j + 1 := ⟨i - b - 1, by omega⟩
      rw [hj, Nat.testBit_succ, Nat.testBit_succ, show (y + 1) / 2 = y / 2 by omega]
      simp; omega

theorem and_sub {x b : Nat} (hx : x < 4294967296) (hb : b < 32) (h : x.testBit b = true) : x &&& (4294967295 - 2 ^ b) = x - 2 ^ b ∧ 2 ^ b ≤ x := by
  have h1 : (x &&& (4294967295 - 2 ^ b)).testBit b = false := by
    rw [Nat.testBit_and, mask_bit b b hb]; simp
  have h2 := or_add h1
  have h3 : (x &&& (4294967295 - 2 ^ b)) ||| 2 ^ b = x := by
    apply Nat.eq_of_testBit_eq
    intro i
    rw [Nat.testBit_or, Nat.testBit_and, mask_bit b i hb, Nat.testBit_two_pow]
    by_cases hi : b = i
    · subst hi; simp [h]
    · by_cases h32 : i < 32
      · simp [hi, h32]
      · rw [big_bit hx (by omega)]; simp [hi]
  rw [h3] at h2
  omega

theorem set_same {us : List Nat} (hF : Fits us) (i : Nat) (on : Bool) (hi : i / 32 < us.length) (h : tb us i = on) : setW us i on = us := by
  refine tb_ext (length_setW us i on) (fits_set hF i on) hF fun k => ?_
  rw [tb_set i k on hi]
  split
  · rename_i e; subst e; exact h.symm
  · rfl
theorem set_add {us : List Nat} (i : Nat) (h : tb us i = false) : us.set (i / 32) (us.getD (i / 32) 0 + 2 ^ (i % 32)) = setW us i true := by
  unfold tb at h
  unfold setW
  rw [if_pos rfl, or_add h]
theorem set_sub {us : List Nat} (hF : Fits us) (i : Nat) (h : tb us i = true) : us.set (i / 32) (us.getD (i / 32) 0 - 2 ^ (i % 32)) = setW us i false ∧ 2 ^ (i % 32) ≤ us.getD (i / 32) 0 := by
  unfold tb at h
  obtain ⟨h1, h2⟩ := and_sub (getD_lt hF (i / 32)) (Nat.mod_lt _ (by omega)) h
  refine ⟨?_, h2⟩
  unfold setW
  rw [if_neg (by simp), h1]
theorem add_lt {us : List Nat} (hF : Fits us) (i : Nat) (hi : i / 32 < us.length) (h : tb us i = false) : us.getD (i / 32) 0 + 2 ^ (i % 32) < 4294967296 := by
  have h1 := getD_lt (fits_set hF i true) (i / 32)
  rw [← set_add i h, getD_set _ _ _ hi] at h1
  exact h1

theorem places_none (lo : Int) : placesN lo lo = [] := by
  unfold placesN
  rw [Nat.sub_self]
  rfl
theorem places_succ {lo : Int} {k : Nat} (h : lo ≤ (k : Int)) : placesN lo ((k : Int) + 1) = placesN lo k ++ [k] := by
  unfold placesN
  rw [show ((k : Int) + 1).toNat - lo.toNat = ((k : Int).toNat - lo.toNat) + 1 by omega, List.range'_concat]
  congr 2
  omega
theorem fill_succ (ws : List Nat) {lo : Int} {k : Nat} (on : Bool) (h : lo ≤ (k : Int)) : fillW ws (placesN lo ((k : Int) + 1)) on = setW (fillW ws (placesN lo k) on) k on := by
  rw [places_succ h, fillW_snoc]

end Go.Proofs.YtelbddnjnapoeaaDoor
