/-
  What is proved: plain laws of descriptors: which are right, which lengths objects may have, how many bytes they have. No program in sight. No condition beyond those stated.
-/
import Derived.Test.YtmabokmnniiadaaGreatDoorRi
namespace Go.Proofs.YtmabokmnniiadaaGreatDoor
open Go.RowKit

/-- Places that rise in words, below an end. -/
def riseB (e : Int) : Int → List Int → Bool
  | _, [] => true
  | a, p :: r => decide (a < p) && decide (p < e) && decide (p.tmod 4 = 0) && riseB e p r
def partB (n most : Int) : Bool := decide (0 ≤ n) && decide (n ≤ most) && decide (n.tmod 4 = 0)
/-- A right descriptor. -/
def dRight (z : Int) (ps : List Int) (e : Int) (es : List Int) : Bool := partB z 1024 && partB e 256 && riseB z (-1) ps && riseB e (-1) es
def lenMost (z e : Int) : Int := if 0 < e then (131064 - z).tdiv e else 0
def lenB (z e n : Int) : Bool := decide (0 ≤ n) && decide (n ≤ lenMost z e)
/-- What is wrong with a descriptor and a length. -/
def formC (z : Int) (ps : List Int) (e : Int) (es : List Int) (n : Int) : Nat := if dRight z ps e es then (if lenB z e n then 0 else 41) else 40
def bytesOf (z e n : Int) : Int := (8 + z + n * e + 7).tdiv 8 * 8
def bytesR (z : Int) (ps : List Int) (e : Int) (es : List Int) (n : Int) : Int := if formC z ps e es n = 0 then bytesOf z e n else 0

theorem part_of {n most : Int} (h : partB n most = true) : 0 ≤ n ∧ n ≤ most ∧ n % 4 = 0 := by
  simp only [partB, Bool.and_eq_true, decide_eq_true_eq] at h
  obtain ⟨⟨h1, h2⟩, h3⟩ := h
  refine ⟨h1, h2, ?_⟩
  rw [Int.tmod_eq_emod_of_nonneg h1] at h3
  exact h3
theorem right_of {z e : Int} {ps es : List Int} (h : dRight z ps e es = true) : (0 ≤ z ∧ z ≤ 1024 ∧ z % 4 = 0) ∧ (0 ≤ e ∧ e ≤ 256 ∧ e % 4 = 0) ∧ riseB z (-1) ps = true ∧ riseB e (-1) es = true := by
  simp only [dRight, Bool.and_eq_true] at h
  exact ⟨part_of h.1.1.1, part_of h.1.1.2, h.1.2, h.2⟩
theorem len_iff {z e n : Int} (hz : 0 ≤ z ∧ z ≤ 1024) (he : 0 ≤ e) : lenB z e n = true ↔ 0 ≤ n ∧ ((e = 0 ∧ n = 0) ∨ (0 < e ∧ 8 + z + n * e ≤ 131072)) := by
  simp only [lenB, Bool.and_eq_true, decide_eq_true_eq]
  by_cases h0 : 0 < e
  · rw [show lenMost z e = (131064 - z).tdiv e from if_pos h0, Int.tdiv_eq_ediv_of_nonneg (by omega), Int.le_ediv_iff_mul_le h0]
    constructor
    · rintro ⟨h1, h2⟩; exact ⟨h1, .inr ⟨h0, by omega⟩⟩
    · rintro ⟨h1, h2 | h2⟩
      · omega
      · exact ⟨h1, by omega⟩
  · rw [show lenMost z e = 0 from if_neg h0]
    constructor
    · rintro ⟨h1, h2⟩; exact ⟨h1, .inl ⟨by omega, by omega⟩⟩
    · rintro ⟨h1, h2 | h2⟩
      · omega
      · omega
theorem len_most {z e n : Int} (hz : 0 ≤ z ∧ z ≤ 1024) (he : 0 ≤ e) (h : lenB z e n = true) : 0 ≤ n ∧ n ≤ 131072 ∧ 0 ≤ n * e ∧ 8 + z + n * e ≤ 131072 := by
  obtain ⟨h1, h2 | h2⟩ := (len_iff hz he).1 h
  · obtain ⟨rfl, rfl⟩ := h2
    omega
  · have h3 := Int.mul_le_mul_of_nonneg_left (show (1 : Int) ≤ e by omega) h1
    have h4 := Int.mul_nonneg h1 he
    omega
theorem bytes_le {z e n : Int} (h0 : 0 ≤ 8 + z + n * e) : bytesOf z e n ≤ 131072 ↔ 8 + z + n * e ≤ 131072 := by
  unfold bytesOf
  rw [Int.tdiv_eq_ediv_of_nonneg (by omega)]
  omega

/-- The reference's way to tell what is wrong. -/
def refC (z : Int) (ps : List Int) (e : Int) (es : List Int) (n : Int) : Nat :=
  if dRight z ps e es then (if n < 0 ∨ (0 < n ∧ e = 0) ∨ 131072 < n then 41 else if 131072 < bytesOf z e n then 41 else 0) else 40
theorem ref_code (z : Int) (ps : List Int) (e : Int) (es : List Int) (n : Int) : refC z ps e es n = formC z ps e es n := by
  unfold refC formC
  cases hd : dRight z ps e es
  · rfl
  · obtain ⟨hz, he, -⟩ := right_of hd
    simp only [if_true]
    by_cases h1 : n < 0 ∨ (0 < n ∧ e = 0) ∨ 131072 < n
    · rw [if_pos h1]
      have : lenB z e n = false := by
        cases hl : lenB z e n
        · rfl
        · obtain ⟨a, b⟩ := (len_iff (z := z) ⟨hz.1, hz.2.1⟩ he.1).1 hl
          have c := len_most ⟨hz.1, hz.2.1⟩ he.1 hl
          omega
      rw [this]; rfl
    · rw [if_neg h1]
      have hn : 0 ≤ n := by omega
      have hm := Int.mul_nonneg hn he.1
      by_cases h2 : 131072 < bytesOf z e n
      · rw [if_pos h2]
        have : lenB z e n = false := by
          cases hl : lenB z e n
          · rfl
          · have c := len_most ⟨hz.1, hz.2.1⟩ he.1 hl
            have := (bytes_le (z := z) (e := e) (n := n) (by omega)).2 c.2.2.2
            omega
        rw [this]; rfl
      · rw [if_neg h2]
        have h3 := (bytes_le (z := z) (e := e) (n := n) (by omega)).1 (by omega)
        have : lenB z e n = true := (len_iff ⟨hz.1, hz.2.1⟩ he.1).2 ⟨hn, by
          by_cases h0 : e = 0
          · exact .inl ⟨h0, by omega⟩
          · exact .inr ⟨by omega, h3⟩⟩
        rw [this]; rfl

end Go.Proofs.YtmabokmnniiadaaGreatDoor
