/-
  What is proved: plain facts on runs of free blocks. No program in sight. No condition beyond those stated.
-/
import Derived.Test.YtllanbggjfmfhaaGreatDoorNb
namespace Go.Proofs.YtllanbggjfmfhaaGreatDoor
open Go.RowKit

/-- How many from b on are free, one behind the other. -/
def freeN (l : List Int) (b : Nat) : Nat := ((l.drop b).takeWhile (· == 0)).length
theorem free_zero {l : List Int} {b : Nat} (h : b < l.length) (hne : l.getD b 0 ≠ 0) : freeN l b = 0 := by
  unfold freeN
  have : l[b] ≠ 0 := by simpa [h] using hne
  rw [List.drop_eq_getElem_cons h, List.takeWhile_cons_of_neg (by simpa using this)]
  rfl
theorem free_succ {l : List Int} {b : Nat} (h : b < l.length) (h0 : l.getD b 0 = 0) : freeN l b = freeN l (b + 1) + 1 := by
  unfold freeN
  have : l[b] = 0 := by simpa [h] using h0
  rw [List.drop_eq_getElem_cons h, List.takeWhile_cons_of_pos (by simpa using this)]
  rfl
theorem free_end {l : List Int} {b : Nat} (h : l.length ≤ b) : freeN l b = 0 := by
  unfold freeN
  rw [List.drop_eq_nil_of_le h]
  rfl
theorem free_is {l : List Int} {b e : Nat} (hbe : b ≤ e) (he : e ≤ l.length) (hz : ∀ j, b ≤ j → j < e → l.getD j 0 = 0) (hend : e = l.length ∨ l.getD e 0 ≠ 0) : b + freeN l b = e := by
  obtain ⟨d, hd⟩ : ∃ d, e = b + d := ⟨e - b, by omega⟩
  induction d generalizing b with
  | zero =>
    obtain rfl : e = b := by omega
    rcases hend with h | h
    · rw [free_end (by omega)]; rfl
    · rcases Nat.lt_or_ge e l.length with h' | h'
      · rw [free_zero h' h]; rfl
      · rw [free_end h']; rfl
  | succ d ih =>
    rw [free_succ (by omega) (hz b (Nat.le_refl _) (by omega))]
    have := ih (b := b + 1) (by omega) (fun j h1 h2 => hz j (by omega) h2) (by omega)
    omega
theorem free_le (l : List Int) (b : Nat) (h : b ≤ l.length) : b + freeN l b ≤ l.length := by
  unfold freeN
  have := (List.takeWhile_prefix (p := (· == (0 : Int))) (l := l.drop b)).length_le
  simp at this
  omega
theorem free_all (l : List Int) (b j : Nat) (h1 : b ≤ j) (h2 : j < b + freeN l b) : l.getD j 0 = 0 := by
  obtain ⟨d, rfl⟩ : ∃ d, j = b + d := ⟨j - b, by omega⟩
  induction d generalizing b with
  | zero =>
    rcases Nat.lt_or_ge b l.length with h | h
    · by_cases h0 : l.getD b 0 = 0
      · exact h0
      · rw [free_zero h h0] at h2; omega
    · rw [free_end h] at h2; omega
  | succ d ih =>
    rcases Nat.lt_or_ge b l.length with h | h
    · by_cases h0 : l.getD b 0 = 0
      · rw [free_succ h h0] at h2
        have := ih (b + 1) (by omega) (by omega)
        rwa [show b + 1 + d = b + (d + 1) by omega] at this
      · rw [free_zero h h0] at h2; omega
    · rw [free_end h] at h2; omega
theorem free_stop (l : List Int) (b : Nat) (h : b ≤ l.length) : b + freeN l b = l.length ∨ l.getD (b + freeN l b) 0 ≠ 0 := by
  obtain ⟨d, hd⟩ : ∃ d, l.length = b + d := ⟨l.length - b, by omega⟩
  induction d generalizing b with
  | zero => left; rw [free_end (by omega)]; omega
  | succ d ih =>
    by_cases h0 : l.getD b 0 = 0
    · have := ih (b + 1) (by omega) (by omega)
      rw [free_succ (by omega) h0, show b + (freeN l (b + 1) + 1) = b + 1 + freeN l (b + 1) by omega]
      exact this
    · right; rw [free_zero (by omega) h0]; exact h0

def isStart (l : List Int) (b : Nat) : Bool := decide (b < l.length) && (l.getD b 0 == 0) && ((b == 0) || (l.getD (b - 1) 0 != 0))
def startAt (l : List Int) (b : Nat) : Option (Nat × Nat) := if isStart l b then some (b, b + freeN l b) else none
/-- The runs from b on. -/
def runsFrom (l : List Int) (b : Nat) : List (Nat × Nat) := (List.range' b (l.length - b)).filterMap (startAt l)
def runsL (l : List Int) : List (Nat × Nat) := runsFrom l 0

theorem runs_end {l : List Int} {b : Nat} (h : l.length ≤ b) : runsFrom l b = [] := by
  unfold runsFrom
  rw [show l.length - b = 0 by omega]
  rfl
theorem runs_cons {l : List Int} {b : Nat} (h : b < l.length) : runsFrom l b = (startAt l b).toList ++ runsFrom l (b + 1) := by
  unfold runsFrom
  rw [show l.length - b = (l.length - (b + 1)) + 1 by omega, List.range'_succ, List.filterMap_cons]
  cases startAt l b <;> rfl
theorem runs_skip {l : List Int} {b : Nat} (h : b < l.length) (hs : isStart l b = false) : runsFrom l b = runsFrom l (b + 1) := by
  rw [runs_cons h, startAt, hs]
  rfl
theorem runs_jump {l : List Int} {b e : Nat} (hbe : b ≤ e) (he : e ≤ l.length) (hs : ∀ j, b ≤ j → j < e → isStart l j = false) : runsFrom l b = runsFrom l e := by
  obtain ⟨d, hd⟩ : ∃ d, e = b + d := ⟨e - b, by omega⟩
  induction d generalizing b with
  | zero =>
    obtain rfl : e = b := by omega
    rfl
  | succ d ih =>
    rw [runs_skip (by omega) (hs b (Nat.le_refl _) (by omega))]
    exact ih (by omega) (fun j h1 h2 => hs j (by omega) h2) (by omega)
theorem not_start {l : List Int} {b : Nat} (h : l.getD b 0 ≠ 0) : isStart l b = false := by
  unfold isStart
  rw [show (l.getD b 0 == 0) = false by simpa using h]
  simp
theorem not_start' {l : List Int} {b : Nat} (h0 : b ≠ 0) (h : l.getD (b - 1) 0 = 0) : isStart l b = false := by
  unfold isStart
  rw [h, show (b == 0) = false by simpa using h0]
  simp
theorem is_start {l : List Int} {b : Nat} (hb : b < l.length) (h : l.getD b 0 = 0) (hp : b = 0 ∨ l.getD (b - 1) 0 ≠ 0) : isStart l b = true := by
  unfold isStart
  rw [h, decide_eq_true hb]
  rcases hp with h | h
  · simp [h]
  · rw [show (l.getD (b - 1) 0 != 0) = true by simpa using h]; simp
theorem runs_take {l : List Int} {b : Nat} (hs : isStart l b = true) : runsFrom l b = (b, b + freeN l b) :: runsFrom l (b + freeN l b) := by
  have hb : b < l.length ∧ l.getD b 0 = 0 := by
    simp only [isStart, Bool.and_eq_true, decide_eq_true_eq, beq_iff_eq] at hs
    exact hs.1
  have h1 := free_succ hb.1 hb.2
  have h2 := free_le l b (by omega)
  rw [runs_cons hb.1, startAt, hs, if_pos rfl]
  show (b, b + freeN l b) :: runsFrom l (b + 1) = _
  congr 1
  exact runs_jump (by omega) h2 fun j h3 h4 => not_start' (by omega) (free_all l b (j - 1) (by omega) (by omega))

end Go.Proofs.YtllanbggjfmfhaaGreatDoor
