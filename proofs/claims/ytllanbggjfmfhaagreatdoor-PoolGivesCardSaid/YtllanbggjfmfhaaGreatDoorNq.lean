/-
  What is proved: plain facts on large ones put into free blocks, and cut. No program in sight. No condition beyond those stated.
-/
import Derived.Test.YtllanbggjfmfhaaGreatDoorNp
namespace Go.Proofs.YtllanbggjfmfhaaGreatDoor
open Go.RowKit

/-- A large one of k blocks put at f. -/
def putL (l : List Int) (f k : Nat) : List Int := (List.range l.length).map fun i => if i = f then 3 else if f < i ∧ i < f + k then 4 else l.getD i 0
theorem put_len (l : List Int) (f k : Nat) : (putL l f k).length = l.length := by simp [putL]
theorem put_get {l : List Int} {f k i : Nat} (h : i < l.length) : (putL l f k).getD i 0 = if i = f then 3 else if f < i ∧ i < f + k then 4 else l.getD i 0 := by
  rw [List.getD_eq_getElem?_getD, List.getElem?_eq_getElem (by rw [put_len]; exact h)]
  simp [putL]
theorem list_ext0 {a b : List Int} (hl : a.length = b.length) (h : ∀ i, i < a.length → a.getD i 0 = b.getD i 0) : a = b := by
  apply List.ext_getElem hl
  intro i h1 h2
  have := h i h1
  simpa [h1, h2] using this
theorem getD_set_eq (l : List Int) (i j : Nat) (x : Int) (hj : j < l.length) : (l.set j x).getD i 0 = if i = j then x else l.getD i 0 := by
  rw [List.getD_eq_getElem?_getD, List.getElem?_set, List.getD_eq_getElem?_getD]
  by_cases h : j = i
  · subst h; simp [hj]
  · rw [if_neg h, if_neg (fun e => h e.symm)]
theorem put_one {l : List Int} {f : Nat} (hf : f < l.length) : l.set f 3 = putL l f 1 := by
  refine list_ext0 (by rw [put_len]; simp) fun i hi => ?_
  have hi' : i < l.length := by simpa using hi
  rw [getD_set_eq _ _ _ _ hf, put_get hi']
  by_cases h : i = f
  · simp [h]
  · rw [if_neg h, if_neg h, if_neg (by omega)]
theorem put_step {l : List Int} {f j : Nat} (hj : 1 ≤ j) (hf : f + j < l.length) : (putL l f j).set (f + j) 4 = putL l f (j + 1) := by
  refine list_ext0 (by rw [put_len]; simp [put_len]) fun i hi => ?_
  have hi' : i < l.length := by simpa [put_len] using hi
  rw [getD_set_eq _ _ _ _ (by rw [put_len]; exact hf), put_get hi', put_get hi']
  by_cases h : i = f + j
  · rw [if_pos h, if_neg (by omega), if_pos (by omega)]
  · rw [if_neg h]
    by_cases h2 : i = f
    · rw [if_pos h2, if_pos h2]
    · rw [if_neg h2, if_neg h2]
      by_cases h3 : f < i ∧ i < f + j
      · rw [if_pos h3, if_pos (by omega)]
      · rw [if_neg h3, if_neg (by omega)]

/-- So many from f on are free. -/
def freeAt (l : List Int) (f k : Nat) : Bool := ((l.drop f).take k).all (· == 0)
def putOk (l : List Int) (f k : Int) : Bool := decide (0 ≤ f) && decide (1 ≤ k) && decide (f + k ≤ l.length) && freeAt l f.toNat k.toNat
theorem freeAt_iff {l : List Int} {f k : Nat} (h : f + k ≤ l.length) : freeAt l f k = true ↔ ∀ j, f ≤ j → j < f + k → l.getD j 0 = 0 := by
  unfold freeAt
  rw [List.all_eq_true]
  constructor
  · intro h1 j hj1 hj2
    have hlt : j < l.length := by omega
    have hm : l[j] ∈ (l.drop f).take k := by
      rw [List.mem_iff_getElem]
      exact ⟨j - f, by simp; omega, by simp [show f + (j - f) = j by omega]⟩
    have := h1 _ hm
    simpa [hlt] using this
  · intro h1 x hx
    obtain ⟨i, hi, rfl⟩ := List.mem_iff_getElem.1 hx
    simp at hi
    have := h1 (f + i) (by omega) (by omega)
    rw [List.getD_eq_getElem?_getD, List.getElem?_eq_getElem (by omega)] at this
    simpa using this

/-- Where the large one at f ends. -/
def tailN (l : List Int) (f : Nat) : Nat := ((l.drop f).takeWhile (· == 4)).length
def cutL (l : List Int) (f e : Nat) : List Int := (List.range l.length).map fun i => if f ≤ i ∧ i < e then 0 else l.getD i 0
theorem cut_len (l : List Int) (f e : Nat) : (cutL l f e).length = l.length := by simp [cutL]
theorem cut_get {l : List Int} {f e i : Nat} (h : i < l.length) : (cutL l f e).getD i 0 = if f ≤ i ∧ i < e then 0 else l.getD i 0 := by
  rw [List.getD_eq_getElem?_getD, List.getElem?_eq_getElem (by rw [cut_len]; exact h)]
  simp [cutL]
theorem tail_zero {l : List Int} {b : Nat} (h : b < l.length) (hne : l.getD b 0 ≠ 4) : tailN l b = 0 := by
  unfold tailN
  have : l[b] ≠ 4 := by simpa [h] using hne
  rw [List.drop_eq_getElem_cons h, List.takeWhile_cons_of_neg (by simpa using this)]
  rfl
theorem tail_succ {l : List Int} {b : Nat} (h : b < l.length) (h0 : l.getD b 0 = 4) : tailN l b = tailN l (b + 1) + 1 := by
  unfold tailN
  have : l[b] = 4 := by simpa [h] using h0
  rw [List.drop_eq_getElem_cons h, List.takeWhile_cons_of_pos (by simpa using this)]
  rfl
theorem tail_end {l : List Int} {b : Nat} (h : l.length ≤ b) : tailN l b = 0 := by
  unfold tailN
  rw [List.drop_eq_nil_of_le h]
  rfl
theorem tail_is {l : List Int} {b e : Nat} (hbe : b ≤ e) (he : e ≤ l.length) (hz : ∀ j, b ≤ j → j < e → l.getD j 0 = 4) (hend : e = l.length ∨ l.getD e 0 ≠ 4) : b + tailN l b = e := by
  obtain ⟨d, hd⟩ : ∃ d, e = b + d := ⟨e - b, by omega⟩
  induction d generalizing b with
  | zero =>
    obtain rfl : e = b := by omega
    rcases hend with h | h
    · rw [tail_end (by omega)]; rfl
    · rcases Nat.lt_or_ge e l.length with h' | h'
      · rw [tail_zero h' h]; rfl
      · rw [tail_end h']; rfl
  | succ d ih =>
    rw [tail_succ (by omega) (hz b (Nat.le_refl _) (by omega))]
    have := ih (b := b + 1) (by omega) (fun j h1 h2 => hz j (by omega) h2) (by omega)
    omega
theorem tail_le (l : List Int) (b : Nat) (h : b ≤ l.length) : b + tailN l b ≤ l.length := by
  unfold tailN
  have := (List.takeWhile_prefix (p := (· == (4 : Int))) (l := l.drop b)).length_le
  simp at this
  omega
theorem tail_all (l : List Int) (b j : Nat) (h1 : b ≤ j) (h2 : j < b + tailN l b) : l.getD j 0 = 4 := by
  obtain ⟨d, rfl⟩ : ∃ d, j = b + d := ⟨j - b, by omega⟩
  induction d generalizing b with
  | zero =>
    rcases Nat.lt_or_ge b l.length with h | h
    · by_cases h0 : l.getD b 0 = 4
      · exact h0
      · rw [tail_zero h h0] at h2; omega
    · rw [tail_end h] at h2; omega
  | succ d ih =>
    rcases Nat.lt_or_ge b l.length with h | h
    · by_cases h0 : l.getD b 0 = 4
      · rw [tail_succ h h0] at h2
        have := ih (b + 1) (by omega) (by omega)
        rwa [show b + 1 + d = b + (d + 1) by omega] at this
      · rw [tail_zero h h0] at h2; omega
    · rw [tail_end h] at h2; omega
theorem tail_stop (l : List Int) (b : Nat) (h : b ≤ l.length) : b + tailN l b = l.length ∨ l.getD (b + tailN l b) 0 ≠ 4 := by
  obtain ⟨d, hd⟩ : ∃ d, l.length = b + d := ⟨l.length - b, by omega⟩
  induction d generalizing b with
  | zero => left; rw [tail_end (by omega)]; omega
  | succ d ih =>
    by_cases h0 : l.getD b 0 = 4
    · have := ih (b + 1) (by omega) (by omega)
      rw [tail_succ (by omega) h0, show b + (tailN l (b + 1) + 1) = b + 1 + tailN l (b + 1) by omega]
      exact this
    · right; rw [tail_zero (by omega) h0]; exact h0

end Go.Proofs.YtllanbggjfmfhaaGreatDoor
