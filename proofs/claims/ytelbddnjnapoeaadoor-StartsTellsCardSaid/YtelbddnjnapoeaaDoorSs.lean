/-
  What is proved: plain laws of the list of places, and of walking it by the next place. No program in sight. No condition beyond those stated.
-/
import Derived.Test.YtelbddnjnapoeaaDoorSr
namespace Go.Proofs.YtelbddnjnapoeaaDoor
open Go.RowKit

theorem mem_list {n : Int} {ws : List Nat} (hr : rightB n ws = true) (k : Nat) : k ∈ listN n ws ↔ (k : Int) < n ∧ tb ws k = true := by
  obtain ⟨h0, _, _, _⟩ := rightB_elim hr
  unfold listN
  rw [if_pos hr, List.mem_filter, List.mem_range]
  constructor
  · rintro ⟨h1, h2⟩; exact ⟨by omega, h2⟩
  · rintro ⟨h1, h2⟩; exact ⟨by omega, h2⟩
theorem list_sorted (n : Int) (ws : List Nat) : (listN n ws).Pairwise (· < ·) := by
  unfold listN
  split
  · exact List.pairwise_lt_range.filter _
  · exact List.Pairwise.nil
theorem list_lt {n : Int} {ws : List Nat} {i j : Nat} {p q : Nat} (hi : (listN n ws)[i]? = some p) (hj : (listN n ws)[j]? = some q) (h : i < j) : p < q := by
  obtain ⟨h1, rfl⟩ := List.getElem?_eq_some_iff.1 hi
  obtain ⟨h2, rfl⟩ := List.getElem?_eq_some_iff.1 hj
  exact List.pairwise_iff_getElem.1 (list_sorted n ws) i j h1 h2 h
theorem list_length (n : Int) (ws : List Nat) : (listN n ws).length = countN n ws := by
  cases hr : rightB n ws
  · simp [listN, countN, hr]
  · rw [count_eq hr]
    unfold listN
    rw [if_pos hr, List.countP_eq_length_filter]

/-- Where the walk goes on after i places. -/
def fromAt (l : List Nat) : Nat → Nat
  | 0 => 0
  | i + 1 => l.getD i 0 + 1

theorem next_list {n : Int} {ws : List Nat} (i : Nat) (hi : i ≤ (listN n ws).length) : nextN n ws (fromAt (listN n ws) i : Int) true = (listN n ws)[i]? := by
  cases hr : rightB n ws
  · have h1 : listN n ws = [] := by simp [listN, hr]
    have h2 : ∀ a, nextN n ws a true = none := fun a => by simp [nextN, hr]
    rw [h2, h1]
    simp
  · have below : ∀ q : Nat, q ∈ listN n ws → fromAt (listN n ws) i ≤ q → ∀ j : Nat, (listN n ws)[j]? = some q → i ≤ j := by
      intro q _ hq j hj
      cases i with
      | zero => exact Nat.zero_le _
      | succ i =>
        rcases Nat.lt_or_ge i j with h | h
        · exact h
        · exfalso
          have hi' : (listN n ws)[i]? = some ((listN n ws).getD i 0) := by
            rw [List.getD_eq_getElem?_getD, List.getElem?_eq_getElem (by omega)]; rfl
          have : q ≤ (listN n ws).getD i 0 := by
            rcases Nat.lt_or_ge j i with h2 | h2
            · exact Nat.le_of_lt (list_lt hj hi' h2)
            · obtain rfl : j = i := by omega
              rw [hi'] at hj
              cases hj
              exact Nat.le_refl _
          simp only [fromAt] at hq
          omega
    cases e : (listN n ws)[i]? with
    | none =>
      cases e2 : nextN n ws (fromAt (listN n ws) i : Int) true with
      | none => rfl
      | some q =>
        exfalso
        obtain ⟨h1, h2, h3, _⟩ := next_some (by omega) e2
        have hm := (mem_list hr q).2 ⟨h2, h3⟩
        obtain ⟨j, hj, hjq⟩ := List.mem_iff_getElem.1 hm
        have := below q hm (by omega) j (by rw [List.getElem?_eq_getElem hj, hjq])
        have := List.getElem?_eq_none_iff.1 e
        omega
    | some p =>
      have hp := (mem_list hr p).1 (List.mem_of_getElem? e)
      have hfp : fromAt (listN n ws) i ≤ p := by
        cases i with
        | zero => exact Nat.zero_le _
        | succ i =>
          have hi' : (listN n ws)[i]? = some ((listN n ws).getD i 0) := by
            rw [List.getD_eq_getElem?_getD, List.getElem?_eq_getElem (by omega)]; rfl
          exact list_lt hi' e (Nat.lt_succ_self i)
      cases e2 : nextN n ws (fromAt (listN n ws) i : Int) true with
      | none => exact absurd hp.2 (next_none (by omega) hr e2 p (by omega) hp.1)
      | some q =>
        obtain ⟨h1, h2, h3, h4⟩ := next_some (by omega) e2
        congr 1
        rcases Nat.lt_trichotomy p q with h | h | h
        · exact absurd hp.2 (h4 p (by omega) h)
        · exact h.symm
        · exfalso
          have hm := (mem_list hr q).2 ⟨h2, h3⟩
          obtain ⟨j, hj, hjq⟩ := List.mem_iff_getElem.1 hm
          have hj' : (listN n ws)[j]? = some q := by rw [List.getElem?_eq_getElem hj, hjq]
          have h5 := below q hm (by omega) j hj'
          rcases Nat.lt_or_ge i j with h6 | h6
          · have := list_lt e hj' h6; omega
          · obtain rfl : i = j := by omega
            rw [e] at hj'
            cases hj'
            omega
theorem list_from {n : Int} {ws : List Nat} {i p : Nat} (h : (listN n ws)[i]? = some p) : fromAt (listN n ws) i ≤ p ∧ fromAt (listN n ws) (i + 1) = p + 1 ∧ hasB n ws p = true ∧ p < 20000 := by
  have hil := (List.getElem?_eq_some_iff.1 h).1
  cases hr : rightB n ws
  · simp [listN, hr] at h
  · obtain ⟨h0, h1, _, _⟩ := rightB_elim hr
    have hp := (mem_list hr p).1 (List.mem_of_getElem? h)
    refine ⟨?_, ?_, ?_, by omega⟩
    · cases i with
      | zero => exact Nat.zero_le _
      | succ i =>
        have hi' : (listN n ws)[i]? = some ((listN n ws).getD i 0) := by
          rw [List.getD_eq_getElem?_getD, List.getElem?_eq_getElem (by omega)]; rfl
        exact list_lt hi' h (Nat.lt_succ_self i)
    · simp [fromAt, List.getD_eq_getElem?_getD, h]
    · rw [has_eq hr]
      simp [hp.1, hp.2]

end Go.Proofs.YtelbddnjnapoeaaDoor
