/-
  What is proved: plain laws of the first run that is long enough, and of what is put into it. No program in sight. No condition beyond those stated.
-/
import Derived.Test.YtllanbggjfmfhaaGreatDoorNh
namespace Go.Proofs.YtllanbggjfmfhaaGreatDoor
open Go.RowKit Go.Shelf

/-- A law holds: it returns true, and what was stays. -/
def Holds (w : World) (e : Ending) (w' : World) : Prop := e = .returned (.bool true) ∧ Below w.heap.size w w'

theorem runs_sorted (l : List Int) : (runsL l).Pairwise fun r s => r.1 < s.1 := by
  unfold runsL runsFrom
  rw [List.pairwise_filterMap]
  refine (List.pairwise_lt_range' (s := 0) (n := l.length - 0) (step := 1)).imp ?_
  intro a b hab r hr s hs
  unfold startAt at hr hs
  split at hr
  · split at hs
    · cases hr; cases hs; exact hab
    · cases hs
  · cases hr

theorem first_fewer {l : List Int} {k m : Int} {r : Nat × Nat} (h : firstR l k = some r) (h1 : 1 ≤ m) (h2 : m ≤ k) : ∃ s, firstR l m = some s ∧ s.1 ≤ r.1 := by
  unfold firstR at h ⊢
  split at h
  · rename_i hc
    simp only [Bool.and_eq_true, decide_eq_true_eq] at hc
    rw [if_pos (by simp [hc.1, h1])]
    have hmem := List.mem_of_find?_eq_some h
    have hp := List.find?_some h
    have hq : longB m r = true := by
      simp only [longB, decide_eq_true_eq] at hp ⊢
      omega
    obtain ⟨s, hs⟩ : ∃ s, (runsL l).find? (longB m) = some s := by
      rw [← Option.isSome_iff_exists, List.find?_isSome]
      exact ⟨r, hmem, hq⟩
    refine ⟨s, hs, ?_⟩
    obtain ⟨hps, xs, ys, e, hno⟩ := List.find?_eq_some_iff_append.1 hs
    rw [e] at hmem
    rcases List.mem_append.1 hmem with hm | hm
    · have := hno r hm
      rw [hq] at this
      cases this
    · rcases List.mem_cons.1 hm with rfl | hm
      · exact Nat.le_refl _
      · have hsrt := runs_sorted l
        rw [e] at hsrt
        have := (List.pairwise_cons.1 (List.pairwise_append.1 hsrt).2.1).1 r hm
        exact Nat.le_of_lt this
  · cases h
theorem first_bounds {l : List Int} {k : Int} {r : Nat × Nat} (h : firstR l k = some r) : r.1 < l.length := by
  unfold firstR at h
  split at h
  · have := runs_mem (List.mem_of_find?_eq_some h)
    omega
  · cases h

theorem find_least {l : List Int} {k : Int} {r s : Nat × Nat} (h : (runsL l).find? (longB k) = some r) (hs : s ∈ runsL l) (hl : longB k s = true) : r.1 ≤ s.1 := by
  obtain ⟨_, xs, ys, e, hno⟩ := List.find?_eq_some_iff_append.1 h
  rw [e] at hs
  rcases List.mem_append.1 hs with hm | hm
  · have := hno s hm
    rw [hl] at this
    cases this
  · rcases List.mem_cons.1 hm with rfl | hm
    · exact Nat.le_refl _
    · have hsrt := runs_sorted l
      rw [e] at hsrt
      exact Nat.le_of_lt ((List.pairwise_cons.1 (List.pairwise_append.1 hsrt).2.1).1 s hm)
theorem start_mem {l : List Int} {s : Nat} (h : isStart l s = true) : (s, s + freeN l s) ∈ runsL l := by
  unfold runsL runsFrom
  refine List.mem_filterMap.2 ⟨s, ?_, by rw [startAt, if_pos h]⟩
  simp only [isStart, Bool.and_eq_true, decide_eq_true_eq] at h
  rw [List.mem_range'_1]
  omega
theorem start_of {l : List Int} : ∀ j : Nat, j < l.length → l.getD j 0 = 0 → ∃ s, s ≤ j ∧ isStart l s = true ∧ ∀ i, s ≤ i → i ≤ j → l.getD i 0 = 0
  | 0, h, h0 => ⟨0, Nat.le_refl _, is_start h h0 (.inl rfl), fun i _ hi => by rw [show i = 0 by omega]; exact h0⟩
  | j + 1, h, h0 => by
    by_cases hp : l.getD j 0 = 0
    · obtain ⟨s, h1, h2, h3⟩ := start_of j (by omega) hp
      refine ⟨s, by omega, h2, fun i hi hj => ?_⟩
      by_cases e : i = j + 1
      · rw [e]; exact h0
      · exact h3 i hi (by omega)
    · exact ⟨j + 1, Nat.le_refl _, is_start h h0 (.inr (by simpa using hp)), fun i hi hj => by rw [show i = j + 1 by omega]; exact h0⟩
theorem free_ge {l : List Int} {s e : Nat} (hs : s ≤ e) (he : e ≤ l.length) (h : ∀ i, s ≤ i → i < e → l.getD i 0 = 0) : e ≤ s + freeN l s := by
  rcases Nat.lt_or_ge (s + freeN l s) e with hlt | hge
  · exfalso
    rcases free_stop l s (by omega) with h1 | h1
    · omega
    · exact h1 (h _ (by omega) hlt)
  · exact hge

theorem fits_first {l : List Int} {a k : Nat} (hr : rightL l = true) (hk : 1 ≤ k) (hak : a + k ≤ l.length) (h : freeAt l a k = true) : ∃ r, firstR l k = some r ∧ r.1 ≤ a := by
  have hz := (freeAt_iff hak).1 h
  obtain ⟨s, h1, h2, h3⟩ := start_of (l := l) a (by omega) (hz a (Nat.le_refl _) (by omega))
  have hge := free_ge (l := l) (s := s) (e := a + k) (by omega) hak fun i hi hj => by
    by_cases e : i ≤ a
    · exact h3 i hi e
    · exact hz i (by omega) hj
  have hm := start_mem h2
  have hl : longB k (s, s + freeN l s) = true := by
    simp only [longB, decide_eq_true_eq]
    omega
  unfold firstR
  rw [if_pos (by simp [hr]; omega)]
  obtain ⟨r, hr'⟩ : ∃ r, (runsL l).find? (longB k) = some r := by
    rw [← Option.isSome_iff_exists, List.find?_isSome]
    exact ⟨_, hm, hl⟩
  exact ⟨r, hr', by have := find_least hr' hm hl; dsimp only at this; omega⟩
theorem first_fits {l : List Int} {k : Int} {r : Nat × Nat} (h : firstR l k = some r) : putOk l (r.1 : Int) k = true ∧ 1 ≤ k := by
  unfold firstR at h
  split at h
  · rename_i hc
    simp only [Bool.and_eq_true, decide_eq_true_eq] at hc
    obtain ⟨h1, h2, h3, h4⟩ := runs_mem (List.mem_of_find?_eq_some h)
    have hp := List.find?_some h
    simp only [longB, decide_eq_true_eq] at hp
    refine ⟨?_, hc.2⟩
    unfold putOk
    rw [decide_eq_true (show (0 : Int) ≤ r.1 by omega), decide_eq_true hc.2, decide_eq_true (show (r.1 : Int) + k ≤ l.length by omega), Int.toNat_natCast]
    simp only [Bool.true_and]
    rw [freeAt_iff (by omega)]
    intro j hj1 hj2
    exact free_all l r.1 j hj1 (by omega)
  · cases h

theorem longest_le (rs : List (Nat × Nat)) (k : Nat) (hk : 1 ≤ k) : k ≤ longest rs ↔ ∃ r ∈ rs, k ≤ r.2 - r.1 := by
  have gen : ∀ (rs : List (Nat × Nat)) (a : Nat), k ≤ rs.foldl (fun a r => max a (r.2 - r.1)) a ↔ k ≤ a ∨ ∃ r ∈ rs, k ≤ r.2 - r.1 := by
    intro rs
    induction rs with
    | nil => intro a; simp
    | cons r rs ih =>
      intro a
      rw [List.foldl_cons, ih]
      simp only [List.mem_cons, exists_eq_or_imp]
      rw [show k ≤ max a (r.2 - r.1) ↔ k ≤ a ∨ k ≤ r.2 - r.1 by omega, or_assoc]
  unfold longest
  rw [gen]
  constructor
  · rintro (h | h)
    · omega
    · exact h
  · exact .inr
theorem first_longest {l : List Int} {k : Int} (hr : rightL l = true) (hk : 1 ≤ k) : (firstR l k).isSome = decide (k ≤ (longR l : Int)) := by
  rw [Bool.eq_iff_iff, decide_eq_true_eq]
  unfold firstR longR
  rw [if_pos (by simp [hr, hk]), if_pos hr, List.find?_isSome]
  have := longest_le (runsL l) k.toNat (by omega)
  constructor
  · rintro ⟨r, hm, hl⟩
    simp only [longB, decide_eq_true_eq] at hl
    have h1 := runs_mem hm
    have := this.2 ⟨r, hm, by omega⟩
    omega
  · intro h
    obtain ⟨r, hm, hl⟩ := this.1 (by omega)
    have h1 := runs_mem hm
    exact ⟨r, hm, by simp only [longB, decide_eq_true_eq]; omega⟩

end Go.Proofs.YtllanbggjfmfhaaGreatDoor
