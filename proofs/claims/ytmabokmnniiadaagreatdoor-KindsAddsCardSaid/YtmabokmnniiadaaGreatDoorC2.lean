/-
  What is proved: plain laws of descriptors: places that rise, what is at a place, slots. No program in sight. No condition beyond those stated.
-/
import Derived.Test.YtmabokmnniiadaaGreatDoorC1
namespace Go.Proofs.YtmabokmnniiadaaGreatDoor
open Go.RowKit

theorem rise_iff (e : Int) : ∀ (l : List Int) (a : Int), riseB e a l = true ↔ ∀ i, i < l.length → (a :: l).getD i 0 < l.getD i 0 ∧ l.getD i 0 < e ∧ (l.getD i 0).tmod 4 = 0
  | [], a => by simp [riseB]
  | p :: r, a => by
    simp only [riseB, Bool.and_eq_true, decide_eq_true_eq, rise_iff e r p]
    constructor
    · rintro ⟨⟨⟨h1, h2⟩, h3⟩, h4⟩ i hi
      cases i with
      | zero => exact ⟨h1, h2, h3⟩
      | succ i => exact h4 i (by simpa using hi)
    · intro h
      have h0 := h 0 (by simp)
      refine ⟨⟨⟨h0.1, h0.2.1⟩, h0.2.2⟩, fun i hi => ?_⟩
      exact h (i + 1) (by simpa using hi)
/-- A place, as the reference looks at it. -/
def riseI (e : Int) (l : List Int) (i : Nat) : Bool := decide (0 ≤ l.getD i 0) && decide ((l.getD i 0).tmod 4 = 0) && decide (l.getD i 0 < e) && (i == 0 || decide (l.getD (i - 1) 0 < l.getD i 0))
theorem rise_all (e : Int) (l : List Int) : riseB e (-1) l = (List.range l.length).all (riseI e l) := by
  rw [Bool.eq_iff_iff, rise_iff, List.all_eq_true]
  have hs : ∀ i, 0 < i → ((-1 : Int) :: l).getD i 0 = l.getD (i - 1) 0 := fun i hi => by
    cases i with
    | zero => omega
    | succ i => simp
  constructor
  · intro h i hi
    rw [List.mem_range] at hi
    have h0 : ∀ j, j < l.length → 0 ≤ l.getD j 0 := by
      intro j
      induction j with
      | zero => intro hj; have := (h 0 hj).1; simp at this ⊢; omega
      | succ j ih =>
        intro hj
        have h1 := (h (j + 1) hj).1
        rw [hs _ (by omega)] at h1
        have h2 := ih (by omega)
        simp only [Nat.add_sub_cancel] at h1
        omega
    obtain ⟨h1, h2, h3⟩ := h i hi
    simp only [riseI, Bool.and_eq_true, decide_eq_true_eq, Bool.or_eq_true, beq_iff_eq]
    refine ⟨⟨⟨h0 i hi, h3⟩, h2⟩, ?_⟩
    rcases Nat.eq_zero_or_pos i with e0 | e0
    · exact .inl e0
    · rw [hs i e0] at h1; exact .inr h1
  · intro h i hi
    have h1 := h i (List.mem_range.2 hi)
    simp only [riseI, Bool.and_eq_true, decide_eq_true_eq, Bool.or_eq_true, beq_iff_eq] at h1
    obtain ⟨⟨⟨h2, h3⟩, h4⟩, h5⟩ := h1
    refine ⟨?_, h4, h3⟩
    rcases Nat.eq_zero_or_pos i with e0 | e0
    · subst e0; simp at h2 ⊢; omega
    · rw [hs i e0]; omega

theorem rise_mem {e a : Int} : ∀ {l : List Int}, riseB e a l = true → ∀ p ∈ l, a < p ∧ p < e ∧ p.tmod 4 = 0
  | [], _ => by simp
  | q :: r, h => by
    revert a
    intro a h
    simp only [riseB, Bool.and_eq_true, decide_eq_true_eq] at h
    obtain ⟨⟨⟨h1, h2⟩, h3⟩, h4⟩ := h
    intro p hp
    rcases List.mem_cons.1 hp with rfl | hp
    · exact ⟨h1, h2, h3⟩
    · obtain ⟨h5, h6, h7⟩ := rise_mem h4 p hp
      exact ⟨by omega, h6, h7⟩
theorem rise_pair {e : Int} : ∀ {l : List Int} {a : Int}, riseB e a l = true → l.Pairwise (· < ·)
  | [], _, _ => List.Pairwise.nil
  | q :: r, a, h => by
    simp only [riseB, Bool.and_eq_true, decide_eq_true_eq] at h
    exact List.Pairwise.cons (fun p hp => (rise_mem h.2 p hp).1) (rise_pair h.2)

/-- What is at a place. -/
def kindAt (z : Int) (ps : List Int) (e : Int) (es : List Int) (n at_ : Int) : Int :=
  if at_ < 0 ∨ z + n * e ≤ at_ ∨ at_.tmod 4 ≠ 0 then 0 else if at_ < z then (if at_ ∈ ps then 2 else 1) else if (at_ - z).tmod e ∈ es then 2 else 1
/-- The slots of so many elements. -/
def slotsTo (z : Int) (ps : List Int) (e : Int) (es : List Int) : Nat → List Int
  | 0 => ps
  | k + 1 => slotsTo z ps e es k ++ es.map fun p => z + (k : Int) * e + p
theorem slots_len (z : Int) (ps : List Int) (e : Int) (es : List Int) : ∀ k, (slotsTo z ps e es k).length = ps.length + k * es.length
  | 0 => by simp [slotsTo]
  | k + 1 => by simp [slotsTo, slots_len z ps e es k, Nat.add_mul]; omega
theorem slots_mem {z : Int} {ps : List Int} {e : Int} {es : List Int} {x : Int} : ∀ {k : Nat}, x ∈ slotsTo z ps e es k ↔ x ∈ ps ∨ ∃ i : Nat, i < k ∧ ∃ p ∈ es, x = z + (i : Int) * e + p
  | 0 => by simp [slotsTo]
  | k + 1 => by
    simp only [slotsTo, List.mem_append, List.mem_map, slots_mem (k := k)]
    constructor
    · rintro ((h | ⟨i, hi, p, hp, h⟩) | ⟨p, hp, h⟩)
      · exact .inl h
      · exact .inr ⟨i, by omega, p, hp, h⟩
      · exact .inr ⟨k, by omega, p, hp, h.symm⟩
    · rintro (h | ⟨i, hi, p, hp, h⟩)
      · exact .inl (.inl h)
      · by_cases e0 : i = k
        · subst e0; exact .inr ⟨p, hp, h.symm⟩
        · exact .inl (.inr ⟨i, by omega, p, hp, h⟩)

section
variable {z e : Int} {ps es : List Int}
theorem kind_two (hd : dRight z ps e es = true) {k : Nat} {x : Int} : x ∈ slotsTo z ps e es k ↔ kindAt z ps e es k x = 2 := by
  obtain ⟨hz, he, h1, h2⟩ := right_of hd
  have hke : 0 ≤ (k : Int) * e := Int.mul_nonneg (by omega) he.1
  rw [slots_mem]
  constructor
  · rintro (h | ⟨i, hi, p, hp, rfl⟩)
    · obtain ⟨a, b, c⟩ := rise_mem h1 x h
      unfold kindAt
      rw [if_neg (by omega), if_pos b, if_pos h]
    · obtain ⟨a, b, c⟩ := rise_mem h2 p hp
      have hi1 : ((i : Int) + 1) * e ≤ (k : Int) * e := Int.mul_le_mul_of_nonneg_right (by omega) he.1
      have hi2 : 0 ≤ (i : Int) * e := Int.mul_nonneg (by omega) he.1
      rw [Int.add_mul] at hi1
      have hm : ((i : Int) * e) % 4 = 0 := by rw [Int.mul_emod, he.2.2]; simp
      rw [Int.tmod_eq_emod_of_nonneg (by omega)] at c
      have h3 : ¬ (z + (i : Int) * e + p < 0 ∨ z + (k : Int) * e ≤ z + (i : Int) * e + p ∨ (z + (i : Int) * e + p).tmod 4 ≠ 0) := by
        rw [Int.tmod_eq_emod_of_nonneg (by omega)]
        omega
      unfold kindAt
      rw [if_neg h3, if_neg (by omega)]
      have h4 : (z + (i : Int) * e + p - z).tmod e = p := by
        rw [Int.tmod_eq_emod_of_nonneg (by omega), show z + (i : Int) * e + p - z = p + e * (i : Int) by rw [Int.mul_comm e]; omega, Int.add_mul_emod_self_left]
        exact Int.emod_eq_of_lt (by omega) (by omega)
      rw [h4, if_pos hp]
  · intro h
    unfold kindAt at h
    split at h
    · omega
    · rename_i hc
      split at h
      · split at h
        · rename_i hx; exact .inl hx
        · omega
      · rename_i hxz
        split at h
        · rename_i hp
          have he0 : e ≠ 0 := fun e0 => by rw [e0] at hc hke; simp at hc; omega
          have hq := Int.emod_add_mul_ediv (x - z) e
          have hq0 := Int.ediv_nonneg (a := x - z) (b := e) (by omega) he.1
          rw [Int.tmod_eq_emod_of_nonneg (by omega)] at hp
          have hm0 := Int.emod_nonneg (x - z) he0
          refine .inr ⟨((x - z) / e).toNat, ?_, _, hp, ?_⟩
          · have : (x - z) / e < (k : Int) := by
              rw [Int.ediv_lt_iff_lt_mul (by omega)]
              omega
            omega
          · rw [Int.toNat_of_nonneg hq0, Int.mul_comm]
            omega
        · omega
theorem slots_pair (hd : dRight z ps e es = true) : ∀ k, (slotsTo z ps e es k).Pairwise (· < ·)
  | 0 => rise_pair (right_of hd).2.2.1
  | k + 1 => by
    obtain ⟨hz, he, h1, h2⟩ := right_of hd
    unfold slotsTo
    rw [List.pairwise_append]
    refine ⟨slots_pair hd k, ?_, fun a ha b hb => ?_⟩
    · rw [List.pairwise_map]
      exact (rise_pair h2).imp fun h => by omega
    · obtain ⟨p, hp, rfl⟩ := List.mem_map.1 hb
      have h3 := (rise_mem h2 p hp).1
      have hk0 : 0 ≤ (k : Int) * e := Int.mul_nonneg (by omega) he.1
      rcases slots_mem.1 ha with h | ⟨i, hi, q, hq, rfl⟩
      · have := (rise_mem h1 a h).2.1
        omega
      · have h4 := rise_mem h2 q hq
        have hi1 : ((i : Int) + 1) * e ≤ (k : Int) * e := Int.mul_le_mul_of_nonneg_right (by omega) he.1
        rw [Int.add_mul] at hi1
        omega
end

/-- Two rising lists with the same members are one. -/
theorem pair_ext : ∀ {l m : List Int}, l.Pairwise (· < ·) → m.Pairwise (· < ·) → (∀ x, x ∈ l ↔ x ∈ m) → l = m
  | [], m, _, _, h => (List.eq_nil_iff_forall_not_mem.2 fun x hx => by have := (h x).2 hx; cases this).symm
  | a :: l, [], _, _, h => by have := (h a).1 (List.mem_cons_self ..); cases this
  | a :: l, b :: m, hl, hm, h => by
    obtain ⟨hl1, hl2⟩ := List.pairwise_cons.1 hl
    obtain ⟨hm1, hm2⟩ := List.pairwise_cons.1 hm
    have hab : a = b := by
      rcases List.mem_cons.1 ((h a).1 (List.mem_cons_self ..)) with e | e
      · exact e
      · rcases List.mem_cons.1 ((h b).2 (List.mem_cons_self ..)) with e2 | e2
        · exact e2.symm
        · have := hm1 a e
          have := hl1 b e2
          omega
    subst hab
    rw [pair_ext hl2 hm2 fun x => ?_]
    constructor
    · intro hx
      rcases List.mem_cons.1 ((h x).1 (List.mem_cons_of_mem _ hx)) with e | e
      · have := hl1 x hx; omega
      · exact e
    · intro hx
      rcases List.mem_cons.1 ((h x).2 (List.mem_cons_of_mem _ hx)) with e | e
      · have := hm1 x hx; omega
      · exact e

end Go.Proofs.YtmabokmnniiadaaGreatDoor
