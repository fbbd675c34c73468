/-
  What is proved: plain laws of the sums over runs and states. No program in sight. No condition beyond those stated.
-/
import Derived.Test.YtllanbggjfmfhaaGreatDoorNj
namespace Go.Proofs.YtllanbggjfmfhaaGreatDoor
open Go.RowKit Go.Shelf

def sumR (rs : List (Nat × Nat)) : Nat := (rs.map fun r => r.2 - r.1).sum
def insB (a : Int) (r : Nat × Nat) : Bool := decide ((r.1 : Int) ≤ a) && decide (a < (r.2 : Int))
def inR (rs : List (Nat × Nat)) (a : Int) : Nat := rs.countP (insB a)
/-- No run goes on at b. -/
def Cuts (l : List Int) (b : Nat) : Prop := b < l.length → l.getD b 0 = 0 → isStart l b = true

theorem cuts_zero (l : List Int) : Cuts l 0 := fun h h0 => is_start h h0 (.inl rfl)
theorem cuts_next {l : List Int} {b : Nat} (h : l.getD b 0 ≠ 0) : Cuts l (b + 1) := fun h1 h0 => is_start h1 h0 (.inr (by simpa using h))
theorem cuts_run {l : List Int} {b : Nat} (hb : b ≤ l.length) : Cuts l (b + freeN l b) := fun h1 h0 => by
  rcases free_stop l b hb with h | h
  · omega
  · exact absurd h0 h

theorem drop_count {l : List Int} {b : Nat} (hb : b < l.length) : (l.drop b).countP (· == 0) = (l.drop (b + 1)).countP (· == 0) + if l.getD b 0 = 0 then 1 else 0 := by
  rw [List.drop_eq_getElem_cons hb, List.countP_cons]
  have e : l.getD b 0 = l[b] := by simp [hb]
  rw [e]
  by_cases h : l[b] = 0 <;> simp [h]
theorem drop_free (l : List Int) : ∀ (n b : Nat), b + n ≤ l.length → (∀ j, b ≤ j → j < b + n → l.getD j 0 = 0) → (l.drop b).countP (· == 0) = (l.drop (b + n)).countP (· == 0) + n
  | 0, b, _, _ => rfl
  | n + 1, b, h, hz => by
    rw [drop_count (by omega), if_pos (hz b (Nat.le_refl _) (by omega)), drop_free l n (b + 1) (by omega) (fun j h1 h2 => hz j (by omega) (by omega)), show b + 1 + n = b + (n + 1) by omega]
    omega

theorem sum_from (l : List Int) : ∀ (d b : Nat), l.length - b ≤ d → Cuts l b → sumR (runsFrom l b) = (l.drop b).countP (· == 0) := by
  intro d
  induction d with
  | zero =>
    intro b hd _
    rw [runs_end (by omega), List.drop_eq_nil_of_le (by omega)]
    rfl
  | succ d ih =>
    intro b hd hc
    rcases Nat.lt_or_ge b l.length with hb | hb
    · by_cases h0 : l.getD b 0 = 0
      · have h1 := free_succ hb h0
        have h2 := free_le l b (by omega)
        rw [runs_take (hc hb h0), drop_free l (freeN l b) b h2 (fun j h3 h4 => free_all l b j h3 h4)]
        have := ih (b + freeN l b) (by omega) (cuts_run (by omega))
        simp only [sumR, List.map_cons, List.sum_cons] at this ⊢
        omega
      · rw [runs_skip hb (not_start h0), drop_count hb, if_neg h0]
        exact ih (b + 1) (by omega) (cuts_next h0)
    · rw [runs_end hb, List.drop_eq_nil_of_le hb]
      rfl
theorem sum_runs (l : List Int) : sumR (runsL l) = countL l 0 := sum_from l l.length 0 (by omega) (cuts_zero l)

theorem in_from (l : List Int) (a : Int) : ∀ (d b : Nat), l.length - b ≤ d → Cuts l b → inR (runsFrom l b) a = if (b : Int) ≤ a ∧ a < l.length ∧ l.getD a.toNat 0 = 0 then 1 else 0 := by
  intro d
  induction d with
  | zero =>
    intro b hd _
    rw [runs_end (by omega), if_neg (by omega)]
    rfl
  | succ d ih =>
    intro b hd hc
    rcases Nat.lt_or_ge b l.length with hb | hb
    · by_cases h0 : l.getD b 0 = 0
      · have h1 := free_succ hb h0
        have h2 := free_le l b (by omega)
        rw [runs_take (hc hb h0)]
        have hi := ih (b + freeN l b) (by omega) (cuts_run (by omega))
        unfold inR at hi ⊢
        rw [List.countP_cons, hi]
        by_cases hin : (b : Int) ≤ a ∧ a < ((b + freeN l b : Nat) : Int)
        · rw [if_neg (by omega), if_pos (by simp only [insB, Bool.and_eq_true, decide_eq_true_eq]; exact hin), if_pos ⟨hin.1, by omega, free_all l b a.toNat (by omega) (by omega)⟩]
        · rw [if_neg (show ¬ insB a (b, b + freeN l b) = true by simp only [insB, Bool.and_eq_true, decide_eq_true_eq]; exact hin)]
          by_cases hc2 : ((b + freeN l b : Nat) : Int) ≤ a ∧ a < l.length ∧ l.getD a.toNat 0 = 0
          · rw [if_pos hc2, if_pos ⟨by omega, hc2.2⟩]
          · rw [if_neg hc2, if_neg (fun h => hc2 ⟨by omega, h.2⟩)]
      · rw [runs_skip hb (not_start h0), ih (b + 1) (by omega) (cuts_next h0)]
        by_cases hc2 : ((b + 1 : Nat) : Int) ≤ a ∧ a < l.length ∧ l.getD a.toNat 0 = 0
        · rw [if_pos hc2, if_pos ⟨by omega, hc2.2⟩]
        · rw [if_neg hc2, if_neg (fun h => hc2 ⟨by
            have : (b : Int) ≠ a := fun e => h0 (by have h5 := h.2.2; rwa [← e, Int.toNat_natCast] at h5)
            omega, h.2⟩)]
    · rw [runs_end hb, if_neg (by omega)]
      rfl
theorem in_runs (l : List Int) (a : Int) : inR (runsL l) a = if 0 ≤ a ∧ a < l.length ∧ l.getD a.toNat 0 = 0 then 1 else 0 := in_from l a l.length 0 (by omega) (cuts_zero l)

theorem sum_snoc (rs : List (Nat × Nat)) (k : Nat) (r : Nat × Nat) (h : rs[k]? = some r) : sumR (rs.take (k + 1)) = sumR (rs.take k) + (r.2 - r.1) := by
  obtain ⟨hk, rfl⟩ := List.getElem?_eq_some_iff.1 h
  rw [List.take_succ_eq_append_getElem hk]
  unfold sumR
  rw [List.map_append, List.sum_append, List.map_cons, List.map_nil, List.sum_cons, List.sum_nil, Nat.add_zero]
theorem in_snoc (rs : List (Nat × Nat)) (k : Nat) (r : Nat × Nat) (a : Int) (h : rs[k]? = some r) : inR (rs.take (k + 1)) a = inR (rs.take k) a + if insB a r then 1 else 0 := by
  obtain ⟨hk, rfl⟩ := List.getElem?_eq_some_iff.1 h
  rw [List.take_succ_eq_append_getElem hk]
  unfold inR
  rw [List.countP_append, List.countP_cons, List.countP_nil, Nat.zero_add]
theorem sum_take_le (rs : List (Nat × Nat)) (k : Nat) : sumR (rs.take k) ≤ sumR rs := by
  conv => rhs; rw [← List.take_append_drop k rs]
  unfold sumR
  rw [List.map_append, List.sum_append]
  omega
theorem in_take_le (rs : List (Nat × Nat)) (k : Nat) (a : Int) : inR (rs.take k) a ≤ k := by
  have h1 : inR (rs.take k) a ≤ (rs.take k).length := List.countP_le_length
  have h2 : (rs.take k).length ≤ k := List.length_take_le _ _
  omega

def allC (l : List Int) (s : Nat) : Nat := ((List.range s).map fun t : Nat => countL l (t : Int)).sum
theorem all_succ (l : List Int) (s : Nat) : allC l (s + 1) = allC l s + countL l (s : Int) := by simp [allC, List.range_succ]
theorem all_six : ∀ l : List Int, (∀ x ∈ l, 0 ≤ x ∧ x ≤ 5) → allC l 6 = l.length
  | [], _ => by simp [allC, countL, List.range_succ]
  | x :: l, h => by
    have ih := all_six l (fun y hy => h y (List.mem_cons_of_mem _ hy))
    have hx := h x (List.mem_cons_self)
    have e : ∀ s : Int, countL (x :: l) s = countL l s + if x = s then 1 else 0 := fun s => by
      unfold countL
      rw [List.countP_cons]
      by_cases e : x = s <;> simp [e]
    simp only [allC, List.range_succ, List.range_zero, List.nil_append, List.map_append, List.map_cons, List.map_nil, List.sum_append, List.sum_cons, List.sum_nil, e, List.length_cons] at ih ⊢
    have : x = 0 ∨ x = 1 ∨ x = 2 ∨ x = 3 ∨ x = 4 ∨ x = 5 := by omega
    rcases this with rfl | rfl | rfl | rfl | rfl | rfl <;> simp at ih ⊢ <;> omega
theorem all_le (l : List Int) (hl : ∀ x ∈ l, 0 ≤ x ∧ x ≤ 5) (s : Nat) (hs : s ≤ 6) : allC l s ≤ l.length := by
  rw [← all_six l hl]
  have : ∀ d, allC l s ≤ allC l (s + d) := fun d => by
    induction d with
    | zero => exact Nat.le_refl _
    | succ d ih => rw [← Nat.add_assoc, all_succ]; omega
  have := this (6 - s)
  rwa [show s + (6 - s) = 6 by omega] at this

end Go.Proofs.YtllanbggjfmfhaaGreatDoor
