/-
  What is proved: plain laws of words and places: filling, joining, counting. No program in sight. No condition beyond those stated.
-/
import Derived.Test.YtelbddnjnapoeaaDoorSp
namespace Go.Proofs.YtelbddnjnapoeaaDoor
open Go.RowKit

theorem tb_fill (l : List Nat) (on : Bool) : ∀ {ws : List Nat}, (∀ i ∈ l, i / 32 < ws.length) → ∀ k, tb (fillW ws l on) k = if k ∈ l then on else tb ws k := by
  induction l with
  | nil => intro ws _ k; simp [fillW]
  | cons i l ih =>
    intro ws h k
    show tb (fillW (setW ws i on) l on) k = _
    rw [ih (ws := setW ws i on) (fun j hj => by rw [length_setW]; exact h j (List.mem_cons_of_mem _ hj)) k, tb_set i k on (h i List.mem_cons_self)]
    by_cases h1 : k ∈ l
    · simp [h1]
    · by_cases h2 : k = i
      · simp [h2]
      · simp [h1, h2]

theorem right_fill {n : Int} (l : List Nat) (on : Bool) : ∀ {ws : List Nat}, rightB n ws = true → (∀ i ∈ l, (i : Int) < n) → rightB n (fillW ws l on) = true := by
  induction l with
  | nil => intro ws h _; exact h
  | cons i l ih => intro ws h hl; exact ih (right_set h i on (hl i List.mem_cons_self)) (fun j hj => hl j (List.mem_cons_of_mem _ hj))

theorem mem_places {lo hi : Int} (h0 : 0 ≤ lo) (k : Nat) : k ∈ placesN lo hi ↔ lo ≤ (k : Int) ∧ (k : Int) < hi := by
  unfold placesN
  rw [List.mem_range'_1]
  omega

theorem tb_ext {ws us : List Nat} (hl : ws.length = us.length) (hF : Fits ws) (hG : Fits us) (h : ∀ k, tb ws k = tb us k) : ws = us := by
  refine List.ext_getElem hl fun j h1 h2 => Nat.eq_of_testBit_eq fun b => ?_
  by_cases hb : b < 32
  · have := h (32 * j + b)
    unfold tb at this
    have e1 : (32 * j + b) / 32 = j := by omega
    have e2 : (32 * j + b) % 32 = b := by omega
    rw [e1, e2] at this
    simpa [List.getD_eq_getElem?_getD, h1, h2] using this
  · rw [big_bit (hF _ (List.getElem_mem _)) (by omega), big_bit (hG _ (List.getElem_mem _)) (by omega)]

theorem right_high {n : Int} {ws : List Nat} (h : rightB n ws = true) (k : Nat) (hk : n ≤ (k : Int)) : tb ws k = false := by
  obtain ⟨h0, h1, h2, _⟩ := rightB_elim h
  unfold tb
  by_cases hq : k / 32 < ws.length
  · rcases rightB_last h with h3 | h3
    · omega
    · have e : k / 32 = ws.length - 1 := by omega
      rw [e]
      exact Nat.testBit_lt_two_pow (Nat.lt_of_lt_of_le h3 (Nat.pow_le_pow_right (n := 2) (by omega) (by omega)))
  · rw [List.getD_eq_getElem?_getD, List.getElem?_eq_none (by omega)]
    simp

theorem tb_cons_low (x : Nat) (ws : List Nat) (k : Nat) (hk : k < 32) : tb (x :: ws) k = x.testBit k := by
  unfold tb
  rw [Nat.div_eq_of_lt hk, Nat.mod_eq_of_lt hk]
  rfl
theorem tb_cons_high (x : Nat) (ws : List Nat) (k : Nat) : tb (x :: ws) (32 + k) = tb ws k := by
  unfold tb
  have e1 : (32 + k) / 32 = k / 32 + 1 := by omega
  have e2 : (32 + k) % 32 = k % 32 := by omega
  rw [e1, e2]
  simp [List.getD_eq_getElem?_getD]

theorem countP_congr' {α : Type} {p q : α → Bool} {l : List α} (h : ∀ x ∈ l, p x = q x) : l.countP p = l.countP q := by
  induction l with
  | nil => rfl
  | cons x l ih => rw [List.countP_cons, List.countP_cons, ih (fun y hy => h y (List.mem_cons_of_mem _ hy)), h x List.mem_cons_self]

theorem sum_ones (ws : List Nat) : (ws.map onesN).sum = (List.range (32 * ws.length)).countP (tb ws) := by
  induction ws with
  | nil => rfl
  | cons x ws ih =>
    rw [List.map_cons, List.sum_cons, ih, List.length_cons, Nat.mul_add, Nat.add_comm (32 * ws.length), Nat.mul_one, List.range_add, List.countP_append, List.countP_map]
    congr 1
    · unfold onesN
      rw [← List.countP_eq_length_filter]
      exact countP_congr' fun k hk => (tb_cons_low x ws k (by simpa using hk)).symm
    · exact countP_congr' fun k _ => (tb_cons_high x ws k).symm

theorem count_eq {n : Int} {ws : List Nat} (h : rightB n ws = true) : countN n ws = (List.range n.toNat).countP (tb ws) := by
  obtain ⟨h0, h1, h2, _⟩ := rightB_elim h
  unfold countN
  rw [if_pos h, sum_ones]
  have e : 32 * ws.length = n.toNat + (32 * ws.length - n.toNat) := by omega
  rw [e, List.range_add, List.countP_append, List.countP_map]
  have : (List.range (32 * ws.length - n.toNat)).countP (tb ws ∘ (n.toNat + ·)) = 0 := by
    rw [List.countP_eq_zero]
    intro k _
    simp [right_high h (n.toNat + k) (by omega)]
  omega

theorem count_between (lo hi : Nat) : ∀ n, hi ≤ n → lo ≤ hi → (List.range n).countP (fun k => decide (lo ≤ k) && decide (k < hi)) = hi - lo := by
  intro n hn hl
  have e : n = lo + ((hi - lo) + (n - hi)) := by omega
  rw [e, List.range_add, List.countP_append, List.countP_map, List.range_add, List.countP_append, List.countP_map]
  have h1 : (List.range lo).countP (fun k => decide (lo ≤ k) && decide (k < hi)) = 0 := by
    rw [List.countP_eq_zero]; intro k hk; simp at hk ⊢; omega
  have h2 : (List.range (hi - lo)).countP ((fun k => decide (lo ≤ k) && decide (k < hi)) ∘ (lo + ·)) = hi - lo := by
    have : (List.range (hi - lo)).countP ((fun k => decide (lo ≤ k) && decide (k < hi)) ∘ (lo + ·)) = (List.range (hi - lo)).length := by
      rw [List.countP_eq_length]; intro k hk; simp at hk ⊢; omega
    simpa using this
  have h3 : (List.range (n - hi)).countP (((fun k => decide (lo ≤ k) && decide (k < hi)) ∘ (lo + ·)) ∘ ((hi - lo) + ·)) = 0 := by
    rw [List.countP_eq_zero]; intro k hk; simp at hk ⊢; omega
  omega

theorem countP_split {α : Type} (p q r : α → Bool) (l : List α) (h : ∀ x, p x = (q x || r x) ∧ (q x && r x) = false) : l.countP p = l.countP q + l.countP r := by
  induction l with
  | nil => rfl
  | cons x l ih =>
    obtain ⟨h1, h2⟩ := h x
    rw [List.countP_cons, List.countP_cons, List.countP_cons, ih, h1]
    cases hq : q x <;> cases hr : r x <;> simp [hq, hr] at h2 ⊢ <;> omega

theorem fill_in {n lo hi : Int} (h : fillOk n lo hi = true) : 0 ≤ lo ∧ lo ≤ hi ∧ hi ≤ n := by
  simpa [fillOk, and_assoc] using h

theorem fill_back {n lo hi : Int} {ws : List Nat} (hF : Fits ws) (hr : rightB n ws = true) (hf : fillOk n lo hi = true) :
    fillW (fillW ws (placesN lo hi) true) (placesN lo hi) false = fillW ws (placesN lo hi) false := by
  obtain ⟨g0, g1, g2⟩ := fill_in hf
  obtain ⟨h0, h1, h2, _⟩ := rightB_elim hr
  have hin : ∀ i ∈ placesN lo hi, i / 32 < ws.length := fun i hi' => by have := (mem_places g0 i).1 hi'; omega
  refine tb_ext (by simp only [length_fillW]) (fits_fillW (fits_fillW hF _ _) _ _) (fits_fillW hF _ _) fun k => ?_
  rw [tb_fill _ _ (by simpa only [length_fillW] using hin), tb_fill _ _ hin, tb_fill _ _ hin]
  by_cases hk : k ∈ placesN lo hi <;> simp [hk]

theorem fill_right {n lo hi : Int} {ws : List Nat} (hr : rightB n ws = true) (hf : fillOk n lo hi = true) (on : Bool) : rightB n (fillW ws (placesN lo hi) on) = true := by
  obtain ⟨g0, g1, g2⟩ := fill_in hf
  exact right_fill _ _ hr fun i hi' => by have := (mem_places g0 i).1 hi'; omega

theorem fill_count {n lo hi : Int} {ws : List Nat} (hr : rightB n ws = true) (hf : fillOk n lo hi = true) :
    (countN n (fillW ws (placesN lo hi) true) : Int) - (countN n (fillW ws (placesN lo hi) false) : Int) = hi - lo := by
  obtain ⟨g0, g1, g2⟩ := fill_in hf
  obtain ⟨h0, h1, h2, _⟩ := rightB_elim hr
  have hin : ∀ i ∈ placesN lo hi, i / 32 < ws.length := fun i hi' => by have := (mem_places g0 i).1 hi'; omega
  rw [count_eq (fill_right hr hf true), count_eq (fill_right hr hf false)]
  have h3 := count_between lo.toNat hi.toNat n.toNat (by omega) (by omega)
  have h4 := countP_split (tb (fillW ws (placesN lo hi) true)) (tb (fillW ws (placesN lo hi) false)) (fun k => decide (lo.toNat ≤ k) && decide (k < hi.toNat)) (List.range n.toNat) (fun k => by
    rw [tb_fill _ _ hin, tb_fill _ _ hin]
    by_cases hk : k ∈ placesN lo hi
    · have := (mem_places g0 k).1 hk
      have a1 : lo.toNat ≤ k := by omega
      have a2 : k < hi.toNat := by omega
      simp [hk, a1, a2]
    · have hn : ¬ (lo.toNat ≤ k ∧ k < hi.toNat) := fun hh => hk ((mem_places g0 k).2 (by omega))
      have : (decide (lo.toNat ≤ k) && decide (k < hi.toNat)) = false := by simpa using hn
      rw [if_neg hk, if_neg hk]
      rw [this]
      simp)
  omega

theorem getD_or {xs ys : List Nat} (hl : xs.length = ys.length) (k : Nat) : (orW xs ys).getD k 0 = xs.getD k 0 ||| ys.getD k 0 := by
  unfold orW
  by_cases h : k < xs.length
  · have h2 : k < ys.length := by omega
    simp [List.getD_eq_getElem?_getD, List.getElem?_zipWith, h, h2]
  · have h2 : ¬ k < ys.length := by omega
    simp [List.getD_eq_getElem?_getD, List.getElem?_zipWith, h, h2]
theorem tb_or {xs ys : List Nat} (hl : xs.length = ys.length) (k : Nat) : tb (orW xs ys) k = (tb xs k || tb ys k) := by
  unfold tb
  rw [getD_or hl, Nat.testBit_or]
theorem length_or {xs ys : List Nat} (hl : xs.length = ys.length) : (orW xs ys).length = xs.length := by simp [orW, hl]
theorem right_or {n : Int} {xs ys : List Nat} (hx : rightB n xs = true) (hy : rightB n ys = true) : rightB n (orW xs ys) = true := by
  obtain ⟨h0, h1, h2, _⟩ := rightB_elim hx
  obtain ⟨_, _, k2, _⟩ := rightB_elim hy
  have hl : xs.length = ys.length := by omega
  refine rightB_intro h0 h1 (by rw [length_or hl]; exact h2) ?_
  rcases rightB_last hx with h3 | h3
  · exact .inl h3
  · rcases rightB_last hy with h4 | h4
    · exact .inl h4
    · right
      rw [length_or hl, getD_or hl]
      exact Nat.or_lt_two_pow h3 (by rw [hl]; exact h4)
theorem or_comm {n : Int} {xs ys : List Nat} (hF : Fits xs) (hG : Fits ys) (hx : rightB n xs = true) (hy : rightB n ys = true) : orW xs ys = orW ys xs := by
  obtain ⟨h0, h1, h2, _⟩ := rightB_elim hx
  obtain ⟨_, _, k2, _⟩ := rightB_elim hy
  have hl : xs.length = ys.length := by omega
  refine tb_ext (by rw [length_or hl, length_or hl.symm]; exact hl) (fits_orW hF hG) (fits_orW hG hF) fun k => ?_
  rw [tb_or hl, tb_or hl.symm, Bool.or_comm]
theorem or_self {xs : List Nat} (hF : Fits xs) : orW xs xs = xs := by
  refine tb_ext (length_or rfl) (fits_orW hF hF) hF fun k => ?_
  rw [tb_or rfl, Bool.or_self]
theorem has_or {n : Int} {xs ys : List Nat} (hx : rightB n xs = true) (hy : rightB n ys = true) (i : Int) : hasB n (orW xs ys) i = (hasB n xs i || hasB n ys i) := by
  obtain ⟨h0, h1, h2, _⟩ := rightB_elim hx
  obtain ⟨_, _, k2, _⟩ := rightB_elim hy
  rw [has_eq (right_or hx hy), has_eq hx, has_eq hy, tb_or (by omega)]
  cases decide (0 ≤ i) <;> cases decide (i < n) <;> simp

end Go.Proofs.YtelbddnjnapoeaaDoor
