/-
  What is proved: plain laws of the next place, and of sums of counts. No program in sight. No condition beyond those stated.
-/
import Derived.Test.YtelbddnjnapoeaaDoorSq
namespace Go.Proofs.YtelbddnjnapoeaaDoor
open Go.RowKit

theorem next_some {n : Int} {ws : List Nat} {lo : Int} {on : Bool} {p : Nat} (h0 : 0 ≤ lo) (h : nextN n ws lo on = some p) : lo ≤ (p : Int) ∧ (p : Int) < n ∧ tb ws p = on ∧ ∀ k : Nat, lo ≤ (k : Int) → k < p → tb ws k ≠ on := by
  unfold nextN at h
  split at h
  · rw [show max lo 0 = lo by omega] at h
    obtain ⟨h1, l1, l2, e, h2⟩ := List.find?_eq_some_iff_append.1 h
    have hm := (mem_places (hi := n) h0 p).1 (by rw [e]; simp)
    refine ⟨hm.1, hm.2, by simpa using h1, fun k k0 k1 => ?_⟩
    have hk : k ∈ placesN lo n := (mem_places h0 k).2 ⟨k0, by omega⟩
    rw [e] at hk
    rcases List.mem_append.1 hk with hk | hk
    · simpa using h2 k hk
    · have hp : (placesN lo n).Pairwise (· < ·) := by unfold placesN; exact List.pairwise_lt_range'
      rw [e] at hp
      have h3 := (List.pairwise_append.1 hp).2.1
      rcases List.mem_cons.1 hk with hk | hk
      · omega
      · have := List.rel_of_pairwise_cons h3 hk
        omega
  · cases h
theorem next_none {n : Int} {ws : List Nat} {lo : Int} {on : Bool} (h0 : 0 ≤ lo) (hr : rightB n ws = true) (h : nextN n ws lo on = none) : ∀ k : Nat, lo ≤ (k : Int) → (k : Int) < n → tb ws k ≠ on := by
  intro k k0 k1
  unfold nextN at h
  rw [if_pos hr, show max lo 0 = lo by omega] at h
  have := List.find?_eq_none.1 h k ((mem_places h0 k).2 ⟨k0, k1⟩)
  simpa using this

/-- How many places below j are off. -/
def offN (ws : List Nat) (j : Nat) : Nat := (List.range j).countP (fun k => !tb ws k)
theorem offN_le (ws : List Nat) (j : Nat) : offN ws j ≤ j := by
  have := List.countP_le_length (p := fun k => !tb ws k) (l := List.range j)
  simpa [offN] using this
theorem offN_succ (ws : List Nat) (j : Nat) : offN ws (j + 1) = offN ws j + if tb ws j then 0 else 1 := by
  unfold offN
  rw [List.range_succ, List.countP_append, List.countP_singleton]
  cases tb ws j <;> simp
theorem offN_same (ws : List Nat) (i : Nat) : ∀ j, i ≤ j → (∀ k, i ≤ k → k < j → tb ws k ≠ false) → offN ws j = offN ws i := by
  intro j hj
  induction hj with
  | refl => intro _; rfl
  | step hm ih =>
    rename_i m
    intro h
    rw [offN_succ, ih (fun k k0 k1 => h k k0 (by omega))]
    have := h m hm (by omega)
    simp at this
    simp [this]

/-- Where a walk over the places that are off stands. -/
def SumI (ws : List Nat) (n : Nat) : Option Nat → Nat → Prop
  | some p, c => p < n ∧ tb ws p = false ∧ c = offN ws p
  | none, c => c = offN ws n
theorem sum_start {n : Int} {ws : List Nat} (hr : rightB n ws = true) : SumI ws n.toNat (nextN n ws 0 false) 0 := by
  obtain ⟨h0, _, _, _⟩ := rightB_elim hr
  cases e : nextN n ws 0 false with
  | none =>
    have := next_none (by omega) hr e
    show 0 = offN ws n.toNat
    rw [offN_same ws 0 n.toNat (Nat.zero_le _) (fun k _ k1 => this k (by omega) (by omega))]
    rfl
  | some p =>
    obtain ⟨_, h2, h3, h4⟩ := next_some (by omega) e
    refine ⟨by omega, h3, ?_⟩
    rw [offN_same ws 0 p (Nat.zero_le _) (fun k _ k1 => h4 k (by omega) k1)]
    rfl
theorem sum_step {n : Int} {ws : List Nat} (hr : rightB n ws = true) {p c : Nat} (h : SumI ws n.toNat (some p) c) : SumI ws n.toNat (nextN n ws (p + 1 : Int) false) (c + 1) := by
  obtain ⟨h0, _, _, _⟩ := rightB_elim hr
  obtain ⟨h1, h2, rfl⟩ := h
  have hs : offN ws (p + 1) = offN ws p + 1 := by rw [offN_succ, h2]; simp
  cases e : nextN n ws (p + 1 : Int) false with
  | none =>
    have := next_none (by omega) hr e
    show offN ws p + 1 = offN ws n.toNat
    rw [offN_same ws (p + 1) n.toNat (by omega) (fun k k0 k1 => this k (by omega) (by omega)), hs]
  | some q =>
    obtain ⟨g1, g2, g3, g4⟩ := next_some (by omega) e
    refine ⟨by omega, g3, ?_⟩
    rw [offN_same ws (p + 1) q (by omega) (fun k k0 k1 => g4 k (by omega) k1), hs]

theorem off_on {n : Int} {ws : List Nat} (hr : rightB n ws = true) : offN ws n.toNat + countN n ws = n.toNat := by
  rw [count_eq hr]
  have := List.length_eq_countP_add_countP (l := List.range n.toNat) (p := tb ws)
  simp only [List.length_range] at this
  unfold offN
  have e : (List.range n.toNat).countP (fun k => !tb ws k) = (List.range n.toNat).countP (fun a => decide ¬tb ws a = true) := countP_congr' fun k _ => by cases tb ws k <;> rfl
  omega

theorem count_or_ge {n : Int} {xs ys : List Nat} (hx : rightB n xs = true) (hy : rightB n ys = true) : countN n xs ≤ countN n (orW xs ys) ∧ countN n ys ≤ countN n (orW xs ys) ∧ countN n (orW xs ys) ≤ countN n xs + countN n ys := by
  obtain ⟨_, _, h2, _⟩ := rightB_elim hx
  obtain ⟨_, _, k2, _⟩ := rightB_elim hy
  have hl : xs.length = ys.length := by omega
  rw [count_eq hx, count_eq hy, count_eq (right_or hx hy)]
  refine ⟨List.countP_mono_left fun k _ h => by rw [tb_or hl, h]; rfl, List.countP_mono_left fun k _ h => by rw [tb_or hl, h, Bool.or_true], ?_⟩
  generalize List.range n.toNat = l
  induction l with
  | nil => simp
  | cons k l ih =>
    rw [List.countP_cons, List.countP_cons, List.countP_cons, tb_or hl]
    cases tb xs k <;> cases tb ys k <;> simp <;> omega

end Go.Proofs.YtelbddnjnapoeaaDoor
