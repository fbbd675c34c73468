/-
  What is proved: a text's lines, and what is read of them, as parseK says. No program in sight. No condition beyond those stated.
-/
import Derived.Test.YtmabokmnniiadaaGreatDoorMb
import Derived.Test.YtmabokmnniiadaaGreatDoorMd
namespace Go.Proofs.YtmabokmnniiadaaGreatDoor
open Go.RowKit Go.Lib

/-- A text's lines, and whether each has an end. -/
def linesOf : Nat → List UInt8 → List (List UInt8 × Bool)
  | 0, _ => []
  | f + 1, s => if s = [] then [] else ((cut s [10]).1, (cut s [10]).2.2) :: linesOf f (cut s [10]).2.1
/-- What a line makes of the descriptors that were read. -/
def readK (acc : List DscK) (x : List UInt8 × Bool) : List DscK × Nat :=
  if x.2 = false then (acc, 40) else match readT x.1 with
    | none => (acc, 40)
    | some d => if d ∈ acc then (acc, 52) else if 60 ≤ acc.length then (acc, 53) else (acc ++ [d], 0)
/-- What lines make of them, one by one, up to the first that is wrong. -/
def goK : List DscK → List (List UInt8 × Bool) → List DscK × Nat
  | acc, [] => (acc, 0)
  | acc, x :: L => if (readK acc x).2 = 0 then goK (readK acc x).1 L else readK acc x
def parseL : List DscK → Nat → List (List UInt8 × Bool) → List DscK × Nat × Nat
  | acc, _, [] => (acc, 0, 0)
  | acc, k, x :: L => if (readK acc x).2 = 0 then parseL (readK acc x).1 (k + 1) L else ([], k + 1, (readK acc x).2)

theorem parseK_lines : ∀ (f : Nat) (s : List UInt8) (acc : List DscK) (k : Nat), s.length < f → parseK f acc k s = parseL acc k (linesOf f s)
  | 0, s, _, _, h => by omega
  | f + 1, s, acc, k, h => by
    unfold parseK linesOf
    by_cases hs : s = []
    · rw [if_pos hs, if_pos hs]
      rfl
    · rw [if_neg hs, if_neg hs]
      obtain ⟨a, b, e, hc⟩ : ∃ a b e, cut s [10] = (a, b, e) := ⟨_, _, _, rfl⟩
      simp only [hc]
      unfold parseL readK
      cases e with
      | false => simp
      | true =>
        have hsp := cut_some hc
        simp only [Bool.true_eq_false, if_false]
        cases hr : readT a with
        | none => simp
        | some d =>
          simp only
          by_cases hm : d ∈ acc
          · simp [hm]
          · by_cases hl : 60 ≤ acc.length
            · simp [hm, hl]
            · simp only [if_neg hm, if_neg hl, if_true]
              exact parseK_lines f b _ _ (by rw [hsp] at h; simp at h; omega)
theorem goK_snoc : ∀ (L : List (List UInt8 × Bool)) (acc : List DscK) (x : List UInt8 × Bool), goK acc (L ++ [x]) = if (goK acc L).2 = 0 then readK (goK acc L).1 x else goK acc L
  | [], acc, x => by
    simp only [List.nil_append, goK, if_true]
    split <;> rename_i h
    · rw [← h]
    · rfl
  | y :: L, acc, x => by
    simp only [List.cons_append, goK]
    by_cases h : (readK acc y).2 = 0
    · simp only [if_pos h]
      exact goK_snoc L _ x
    · simp only [if_neg h]
theorem parseL_go : ∀ (A B : List (List UInt8 × Bool)) (acc acc' : List DscK) (k : Nat), goK acc A = (acc', 0) → parseL acc k (A ++ B) = parseL acc' (k + A.length) B
  | [], B, acc, acc', k, h => by
    simp only [goK, Prod.mk.injEq, and_true] at h
    simp [h]
  | x :: A, B, acc, acc', k, h => by
    simp only [goK] at h
    split at h
    · rename_i h0
      simp only [List.cons_append, parseL, if_pos h0]
      rw [parseL_go A B _ acc' (k + 1) h]
      simp [Nat.add_comm, Nat.add_left_comm]
    · rename_i h0
      exact absurd (by rw [h]) h0
theorem readK_right {acc : List DscK} {x : List UInt8 × Bool} {acc' : List DscK} (h : readK acc x = (acc', 0)) (ha : ∀ d ∈ acc, dR d = true) : ∀ d ∈ acc', dR d = true := by
  unfold readK at h
  split at h
  · simp at h
  · cases hr : readT x.1 with
    | none => rw [hr] at h; simp at h
    | some d =>
      rw [hr] at h
      simp only at h
      split at h
      · simp at h
      · split at h
        · simp at h
        · simp only [Prod.mk.injEq, and_true] at h
          subst h
          intro y hy
          rcases List.mem_append.1 hy with hy | hy
          · exact ha y hy
          · rw [List.mem_singleton.1 hy]
            exact (read_dR hr).2

theorem cut_leK (s sep : List UInt8) : (cut s sep).1.length ≤ s.length ∧ (cut s sep).2.1.length ≤ s.length := by
  unfold cut
  split <;> simp <;> omega
theorem cut_noneK {s sep a b : List UInt8} (h : cut s sep = (a, b, false)) : a = s ∧ b = [] := by
  unfold cut at h
  split at h
  · cases h
  · simp only [Prod.mk.injEq, and_true] at h
    exact ⟨h.1.symm, h.2.symm⟩
/-- All lines are short. -/
def shortL (L : List (List UInt8 × Bool)) : Prop := ∀ x ∈ L, x.1.length ≤ 1000
theorem linesOf_len : ∀ (f : Nat) (s : List UInt8), (linesOf f s).length ≤ s.length
  | 0, s => by simp [linesOf]
  | f + 1, s => by
    unfold linesOf
    split
    · simp
    · rename_i hs
      obtain ⟨a, b, e, hc⟩ : ∃ a b e, cut s [10] = (a, b, e) := ⟨_, _, _, rfl⟩
      simp only [hc, List.length_cons]
      have ih := linesOf_len f b
      have hl := cut_leK s [10]
      have hp : 0 < s.length := List.length_pos_iff.2 hs
      cases e with
      | true =>
        have := congrArg List.length (cut_some hc)
        simp at this
        omega
      | false =>
        have h0 := congrArg List.length (cut_noneK hc).2
        simp only [List.length_nil] at h0
        omega
theorem shortL_of : ∀ (f : Nat) (s : List UInt8), s.length ≤ 1000 → shortL (linesOf f s)
  | 0, s, _ => by intro x hx; simp [linesOf] at hx
  | f + 1, s, h => by
    unfold linesOf
    split
    · intro x hx; simp at hx
    · have hl := cut_leK s [10]
      obtain ⟨a, b, e, hc⟩ : ∃ a b e, cut s [10] = (a, b, e) := ⟨_, _, _, rfl⟩
      rw [hc] at hl
      simp only [hc]
      intro x hx
      rcases List.mem_cons.1 hx with rfl | hx
      · exact Nat.le_trans hl.1 h
      · exact shortL_of f b (Nat.le_trans hl.2 h) x hx
theorem linesOf_lines : ∀ (l : List DscK) (f : Nat), (∀ d ∈ l, dR d = true) → linesOf f (linesT l) = (l.map fun d => (dP d, true)).take f
  | [], 0, _ => rfl
  | [], f + 1, _ => by simp [linesOf, linesT]
  | d :: l, 0, _ => rfl
  | d :: l, f + 1, h => by
    unfold linesOf
    rw [linesT_cons, if_neg (by simp), cut_line (h d (by simp))]
    simp only [List.map_cons, List.take_succ_cons]
    rw [linesOf_lines l f (fun x hx => h x (by simp [hx]))]
theorem shortL_lines {l : List DscK} (f : Nat) (h : ∀ d ∈ l, dR d = true) (hl : ∀ d ∈ l, (dP d).length ≤ 1000) : shortL (linesOf f (linesT l)) := by
  rw [linesOf_lines l f h]
  intro x hx
  obtain ⟨d, hd, rfl⟩ := List.mem_map.1 (List.mem_of_mem_take hx)
  exact hl d hd
end Go.Proofs.YtmabokmnniiadaaGreatDoor
