/-
  What is proved: plain laws of kinds: what is added, found, and of a number. No program in sight. No condition beyond those stated.
-/
import Derived.Test.YtmabokmnniiadaaGreatDoorMa
namespace Go.Proofs.YtmabokmnniiadaaGreatDoor
open Go.RowKit Go.Lib

/-- What Add hands back: kinds, a number, and what is told. -/
def kAdd (l : List DscK) (d : DscK) : List DscK × Nat × Nat :=
  if kRight l = false then ([], 0, 50) else if dR d = false then ([], 0, 40) else if kFind l d ≠ 0 then (l, kFind l d, 0) else if 60 ≤ l.length then ([], 0, 53) else (l ++ [d], l.length + 1, 0)
theorem kRight_snoc {l : List DscK} {d : DscK} : kRight (l ++ [d]) = true ↔ kRight l = true ∧ dR d = true ∧ d ∉ l ∧ l.length < 60 := by
  rw [kRight_iff, kRight_iff]
  constructor
  · rintro ⟨h1, h2, h3⟩
    rw [List.nodup_append] at h3
    refine ⟨⟨by simp at h1; omega, fun x hx => h2 x (by simp [hx]), h3.1⟩, h2 d (by simp), fun hm => h3.2.2 d hm d (by simp) rfl, by simp at h1; omega⟩
  · rintro ⟨⟨h1, h2, h3⟩, h4, h5, h6⟩
    refine ⟨by simp; omega, fun x hx => ?_, List.nodup_append.2 ⟨h3, by simp, fun x hx y hy e => ?_⟩⟩
    · rcases List.mem_append.1 hx with hx | hx
      · exact h2 x hx
      · rw [List.mem_singleton.1 hx]; exact h4
    · rw [List.mem_singleton.1 hy] at e
      exact h5 (e ▸ hx)
theorem kRight_take {l : List DscK} (h : kRight l = true) (k : Nat) : kRight (l.take k) = true := by
  obtain ⟨h1, h2, h3⟩ := kRight_iff.1 h
  exact kRight_iff.2 ⟨by rw [List.length_take]; omega, fun x hx => h2 x (List.mem_of_mem_take hx), h3.sublist (List.take_sublist _ _)⟩
theorem kFind_le {d : DscK} : ∀ (l : List DscK), kFind l d ≤ l.length
  | [] => by simp [kFind]
  | x :: l => by
    unfold kFind
    have := kFind_le (d := d) l
    split
    · simp
    · split <;> simp <;> omega
theorem kFind_of {d : DscK} : ∀ {l : List DscK} {n : Nat}, l.Nodup → l[n]? = some d → kFind l d = n + 1
  | [], n, _, h => by simp at h
  | x :: l, 0, _, h => by
    simp at h
    simp [kFind, h]
  | x :: l, n + 1, hn, h => by
    simp at h
    have hx : x ≠ d := fun e => (List.nodup_cons.1 hn).1 (e ▸ List.mem_of_getElem? h)
    have ih := kFind_of (List.nodup_cons.1 hn).2 h
    unfold kFind
    rw [if_neg hx, ih, if_neg (by omega)]
/-- What is added is there, under its number; all others are under theirs; once more nothing is added. -/
theorem kAdd_keeps {l m : List DscK} {d : DscK} {k : Nat} (h : kAdd l d = (m, k, 0)) : kRight l = true ∧ kRight m = true ∧ dR d = true ∧ 1 ≤ k ∧ k ≤ m.length ∧ m[k - 1]? = some d ∧ l.length ≤ m.length ∧ (∀ n, n < l.length → m[n]? = l[n]?) ∧ kAdd m d = (m, k, 0) := by
  unfold kAdd at h
  by_cases h1 : kRight l = false
  · rw [if_pos h1] at h; simp at h
  · rw [if_neg h1] at h
    have h1' : kRight l = true := by simpa using h1
    by_cases h2 : dR d = false
    · rw [if_pos h2] at h; simp at h
    · rw [if_neg h2] at h
      have h2' : dR d = true := by simpa using h2
      by_cases h3 : kFind l d ≠ 0
      · rw [if_pos h3] at h
        simp only [Prod.mk.injEq] at h
        obtain ⟨rfl, rfl, -⟩ := h
        obtain ⟨j, hj⟩ : ∃ j, kFind l d = j + 1 := ⟨kFind l d - 1, by omega⟩
        refine ⟨h1', h1', h2', by omega, kFind_le l, by rw [hj]; exact kFind_at hj, Nat.le_refl _, fun _ _ => rfl, ?_⟩
        unfold kAdd
        rw [if_neg h1, if_neg h2, if_pos h3]
      · rw [if_neg h3] at h
        by_cases h4 : 60 ≤ l.length
        · rw [if_pos h4] at h; simp at h
        · rw [if_neg h4] at h
          simp only [Prod.mk.injEq] at h
          obtain ⟨rfl, rfl, -⟩ := h
          have hm : d ∉ l := kFind_zero.1 (by omega)
          have hr : kRight (l ++ [d]) = true := kRight_snoc.2 ⟨h1', h2', hm, by omega⟩
          have hf : kFind (l ++ [d]) d = l.length + 1 := kFind_of (kRight_iff.1 hr).2.2 (by simp)
          refine ⟨h1', hr, h2', by omega, by simp, by simp, by simp, fun n hn => by rw [List.getElem?_append_left hn], ?_⟩
          unfold kAdd
          rw [if_neg (by rw [hr]; simp), if_neg h2, if_pos (by rw [hf]; omega), hf]
/-- One by one. -/
def kOne : List DscK → List DscK → Bool → Nat → List DscK × Bool
  | [], all, right, _ => (all, right)
  | d :: l, all, right, i => kOne l (if (kAdd all d).2.2 = 0 then (kAdd all d).1 else all) (right && decide ((kAdd all d).2.2 = 0) && decide ((kAdd all d).2.1 = i + 1)) (i + 1)
theorem kOne_all : ∀ (l all pre : List DscK) (right : Bool) (i : Nat), kRight all = true → pre.length = i → right = kRight pre → (right = true → all = pre) →
    kRight (kOne l all right i).1 = true ∧ (kOne l all right i).2 = kRight (pre ++ l) ∧ ((kOne l all right i).2 = true → (kOne l all right i).1 = pre ++ l)
  | [], all, pre, right, i, h1, _, h3, h4 => by
    simp only [kOne, List.append_nil]
    exact ⟨h1, h3, h4⟩
  | d :: l, all, pre, right, i, h1, h2, h3, h4 => by
    have hsn := @kRight_snoc pre d
    have key := kOne_all l (if (kAdd all d).2.2 = 0 then (kAdd all d).1 else all) (pre ++ [d]) (right && decide ((kAdd all d).2.2 = 0) && decide ((kAdd all d).2.1 = i + 1)) (i + 1) ?_ (by simp [h2]) ?_ ?_
    · rw [kOne]
      simpa using key
    · split
      · rename_i h0
        have : kAdd all d = ((kAdd all d).1, (kAdd all d).2.1, 0) := by rw [← h0]
        exact (kAdd_keeps this).2.1
      · exact h1
    · cases hr : right
      · rw [hr] at h3
        cases hk : kRight (pre ++ [d])
        · rfl
        · rw [(hsn.1 hk).1] at h3
          cases h3
      · obtain rfl := h4 hr
        cases hk : kRight (all ++ [d])
        · have hno : ¬ (dR d = true ∧ d ∉ all ∧ all.length < 60) := fun h => by
            rw [hsn.2 ⟨h1, h⟩] at hk
            cases hk
          unfold kAdd
          rw [if_neg (by rw [h1]; simp)]
          by_cases g2 : dR d = false
          · rw [if_pos g2]; rfl
          · rw [if_neg g2]
            by_cases g3 : kFind all d ≠ 0
            · rw [if_pos g3]
              have := kFind_le (d := d) all
              rw [decide_eq_false (show ¬ kFind all d = i + 1 by omega), Bool.and_false]
            · rw [if_neg g3]
              by_cases g4 : 60 ≤ all.length
              · rw [if_pos g4]; rfl
              · exact absurd ⟨by simpa using g2, kFind_zero.1 (by omega), by omega⟩ hno
        · obtain ⟨-, g2, g3, g4⟩ := hsn.1 hk
          unfold kAdd
          rw [if_neg (by rw [h1]; simp), if_neg (by rw [g2]; simp), if_neg (by rw [kFind_zero.2 g3]; simp), if_neg (by omega)]
          simp [h2]
    · intro hr
      simp only [Bool.and_eq_true, decide_eq_true_eq] at hr
      obtain ⟨⟨hr1, hr2⟩, hr3⟩ := hr
      obtain rfl := h4 hr1
      rw [if_pos hr2]
      unfold kAdd at hr2 hr3 ⊢
      rw [if_neg (by rw [h1]; simp)] at hr2 hr3 ⊢
      by_cases g2 : dR d = false
      · rw [if_pos g2] at hr2; simp at hr2
      · rw [if_neg g2] at hr2 hr3 ⊢
        by_cases g3 : kFind all d ≠ 0
        · rw [if_pos g3] at hr3
          have := kFind_le (d := d) all
          simp only at hr3
          omega
        · rw [if_neg g3] at hr2 hr3 ⊢
          by_cases g4 : 60 ≤ all.length
          · rw [if_pos g4] at hr2; simp at hr2
          · rw [if_neg g4]
end Go.Proofs.YtmabokmnniiadaaGreatDoor
