/-
  What is proved: plain laws of what is put and cut again. No program in sight. No condition beyond those stated.
-/
import Derived.Test.YtllanbggjfmfhaaGreatDoorNj
import Derived.Test.YtllanbggjfmfhaaGreatDoorOp
namespace Go.Proofs.YtllanbggjfmfhaaGreatDoor
open Go.RowKit Go.Shelf

theorem okAt_iff {l : List Int} {i : Nat} : okAt l i = true ↔ (l.getD i 0 = 4 → i ≠ 0 ∧ (l.getD (i - 1) 0 = 3 ∨ l.getD (i - 1) 0 = 4)) := by
  unfold okAt
  generalize l.getD i 0 = x
  generalize l.getD (i - 1) 0 = y
  simp only [Bool.or_eq_true, Bool.and_eq_true, Bool.not_eq_true', beq_eq_false_iff_ne, beq_iff_eq, ne_eq]
  constructor
  · rintro (h | h) e
    · exact absurd e h
    · exact h
  · intro h
    by_cases e : x = 4
    · exact .inr (h e)
    · exact .inl e
theorem whole_iff {l : List Int} : wholeL l = true ↔ rightL l = true ∧ ∀ i, i < l.length → okAt l i = true := by
  simp [wholeL, List.all_eq_true]
theorem right_iff {l : List Int} : rightL l = true ↔ 1 ≤ l.length ∧ l.length ≤ 32 ∧ ∀ i, i < l.length → 0 ≤ l.getD i 0 ∧ l.getD i 0 ≤ 5 := by
  simp only [rightL, Bool.and_eq_true, decide_eq_true_eq, List.all_eq_true, and_assoc]
  refine and_congr_right fun _ => and_congr_right fun _ => ?_
  constructor
  · intro h i hi
    have := h l[i] (List.getElem_mem hi)
    simpa [knownB, hi] using this
  · intro h x hx
    obtain ⟨i, hi, rfl⟩ := List.mem_iff_getElem.1 hx
    have := h i hi
    rw [List.getD_eq_getElem?_getD, List.getElem?_eq_getElem hi] at this
    simpa [knownB] using this

structure PutIn (l : List Int) (f k : Nat) : Prop where
  hk : 1 ≤ k
  hfk : f + k ≤ l.length
  hz : ∀ j, f ≤ j → j < f + k → l.getD j 0 = 0
theorem PutIn.of {l : List Int} {f k : Int} (h : putOk l f k = true) : PutIn l f.toNat k.toNat ∧ 0 ≤ f ∧ 1 ≤ k ∧ f + k ≤ l.length := by
  simp only [putOk, Bool.and_eq_true, decide_eq_true_eq] at h
  obtain ⟨⟨⟨h0, h1⟩, h2⟩, h3⟩ := h
  exact ⟨⟨by omega, by omega, (freeAt_iff (by omega)).1 h3⟩, h0, h1, h2⟩

variable {l : List Int} {f k : Nat}
theorem put_whole_whole (hw : wholeL l = true) (h : PutIn l f k) : wholeL (putL l f k) = true := by
  obtain ⟨hr, ho⟩ := whole_iff.1 hw
  obtain ⟨h1, h2, h3⟩ := right_iff.1 hr
  have hk := h.hk
  have hfk := h.hfk
  refine whole_iff.2 ⟨right_iff.2 ⟨by rw [put_len]; exact h1, by rw [put_len]; exact h2, fun i hi => ?_⟩, fun i hi => ?_⟩
  · rw [put_len] at hi
    rw [put_get hi]
    have := h3 i hi
    split
    · omega
    · split <;> omega
  · rw [put_len] at hi
    rw [okAt_iff, put_get hi]
    intro h4
    by_cases e1 : i = f
    · rw [if_pos e1] at h4; omega
    · rw [if_neg e1] at h4
      by_cases e2 : f < i ∧ i < f + k
      · refine ⟨by omega, ?_⟩
        rw [put_get (by omega)]
        by_cases e3 : i - 1 = f
        · rw [if_pos e3]; exact .inl rfl
        · rw [if_neg e3, if_pos (by omega)]; exact .inr rfl
      · rw [if_neg e2] at h4
        obtain ⟨h5, h6⟩ := okAt_iff.1 (ho i hi) h4
        refine ⟨h5, ?_⟩
        rw [put_get (by omega)]
        split
        · exact .inl rfl
        · split
          · exact .inr rfl
          · exact h6
theorem put_head (h : PutIn l f k) : (putL l f k).getD f 0 = 3 := by
  have hk := h.hk
  have hfk := h.hfk
  rw [put_get (by omega), if_pos rfl]
theorem put_end (hw : wholeL l = true) (h : PutIn l f k) : f + 1 + tailN (putL l f k) (f + 1) = f + k := by
  obtain ⟨hr, ho⟩ := whole_iff.1 hw
  have hk := h.hk
  have hfk := h.hfk
  refine tail_is (by omega) (by rw [put_len]; exact hfk) (fun j h1 h2 => ?_) ?_
  · rw [put_get (by omega), if_neg (by omega), if_pos (by omega)]
  · rw [put_len]
    by_cases e : f + k = l.length
    · exact .inl e
    · right
      rw [put_get (by omega), if_neg (by omega), if_neg (by omega)]
      intro h4
      obtain ⟨_, h6⟩ := okAt_iff.1 (ho (f + k) (by omega)) h4
      rw [h.hz (f + k - 1) (by omega) (by omega)] at h6
      omega
theorem put_cut (h : PutIn l f k) : cutL (putL l f k) f (f + k) = l := by
  have hk := h.hk
  refine list_ext0 (by rw [cut_len, put_len]) fun i hi => ?_
  rw [cut_len, put_len] at hi
  rw [cut_get (by rw [put_len]; exact hi), put_get hi]
  by_cases e : f ≤ i ∧ i < f + k
  · rw [if_pos e, h.hz i e.1 e.2]
  · rw [if_neg e, if_neg (by omega), if_neg (by omega)]
theorem count_set {i : Nat} {x : Int} (hi : i < l.length) (h0 : l.getD i 0 = 0) (hx : x ≠ 0) : countL l 0 = countL (l.set i x) 0 + 1 := by
  unfold countL
  have h1 : l[i] = 0 := by simpa [hi] using h0
  rw [List.countP_set hi]
  have h2 : 0 < l.countP (· == 0) := List.countP_pos_iff.2 ⟨l[i], List.getElem_mem hi, by simp [h1]⟩
  simp [h1, hx]
  omega
theorem put_count (h : PutIn l f k) : countL l 0 = countL (putL l f k) 0 + k := by
  have hk := h.hk
  have hfk := h.hfk
  have gen : ∀ j, 1 ≤ j → j ≤ k → countL l 0 = countL (putL l f j) 0 + j := by
    intro j
    induction j with
    | zero => intro h; omega
    | succ j ih =>
      intro _ hjk
      by_cases hj : j = 0
      · subst hj
        rw [← put_one (by omega)]
        exact count_set (by omega) (h.hz f (by omega) (by omega)) (by omega)
      · rw [← put_step (by omega) (by omega)]
        have h1 := ih (by omega) (by omega)
        have h2 := count_set (l := putL l f j) (i := f + j) (x := 4) (by rw [put_len]; omega) (by rw [put_get (by omega), if_neg (by omega), if_neg (by omega)]; exact h.hz _ (by omega) (by omega)) (by omega)
        omega
  exact gen k hk (Nat.le_refl _)
theorem wf_small {x : Int} (h0 : 0 ≤ x) (h1 : x ≤ 5) : (Lit.int .i64 x).wf = true := by
  simp [Lit.wf, IntKind.min, IntKind.max, IntKind.signed, IntKind.bits]
  omega
theorem right_wf (hr : rightL l = true) : Wf l := fun x hx => by
  obtain ⟨h0, h1⟩ := right_mem hr hx
  exact wf_small h0 h1
theorem whole_right (hw : wholeL l = true) : rightL l = true := (whole_iff.1 hw).1

end Go.Proofs.YtllanbggjfmfhaaGreatDoor
