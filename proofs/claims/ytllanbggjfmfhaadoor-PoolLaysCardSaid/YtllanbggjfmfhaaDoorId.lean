/-
  What is proved: plain laws of pools: what is taken leaves a right pool. No program in sight. No condition beyond those stated.
-/
import Derived.Test.YtllanbggjfmfhaaDoorIb
namespace Go.Proofs.YtllanbggjfmfhaaDoor
open Go.RowKit Go.Shelf

theorem pright_iff {l : List Int} {ts : List (List Int)} : pRight l ts = true ↔ wholeL l = true ∧ ts.length = l.length ∧ ∀ i, i < l.length → tabB (ts.getD i []) = true ∧ asksOf (l.getD i 0) (ts.getD i []) = true := by
  simp only [pRight, Bool.and_eq_true, decide_eq_true_eq, List.all_eq_true, List.mem_range, blkOk]
  constructor
  · rintro ⟨⟨h1, h2⟩, h3⟩
    exact ⟨h1, h2, h3⟩
  · rintro ⟨h1, h2, h3⟩
    exact ⟨⟨h1, h2⟩, h3⟩

theorem firstOf_spec {l : List Int} {s : Int} {i : Nat} (h : firstOf l s = some i) : i < l.length ∧ l.getD i 0 = s := by
  unfold firstOf at h
  have h1 := List.mem_of_find?_eq_some h
  have h2 := List.find?_some h
  exact ⟨by simpa using h1, by simpa using h2⟩
theorem firstOf_some {l : List Int} {s : Int} : (firstOf l s).isSome = decide (0 < countL l s) := by
  rw [Bool.eq_iff_iff]
  unfold firstOf
  rw [List.find?_isSome, decide_eq_true_eq]
  unfold countL
  rw [List.countP_pos_iff]
  constructor
  · rintro ⟨i, hi, h⟩
    rw [List.mem_range] at hi
    exact ⟨l[i], List.getElem_mem _, by simpa [hi] using h⟩
  · rintro ⟨x, hx, h⟩
    obtain ⟨i, hi, rfl⟩ := List.mem_iff_getElem.1 hx
    exact ⟨i, by simpa using hi, by simpa [hi] using h⟩

/-- A state that is no large one's may be set to another such one. -/
theorem whole_set {l : List Int} {i : Nat} {x : Int} (hw : wholeL l = true) (hi : i < l.length) (h3 : l.getD i 0 ≠ 3) (h4 : l.getD i 0 ≠ 4) (hx : 0 ≤ x ∧ x ≤ 5) (hx4 : x ≠ 4) : wholeL (l.set i x) = true := by
  obtain ⟨hr, ho⟩ := whole_iff.1 hw
  obtain ⟨h1, h2, h5⟩ := right_iff.1 hr
  refine whole_iff.2 ⟨right_iff.2 ⟨by simpa using h1, by simpa using h2, fun j hj => ?_⟩, fun j hj => ?_⟩
  · rw [getD_set_eq l j i x hi]
    split
    · exact hx
    · exact h5 j (by simpa using hj)
  · have hj' : j < l.length := by simpa using hj
    have := okAt_iff.1 (ho j hj')
    rw [okAt_iff, getD_set_eq l j i x hi, getD_set_eq l (j - 1) i x hi]
    intro h
    by_cases e : j = i
    · rw [if_pos e] at h; exact absurd h hx4
    · rw [if_neg e] at h
      obtain ⟨a, b⟩ := this h
      refine ⟨a, ?_⟩
      by_cases e2 : j - 1 = i
      · rw [e2] at b
        rcases b with b | b
        · exact absurd b h3
        · exact absurd b h4
      · rw [if_neg e2]; exact b

theorem pright_set {l : List Int} {ts : List (List Int)} {i : Nat} {x : Int} (hp : pRight l ts = true) (hi : i < l.length) (h3 : l.getD i 0 ≠ 3) (h4 : l.getD i 0 ≠ 4) (hx : x = 2 ∨ x = 5) : pRight (l.set i x) ts = true := by
  obtain ⟨hw, ht, ha⟩ := pright_iff.1 hp
  refine pright_iff.2 ⟨whole_set hw hi h3 h4 (by omega) (by omega), by simpa using ht, fun j hj => ?_⟩
  have hj' : j < l.length := by simpa using hj
  refine ⟨(ha j hj').1, ?_⟩
  rw [getD_set_eq l j i x hi]
  split
  · unfold asksOf
    rw [if_neg (by omega), if_neg (by omega)]
  · exact (ha j hj').2

theorem others_set {l : List Int} {ts : List (List Int)} {i : Nat} {x : Int} (ht : ts.length = l.length) (hi : i < l.length) : Others l (l.set i x) ts ts i 1 := by
  refine ⟨by simp, ht, ht, fun j hj h => ⟨?_, rfl⟩⟩
  rw [getD_set_eq l j i x hi, if_neg (by omega)]

theorem take_keeps {l : List Int} {ts : List (List Int)} {s : Int} (hs : s = 0 ∨ s = 1) (h : takeOk l ts s = true) :
    pRight l ts = true ∧ pRight (takeL l ts s) (takeT l ts s) = true ∧ Others l (takeL l ts s) ts (takeT l ts s) (takeN l ts s) 1 ∧ takeN l ts s < l.length ∧ l.getD (takeN l ts s) 0 = s ∧ takeL l ts s = l.set (takeN l ts s) 5 ∧ takeT l ts s = ts := by
  have hp : pRight l ts = true := by
    unfold takeOk at h
    exact (Bool.and_eq_true_iff.1 h).1
  have hf : (firstOf l s).isSome = true := by
    unfold takeOk at h
    exact (Bool.and_eq_true_iff.1 h).2
  obtain ⟨i, hi⟩ := Option.isSome_iff_exists.1 hf
  have hN : takeN l ts s = i := by unfold takeN; rw [h, hi]; rfl
  have hL : takeL l ts s = l.set i 5 := by unfold takeL; rw [h, hN]; rfl
  have hT : takeT l ts s = ts := by unfold takeT; rw [h]; rfl
  obtain ⟨h1, h2⟩ := firstOf_spec hi
  rw [hN, hL, hT]
  exact ⟨hp, pright_set hp h1 (by omega) (by omega) (.inr rfl), others_set (pright_iff.1 hp).2.1 h1, h1, h2, rfl, rfl⟩

theorem run_keeps {l : List Int} {ts : List (List Int)} {k : Int} (h : runOk l ts k = true) :
    pRight l ts = true ∧ 1 ≤ k ∧ k ≤ 32 ∧ PutIn l (runN l ts k) k.toNat ∧ pRight (runL l ts k) (runT l ts k) = true ∧ Others l (runL l ts k) ts (runT l ts k) (runN l ts k) k.toNat ∧ runL l ts k = putL l (runN l ts k) k.toNat ∧ runT l ts k = ts := by
  have hp : pRight l ts = true := by
    unfold runOk at h
    exact (Bool.and_eq_true_iff.1 h).1
  have hf : (firstR l k).isSome = true := by
    unfold runOk at h
    exact (Bool.and_eq_true_iff.1 h).2
  obtain ⟨r, hr⟩ := Option.isSome_iff_exists.1 hf
  have hN : runN l ts k = r.1 := by unfold runN; rw [h, hr]; rfl
  have hL : runL l ts k = putL l r.1 k.toNat := by unfold runL; rw [h, hN]; rfl
  have hT : runT l ts k = ts := by unfold runT; rw [h]; rfl
  obtain ⟨hpo, hk⟩ := first_fits hr
  obtain ⟨hpi, _, _, hlen⟩ := PutIn.of hpo
  obtain ⟨hw, ht, ha⟩ := pright_iff.1 hp
  have hle := (right_iff.1 (whole_iff.1 hw).1).2.1
  rw [Int.toNat_natCast] at hpi
  rw [hN, hL, hT]
  refine ⟨hp, hk, by omega, hpi, ?_, ⟨put_len _ _ _, ht, ht, fun j hj hjo => ⟨?_, rfl⟩⟩, rfl, rfl⟩
  · refine pright_iff.2 ⟨put_whole_whole hw hpi, by rw [put_len]; exact ht, fun j hj => ?_⟩
    rw [put_len] at hj
    refine ⟨(ha j hj).1, ?_⟩
    have hz : r.1 ≤ j → j < r.1 + k.toNat → asksOf 0 (ts.getD j []) = true := fun h1 h2 => by
      have h3 := (ha j hj).2
      rwa [hpi.hz j h1 h2] at h3
    have e3 : ∀ t, asksOf 3 t = asksOf 0 t := fun t => by simp [asksOf]
    have e4 : ∀ t, asksOf 4 t = asksOf 0 t := fun t => by simp [asksOf]
    rw [put_get hj]
    split
    · rename_i e
      rw [e3]; exact hz (by omega) (by omega)
    · split
      · rename_i e
        rw [e4]; exact hz (by omega) (by omega)
      · exact (ha j hj).2
  · rw [put_get hj, if_neg (by omega), if_neg (by omega)]

theorem takeL_len (l : List Int) (ts : List (List Int)) (s : Int) : (takeL l ts s).length ≤ l.length := by
  unfold takeL
  split <;> simp
theorem takeT_len (l : List Int) (ts : List (List Int)) (s : Int) : (takeT l ts s).length ≤ ts.length := by
  unfold takeT
  split <;> simp
theorem runL_len (l : List Int) (ts : List (List Int)) (k : Int) : (runL l ts k).length ≤ l.length := by
  unfold runL
  split
  · rw [put_len]; exact Nat.le_refl _
  · simp
theorem runT_len (l : List Int) (ts : List (List Int)) (k : Int) : (runT l ts k).length ≤ ts.length := by
  unfold runT
  split <;> simp

end Go.Proofs.YtllanbggjfmfhaaDoor
