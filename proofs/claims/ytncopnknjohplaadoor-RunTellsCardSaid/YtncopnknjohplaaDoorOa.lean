/-
  What is proved: RunFewer returns true. No condition beyond those stated.
-/
import Derived.Test.YtncopnknjohplaaDoorNi
namespace Go.Proofs.YtncopnknjohplaaDoor
open Go.RowKit Go.Shelf

/-- A law holds: it returns true, and what was stays. -/
def Holds (w : World) (e : Ending) (w' : World) : Prop := e = .returned (.bool true) ∧ Below w.heap.size w w'

theorem runs_sorted (l : List Int) : (runsL l).Pairwise fun r s => r.1 < s.1 := by
  unfold runsL runsFrom
  rw [List.pairwise_filterMap]
  refine (List.pairwise_lt_range' (s := 0) (n := l.length - 0) (step := 1)).imp ?_
  intro a b hab r hr s hs
  unfold startAt at hr hs
  split at hr
  · split at hs
    · cases hr; cases hs; exact hab
    · cases hs
  · cases hr

theorem first_fewer {l : List Int} {k m : Int} {r : Nat × Nat} (h : firstR l k = some r) (h1 : 1 ≤ m) (h2 : m ≤ k) : ∃ s, firstR l m = some s ∧ s.1 ≤ r.1 := by
  unfold firstR at h ⊢
  split at h
  · rename_i hc
    simp only [Bool.and_eq_true, decide_eq_true_eq] at hc
    rw [if_pos (by simp [hc.1, h1])]
    have hmem := List.mem_of_find?_eq_some h
    have hp := List.find?_some h
    have hq : longB m r = true := by
      simp only [longB, decide_eq_true_eq] at hp ⊢
      omega
    obtain ⟨s, hs⟩ : ∃ s, (runsL l).find? (longB m) = some s := by
      rw [← Option.isSome_iff_exists, List.find?_isSome]
      exact ⟨r, hmem, hq⟩
    refine ⟨s, hs, ?_⟩
    obtain ⟨hps, xs, ys, e, hno⟩ := List.find?_eq_some_iff_append.1 hs
    rw [e] at hmem
    rcases List.mem_append.1 hmem with hm | hm
    · have := hno r hm
      rw [hq] at this
      cases this
    · rcases List.mem_cons.1 hm with rfl | hm
      · exact Nat.le_refl _
      · have hsrt := runs_sorted l
        rw [e] at hsrt
        have := (List.pairwise_cons.1 (List.pairwise_append.1 hsrt).2.1).1 r hm
        exact Nat.le_of_lt this
  · cases h
theorem first_bounds {l : List Int} {k : Int} {r : Nat × Nat} (h : firstR l k = some r) : r.1 < l.length := by
  unfold firstR at h
  split at h
  · have := runs_mem (List.mem_of_find?_eq_some h)
    omega
  · cases h

set_option maxRecDepth 100000 in
set_option maxHeartbeats 2000000 in
theorem fewer_any (A : Option Addr) (m c : Nat) (l : List Int) (k j : Int) (aS aR : Addr) (w : World) (hS : RSent w aS aR) (hR : Row w A m (l.map Iv)) (hc : m ≤ c) :
    Calls Tryd.prog 5 #[.slice A m c, .int .i64 k, .int .i64 j] w (Holds w) := by
  have HS := Lib.hid hS
  have HR := Lib.hid (row_few hR)
  have hmm : min m 34 ≤ 34 := Nat.min_le_right _ _
  have hmc : min m 34 ≤ c := Nat.le_trans (Nat.min_le_left _ _) hc
  clear hS hR
  go_enter Tryd.func5, Tryd.ntmps5
  go_wp2_with fail
  refine (shown_any aS aR w HS.out).mono ?_
  rintro e w1 ⟨rfl, hb1⟩
  have HB := Lib.hid hb1
  clear hb1
  go_wp2_with fail
  refine (few_any A m c w1 hc).mono ?_
  rintro e w' ⟨rfl, rfl⟩
  generalize min m 34 = m' at *
  generalize l.take 34 = l' at HR
  clear hc
  go_wp2_with fail
  obtain ⟨o, ho⟩ : ∃ o, firstR l' k = o := ⟨_, rfl⟩
  obtain ⟨p, hp⟩ : ∃ p, firstR l' j = p := ⟨_, rfl⟩
  have h := first_any A m' c l' k w1 (HR.out.ext HB.out) (by omega)
  rw [ho] at h
  refine h.mono ?_
  clear h
  rintro e w2 ⟨rfl, hb2⟩
  replace HB := Lib.hid (below_le HB.out hb2)
  clear hb2
  have HO := Lib.hid ho
  have HP := Lib.hid hp
  clear ho hp
  go_wp2_with fail
  have h := first_any A m' c l' j w2 (HR.out.ext HB.out) (by omega)
  rw [HP.out] at h
  refine h.mono ?_
  clear h
  rintro e w3 ⟨rfl, hb3⟩
  replace HB := Lib.hid (below_le HB.out hb3)
  clear hb3
  cases o with
  | none =>
    simp only [Option.getD_none, Option.isSome_none]
    go_wp2
    go_ret
    exact ⟨rfl, HB.out⟩
  | some r =>
    simp only [Option.getD_some, Option.isSome_some]
    by_cases h1 : j < 1
    · go_wp2
      go_ret
      exact ⟨rfl, HB.out⟩
    by_cases h2 : k < j
    · go_wp2
      go_ret
      exact ⟨rfl, HB.out⟩
    · obtain ⟨s, hs, hle⟩ := first_fewer HO.out (m := j) (by omega) (by omega)
      rw [HP.out] at hs
      subst hs
      simp only [Option.getD_some, Option.isSome_some]
      have hd : decide ((s.1 : Int) ≤ (r.1 : Int)) = true := by simp; omega
      have hd2 : decide (s.1 ≤ r.1) = true := by simpa using hle
      go_wp2
      go_ret
      exact ⟨ret_bool (by simp), HB.out⟩

end Go.Proofs.YtncopnknjohplaaDoor
