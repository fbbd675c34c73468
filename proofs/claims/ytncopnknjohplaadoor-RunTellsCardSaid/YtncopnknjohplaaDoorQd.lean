/-
  What is proved: contracts of Same of the reference of layer 8, and of First, Longest and All of the reference of layer 9. No condition beyond those stated.
-/
import Derived.Test.YtncopnknjohplaaDoorQb
import Derived.Test.YtncopnknjohplaaDoorPa
namespace Go.Proofs.YtncopnknjohplaaDoor
open Go.RowKit Go.Shelf

/-- The first block from which so many are free. -/
theorem first_at {l : List Int} {k : Int} {i : Nat} (hr : rightL l = true) (hk : 1 ≤ k) (hi : i < l.length) (hz : ∀ j, j < i → (freeN l j : Int) < k) (hp : k ≤ (freeN l i : Int)) : ∃ r, firstR l k = some r ∧ r.1 = i := by
  have h2 := free_le l i (by omega)
  obtain ⟨r, h1, hle⟩ := fits_first (l := l) (a := i) (k := k.toNat) hr (by omega) (by omega) ((freeAt_iff (by omega)).2 fun j h3 h4 => free_all l i j h3 (by omega))
  rw [Int.toNat_of_nonneg (by omega)] at h1
  refine ⟨r, h1, ?_⟩
  rcases Nat.lt_or_ge r.1 i with h | h
  · exfalso
    have h3 := hz r.1 h
    unfold firstR at h1
    rw [if_pos (by simp [hr, hk])] at h1
    have h4 := List.find?_some h1
    have h5 := runs_mem (List.mem_of_find?_eq_some h1)
    simp only [longB, decide_eq_true_eq] at h4
    omega
  · omega
theorem first_no {l : List Int} {k : Int} (hz : ∀ j, j < l.length → (freeN l j : Int) < k) : firstR l k = none := by
  unfold firstR
  split
  · rw [List.find?_eq_none]
    intro r hm hl
    have h5 := runs_mem hm
    simp only [longB, decide_eq_true_eq] at hl
    have := hz r.1 (by omega)
    omega
  · rfl

set_option maxHeartbeats 1000000 in
theorem reffirst_any (A : Option Addr) (m c : Nat) (l : List Int) (k : Int) (w : World) (hR : Row w A m (l.map Iv)) (hm : m ≤ 1000) :
    Calls Tryd.prog 22 #[.slice A m c, .int .i64 k] w (GivesFirst w (firstR l k)) := by
  have hl := hR.1
  simp at hl
  have HR := Lib.hid hR
  have HL := Lib.hid hl
  clear hR hl
  go_enter Tryd.func22, Tryd.ntmps22
  go_wp2_with fail
  refine (refright_any A m c l w HR.out hm).mono ?_
  rintro e w' ⟨rfl, rfl⟩
  cases hr : rightL l
  · have HQ : Hid (firstR l k = none) := Lib.hid (by simp [firstR, hr])
    clear hr
    go_wp2
    exact bodyPost_ret (v := .tuple #[.int .i64 0, .bool false]) (by simp [results, Tryd.results22, go_sem]) rfl ⟨by rw [HQ.out]; rfl, Below.refl _ _⟩
  · by_cases hk : k < 1
    · have HQ : Hid (firstR l k = none) := Lib.hid (by unfold firstR; rw [decide_eq_false (show ¬ 1 ≤ k by omega)]; simp)
      clear hr
      go_wp2
      exact bodyPost_ret (v := .tuple #[.int .i64 0, .bool false]) (by simp [results, Tryd.results22, go_sem]) rfl ⟨by rw [HQ.out]; rfl, Below.refl _ _⟩
    · have Hr := Lib.hid hr
      clear hr
      go_wp2
      go_loop [6] (fun i => ∃ j : Nat, j ≤ m ∧ i = .int .i64 j ∧ ∀ q, q < j → (freeN l q : Int) < k) (fun i => m - (intOf i).toNat)
      case atStart => exact ⟨0, Nat.zero_le _, rfl, fun q hq => absurd hq (by omega)⟩
      case round =>
        obtain ⟨j, hj, rfl, hz⟩ := hrel
        have HZ := Lib.hid hz
        clear hz
        by_cases hlt : j < m
        · have h := free_any A m c l j w HR.out hm (by omega)
          obtain ⟨q, hq⟩ : ∃ q, freeN l j = q := ⟨_, rfl⟩
          rw [hq] at h
          have HQ := Lib.hid hq
          have HH := Lib.hid h
          clear h hq
          go_wp2_with fail
          refine HH.out.mono ?_
          rintro e w' ⟨rfl, rfl⟩
          by_cases hqk : k ≤ (q : Int)
          · go_wp2
            obtain ⟨r, h1, h2⟩ := first_at Hr.out (by omega) (by have := HL.out; omega) HZ.out (by rw [HQ.out]; exact hqk)
            refine bodyPost_ret (v := .tuple #[.int .i64 j, .bool true]) (by simp [results, Tryd.results22, go_sem]) rfl ⟨?_, Below.refl _ _⟩
            rw [h1]
            simp only [Option.getD_some, Option.isSome_some, h2]
          · go_wp2
            go_round
            case rel => exact ⟨j + 1, by omega, by go_num, fun q' hq' => by
              by_cases e : q' = j
              · rw [e, HQ.out]; omega
              · exact HZ.out q' (by omega)⟩
            case measure => simp [intOf]; omega
        · go_wp2
          refine bodyPost_ret (v := .tuple #[.int .i64 0, .bool false]) (by simp [results, Tryd.results22, go_sem]) rfl ⟨?_, Below.refl _ _⟩
          rw [first_no (fun q hq => HZ.out q (by have := HL.out; omega))]
          rfl

/-- The most that are free from one block on. -/
def mostN (l : List Int) (j : Nat) : Nat := (List.range j).foldl (fun a i => max a (freeN l i)) 0
theorem most_succ (l : List Int) (j : Nat) : mostN l (j + 1) = max (mostN l j) (freeN l j) := by simp [mostN, List.range_succ]
theorem most_le (l : List Int) (j k : Nat) (hk : 1 ≤ k) : k ≤ mostN l j ↔ ∃ i, i < j ∧ k ≤ freeN l i := by
  induction j with
  | zero => simp [mostN]; omega
  | succ j ih =>
    rw [most_succ, show k ≤ max (mostN l j) (freeN l j) ↔ k ≤ mostN l j ∨ k ≤ freeN l j by omega, ih]
    constructor
    · rintro (⟨i, h1, h2⟩ | h)
      · exact ⟨i, by omega, h2⟩
      · exact ⟨j, by omega, h⟩
    · rintro ⟨i, h1, h2⟩
      by_cases e : i = j
      · exact .inr (by rw [← e]; exact h2)
      · exact .inl ⟨i, by omega, h2⟩
theorem most_all {l : List Int} (hr : rightL l = true) : mostN l l.length = longR l := by
  have key : ∀ k : Nat, 1 ≤ k → (k ≤ mostN l l.length ↔ k ≤ longR l) := by
    intro k hk
    rw [most_le l _ k hk]
    have h1 := first_longest (l := l) (k := (k : Int)) hr (by omega)
    rw [Bool.eq_iff_iff, decide_eq_true_eq] at h1
    rw [show k ≤ longR l ↔ (k : Int) ≤ (longR l : Int) by omega, ← h1]
    constructor
    · rintro ⟨i, hi, hf⟩
      have h2 := free_le l i (by omega)
      obtain ⟨r, h3, _⟩ := fits_first (l := l) (a := i) (k := k) hr hk (by omega) ((freeAt_iff (by omega)).2 fun j h3 h4 => free_all l i j h3 (by omega))
      rw [h3]; rfl
    · intro h
      obtain ⟨r, hr'⟩ := Option.isSome_iff_exists.1 h
      unfold firstR at hr'
      rw [if_pos (by simp [hr]; omega)] at hr'
      have h4 := List.find?_some hr'
      have h5 := runs_mem (List.mem_of_find?_eq_some hr')
      simp only [longB, decide_eq_true_eq] at h4
      exact ⟨r.1, by omega, by omega⟩
  rcases Nat.lt_trichotomy (mostN l l.length) (longR l) with h | h | h
  · have := (key (longR l) (by omega)).2 (Nat.le_refl _); omega
  · exact h
  · have := (key (mostN l l.length) (by omega)).1 (Nat.le_refl _); omega
theorem most_bound (l : List Int) (j : Nat) (h : j ≤ l.length) : mostN l j ≤ l.length := by
  rcases Nat.eq_zero_or_pos (mostN l j) with h0 | h0
  · omega
  · obtain ⟨i, h1, h2⟩ := (most_le l j (mostN l j) h0).1 (Nat.le_refl _)
    have := free_le l i (by omega)
    omega

set_option maxHeartbeats 1000000 in
theorem reflongest_any (A : Option Addr) (m c : Nat) (l : List Int) (w : World) (hR : Row w A m (l.map Iv)) (hm : m ≤ 1000) :
    Calls Tryd.prog 28 #[.slice A m c] w fun e w' => e = .returned (.int .i64 (longR l : Nat)) ∧ w = w' := by
  have hl := hR.1
  simp at hl
  have HR := Lib.hid hR
  have HL := Lib.hid hl
  clear hR hl
  go_enter Tryd.func28, Tryd.ntmps28
  go_wp2
  go_loop [3, 4] (fun n i => ∃ j : Nat, j ≤ m ∧ i = .int .i64 j ∧ n = .int .i64 (mostN l j : Nat) ∧ (0 < j → rightL l = true)) (fun _ i => m - (intOf i).toNat)
  case atStart => exact ⟨0, Nat.zero_le _, rfl, rfl, fun h => absurd h (by omega)⟩
  case round =>
    obtain ⟨j, hj, rfl, rfl, hjr⟩ := hrel
    have HJR := Lib.hid hjr
    clear hjr
    by_cases hlt : j < m
    · have hr0 := refright_any A m c l w HR.out hm
      have hms := most_succ l j
      have hmb := most_bound l j (by have := HL.out; omega)
      have hfb := free_le l j (by have := HL.out; omega)
      have h := free_any A m c l j w HR.out hm (by omega)
      obtain ⟨mg, hmg⟩ : ∃ mg, mostN l j = mg := ⟨_, rfl⟩
      rw [hmg] at hms hmb
      rw [hmg]
      have HMG := Lib.hid hmg
      generalize freeN l j = q at *
      have hml := HL.out
      have hmg2 : mg ≤ 1000 := by omega
      have hq2 : q ≤ 1000 := by omega
      have HMS := Lib.hid hms
      have HH := Lib.hid h
      have HR0 := Lib.hid hr0
      clear h hms hr0 hmb hfb hml hmg
      go_wp2_with fail
      refine HR0.out.mono ?_
      rintro e w' ⟨rfl, rfl⟩
      cases hr : rightL l
      · have hj0 : j = 0 := by
          rcases Nat.eq_zero_or_pos j with h | h
          · exact h
          · have := HJR.out h; rw [hr] at this; cases this
        have HQ : Hid (longR l = mg) := Lib.hid (by rw [← HMG.out, hj0]; simp [longR, hr, mostN])
        clear hr hj0
        go_wp2
        go_ret
        exact ⟨ret_int (by rw [HQ.out]), rfl⟩
      · have Hr := Lib.hid hr
        clear hr
        go_wp2_with fail
        refine HH.out.mono ?_
        rintro e w' ⟨rfl, rfl⟩
        by_cases hgq : mg < q
        · go_wp2
          go_round
          case rel => exact ⟨j + 1, by omega, by go_num, by rw [HMS.out, show max mg q = q by omega], fun _ => Hr.out⟩
          case measure => simp [intOf]; omega
        · go_wp2
          go_round
          case rel => exact ⟨j + 1, by omega, by go_num, by rw [HMS.out, show max mg q = mg by omega], fun _ => Hr.out⟩
          case measure => simp [intOf]; omega
    · have HFIN : Hid (mostN l j = longR l) := Lib.hid (by
        have hjm : j = l.length := by have := HL.out; omega
        cases hr : rightL l
        · have hj0 : j = 0 := by
            rcases Nat.eq_zero_or_pos j with h | h
            · exact h
            · have := HJR.out h; rw [hr] at this; cases this
          rw [hj0]; simp [longR, hr, mostN]
        · rw [hjm]; exact most_all hr)
      go_wp2
      go_ret
      exact ⟨ret_int (by rw [HFIN.out]), rfl⟩

end Go.Proofs.YtncopnknjohplaaDoor
