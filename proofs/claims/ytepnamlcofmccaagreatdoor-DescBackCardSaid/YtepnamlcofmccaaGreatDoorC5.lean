/-
  What is proved: the contracts of part of package desc and of isSize of package addr. No condition beyond those stated.
-/
import Derived.Test.YtepnamlcofmccaaGreatDoorC1
namespace Go.Proofs.YtepnamlcofmccaaGreatDoor
open Go.RowKit

set_option maxHeartbeats 1000000 in
theorem part_any (n most : Int) (w : World) : Calls Tryz.prog 26 #[.int .i64 n, .int .i64 most] w fun e w' => e = .returned (.bool (partB n most)) ∧ w = w' := by
  have hp : partB n most = (decide (0 ≤ n) && decide (n ≤ most) && decide (n.tmod 4 = 0)) := rfl
  by_cases h0 : 0 ≤ n
  · by_cases h1 : n ≤ most
    · by_cases h2 : n.tmod 4 = 0
      · rw [decide_eq_true h0, decide_eq_true h1, decide_eq_true h2] at hp
        have HP := Lib.hid hp
        have g0 : decide (n ≥ 0) = true := decide_eq_true h0
        have g2 : (n.tmod 4 == 0) = true := by rw [h2]; rfl
        have g3 : (n % 4 == 0) = true := by rw [← Int.tmod_eq_emod_of_nonneg h0, h2]; rfl
        clear hp
        go_enter Tryz.func26, Tryz.ntmps26
        go_wp2
        go_ret
        exact ⟨ret_bool HP.out.symm, rfl⟩
      · rw [decide_eq_true h0, decide_eq_true h1, decide_eq_false h2] at hp
        have HP := Lib.hid hp
        have g0 : decide (n ≥ 0) = true := decide_eq_true h0
        have g2 : (n.tmod 4 == 0) = false := beq_eq_false_iff_ne.2 h2
        have g3 : (n % 4 == 0) = false := by rw [← Int.tmod_eq_emod_of_nonneg h0]; exact g2
        clear hp
        go_enter Tryz.func26, Tryz.ntmps26
        go_wp2
        go_ret
        exact ⟨ret_bool HP.out.symm, rfl⟩
    · rw [decide_eq_true h0, decide_eq_false h1] at hp
      have HP := Lib.hid hp
      have g0 : decide (n ≥ 0) = true := decide_eq_true h0
      clear hp
      go_enter Tryz.func26, Tryz.ntmps26
      go_wp2
      go_ret
      exact ⟨ret_bool HP.out.symm, rfl⟩
  · rw [decide_eq_false h0] at hp
    have HP := Lib.hid hp
    have g0 : decide (n ≥ 0) = false := decide_eq_false h0
    clear hp
    go_enter Tryz.func26, Tryz.ntmps26
    go_wp2
    go_ret
    exact ⟨ret_bool HP.out.symm, rfl⟩

set_option maxHeartbeats 400000 in
theorem isSize_any (n : Int) (h1 : 1 ≤ n) (h2 : n ≤ 131072) (w : World) : Calls Tryz.prog 46 #[.int .i64 n] w fun e w' => e = .returned (.bool true) ∧ w = w' := by
  have g1 : decide (n ≥ 1) = true := decide_eq_true h1
  have g2 : decide (n ≤ 131072) = true := decide_eq_true h2
  go_enter Tryz.func46, Tryz.ntmps46
  go_wp2
  go_ret
  exact ⟨rfl, rfl⟩

end Go.Proofs.YtepnamlcofmccaaGreatDoor
