/-
  What is proved: contracts of those functions that this program has, and plain facts beside them. No condition beyond those stated.
-/
import Derived.Test.YtmabokmnniiadaaGreatDoorC1
namespace Go.Proofs.YtmabokmnniiadaaGreatDoor
open Go.RowKit

set_option maxHeartbeats 1000000 in
theorem part_any (n most : Int) (w : World) : Calls Tryz.prog 44 #[.int .i64 n, .int .i64 most] w fun e w' => e = .returned (.bool (partB n most)) ∧ w = w' := by
  have hp : partB n most = (decide (0 ≤ n) && decide (n ≤ most) && decide (n.tmod 4 = 0)) := rfl
  by_cases h0 : 0 ≤ n
  · by_cases h1 : n ≤ most
    · by_cases h2 : n.tmod 4 = 0
      · rw [decide_eq_true h0, decide_eq_true h1, decide_eq_true h2] at hp
        have HP := Lib.hid hp
        have g0 : decide (n ≥ 0) = true := decide_eq_true h0
        have g2 : (n.tmod 4 == 0) = true := by rw [h2]; rfl
        have g3 : (n % 4 == 0) = true := by rw [← Int.tmod_eq_emod_of_nonneg h0, h2]; rfl
        clear hp
        go_enter Tryz.func44, Tryz.ntmps44
        go_wp2
        go_ret
        exact ⟨ret_bool HP.out.symm, rfl⟩
      · rw [decide_eq_true h0, decide_eq_true h1, decide_eq_false h2] at hp
        have HP := Lib.hid hp
        have g0 : decide (n ≥ 0) = true := decide_eq_true h0
        have g2 : (n.tmod 4 == 0) = false := beq_eq_false_iff_ne.2 h2
        have g3 : (n % 4 == 0) = false := by rw [← Int.tmod_eq_emod_of_nonneg h0]; exact g2
        clear hp
        go_enter Tryz.func44, Tryz.ntmps44
        go_wp2
        go_ret
        exact ⟨ret_bool HP.out.symm, rfl⟩
    · rw [decide_eq_true h0, decide_eq_false h1] at hp
      have HP := Lib.hid hp
      have g0 : decide (n ≥ 0) = true := decide_eq_true h0
      clear hp
      go_enter Tryz.func44, Tryz.ntmps44
      go_wp2
      go_ret
      exact ⟨ret_bool HP.out.symm, rfl⟩
  · rw [decide_eq_false h0] at hp
    have HP := Lib.hid hp
    have g0 : decide (n ≥ 0) = false := decide_eq_false h0
    clear hp
    go_enter Tryz.func44, Tryz.ntmps44
    go_wp2
    go_ret
    exact ⟨ret_bool HP.out.symm, rfl⟩


end Go.Proofs.YtmabokmnniiadaaGreatDoor
