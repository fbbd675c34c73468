/-
  What is proved: contracts of those functions that this program has, and plain facts beside them. No condition beyond those stated.
-/
import Derived.Test.YtelbddnjnapoeaaDoorLa
namespace Go.Proofs.YtelbddnjnapoeaaDoor
open Go.RowKit Go.Shelf

theorem chk_true (k : Nat) : chk true k = 0 := by unfold chk; rfl
theorem chk_false (k : Nat) : chk false k = k := by unfold chk; rfl
theorem first2_z (l : Nat) : first2 0 l = l := by unfold first2; rfl
theorem first2_nz (k l : Nat) (h : k ≠ 0) : first2 k l = k := by unfold first2; rw [if_neg h]
theorem GivesIf.ok {w : World} {n : Int} {ws : List Nat} {e : Ending} {w' : World} (h : GivesIf w 0 n ws e w') : GivesBits w 0 n ws e w' := h
theorem GivesIf.bad {w : World} {code : Nat} {n : Int} {ws : List Nat} {e : Ending} {w' : World} (hc : code ≠ 0) (h : GivesIf w code n ws e w') : GivesBits w code 0 [] e w' := by
  unfold GivesIf at h
  rwa [if_neg hc, if_neg hc] at h

theorem run_two (W : World) :
    (Instr.buildSlice 22 2 #[(0, .int .u32 3221225472), (1, .int .u32 3)]).run Tryd.prog W = .ok (.slice (some ⟨W.heap.size, 0, none⟩) 2 2) (W.alloc (.cells #[.int .u32 3221225472, .int .u32 3] 48)) := by
  go_simp


end Go.Proofs.YtelbddnjnapoeaaDoor
