/-
  What is proved: contracts of those functions that this program has, and plain facts beside them. No condition beyond those stated.
-/
import Derived.Test.YtmabokmnniiadaaGreatDoorCc
import Derived.Test.YtmabokmnniiadaaGreatDoorC7
namespace Go.Proofs.YtmabokmnniiadaaGreatDoor
open Go.RowKit Go.Stop

theorem form_zero {z e n : Int} {ps es : List Int} (h : formC z ps e es n = 0) : (0 ≤ z ∧ z ≤ 1024) ∧ (0 ≤ e ∧ e ≤ 256) ∧ (0 ≤ n ∧ n ≤ 131072) ∧ (0 ≤ n * e ∧ n * e ≤ 131072) ∧ 8 + z + n * e ≤ 131072 := by
  unfold formC at h
  split at h
  · rename_i hd
    split at h
    · rename_i hl
      obtain ⟨hz, he, -, -⟩ := right_of hd
      have := len_most ⟨hz.1, hz.2.1⟩ he.1 hl
      omega
    · omega
  · omega
theorem form_le {z e n : Int} {ps es : List Int} : formC z ps e es n ≤ 41 := by
  unfold formC
  split
  · split <;> omega
  · omega

theorem ret_two {a b c d : Int} (h : a = c) (k : b = d) : Ending.returned (.tuple #[.int .i64 a, .int .i64 b]) = .returned (.tuple #[.int .i64 c, .int .i64 d]) := by rw [h, k]

/-- errors' own variable holds the handle of the type error; the sentinel of sizes is an error. -/
def EType (w : World) : Prop := w.cell? ⟨0, 0, none⟩ = some (rty 49)
theorem EType.ext {w w' : World} (h : EType w) (hb : Below w.heap.size w w') : EType w' := cell_ext hb h

end Go.Proofs.YtmabokmnniiadaaGreatDoor
