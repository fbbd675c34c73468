/-
  What is proved: contracts of those functions that this program has, and plain facts beside them. No condition beyond those stated.
-/
import Derived.Test.YtelbddnjnapoeaaDoorBk
namespace Go.Proofs.YtelbddnjnapoeaaDoor
open Go.RowKit Go.Shelf
attribute [local go_sem] Oper.semAt_some

/-- The places that have come. -/
def came (lo : Int) {m : Nat} (pre : List (Fin m)) : List Nat := pre.map fun x => (lo + x.1).toNat
theorem came_snoc (lo : Int) {m : Nat} (pre : List (Fin m)) (x : Fin m) : came lo (pre ++ [x]) = came lo pre ++ [(lo + x.1).toNat] := by simp [came]
theorem came_all (lo hi : Int) (h : 0 ≤ lo) : came lo (List.finRange (hi - lo).toNat) = placesN lo hi := by
  unfold came placesN
  apply List.ext_getElem
  · simp; omega
  · intro i h1 h2
    simp
    omega
theorem fillW_snoc (ws l : List Nat) (i : Nat) (on : Bool) : fillW ws (l ++ [i]) on = setW (fillW ws l on) i on := by simp [fillW]
theorem length_fillW (ws l : List Nat) (on : Bool) : (fillW ws l on).length = ws.length := by
  induction l generalizing ws with
  | nil => rfl
  | cons i l ih => show (fillW (setW ws i on) l on).length = _; rw [ih, length_setW]
theorem fits_fillW {ws : List Nat} (h : Fits ws) (l : List Nat) (on : Bool) : Fits (fillW ws l on) := by
  induction l generalizing ws with
  | nil => exact h
  | cons i l ih => exact ih (fits_set h i on)



end Go.Proofs.YtelbddnjnapoeaaDoor
