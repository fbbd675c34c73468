/-
  What is proved: contracts of those functions that this program has, and plain facts beside them. No condition beyond those stated.
-/
import Derived.Test.YtmabokmnniiadaaGreatDoorRi
namespace Go.Proofs.YtmabokmnniiadaaGreatDoor
open Go.RowKit

def hasB (xs : List Int) (y : Int) : Bool := decide (y ∈ xs)

def GivesAt (w : World) (xs : List Int) (y : Int) (e : Ending) (w' : World) : Prop := ∃ i : Int, e = .returned (.int .i64 i) ∧ (decide (i ≥ 0) = hasB xs y) ∧ w = w'


end Go.Proofs.YtmabokmnniiadaaGreatDoor
