/-
  What is proved: contracts of those functions that this program has, and plain facts beside them. No condition beyond those stated.
-/
import Derived.Test.YtelbddnjnapoeaaDoorBb
namespace Go.Proofs.YtelbddnjnapoeaaDoor
open Go.RowKit

theorem take_eq_succ {xs ys : List Nat} {k : Nat} (hx : k < xs.length) (hy : k < ys.length) (h : xs.take k = ys.take k) : xs.take (k + 1) = ys.take (k + 1) ↔ xs.getD k 0 = ys.getD k 0 := by
  rw [List.take_succ_eq_append_getElem hx, List.take_succ_eq_append_getElem hy, h]
  constructor
  · intro e
    have := List.append_cancel_left e
    simpa [hx, hy] using this
  · intro e
    have e' : xs[k] = ys[k] := by simpa [hx, hy] using e
    rw [e']


def sameB (n : Int) (xs : List Nat) (m : Int) (ys : List Nat) : Bool := (n == m) && decide (xs = ys)


end Go.Proofs.YtelbddnjnapoeaaDoor
