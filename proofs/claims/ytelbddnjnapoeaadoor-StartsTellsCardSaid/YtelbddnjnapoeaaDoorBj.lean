/-
  What is proved: contracts of those functions that this program has, and plain facts beside them. No condition beyond those stated.
-/
import Derived.Test.YtelbddnjnapoeaaDoorBi
namespace Go.Proofs.YtelbddnjnapoeaaDoor
open Go.RowKit


def eitherOk (n : Int) (xs : List Nat) (m : Int) (ys : List Nat) : Bool := rightB n xs && rightB m ys && (n == m)


end Go.Proofs.YtelbddnjnapoeaaDoor
