/-
  What is proved: contracts of those functions that this program has, and plain facts beside them. No condition beyond those stated.
-/
import Derived.Test.YtelbddnjnapoeaaDoorBl
namespace Go.Proofs.YtelbddnjnapoeaaDoor
open Go.RowKit


def fillOk (n lo hi : Int) : Bool := decide (0 ≤ lo) && decide (lo ≤ hi) && decide (hi ≤ n)


end Go.Proofs.YtelbddnjnapoeaaDoor
