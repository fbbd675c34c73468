/-
  What is proved: contracts of those functions that this program has, and plain facts beside them. No condition beyond those stated.
-/
import Derived.Test.YtllanbggjfmfhaaGreatDoorNd
namespace Go.Proofs.YtllanbggjfmfhaaGreatDoor
open Go.RowKit Go.Shelf
attribute [local go_sem] Oper.semAt_some

def longest (rs : List (Nat × Nat)) : Nat := rs.foldl (fun a r => max a (r.2 - r.1)) 0
theorem longest_snoc (rs : List (Nat × Nat)) (r : Nat × Nat) : longest (rs ++ [r]) = max (longest rs) (r.2 - r.1) := by simp [longest]
def longR (l : List Int) : Nat := if rightL l then longest (runsL l) else 0

end Go.Proofs.YtllanbggjfmfhaaGreatDoor
