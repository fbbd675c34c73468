/-
  What is proved: contracts of those functions that this program has, and plain facts beside them. No condition beyond those stated.
-/
import Derived.Test.YtllanbggjfmfhaaGreatDoorIa
namespace Go.Proofs.YtllanbggjfmfhaaGreatDoor
open Go.RowKit Go.Shelf

/-- Two pools are the same but for some blocks. -/
structure Others (l l' : List Int) (ts ts' : List (List Int)) (f n : Nat) : Prop where
  hl : l'.length = l.length
  ht : ts.length = l.length
  ht' : ts'.length = l.length
  same : ∀ i, i < l.length → (i < f ∨ f + n ≤ i) → l.getD i 0 = l'.getD i 0 ∧ ts.getD i [] = ts'.getD i []


end Go.Proofs.YtllanbggjfmfhaaGreatDoor
