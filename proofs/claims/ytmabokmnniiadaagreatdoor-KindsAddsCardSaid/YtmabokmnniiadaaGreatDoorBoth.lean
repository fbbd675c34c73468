/-
  What is proved: in a region that draws its order, two operations that make new memory, in either order. No condition beyond those stated.
-/
import Derived.Test.YtmabokmnniiadaaGreatDoorMin
namespace Go.Proofs.YtmabokmnniiadaaGreatDoor
open Go.RowKit

section
variable {P : Program} {md : Region.Mode} {l : List Oper} {Q : Exit → Act → World → Prop} {w0 : World} {f : Nat} {done : List Nat} {a : Act} {w : World}

/-- Two operations that make new memory, in either order. -/
theorem mix_both (i j : Nat) {oi oj : Oper} (hoi : l[i]? = some oi) (hoj : l[j]? = some oj) (hne : i ≠ j) (hgi : oi.guard = none) (hgj : oj.guard = none)
    (hr : Region.ready md l.toArray (mark l.toArray.size done) = [i, j]) (hri : Region.ready md l.toArray (mark l.toArray.size (i :: done)) = [j]) (hrj : Region.ready md l.toArray (mark l.toArray.size (j :: done)) = [i])
    (hd : ∀ (v u : Value), (a.put oj.dst u).put oi.dst v = (a.put oi.dst v).put oj.dst u)
    (Pi Pj : Value → World → Prop) (Si : ∀ v X Y, Below X.heap.size X Y → Pi v X → Pi v Y) (Sj : ∀ v X Y, Below X.heap.size X Y → Pj v X → Pj v Y)
    (Hi : ∀ (b : Act), (b = a ∨ ∃ u, b = a.put oj.dst u) → ∀ w1 : World, Below w.heap.size w w1 → ∀ K : Act → World → Prop, (∀ v w', Pi v w' → Below w1.heap.size w1 w' → K (b.put oi.dst v) w') → oi.wp P b w1 K noExit)
    (Hj : ∀ (b : Act), (b = a ∨ ∃ u, b = a.put oi.dst u) → ∀ w1 : World, Below w.heap.size w w1 → ∀ K : Act → World → Prop, (∀ v w', Pj v w' → Below w1.heap.size w1 w' → K (b.put oj.dst v) w') → oj.wp P b w1 K noExit)
    (h : ∀ vi vj w', Below w.heap.size w w' → Below w0.heap.size w0 w' → Pi vi w' → Pj vj w' → wpMix P md l.toArray Q w0 f (mark l.toArray.size (j :: i :: done)) ((a.put oi.dst vi).put oj.dst vj) w') :
    wpMix P md l.toArray Q w0 (f + 2) (mark l.toArray.size done) a w := by
  have hw : ∀ (o : Oper) (b : Act), o.guard = none → Region.wanted o (yielded l.toArray b.tmps) = true := fun o b hg => by simp [Region.wanted, hg]
  refine mix_two (f := f + 1) i j hr ?_ ?_
  · refine mix_now hoi (hw _ _ hgi) fun w1 h1 h01 K hK => Hi a (.inl rfl) w1 h1 K fun v w2 hv hb2 => hK _ _ (below_le h01 hb2) ?_
    refine mix_one (f := f) j hri ?_
    refine mix_now hoj (hw _ _ hgj) fun w3 h3 h03 K hK => Hj _ (.inr ⟨v, rfl⟩) w3 (below_le (below_le h1 hb2) h3) K fun u w4 hu hb4 => hK _ _ (below_le h03 hb4) ?_
    exact h v u w4 (below_le (below_le (below_le h1 hb2) h3) hb4) (below_le h03 hb4) (Si _ _ _ (below_le h3 hb4) hv) hu
  · refine mix_now hoj (hw _ _ hgj) fun w1 h1 h01 K hK => Hj a (.inl rfl) w1 h1 K fun u w2 hu hb2 => hK _ _ (below_le h01 hb2) ?_
    refine mix_one (f := f) i hrj ?_
    refine mix_now hoi (hw _ _ hgi) fun w3 h3 h03 K hK => Hi _ (.inr ⟨u, rfl⟩) w3 (below_le (below_le h1 hb2) h3) K fun v w4 hv hb4 => hK _ _ (below_le h03 hb4) ?_
    have := h v u w4 (below_le (below_le (below_le h1 hb2) h3) hb4) (below_le h03 hb4) hv (Sj _ _ _ (below_le h3 hb4) hu)
    rw [← hd] at this
    have e : mark l.toArray.size (i :: j :: done) = mark l.toArray.size (j :: i :: done) := by
      simp only [mark]
      exact Array.setIfInBounds_comm _ _ (Ne.symm hne)
    rw [e]
    exact this
end
end Go.Proofs.YtmabokmnniiadaaGreatDoor
