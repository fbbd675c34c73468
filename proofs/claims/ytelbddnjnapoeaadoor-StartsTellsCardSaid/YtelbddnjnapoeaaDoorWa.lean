/-
  What is proved: contracts of those functions that this program has, and plain facts beside them. No condition beyond those stated.
-/
import Derived.Test.YtelbddnjnapoeaaDoorBo
import Derived.Test.YtelbddnjnapoeaaDoorSs
import Derived.Test.YtelbddnjnapoeaaDoorSa
namespace Go.Proofs.YtelbddnjnapoeaaDoor
open Go.RowKit Go.Shelf

theorem int_at {A : Option Addr} {n : Nat} {l : List Nat} {w : World} {k : Nat} (hR : Row w A n (l.map I64)) (hk : k < n) :
    ∃ b off x, A = some ⟨b, off, none⟩ ∧ w.cell? ⟨b, off + k, none⟩ = some (.int .i64 ((x : Nat) : Int)) ∧ l[k]? = some x := by
  obtain ⟨b, off, rfl, hc⟩ := hR.at_ (k := k) hk
  have hl := hR.1
  simp at hl
  refine ⟨b, off, l[k]'(by omega), rfl, by simpa [I64] using hc, List.getElem?_eq_getElem _⟩

theorem count_le (n : Int) (ws : List Nat) : countN n ws ≤ 20000 := by
  cases hr : rightB n ws
  · simp [countN, hr]
  · rw [count_eq hr]
    obtain ⟨h0, h1, _, _⟩ := rightB_elim hr
    have := List.countP_le_length (p := tb ws) (l := List.range n.toNat)
    simp at this
    omega


end Go.Proofs.YtelbddnjnapoeaaDoor
