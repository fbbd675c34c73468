/-
  What is proved: contracts of those functions that this program has, and plain facts beside them. No condition beyond those stated.
-/
import Derived.Test.YtelbddnjnapoeaaDoorBn
import Derived.Test.YtelbddnjnapoeaaDoorBm
import Derived.Test.YtelbddnjnapoeaaDoorRa
namespace Go.Proofs.YtelbddnjnapoeaaDoor
open Go.RowKit Go.Shelf

theorem Row.cut {w : World} {A : Option Addr} {m : Nat} {xs : List Value} (h : Row w A m xs) (k : Nat) (hk : k ≤ m) : Row w A k (xs.take k) := by
  refine ⟨by have := h.1; simp; omega, fun h0 => ?_⟩
  obtain ⟨b, off, e, hc⟩ := h.2 (by omega)
  exact ⟨b, off, e, fun j u hu => hc j u (by rw [List.getElem?_take] at hu; split at hu <;> simp_all)⟩

theorem row_cut {w : World} {A : Option Addr} {m : Nat} {ws : List Nat} (h : Row w A m (ws.map U32)) : Row w A (min m 12) ((ws.take 12).map U32) := by
  have h1 := h.cut (min m 12) (Nat.min_le_left _ _)
  have hl := h.1
  simp at hl
  rw [← List.map_take, Nat.min_comm, ← List.take_take, List.take_of_length_le (l := ws) (by omega), Nat.min_comm] at h1
  exact h1


end Go.Proofs.YtelbddnjnapoeaaDoor
