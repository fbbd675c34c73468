/-
  What is proved: lists of descriptors in memory (four cells each). No condition beyond those stated.
-/
import Derived.Test.YtmabokmnniiadaaGreatDoorIt
import Derived.Test.YtmabokmnniiadaaGreatDoorMa
import Derived.Test.YtmabokmnniiadaaGreatDoorRi
namespace Go.Proofs.YtmabokmnniiadaaGreatDoor
open Go.RowKit

/-- A descriptor's four cells, and its lists of places. -/
def DescAt (w : World) (g off : Nat) (d : DscK) : Prop :=
  ∃ P m c Q q f, w.cell? ⟨g, off, none⟩ = some (.int .i64 d.1) ∧ w.cell? ⟨g, off + 1, none⟩ = some (.slice P m c) ∧ w.cell? ⟨g, off + 2, none⟩ = some (.int .i64 d.2.2.1) ∧ w.cell? ⟨g, off + 3, none⟩ = some (.slice Q q f) ∧ Row w P m (d.2.1.map Iv) ∧ Row w Q q (d.2.2.2.map Iv)
/-- A list of them. -/
def RowD (w : World) (A : Option Addr) (n : Nat) (ds : List DscK) : Prop :=
  ds.length = n ∧ (0 < n → ∃ g off, A = some ⟨g, off, none⟩ ∧ ∀ k d, ds[k]? = some d → DescAt w g (off + 4 * k) d)

section
variable {w w' : World} {A : Option Addr} {n : Nat} {ds : List DscK}
theorem DescAt.ext {g off : Nat} {d : DscK} (hb : Below w.heap.size w w') (h : DescAt w g off d) : DescAt w' g off d := by
  obtain ⟨P, m, c, Q, q, f, h1, h2, h3, h4, h5, h6⟩ := h
  exact ⟨P, m, c, Q, q, f, cell_ext hb h1, cell_ext hb h2, cell_ext hb h3, cell_ext hb h4, h5.ext hb, h6.ext hb⟩
theorem RowD.none_ : RowD w A 0 [] := ⟨rfl, fun h => absurd h (by omega)⟩
theorem RowD.ext (hb : Below w.heap.size w w') (h : RowD w A n ds) : RowD w' A n ds :=
  ⟨h.1, fun hn => by
    obtain ⟨g, off, e, hc⟩ := h.2 hn
    exact ⟨g, off, e, fun k d hk => (hc k d hk).ext hb⟩⟩
theorem RowD.at_ {k : Nat} (h : RowD w A n ds) (hk : k < n) : ∃ g off d, A = some ⟨g, off, none⟩ ∧ ds[k]? = some d ∧ DescAt w g (off + 4 * k) d := by
  obtain ⟨g, off, e, hc⟩ := h.2 (by omega)
  have hl := h.1
  have hd : ds[k]? = some (ds[k]'(by omega)) := List.getElem?_eq_getElem (by omega)
  exact ⟨g, off, _, e, hd, hc k _ hd⟩
theorem RowD.take (h : RowD w A n ds) (k : Nat) (hk : k ≤ n) : RowD w A k (ds.take k) :=
  ⟨by rw [List.length_take, h.1]; omega, fun h0 => by
    obtain ⟨g, off, e, hc⟩ := h.2 (by omega)
    refine ⟨g, off, e, fun j d hj => hc j d ?_⟩
    rw [List.getElem?_take] at hj
    split at hj
    · exact hj
    · cases hj⟩
end
end Go.Proofs.YtmabokmnniiadaaGreatDoor
