/-
  What is proved: a list of descriptors that a call owns (four cells each): its cells, and that it is a list of descriptors in memory. No condition beyond those stated.
-/
import Derived.Test.YtmabokmnniiadaaGreatDoorMc
namespace Go.Proofs.YtmabokmnniiadaaGreatDoor
open Go.RowKit

/-- A descriptor as its four cells tell it. -/
abbrev MD : Type := Int × (Option Addr × Nat × Nat) × Int × (Option Addr × Nat × Nat)
def cells4 (d : MD) : List Value := [.int .i64 d.1, .slice d.2.1.1 d.2.1.2.1 d.2.1.2.2, .int .i64 d.2.2.1, .slice d.2.2.2.1 d.2.2.2.2.1 d.2.2.2.2.2]
def cellsD (ms : List MD) : List Value := ms.flatMap cells4
theorem cellsD_length : ∀ ms : List MD, (cellsD ms).length = ms.length * 4
  | [] => rfl
  | d :: ms => by
    show (cells4 d ++ cellsD ms).length = (ms.length + 1) * 4
    rw [List.length_append, cellsD_length ms]
    simp [cells4]
    omega
theorem cellsD_snoc (ms : List MD) (d : MD) : cellsD (ms ++ [d]) = cellsD ms ++ cells4 d := by simp [cellsD]
theorem cellsD_get : ∀ {ms : List MD} {k : Nat} {d : MD} {j : Nat}, ms[k]? = some d → j < 4 → (cellsD ms)[4 * k + j]? = (cells4 d)[j]?
  | [], k, d, j, h, _ => by simp at h
  | x :: ms, 0, d, j, h, hj => by
    simp at h
    subst h
    show (cells4 x ++ cellsD ms)[4 * 0 + j]? = _
    rw [List.getElem?_append_left (by simp [cells4]; omega)]
    congr 1
    omega
  | x :: ms, k + 1, d, j, h, hj => by
    simp at h
    show (cells4 x ++ cellsD ms)[4 * (k + 1) + j]? = _
    rw [List.getElem?_append_right (by simp [cells4]; omega), ← cellsD_get h hj]
    congr 1
    simp [cells4]
    omega
/-- The cells lead to this descriptor. -/
def Fits (w : World) (d : MD) (x : DscK) : Prop := d.1 = x.1 ∧ d.2.2.1 = x.2.2.1 ∧ Row w d.2.1.1 d.2.1.2.1 (x.2.1.map Iv) ∧ Row w d.2.2.2.1 d.2.2.2.2.1 (x.2.2.2.map Iv)
theorem Fits.ext {w w' : World} {d : MD} {x : DscK} (hb : Below w.heap.size w w') (h : Fits w d x) : Fits w' d x := ⟨h.1, h.2.1, h.2.2.1.ext hb, h.2.2.2.ext hb⟩

/-- An owned list is a list of descriptors in memory. -/
theorem rowD_of_owns {w : World} {base n : Nat} {t : TypeId} {v : Value} {ms : List MD} {ds : List DscK} (h : w.ownsRow base t 4 v n (cellsD ms)) (hl : ms.length = ds.length) (hf : ∀ (k : Nat) (d : MD) (x : DscK), ms[k]? = some d → ds[k]? = some x → Fits w d x) :
    ∃ A c, v = .slice A n c ∧ RowD w A n ds ∧ n ≤ c ∧ (∀ a, A = some a → base ≤ a.block) := by
  have hlen := h.1
  rw [cellsD_length] at hlen
  have hn : ds.length = n := by omega
  rcases h.2 with ⟨rfl, rfl⟩ | ⟨g, cap, cur, rfl, hg, hb, h1, h2, h3, h4⟩
  · obtain rfl : ds = [] := List.length_eq_zero_iff.1 hn
    exact ⟨none, 0, rfl, RowD.none_, Nat.le_refl _, fun _ e => by cases e⟩
  · refine ⟨_, _, rfl, ⟨hn, fun _ => ⟨g, 0, rfl, fun k x hx => ?_⟩⟩, h1, fun a e => by cases e; exact hg⟩
    have hk : k < ds.length := (List.getElem?_eq_some_iff.1 hx).1
    obtain ⟨d, hd⟩ : ∃ d, ms[k]? = some d := ⟨_, List.getElem?_eq_getElem (by omega)⟩
    obtain ⟨f1, f2, f3, f4⟩ := hf k d x hd hx
    have hB : Blk w g t cur := hb
    have cell : ∀ j u, j < 4 → (cells4 d)[j]? = some u → w.cell? ⟨g, 0 + 4 * k + j, none⟩ = some u := fun j u hj hu => by
      rw [Nat.zero_add, hB.cell, ← Array.getElem?_toList]
      have := cellsD_get hd hj
      rw [hu, ← h4, List.getElem?_take, if_pos (by omega)] at this
      exact this
    exact ⟨_, _, _, _, _, _, by rw [← f1]; exact cell 0 _ (by omega) rfl, cell 1 _ (by omega) rfl, by rw [← f2]; exact cell 2 _ (by omega) rfl, cell 3 _ (by omega) rfl, f3, f4⟩
end Go.Proofs.YtmabokmnniiadaaGreatDoor
