/-
  What is proved: what a loop over an iterator keeps: all lists and boxes but some of the loop's own, and but the list that one of these holds. No condition beyond those stated.
-/
import Derived.Test.YtelbddnjnapoeaaDoorBo
namespace Go.Proofs.YtelbddnjnapoeaaDoor
open Go.RowKit Go.Shelf

/-- Box s holds a list that lies in block b. -/
def Points (s : Nat) (W : World) (b : Nat) : Prop := ∃ v, W.cell? ⟨s, 0, none⟩ = some v ∧ v.ownBlock = some b
/-- All cells stay, but those of the blocks S, and those of the list in box s; that list is the old one or a new one. -/
def KeepS (S : List Nat) (s : Nat) (W W' : World) : Prop :=
  (∀ b o, W.heap[b]? = some o → o.isCells = true → b ∉ S → ¬ Points s W b → W'.heap[b]? = some o) ∧ (∀ b, b < W.heap.size → Points s W' b → Points s W b) ∧ W.heap.size ≤ W'.heap.size
section
variable {S : List Nat} {s : Nat} {X Y Z : World}
theorem KeepS.refl (S : List Nat) (s : Nat) (W : World) : KeepS S s W W := ⟨fun _ _ h _ _ _ => h, fun _ _ h => h, Nat.le_refl _⟩
theorem KeepS.t (h : KeepS S s X Y) (k : KeepS S s Y Z) : KeepS S s X Z := by
  refine ⟨fun b o ho hc hS hp => ?_, fun b hb hp => h.2.1 b hb (k.2.1 b (Nat.lt_of_lt_of_le hb h.2.2) hp), Nat.le_trans h.2.2 k.2.2⟩
  have hlt : b < X.heap.size := (Array.getElem?_eq_some_iff.1 ho).1
  exact k.1 b o (h.1 b o ho hc hS hp) hc hS fun hq => hp (h.2.1 b hlt hq)
theorem KeepS.blk {g : Nat} {t : TypeId} {cs : Array Value} (h : KeepS S s X Y) (hb : Blk X g t cs) (hS : g ∉ S) (hp : ¬ Points s X g) : Blk Y g t cs := h.1 g _ hb rfl hS hp
theorem KeepS.row {A : Option Addr} {n : Nat} {xs : List Value} (h : KeepS S s X Y) (hR : Row X A n xs) (hc : ∀ a, A = some a → ∃ o, X.heap[a.block]? = some o ∧ o.isCells = true) (hS : ∀ a, A = some a → a.block ∉ S) (hp : ∀ a, A = some a → ¬ Points s X a.block) : Row Y A n xs :=
  ⟨hR.1, fun hn => by
    obtain ⟨b, off, e, hcell⟩ := hR.2 hn
    obtain ⟨o, ho, hoc⟩ := hc _ e
    have h1 : Y.heap[b]? = X.heap[b]? := (h.1 b o ho hoc (hS _ e) (hp _ e)).trans ho.symm
    exact ⟨b, off, e, fun j u hu => (World.cell?_of_block (w := X) h1).trans (hcell j u hu)⟩⟩
theorem KeepS.b {w : World} (hs : s < w.heap.size) (W : World) (l : Nat) (o o' : Obj) (hl : w.heap.size ≤ l) (hlo : W.heap[l]? = some o) (hoc : o.isCells = false) (_ : o.isWalk = false) : KeepS S s W (W.putObj l o') := by
  have hcell : (W.putObj l o').cell? ⟨s, 0, none⟩ = W.cell? ⟨s, 0, none⟩ := World.cell?_of_block (w := W) (World.putObj_heap_other (by show s ≠ l; omega))
  refine ⟨fun b o1 h1 hc _ _ => ?_, fun b _ hp => ?_, (grownBy_putObj' W l o').size⟩
  · refine (World.putObj_heap_other fun e => ?_).trans h1
    subst e
    rw [hlo] at h1
    cases h1
    rw [hoc] at hc
    cases hc
  · obtain ⟨v, hv, hb⟩ := hp
    exact ⟨v, by rw [← hcell]; exact hv, hb⟩
/-- What was is kept whole. -/
theorem KeepS.of_below (h : Below X.heap.size X Y) (hs : s < X.heap.size) : KeepS S s X Y := by
  refine ⟨fun b o ho _ _ _ => (h.block b (Array.getElem?_eq_some_iff.1 ho).1).trans ho, fun b _ hp => ?_, h.size⟩
  obtain ⟨v, hv, hb⟩ := hp
  exact ⟨v, by rw [← h.cell (p := ⟨s, 0, none⟩) hs]; exact hv, hb⟩
end
end Go.Proofs.YtelbddnjnapoeaaDoor
