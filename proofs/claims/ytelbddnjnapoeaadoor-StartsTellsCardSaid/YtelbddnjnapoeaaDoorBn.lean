/-
  What is proved: contracts of those functions that this program has, and plain facts beside them. No condition beyond those stated.
-/
import Derived.Test.YtelbddnjnapoeaaDoorBl
import Derived.Test.YtelbddnjnapoeaaDoorIn
namespace Go.Proofs.YtelbddnjnapoeaaDoor
open Go.RowKit Go.Shelf
attribute [local go_sem] Oper.semAt_some


/-- A place, and whether there is one. -/
def GivesNext (w : World) (o : Option Nat) (e : Ending) (w' : World) : Prop := e = .returned (.tuple #[.int .i64 (o.getD 0 : Nat), .bool o.isSome]) ∧ Below w.heap.size w w'


theorem find_prefix {α : Type} (p : α → Bool) (pre rest : List α) (x : α) (h : ∀ y ∈ pre, p y = false) (hx : p x = true) : (pre ++ [x] ++ rest).find? p = some x := by
  rw [List.append_assoc, List.find?_append, List.find?_eq_none.2 (by simpa using h)]
  simp [hx]

theorem keepsFrom_below {B : Nat} {W W' : World} (h : Below W.heap.size W W') : KeepsFrom B W W' := KeepsFrom.of_grownBy (row := none) ⟨h.os, h.tape, h.output, h.size, fun i hi _ => h.block i hi⟩ (fun _ e => by cases e)

/-- What holds from round to round. -/
def NextI (W1 : World) (ws : List Nat) (on : Bool) (L : Int) {m : Nat} (pre : List (Fin m)) (W' : World) : Prop := W1.heap.size ≤ W'.heap.size ∧ Below W1.heap.size W1 W' ∧ ∀ i ∈ came L pre, (tb ws i == on) = false
theorem NextI.low {W1 X Y : World} {ws : List Nat} {on : Bool} {L : Int} {m : Nat} {pre : List (Fin m)} (h : NextI W1 ws on L pre X) (hb : Below W1.heap.size X Y) : NextI W1 ws on L pre Y := ⟨Nat.le_trans h.1 hb.size, h.2.1.trans hb, h.2.2⟩
/-- What holds where the walk is left. -/
def NextX (w W1 : World) (ws : List Nat) (on : Bool) (L : Int) {m : Nat} (c : Code) (pre : List (Fin m)) (W' : World) : Prop :=
  W1.heap.size ≤ W'.heap.size ∧ c = .ret ∧ Below w.heap.size w W' ∧ ∃ pr : List Nat, ∃ i : Nat, came L pre = pr ++ [i] ∧ (∀ y ∈ pr, (tb ws y == on) = false) ∧ (tb ws i == on) = true ∧
    Blk W' (w.heap.size + 1 + 1) 3 #[.int .i64 i] ∧ Blk W' (w.heap.size + 1 + 1 + 1) 4 #[.bool true]
theorem NextX.low {w W1 X Y : World} {ws : List Nat} {on : Bool} {L : Int} {m : Nat} {c : Code} {pre : List (Fin m)} (h : NextX w W1 ws on L c pre X) (hb : Below W1.heap.size X Y) (hw : w.heap.size + 4 ≤ W1.heap.size) : NextX w W1 ws on L c pre Y := by
  obtain ⟨h1, h2, h3, pr, i, h4, h5, h6, h7, h8⟩ := h
  exact ⟨Nat.le_trans h1 hb.size, h2, h3.trans (hb.mono (by omega)), pr, i, h4, h5, h6, h7.below hb (by omega), h8.below hb (by omega)⟩



end Go.Proofs.YtelbddnjnapoeaaDoor
