/-
  What is proved: append of one new element onto a list of the call's own. No condition beyond those stated.
-/
import Derived.Test.YtmabokmnniiadaaGreatDoorApp
namespace Go.Proofs.YtmabokmnniiadaaGreatDoor
open Go.RowKit

theorem below_new (w : World) (o : Obj) : Below w.heap.size w (w.alloc o) := (Below.refl _ _).alloc (Nat.le_refl _) _
theorem row_new1 (w : World) (t : TypeId) (v : Value) : Row (w.alloc (.cells #[v] t)) (some ⟨w.heap.size, 0, none⟩) 1 [v] :=
  ⟨rfl, fun _ => ⟨w.heap.size, 0, rfl, fun j u hu => by
    match j with
    | 0 => simp [go_sem] at hu ⊢; exact hu
    | j + 1 => simp at hu⟩⟩

/-- append(s, u), the list s being the call's own since w0. -/
theorem wpList_push {P : Program} {ops : Array Oper} {rest : List Oper} {o : Oper} {a : Act} {Q : Exit → Act → World → Prop} {w0 : World} (W : World) (hgd : o.guard = none) (s x : Operand) (t : TypeId)
    (ho : o.op = .call { callee := .builtin .append, args := #[s, x], argTypes := #[t, t] })
    (base : Nat) (e : TypeId) (i : TypeInfo) (z : Value) (bytes : Nat) (ht : P.underlying t = some (.slice e)) (hi : P.info? e = some i) (hz : i.zero = some z)
    (hsize : i.size = 1) (hby : i.bytes = bytes) (hzs : z.cells.size = 1) (v : Value) (n : Nat) (xs : List Value) (hs : a.eval s = v) (hown : W.ownsRow base e 1 v n xs)
    (u : Value) (hu : u.oneCell' = true) (hx : a.eval x = .slice (some ⟨W.heap.size, 0, none⟩) 1 1)
    (h63 : n + 1 ≤ maxLen) (hbytes : (n + 1) * bytes ≤ 140737488355328) (hw0 : w0.heap.size ≤ base) (hbase : base ≤ W.heap.size) (hB : Below w0.heap.size w0 W)
    (h : ∀ v' w', w'.ownsRow base e 1 v' (n + 1) (xs ++ [u]) → Below w0.heap.size w0 w' → wpList P ops Q rest (a.put o.dst v') w') : wpList P ops Q (o :: rest) a (W.alloc (.cells #[u] e)) := by
  refine wpList_append_row (W.alloc (.cells #[u] e)) hgd s x t ho base e i z bytes ht hi hz hsize hby hzs v n xs hs (own_ext (below_new _ _) hown) (some ⟨W.heap.size, 0, none⟩) 1 1 [u] hx (row_new1 W e u)
    (fun u' hu' => by rw [List.mem_singleton.1 hu']; exact hu) h63 hbytes (Nat.le_trans hbase (below_new W _).size) fun v' w' h2 h3 => h v' w' h2 ?_
  exact (below_le hB (below_new W _)).trans ((Below.refl _ _).grown h3 (Nat.le_trans hw0 (Nat.le_trans hbase (below_new W _).size)) fun k e => Nat.le_trans hw0 (own_base hown e))

end Go.Proofs.YtmabokmnniiadaaGreatDoor
