/-
  What is proved: append of one descriptor onto a list that the call owns. No condition beyond those stated.
-/
import Derived.Test.YtmabokmnniiadaaGreatDoorMf
import Derived.Test.YtmabokmnniiadaaGreatDoorApp
namespace Go.Proofs.YtmabokmnniiadaaGreatDoor
open Go.RowKit

theorem cells4_one (d : MD) : ∀ u ∈ cells4 d, u.oneCell' = true := by
  intro u hu
  simp only [cells4, List.mem_cons, List.not_mem_nil, or_false] at hu
  rcases hu with rfl | rfl | rfl | rfl <;> rfl

/-- append(s, d), the list s being the call's own since w0. -/
theorem wpList_pushD {P : Program} {ops : Array Oper} {rest : List Oper} {o : Oper} {a : Act} {Q : Exit → Act → World → Prop} {w0 : World} (W : World) (hgd : o.guard = none) (s x : Operand) (t : TypeId)
    (ho : o.op = .call { callee := .builtin .append, args := #[s, x], argTypes := #[t, t] })
    (base : Nat) (e : TypeId) (i : TypeInfo) (z : Value) (bytes : Nat) (ht : P.underlying t = some (.slice e)) (hi : P.info? e = some i) (hz : i.zero = some z)
    (hsize : i.size = 4) (hby : i.bytes = bytes) (hzs : z.cells.size = 4) (v : Value) (n : Nat) (ms : List MD) (hs : a.eval s = v) (hown : W.ownsRow base e 4 v n (cellsD ms))
    (d : MD) (hx : a.eval x = .slice (some ⟨W.heap.size, 0, none⟩) 1 1)
    (h63 : n + 1 ≤ maxLen) (hbytes : (n + 1) * bytes ≤ 140737488355328) (hw0 : w0.heap.size ≤ base) (hbase : base ≤ W.heap.size) (hB : Below w0.heap.size w0 W) (hbl : ∀ k, v.ownBlock = some k → base ≤ k)
    (h : ∀ v' w', w'.ownsRow base e 4 v' (n + 1) (cellsD (ms ++ [d])) → Below w0.heap.size w0 w' → (∀ b, b < W.heap.size → some b ≠ v.ownBlock → w'.heap[b]? = W.heap[b]?) → wpList P ops Q rest (a.put o.dst v') w') :
    wpList P ops Q (o :: rest) a (W.alloc (.cells #[.int .i64 d.1, .slice d.2.1.1 d.2.1.2.1 d.2.1.2.2, .int .i64 d.2.2.1, .slice d.2.2.2.1 d.2.2.2.2.1 d.2.2.2.2.2] e)) := by
  have hx0 := below_box W (.cells #[.int .i64 d.1, .slice d.2.1.1 d.2.1.2.1 d.2.1.2.2, .int .i64 d.2.2.1, .slice d.2.2.2.1 d.2.2.2.2.1 d.2.2.2.2.2] e)
  have hblk : Blk (W.alloc (.cells #[.int .i64 d.1, .slice d.2.1.1 d.2.1.2.1 d.2.1.2.2, .int .i64 d.2.2.1, .slice d.2.2.2.1 d.2.2.2.2.1 d.2.2.2.2.2] e)) W.heap.size e (cells4 d).toArray := Blk.new _ _ _
  generalize W.alloc (.cells #[.int .i64 d.1, .slice d.2.1.1 d.2.1.2.1 d.2.1.2.2, .int .i64 d.2.2.1, .slice d.2.2.2.1 d.2.2.2.2.1 d.2.2.2.2.2] e) = W1 at *
  have hown1 : W1.ownsRow base e 4 v n (cellsD ms) := hown.kept (row := none) ⟨hx0.os, hx0.tape, hx0.output, hx0.size, fun i hi _ => hx0.block i hi⟩ (by cases v.ownBlock <;> simp)
  refine wpList_append_own_at W1 hgd s x t ho base e i z 4 bytes ht hi hz hsize hby hzs (by omega) v n (cellsD ms) hs hown1 ⟨W.heap.size, 0, none⟩ 1 1 (cells4 d) hx rfl (fun j u hu => ?_) (cells4_one d) h63 hbytes (Nat.le_trans hbase hx0.size) fun v' w' h2 h3 _ _ => h v' w' ?_ ?_ ?_
  · rw [addr_add, Nat.zero_add, hblk.cell]
    simpa using hu
  · rw [cellsD_snoc]
    exact h2
  · exact (below_le hB hx0).trans ((Below.refl _ _).grown h3 (Nat.le_trans hw0 (Nat.le_trans hbase hx0.size)) fun k e => Nat.le_trans hw0 (hbl k e))
  · intro b hb hne
    exact (h3.block b (Nat.lt_of_lt_of_le hb hx0.size) hne).trans (hx0.block b hb)
end Go.Proofs.YtmabokmnniiadaaGreatDoor
