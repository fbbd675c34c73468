/-
  What is proved: one operation of a region, where it is known what its instruction gives. No condition beyond those stated.
-/
import Derived.Test.YtllanbggjfmfhaaGreatDoorApp
import Derived.Maps.OwnIn
namespace Go.Proofs.YtllanbggjfmfhaaGreatDoor
open Go.RowKit

section
variable {P : Program} {ops : Array Oper} {rest : List Oper} {o : Oper} {a : Act} {Q : Exit → Act → World → Prop} {w : World}
theorem wpList_op_alloc (hgd : o.guard = none) (t : TypeId) (ho : o.op = .alloc t) (v : Value) (w' : World) (hr : (Instr.alloc t true (.tuple #[])).run P w = .ok v w') (h : wpList P ops Q rest (a.put o.dst v) w') : wpList P ops Q (o :: rest) a w :=
  wpList_plain hgd fun _ hK => by
    unfold Oper.wp execOp
    simp only [ho, Sem.run_bind, Sem.run_pure, Result.andThen_ok, hr]
    exact hK _ _ h
theorem wpList_op_build (hgd : o.guard = none) (t : TypeId) (parts : Array (Nat × Operand)) (ho : o.op = .build t parts) (v : Value) (w' : World) (hr : (Instr.build t (parts.map fun (i, x) => (i, a.eval x))).run P w = .ok v w') (h : wpList P ops Q rest (a.put o.dst v) w') : wpList P ops Q (o :: rest) a w :=
  wpList_plain hgd fun _ hK => by
    unfold Oper.wp execOp
    simp only [ho, Sem.run_bind, Sem.run_pure, Result.andThen_ok, hr]
    exact hK _ _ h
theorem wpList_op_load (hgd : o.guard = none) (t : TypeId) (x : Operand) (ho : o.op = .load t x) (v : Value) (w' : World) (hr : (Instr.loadAt t (a.eval x)).run P w = .ok v w') (h : wpList P ops Q rest (a.put o.dst v) w') : wpList P ops Q (o :: rest) a w :=
  wpList_plain hgd fun _ hK => by
    unfold Oper.wp execOp
    simp only [ho, Sem.run_bind, Sem.run_pure, Result.andThen_ok, hr]
    exact hK _ _ h
theorem wpList_op_box (hgd : o.guard = none) (t : TypeId) (x : Operand) (ho : o.op = .box t x) (v : Value) (w' : World) (hr : (Instr.box t (a.eval x)).run P w = .ok v w') (h : wpList P ops Q rest (a.put o.dst v) w') : wpList P ops Q (o :: rest) a w :=
  wpList_plain hgd fun _ hK => by
    unfold Oper.wp execOp
    simp only [ho, Sem.run_bind, Sem.run_pure, Result.andThen_ok, hr]
    exact hK _ _ h
theorem wpList_op_store (hgd : o.guard = none) (t : TypeId) (x y : Operand) (ho : o.op = .store t x y) (w' : World) (hr : (Instr.storeAt t (a.eval x) (a.eval y)).run P w = .ok () w') (h : wpList P ops Q rest (a.put o.dst undef) w') : wpList P ops Q (o :: rest) a w :=
  wpList_plain hgd fun _ hK => by
    unfold Oper.wp execOp
    simp only [ho, Sem.run_bind, Sem.run_pure, Result.andThen_ok, hr]
    exact hK _ _ h
variable {F : Fence} {n : Nat}
theorem wpListIn_op_alloc (hgd : o.guard = none) (t : TypeId) (ho : o.op = .alloc t) (v : Value) (w' : World) (hr : (Instr.alloc t true (.tuple #[])).run P w = .ok v w') (h : wpListIn F n P ops Q rest (a.put o.dst v) w') : wpListIn F n P ops Q (o :: rest) a w :=
  wpListIn_plain hgd fun K hK => by
    unfold Oper.wpIn
    refine ⟨by simp [Oper.about, ho], ?_⟩
    rw [Oper.semAt_plain F _ _ (by rw [ho]; intro c hc'; cases hc')]
    simp [execOp, ho, hr, Result.andThen]
    exact hK _ _ h
theorem wpListIn_op_load (hgd : o.guard = none) (t : TypeId) (x : Operand) (ho : o.op = .load t x) (v : Value) (w' : World) (hr : (Instr.loadAt t (a.eval x)).run P w = .ok v w') (h : wpListIn F n P ops Q rest (a.put o.dst v) w') : wpListIn F n P ops Q (o :: rest) a w :=
  wpListIn_plain hgd fun K hK => by
    unfold Oper.wpIn
    refine ⟨by simp [Oper.about, ho], ?_⟩
    rw [Oper.semAt_plain F _ _ (by rw [ho]; intro c hc'; cases hc')]
    simp [execOp, ho, hr, Result.andThen]
    exact hK _ _ h
theorem wpListIn_op_box (hgd : o.guard = none) (t : TypeId) (x : Operand) (ho : o.op = .box t x) (v : Value) (w' : World) (hr : (Instr.box t (a.eval x)).run P w = .ok v w') (h : wpListIn F n P ops Q rest (a.put o.dst v) w') : wpListIn F n P ops Q (o :: rest) a w :=
  wpListIn_plain hgd fun K hK => by
    unfold Oper.wpIn
    refine ⟨by simp [Oper.about, ho], ?_⟩
    rw [Oper.semAt_plain F _ _ (by rw [ho]; intro c hc'; cases hc')]
    simp [execOp, ho, hr, Result.andThen]
    exact hK _ _ h
theorem wpListIn_op_store (hgd : o.guard = none) (t : TypeId) (x y : Operand) (ho : o.op = .store t x y) (w' : World) (hr : (Instr.storeAt t (a.eval x) (a.eval y)).run P w = .ok () w') (h : wpListIn F n P ops Q rest (a.put o.dst undef) w') : wpListIn F n P ops Q (o :: rest) a w :=
  wpListIn_plain hgd fun K hK => by
    unfold Oper.wpIn
    refine ⟨by simp [Oper.about, ho], ?_⟩
    rw [Oper.semAt_plain F _ _ (by rw [ho]; intro c hc'; cases hc')]
    simp [execOp, ho, hr, Result.andThen]
    exact hK _ _ h
end
end Go.Proofs.YtllanbggjfmfhaaGreatDoor
