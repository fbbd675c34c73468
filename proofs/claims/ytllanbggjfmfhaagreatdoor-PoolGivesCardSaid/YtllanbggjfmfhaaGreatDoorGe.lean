/-
  What is proved: the cells of a finder of package hole, as a row: how they are made, read and stored. No condition beyond those stated.
-/
import Derived.Test.YtllanbggjfmfhaaGreatDoorGd
import Derived.Test.YtllanbggjfmfhaaGreatDoorOpl
import Derived.Laws.Rows
import Derived.Laws.Tables
import Derived.Deep.WholeRow
namespace Go.Proofs.YtllanbggjfmfhaaGreatDoor
open Go.RowKit Go.Shelf

/-- A finder's cells. -/
def finC (bs : List Bool) (x : Int) : Array Value := (bs.map Value.bool ++ [Value.int .i64 x]).toArray
def f32 : List Bool := List.replicate 32 false
theorem finC_size (bs : List Bool) (x : Int) : (finC bs x).size = bs.length + 1 := by simp [finC]
theorem finC_one (bs : List Bool) (x : Int) : (finC bs x).all (·.oneCell') = true := by simp [finC, Value.oneCell']
theorem finC_get (bs : List Bool) (x : Int) (i : Nat) (h : i < bs.length) : (finC bs x)[i]? = some (.bool (bs.getD i false)) := by
  simp [finC, List.getElem?_append, h]
theorem finC_from (bs : List Bool) (x : Int) : (finC bs x)[bs.length]? = some (.int .i64 x) := by simp [finC]
theorem finC_set (bs : List Bool) (x : Int) (i : Nat) (h : i < bs.length) (b : Bool) : (finC bs x).setIfInBounds i (.bool b) = finC (bs.set i b) x := by
  apply Array.ext_getElem?
  intro j
  by_cases hj : i = j
  · subst hj
    simp [finC, h]
  · simp only [finC, Array.getElem?_setIfInBounds, hj, if_false, List.getElem?_toArray, List.getElem?_append, List.length_map, List.length_set, List.getElem?_map, List.getElem?_set_ne hj]

theorem fin_info : (Tryz.prog.info? 90).map (·.size) = some 33 := by kernel_rfl
theorem run_fin_alloc (W : World) : (Instr.alloc 90 true (.tuple #[])).run Tryz.prog W = .ok (.pointer (some ⟨W.heap.size, 0, none⟩)) (W.alloc (.cells (finC f32 0) 90)) := by kernel_rfl
theorem run_fin_build (x : Int) (W : World) : (Instr.build 90 #[(1, .int .i64 x)]).run Tryz.prog W = .ok (.agg (finC f32 x)) W := by kernel_rfl
theorem run_fin_zero (W : World) : (Instr.build 90 #[]).run Tryz.prog W = .ok (.agg (finC f32 0)) W := by kernel_rfl
theorem run_fin_load (W : World) (g : Nat) (bs : List Bool) (x : Int) (hb : bs.length = 32) (h : Blk W g 90 (finC bs x)) : (Instr.loadAt 90 (.pointer (some ⟨g, 0, none⟩))).run Tryz.prog W = .ok (.agg (finC bs x)) W := by
  simp only [Instr.loadAt, Instr.sureAddr, Sem.run_bind, Sem.run_pure, Result.andThen]
  exact run_loadVar_row W g _ _ _ _ _ h Tryz.underlying90 rfl (by rw [fin_info, finC_size, hb])
theorem run_fin_store (W : World) (g : Nat) (bs bs' : List Bool) (x x' : Int) (hb : bs.length = 32) (hb' : bs'.length = 32) (h : Blk W g 90 (finC bs x)) : (Instr.storeAt 90 (.pointer (some ⟨g, 0, none⟩)) (.agg (finC bs' x'))).run Tryz.prog W = .ok () (W.setRow g (finC bs' x')) := by
  simp only [Instr.storeAt, Instr.sureAddr, Sem.run_bind, Sem.run_pure, Result.andThen]
  exact run_storeVar_row W g _ _ _ _ h (by rw [fin_info, finC_size, hb']) (by rw [finC_size, finC_size, hb, hb']) (finC_one _ _)
theorem run_fin_box (bs : List Bool) (x : Int) (W : World) : (Instr.box 90 (.agg (finC bs x))).run Tryz.prog W = .ok (.pointer (some ⟨W.heap.size, 0, none⟩)) (W.alloc (.cells (finC bs x) 90)) := by
  simp [go_sem, Instr.box]

theorem run_storeAt_fin (bs : List Bool) (x : Int) (hb : bs.length = 32) (W : World) : (Instr.storeAt 90 (.pointer (some ⟨W.heap.size, 0, none⟩)) (.agg (finC bs x))).run Tryz.prog (W.alloc (.cells (finC f32 0) 90)) = .ok () (W.alloc (.cells (finC bs x) 90)) := by
  rw [run_fin_store _ _ f32 bs 0 x rfl hb (Blk.new _ _ _), World.setRow_alloc_new]
theorem blk_setRow {W : World} {g : Nat} {t : TypeId} {cs cs' : Array Value} (h : Blk W g t cs) : Blk (W.setRow g cs') g t cs' := by
  unfold Blk at h ⊢
  simp [World.setRow, Array.getElem?_modify, h]
theorem setRow_far {W : World} {g b : Nat} (cs : Array Value) (h : b ≠ g) : (W.setRow g cs).heap[b]? = W.heap[b]? := by
  simp [World.setRow, Array.getElem?_modify, Ne.symm h]
theorem below_setRow {B g : Nat} {a W : World} (hb : Below B a W) (h : B ≤ g) (cs : Array Value) : Below B a (W.setRow g cs) :=
  hb.trans ⟨rfl, rfl, rfl, by simp [World.setRow], fun i hi => setRow_far cs (by omega)⟩
theorem grown_setRow (W : World) (g : Nat) (cs : Array Value) : W.grownBy (W.setRow g cs) (some g) :=
  ⟨rfl, rfl, rfl, by simp [World.setRow], fun i _ hi => setRow_far cs (fun e => hi (by rw [e]))⟩

end Go.Proofs.YtllanbggjfmfhaaGreatDoor
