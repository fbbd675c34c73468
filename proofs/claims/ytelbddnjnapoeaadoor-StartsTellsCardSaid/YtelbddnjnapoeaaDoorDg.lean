/-
  What is proved: the contract of errors.As at an error at an address whose reason is a number (package starts). No condition beyond those stated.
-/
import Derived.Test.YtelbddnjnapoeaaDoorDf
namespace Go.Proofs.YtelbddnjnapoeaaDoor
open Go.RowKit Go.Extern.Stop Go.Stop Go.Extern

/-- What errors.As leaves: the number in the variable; all else below it as it was. -/
def AsDone (b : Nat) (k : Int) (w w' : World) : Prop := Below b w w' ∧ w'.cell? ⟨b, 0, none⟩ = some (.int .i64 k)

set_option maxRecDepth 100000 in
set_option maxHeartbeats 2000000 in
/-- errors.as, of an error whose reason is a number. -/
theorem as_low (t b g : Nat) (k : Int) (x : Int) (w : World) (hc : w.cell? ⟨t, 1, none⟩ = some (.iface 67 (.int .i64 k))) (hb : w.heap[b]? = some (.cells #[.int .i64 x] 67 (0, 0)))
    (hg : w.heap[g]? = some (.cells #[.pointer (some ⟨b, 0, none⟩)] 69 (0, 0))) :
    Calls Tryd.prog 70 #[.iface 70 (.pointer (some ⟨t, 0, none⟩)), .iface 69 (.pointer (some ⟨b, 0, none⟩)), .agg #[hnd 69, .pointer (some ⟨g, 0, none⟩), .int .u64 150], rty 67] w fun e w' => e = .returned (.bool true) ∧ AsDone b k w w' := by
  have h8 := @run_callFunc_extern Tryd.prog 65 _ Extern.ReflectliteType.typeOf Tryd.func65 (by kernel_rfl) (by kernel_rfl) (by kernel_rfl) (by kernel_rfl)
  have hA := @run_callFunc_extern Tryd.prog 98 _ _ Tryd.func98 (by kernel_rfl) (by kernel_rfl) (by kernel_rfl) fnAssign
  have hE := @run_callFunc_extern Tryd.prog 72 _ _ Tryd.func72 (by kernel_rfl) (by kernel_rfl) (by kernel_rfl) fnVElem
  have hS := @run_callFunc_extern Tryd.prog 73 _ _ Tryd.func73 (by kernel_rfl) (by kernel_rfl) (by kernel_rfl) fnSet
  have hV := @run_callFunc_extern Tryd.prog 67 _ _ Tryd.func67 (by kernel_rfl) (by kernel_rfl) (by kernel_rfl) fnValueOf
  have tT := typeOfT
  have tF := typeOfF
  have mA := mAssign
  have aT := assignT
  have aF := assignF
  have nT := noAsT
  have uT := hasUnwrapT
  have mU := methodUnwrap
  have vF := valueOfF
  go_enter Tryd.func70, Tryd.ntmps70
  go_wp2
  have HB := below_box w (.cells #[hnd 69, .pointer (some ⟨g, 0, none⟩), .int .u64 150] 87)
  have hs : (w.alloc (.cells #[hnd 69, .pointer (some ⟨g, 0, none⟩), .int .u64 150] 87)).heap[w.heap.size]? = some (.cells #[hnd 69, .pointer (some ⟨g, 0, none⟩), .int .u64 150] 87 (0, 0)) := heap_alloc_new w _
  have hc' := cell_ext HB hc
  have hbl : b < w.heap.size := (Array.getElem?_eq_some_iff.1 hb).1
  have hgl : g < w.heap.size := (Array.getElem?_eq_some_iff.1 hg).1
  have hb' := (HB.block b hbl).trans hb
  have hg' := (HB.block g hgl).trans hg
  generalize w.alloc (.cells #[hnd 69, .pointer (some ⟨g, 0, none⟩), .int .u64 150] 87) = W at *
  have HB2 := below_box W (.cells #[.int .i64 k] 67)
  have hs0 : W.cell? ⟨w.heap.size, 0, none⟩ = some (hnd 69) := by simp [World.cell?, hs]
  have hs1 : W.cell? ⟨w.heap.size, 1, none⟩ = some (.pointer (some ⟨g, 0, none⟩)) := by simp [World.cell?, hs]
  have hs2 : W.cell? ⟨w.heap.size, 2, none⟩ = some (.int .u64 150) := by simp [World.cell?, hs]
  have hgc : W.cell? ⟨g, 0, none⟩ = some (.pointer (some ⟨b, 0, none⟩)) := by simp [World.cell?, hg']
  have hbc : W.cell? ⟨b, 0, none⟩ = some (.int .i64 x) := by simp [World.cell?, hb']
  have hbf : W.frozen? ⟨b, 0, none⟩ = false := by simp [World.frozen?, hb']
  have hs0' := cell_ext HB2 hs0
  have hs1' := cell_ext HB2 hs1
  have hs2' := cell_ext HB2 hs2
  have eP := vElemP _ _ _ hgc
  have eP' := vElemP _ _ _ (cell_ext HB2 hgc)
  have hnc : (W.alloc (.cells #[.int .i64 k] 67)).cell? ⟨W.heap.size, 0, none⟩ = some (.int .i64 k) := by rw [World.cell?, heap_alloc_new]; rfl
  have hbl2 : b < W.heap.size := (Array.getElem?_eq_some_iff.1 hb').1
  have sF := setF ⟨b, 0, none⟩ ⟨W.heap.size, 0, none⟩ _ k _ hnc (cell_ext HB2 hbc) ((HB2.frozen (p := ⟨b, 0, none⟩) hbl2).trans hbf)
  have hD : AsDone b k w ((W.setCell ⟨b, 0, none⟩ (.int .i64 k)).alloc (.cells #[.int .i64 k] 67)) := by
    have h1 : Below b w (W.setCell ⟨b, 0, none⟩ (.int .i64 k)) := (HB.mono (Nat.le_of_lt hbl)).setCell (Nat.le_refl _) _
    have h2 := World.cell?_setCell_same W ⟨b, 0, none⟩ (.int .i64 k) hbc
    exact ⟨h1.trans ((below_box _ _).mono (Nat.le_of_lt (lt_of_cell h2))), cell_ext (below_box _ _) h2⟩
  refine wp_loop_rounds 2 ?_
  rw [rounds_succ]
  go_wp2_with (go_at_call 93; refine (unwrap_any _ _ _ hc').mono ?_; rintro e w' ⟨rfl, rfl⟩)
  rw [rounds_succ]
  go_wp2
  go_ret
  exact ⟨rfl, hD⟩

set_option maxRecDepth 100000 in
set_option maxHeartbeats 2000000 in
/-- errors.As, of an error whose reason is a number. -/
theorem as_fault (t b : Nat) (k : Int) (x : Int) (w : World) (hc : w.cell? ⟨t, 1, none⟩ = some (.iface 67 (.int .i64 k))) (hb : w.heap[b]? = some (.cells #[.int .i64 x] 67 (0, 0)))
    (hE : w.cell? ⟨4, 0, none⟩ = some (rty 57)) :
    Calls Tryd.prog 58 #[.iface 70 (.pointer (some ⟨t, 0, none⟩)), .iface 69 (.pointer (some ⟨b, 0, none⟩))] w fun e w' => e = .returned (.bool true) ∧ AsDone b k w w' := by
  have hV := @run_callFunc_extern Tryd.prog 67 _ _ Tryd.func67 (by kernel_rfl) (by kernel_rfl) (by kernel_rfl) fnValueOf
  have hT := @run_callFunc_extern Tryd.prog 68 _ _ Tryd.func68 (by kernel_rfl) (by kernel_rfl) (by kernel_rfl) fnVType
  have hN := @run_callFunc_extern Tryd.prog 69 _ _ Tryd.func69 (by kernel_rfl) (by kernel_rfl) (by kernel_rfl) fnIsNil
  have hK := @run_callFunc_extern Tryd.prog 88 _ _ Tryd.func88 (by kernel_rfl) (by kernel_rfl) (by kernel_rfl) fnKind
  have hL := @run_callFunc_extern Tryd.prog 100 _ _ Tryd.func100 (by kernel_rfl) (by kernel_rfl) (by kernel_rfl) fnElem
  have hI := @run_callFunc_extern Tryd.prog 101 _ _ Tryd.func101 (by kernel_rfl) (by kernel_rfl) (by kernel_rfl) fnImpl
  have vP := valueOfP
  have tP := typeP
  have mK := mKind
  have mE := mElem
  have mI := mImpl
  have kP := kindP
  have kF := kindF
  have eP := elemP
  have iF := implF
  have iN := isNilP
  have hgl : 4 < w.heap.size := lt_of_cell hE
  go_enter Tryd.func58, Tryd.ntmps58
  go_wp2_with fail
  go_at_call 70
  refine Calls.mono (as_low t b w.heap.size k x _ ?_ ?_ ?_) ?_
  · exact cell_ext (below_le (below_box _ _) (below_box _ _)) hc
  · exact ((below_le (below_box _ _) (below_box _ _)).block b (Array.getElem?_eq_some_iff.1 hb).1).trans hb
  · exact Blk.alloc (Blk.new _ _ _) _
  · rintro e w' ⟨rfl, hD⟩
    have hD2 : AsDone b k w w' := ⟨((below_le (below_box _ _) (below_box _ _)).mono (Nat.le_of_lt (Array.getElem?_eq_some_iff.1 hb).1)).trans hD.1, hD.2⟩
    clear hD
    go_wp2
    go_ret
    exact ⟨rfl, hD2⟩

end Go.Proofs.YtelbddnjnapoeaaDoor
