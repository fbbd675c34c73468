/-
  What is proved: the contract of Make of package bits. No condition beyond those stated.
-/
import Derived.Test.YtelbddnjnapoeaaDoorBe
import Derived.Test.YtelbddnjnapoeaaDoorBd
namespace Go.Proofs.YtelbddnjnapoeaaDoor
open Go.RowKit

/-- What a call that hands back bits and a number leaves. -/
def GivesBits (w : World) (code : Nat) (n : Int) (ws : List Nat) (e : Ending) (w' : World) : Prop :=
  ∃ A m c, e = .returned (.tuple #[.agg #[.int .i64 n, .slice A m c], .int .i64 code]) ∧ Row w' A m (ws.map U32) ∧ Below w.heap.size w w'

def zeros (k : Nat) : Array Value := Array.replicate k (.int .u32 0)
theorem u32_info : (Tryd.prog.info? 48).map (fun i => (i.zero, i.size, i.bytes)) = some (some (.int .u32 0), 1, 4) := by kernel_rfl

set_option maxRecDepth 100000 in
theorem run_make_words (z : Int) (h0 : 0 ≤ z) (h1 : z ≤ 100000) (W : World) :
    (Instr.makeSlice 22 (.int .i64 z) (.int .i64 z)).run Tryd.prog W = .ok (.slice (some ⟨W.heap.size, 0, none⟩) z.toNat z.toNat) (W.alloc (.cells (zeros z.toNat) 48)) := by
  obtain ⟨i, hi, hz0, hz1, hz2⟩ := info_parts u32_info
  have hr := run_make (P := Tryd.prog) W 22 48 i _ Tryd.underlying22 hi hz0 .i64 .i64 z z h0 (by omega) (by rw [hz2]; omega) (by omega)
  rw [hr]
  congr 3
  rw [hz1]
  apply Array.ext
  · simp [zeros, madeCells]
  · intro j h1 h2
    simp [zeros, madeCells, Value.cells, Nat.mod_one]

theorem zeros_row (k : Nat) : (zeros k).toList = (List.replicate k 0).map U32 := by simp [zeros, U32]
theorem zeros_size (k : Nat) : (zeros k).size = k := by simp [zeros]

theorem new_row {w : World} (g : Nat) (hg : w.heap.size = g) (t : TypeId) (cs : Array Value) : Row (w.alloc (.cells cs t)) (some ⟨g, 0, none⟩) cs.size cs.toList := by
  subst hg
  exact (Blk.new w t cs).row

def makeOk (n : Int) : Bool := decide (0 ≤ n) && decide (n ≤ 20000)

set_option maxHeartbeats 1000000 in
theorem make_ok (n : Int) (aA aB aP : Addr) (w : World) (hS : BSent w aA aB aP) (h0 : 0 ≤ n) (h1 : n ≤ 20000) :
    Calls Tryd.prog 33 #[.int .i64 n] w (GivesBits w 0 n (List.replicate ((n.toNat + 31) / 32) 0)) := by
  have d0 : decide (0 ≤ n) = true := by simpa using h0
  have d1 : decide (n ≤ 20000) = true := by simpa using h1
  have hmk := run_make_words ((n + 31) / 32) (by omega) (by omega)
  have gA := fun o => cell_ext (below_box w o) hS.hA.1
  have HS := Lib.hid hS
  clear hS
  go_enter Tryd.func33, Tryd.ntmps33
  go_wp2_with fail
  refine (need_any true _ _).mono ?_
  rintro e w' ⟨rfl, rfl⟩
  simp only [if_true]
  go_wp2_with fail
  refine (told_one (aA := aA) (aB := aB) (aP := aP) _ _ (by simp) 0 (by simp [isErr]) _ (ev_none aA aB aP) (HS.out.ext (below_box _ _))).mono ?_
  rintro e w' ⟨rfl, rfl⟩
  go_wp2_with fail
  refine (wordsFor_any n _ h0 h1).mono ?_
  rintro e w' ⟨rfl, rfl⟩
  go_wp2
  refine bodyPost_ret (v := .tuple #[.agg #[.int .i64 n, .slice (some ⟨w.heap.size + 1 + 1, 0, none⟩) ((n + 31) / 32).toNat ((n + 31) / 32).toNat], .int .i64 0]) (by simp [results, Tryd.results33, go_sem]) rfl ⟨_, _, _, rfl, ?_, ?_⟩
  · have h := new_row (w := (w.alloc (.cells #[.int .i64 n, .slice (some ⟨w.heap.size + 1 + 1, 0, none⟩) ((n + 31) / 32).toNat ((n + 31) / 32).toNat] 24)).alloc (.cells #[.nilIface] 57)) (w.heap.size + 1 + 1) (by simp) 48 (zeros ((n + 31) / 32).toNat)
    rw [zeros_size, zeros_row] at h
    rw [show (n.toNat + 31) / 32 = ((n + 31) / 32).toNat by omega]
    exact h
  · exact below_le (below_le (below_box _ _) (below_box _ _)) (below_box _ _)

set_option maxHeartbeats 1000000 in
theorem make_bad (n : Int) (aA aB aP : Addr) (w : World) (hS : BSent w aA aB aP) (h : n < 0 ∨ 20000 < n) :
    Calls Tryd.prog 33 #[.int .i64 n] w (GivesBits w 2 0 []) := by
  have gA := fun o => cell_ext (below_box w o) hS.hA.1
  have HS := Lib.hid hS
  clear hS
  rcases h with h | h
  · have d0 : decide (0 ≤ n) = false := by simp; omega
    go_enter Tryd.func33, Tryd.ntmps33
    go_wp2_with fail
    refine (need_any false _ _).mono ?_
    rintro e w' ⟨rfl, rfl⟩
    simp only [Bool.false_eq_true, if_false]
    go_wp2_with fail
    refine (told_one (aA := aA) (aB := aB) (aP := aP) _ _ (by simp) 2 (by simp [isErr]) _ (ev_arg aA aB aP) (HS.out.ext (below_box _ _))).mono ?_
    rintro e w' ⟨rfl, rfl⟩
    go_wp2
    refine bodyPost_ret (v := .tuple #[.agg #[.int .i64 0, .slice none 0 0], .int .i64 2]) (by simp [results, Tryd.results33, go_sem]) rfl ⟨_, _, _, rfl, Row.none_, ?_⟩
    exact below_le (below_box _ _) (below_box _ _)
  · have d0 : decide (0 ≤ n) = true := by simp; omega
    have d1 : decide (n ≤ 20000) = false := by simp; omega
    go_enter Tryd.func33, Tryd.ntmps33
    go_wp2_with fail
    refine (need_any false _ _).mono ?_
    rintro e w' ⟨rfl, rfl⟩
    simp only [Bool.false_eq_true, if_false]
    go_wp2_with fail
    refine (told_one (aA := aA) (aB := aB) (aP := aP) _ _ (by simp) 2 (by simp [isErr]) _ (ev_arg aA aB aP) (HS.out.ext (below_box _ _))).mono ?_
    rintro e w' ⟨rfl, rfl⟩
    go_wp2
    refine bodyPost_ret (v := .tuple #[.agg #[.int .i64 0, .slice none 0 0], .int .i64 2]) (by simp [results, Tryd.results33, go_sem]) rfl ⟨_, _, _, rfl, Row.none_, ?_⟩
    exact below_le (below_box _ _) (below_box _ _)

end Go.Proofs.YtelbddnjnapoeaaDoor
