/-
  What is proved: contracts of those functions that this program has, and plain facts beside them. No condition beyond those stated.
-/
import Derived.Test.YtllanbggjfmfhaaGreatDoorNh
namespace Go.Proofs.YtllanbggjfmfhaaGreatDoor
open Go.RowKit Go.Shelf

theorem Row.cut {w : World} {A : Option Addr} {m : Nat} {xs : List Value} (h : Row w A m xs) (k : Nat) (hk : k ≤ m) : Row w A k (xs.take k) := by
  refine ⟨by have := h.1; simp; omega, fun h0 => ?_⟩
  obtain ⟨b, off, e, hc⟩ := h.2 (by omega)
  exact ⟨b, off, e, fun j u hu => hc j u (by rw [List.getElem?_take] at hu; split at hu <;> simp_all)⟩
theorem row_few {w : World} {A : Option Addr} {m : Nat} {l : List Int} (h : Row w A m (l.map Iv)) : Row w A (min m 34) ((l.take 34).map Iv) := by
  have h1 := h.cut (min m 34) (Nat.min_le_left _ _)
  have hl := h.1
  simp at hl
  rw [← List.map_take, Nat.min_comm, ← List.take_take, List.take_of_length_le (l := l) (by omega), Nat.min_comm] at h1
  exact h1

set_option maxHeartbeats 400000 in
theorem few_any (A : Option Addr) (m c : Nat) (w : World) (hc : m ≤ c) :
    Calls Tryz.prog 24 #[.slice A m c] w fun e w' => (e = .returned (.slice A (min m 34) c)) ∧ w = w' := by
  by_cases h : 34 < (m : Int)
  · have hm : min m 34 = 34 := by omega
    rw [hm]
    have hcc : (34 : Int) ≤ c := by omega
    clear hm
    go_enter Tryz.func24, Tryz.ntmps24
    go_wp2
    go_ret
    exact ⟨rfl, rfl⟩
  · have hm : min m 34 = m := by omega
    rw [hm]
    clear hm
    go_enter Tryz.func24, Tryz.ntmps24
    go_wp2
    go_ret
    exact ⟨rfl, rfl⟩

theorem run_six (a b c d e f : Int) (W : World) :
    (Instr.buildSlice 22 6 #[(0, .int .i64 a), (1, .int .i64 b), (2, .int .i64 c), (3, .int .i64 d), (4, .int .i64 e), (5, .int .i64 f)]).run Tryz.prog W = .ok (.slice (some ⟨W.heap.size, 0, none⟩) 6 6) (W.alloc (.cells #[.int .i64 a, .int .i64 b, .int .i64 c, .int .i64 d, .int .i64 e, .int .i64 f] 3)) := by
  go_simp
theorem run_one4 (W : World) :
    (Instr.buildSlice 22 1 #[(0, .int .i64 4)]).run Tryz.prog W = .ok (.slice (some ⟨W.heap.size, 0, none⟩) 1 1) (W.alloc (.cells #[.int .i64 4] 3)) := by
  go_simp
theorem row_new (w : World) (l : List Int) (cs : Array Value) (h : cs = (l.map Iv).toArray) : Row (w.alloc (.cells cs 3)) (some ⟨w.heap.size, 0, none⟩) l.length (l.map Iv) := by
  subst h
  have := (Blk.new w 3 (l.map Iv).toArray).row
  simpa using this

end Go.Proofs.YtllanbggjfmfhaaGreatDoor
