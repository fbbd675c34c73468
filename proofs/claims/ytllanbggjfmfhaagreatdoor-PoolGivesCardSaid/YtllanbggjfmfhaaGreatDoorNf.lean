/-
  What is proved: contracts of copied and Put of package run. No condition beyond those stated.
-/
import Derived.Test.YtllanbggjfmfhaaGreatDoorNe
import Derived.Laws.CopyOwn
namespace Go.Proofs.YtllanbggjfmfhaaGreatDoor
open Go.RowKit Go.Shelf

def zerosI (k : Nat) : Array Value := Array.replicate k (.int .i64 0)
theorem int_info : (Tryz.prog.info? 3).map (fun i => (i.zero, i.size, i.bytes)) = some (some (.int .i64 0), 1, 8) := by kernel_rfl
set_option maxRecDepth 100000 in
theorem run_make_ints (z : Int) (h0 : 0 ≤ z) (h1 : z ≤ 100000) (W : World) :
    (Instr.makeSlice 22 (.int .i64 z) (.int .i64 z)).run Tryz.prog W = .ok (.slice (some ⟨W.heap.size, 0, none⟩) z.toNat z.toNat) (W.alloc (.cells (zerosI z.toNat) 3)) := by
  obtain ⟨i, hi, hz0, hz1, hz2⟩ := info_parts int_info
  have hr := run_make (P := Tryz.prog) W 22 3 i _ Tryz.underlying22 hi hz0 .i64 .i64 z z h0 (by omega) (by rw [hz2]; omega) (by omega)
  rw [hr]
  congr 3
  rw [hz1]
  apply Array.ext
  · simp [zerosI, madeCells]
  · intro j h1 h2
    simp [zerosI, madeCells, Value.cells, Nat.mod_one]
theorem splice_all (z cs : List Value) (h : z.length = cs.length) : splice z 0 cs = cs := by
  simp [splice, h]

/-- A new list in a block of its own. -/
def GivesBlk (w : World) (l : List Int) (e : Ending) (w' : World) : Prop := ∃ B, e = .returned (.slice (some ⟨B, 0, none⟩) l.length l.length) ∧ w.heap.size ≤ B ∧ Blk w' B 3 (l.map Iv).toArray ∧ Below w.heap.size w w'

set_option maxHeartbeats 1000000 in
theorem copied_any (A : Option Addr) (m c : Nat) (l : List Int) (w : World) (hR : Row w A m (l.map Iv)) (hm : m ≤ 1000) :
    Calls Tryz.prog 56 #[.slice A m c] w (GivesBlk w l) := by
  have hl := hR.1
  simp at hl
  have hmk := run_make_ints (m : Int) (by omega) (by omega)
  simp only [Int.toNat_natCast] at hmk
  have HR := Lib.hid hR
  have HL := Lib.hid hl
  clear hR hl
  go_enter Tryz.func56, Tryz.ntmps56
  go_wp2_with (with_reducible refine wpList_copy_splice rfl (.tmp 7) (.tmp 8) 22 22 rfl 3 Tryz.underlying22 ?hsz (some ⟨w.heap.size, 0, none⟩) A m m m c rfl rfl w.heap.size 0 (zerosI m).toList 3 ?hg (l.map Iv) ?hn ?hpos ?hfit ?h1 w.heap.size _ (Below.refl _ _) (Nat.le_refl _) ?hrest)
  case hsz => kernel_rfl
  case hg => exact heap_new rfl _
  case hn => have := HL.out; simp; omega
  case hpos =>
    intro hp
    obtain ⟨b, off, e, hc⟩ := HR.out.2 (by have := HL.out; omega)
    refine ⟨_, e, fun j u hu => ?_⟩
    have h1 := hc j (Iv u) (by simp [hu])
    rw [addr_add]
    exact cell_ext (below_box _ _) h1
  case hfit => have := HL.out; simp [zerosI]; omega
  case h1 => intro v hv; obtain ⟨x, _, rfl⟩ := List.mem_map.1 hv; rfl
  case hrest =>
    intro w1 hG hB
    have hG1 : Blk w1 w.heap.size 3 (l.map Iv).toArray := by
      have h := hG.out
      rwa [splice_all _ _ (by have := HL.out; simp [zerosI]; omega)] at h
    have hb : Below w.heap.size w w1 := (below_box w (.cells (zerosI m) 3)).trans hB
    have HG := Lib.hid hG1
    have HB := Lib.hid hb
    clear hG hG1 hB hb hmk
    go_wp2
    go_ret
    exact ⟨w.heap.size, by rw [HL.out]; rfl, Nat.le_refl _, HG.out, HB.out⟩

end Go.Proofs.YtllanbggjfmfhaaGreatDoor
