/-
  What is proved: contracts of look of package hole. No condition beyond those stated.
-/
import Derived.Test.YtllanbggjfmfhaaGreatDoorGe
namespace Go.Proofs.YtllanbggjfmfhaaGreatDoor
open Go.RowKit Go.Shelf
attribute [local go_sem] Oper.semAt_some

/-- Which lines are kept. -/
def kB (t : List Int) : List Bool := (List.range 32).map (keptB t)
theorem kB_len (t : List Int) : (kB t).length = 32 := by simp [kB]
/-- Which lines are among the first of some. -/
def amongB (L : List Int) : List Bool := (List.range 32).map fun i : Nat => decide ((i : Int) ∈ L)
theorem among_len (L : List Int) : (amongB L).length = 32 := by simp [amongB]
theorem among_nil : amongB [] = f32 := by decide
theorem among_snoc (L : List Int) (i : Nat) : (amongB L).set i true = amongB (L ++ [(i : Int)]) := by
  apply List.ext_getElem
  · simp [amongB]
  · intro j h1 h2
    simp [amongB, List.getElem_set]
    by_cases h : i = j
    · simp [h]
    · simp [h]
      intro e
      omega
theorem among_lines (t : List Int) : amongB (linesL t) = kB t := by
  unfold amongB kB
  apply List.map_congr_left
  intro i hi
  rw [List.mem_range] at hi
  have : (i : Int) ∈ linesL t ↔ keptB t i = true := by
    unfold linesL
    simp only [List.mem_map, List.mem_filter, List.mem_range]
    constructor
    · rintro ⟨a, ⟨_, h⟩, e⟩
      obtain rfl : a = i := by omega
      exact h
    · exact fun h => ⟨i, ⟨hi, h⟩, rfl⟩
  rw [Bool.eq_iff_iff]
  simp [this]
theorem lines_mem {t : List Int} {x : Int} (h : x ∈ linesL t) : ∃ i : Nat, i < 32 ∧ x = (i : Int) := by
  unfold linesL at h
  obtain ⟨i, hi, rfl⟩ := List.mem_map.1 h
  exact ⟨i, List.mem_range.1 (List.mem_filter.1 hi).1, rfl⟩

set_option maxRecDepth 100000 in
set_option maxHeartbeats 2000000 in
theorem look_ok (A : Option Addr) (m c : Nat) (t : List Int) (x : Int) (w : World) (hR : Row w A m (t.map Iv)) (hm : m ≤ 100000) (hT : tabB t = true) :
    Calls Tryz.prog 65 #[.slice A m c, .int .i64 x] w fun e w' => e = .returned (.tuple #[.agg (finC (kB t) x), .bool true]) ∧ Below w.heap.size w w' := by
  have hx := below_box w (.cells (finC f32 0) 90)
  have h4 : Blk (w.alloc (.cells (finC f32 0) 90)) w.heap.size 90 (finC f32 0) := Blk.new _ _ _
  have hcall := mright_any A m c t _ (hR.ext hx) hm
  have hcall2 := fun W (h : Row W A m (t.map Iv)) => mlines_any A m c t W h hm
  rw [hT] at hcall
  have hLR : linesR t = linesL t := by unfold linesR; rw [hT]; rfl
  rw [hLR] at hcall2
  have HC := Lib.hid hcall
  have HC2 := Lib.hid hcall2
  have HR := Lib.hid (hR.ext hx)
  have HB := Lib.hid hx
  have H4 := Lib.hid h4
  have HLM := Lib.hid (fun x h => lines_mem (t := t) (x := x) h)
  have HAL := Lib.hid (among_lines t)
  have hll := lines_len t
  clear hcall hcall2 hT hR hx hLR h4
  generalize linesL t = L at *
  go_enter Tryz.func65, Tryz.ntmps65
  go_wp2_with (with_reducible refine wpList_op_alloc rfl 90 rfl _ _ (run_fin_alloc _) ?_)
  generalize w.alloc (.cells (finC f32 0) 90) = W0 at *
  refine HC.out.mono ?_
  rintro e w1 ⟨rfl, hb1⟩
  have H41 := Lib.hid (H4.out.ext hb1)
  have HB1 := Lib.hid (below_le HB.out hb1)
  have hb2 := below_box w1 (.cells (finC f32 x) 90)
  have h6 : Blk (w1.alloc (.cells (finC f32 x) 90)) w1.heap.size 90 (finC f32 x) := Blk.new _ _ _
  have HR1 := Lib.hid ((HR.out.ext hb1).ext hb2)
  have H42 := Lib.hid (H41.out.ext hb2)
  have HB2 := Lib.hid (below_le HB1.out hb2)
  have H6 := Lib.hid h6
  have hlt := H41.out.lt
  clear hb1 hb2 h6 HC HR H4 HB
  go_wp2_with (first | (with_reducible refine wpList_op_alloc rfl 90 rfl _ _ (run_fin_alloc _) ?_) | (refine wpList_op_build rfl 90 #[(1, .tmp 13)] rfl _ _ (run_fin_build x _) ?_) | (refine wpList_op_store rfl 90 (.tmp 6) (.tmp 14) rfl _ (run_storeAt_fin f32 x rfl _) ?_))
  generalize w1.alloc (.cells (finC f32 x) 90) = W2 at *
  refine (HC2.out W2 HR1.out).mono ?_
  rintro e w3 ⟨C, k, d, rfl, hr3, -, hfr, hb3⟩
  have hsz2 : w1.heap.size < W2.heap.size := H6.out.lt
  have h43 := H42.out.ext hb3
  have h63 := H6.out.ext hb3
  have hk := hr3.1
  simp at hk
  subst hk
  have HR3 := Lib.hid hr3
  have H43 := Lib.hid h43
  have H63 := Lib.hid h63
  have HB3 := Lib.hid (below_le HB2.out hb3)
  have hlt6 := H63.out.lt
  clear hr3 h43 h63 hb3 HC2 H42 H6 HB2 HR1
  have HFR := Lib.hid (fun (a : Addr) e => (show w1.heap.size < a.block by have := hfr a e; omega))
  clear hfr hsz2
  go_wp2
  go_loopw [18] (fun i wr => ∃ j : Nat, j ≤ L.length ∧ i = .int .i64 j ∧ Blk wr w1.heap.size 90 (finC (amongB (L.take j)) x) ∧ Blk wr w.heap.size 90 (finC f32 0) ∧ Row wr C L.length (L.map Iv) ∧ Below w.heap.size w wr)
    (fun i _ => L.length - (intOf i).toNat)
  case atStart => exact ⟨0, Nat.zero_le _, rfl, by rw [List.take_zero, among_nil]; exact H63.out, H43.out, HR3.out, HB3.out⟩
  case round =>
    obtain ⟨j, hj, rfl, q1, q2, q3, q4⟩ := hrel
    by_cases hlt : j < L.length
    · obtain ⟨b, off, y, rfl, hcy, hy, hmem⟩ := num_at q3 hlt
      obtain ⟨i, hi, rfl⟩ := HLM.out y (List.mem_of_getElem? hmem)
      have hbn : b ≠ w1.heap.size := by have := HFR.out _ rfl; simp at this; omega
      have c1 := (q1.cell i).trans (finC_get _ _ _ (by rw [among_len]; exact hi))
      have f1 := q1.frozen i
      have hts : L.take (j + 1) = L.take j ++ [(i : Int)] := by rw [List.take_succ_eq_append_getElem hlt]; simp [hlt] at hmem; rw [hmem]
      have q1' := q1.set_ i (.bool true)
      rw [finC_set _ _ _ (by rw [among_len]; exact hi), among_snoc, ← hts] at q1'
      have q2' := q2.far (p := ⟨w1.heap.size, i, none⟩) (by show w.heap.size ≠ w1.heap.size; omega) (.bool true)
      have q3' : Row (wr.setCell ⟨w1.heap.size, i, none⟩ (.bool true)) (some ⟨b, off, none⟩) L.length (L.map Iv) := by
        refine ⟨q3.1, fun hn => ?_⟩
        obtain ⟨b', off', e, hc⟩ := q3.2 hn
        cases e
        exact ⟨b, off, rfl, fun k u hu => (World.cell?_of_block (w := wr) (Below.heap_setCell _ _ _ b hbn)).trans (hc k u hu)⟩
      have q4' := q4.setCell (p := ⟨w1.heap.size, i, none⟩) (by show w.heap.size ≤ w1.heap.size; omega) (.bool true)
      have Q1 := Lib.hid q1'
      have Q2 := Lib.hid q2'
      have Q3 := Lib.hid q3'
      have Q4 := Lib.hid q4'
      clear q1 q2 q3 q4 q1' q2' q3' q4' hts hmem hy
      go_wp2
      go_roundw
      case rel => exact ⟨j + 1, by omega, by go_num, Q1.out, Q2.out, Q3.out, Q4.out⟩
      case measure => simp [intOf]; omega
    · rw [List.take_of_length_le (by omega), HAL.out] at q1
      have hld := run_fin_load wr w1.heap.size (kB t) x (kB_len t) q1
      have hst := run_fin_store wr w.heap.size f32 (kB t) 0 x rfl (kB_len t) q2
      have Q2 := Lib.hid q2
      have Q4 := Lib.hid (below_setRow q4 (Nat.le_refl _) (finC (kB t) x))
      have Q5 := Lib.hid (blk_setRow (cs' := finC (kB t) x) q2)
      clear q1 q2 q3 q4
      go_wp2_with (first | (refine wpList_op_load rfl 90 (.tmp 6) rfl _ _ hld ?_) | (refine wpList_op_store rfl 90 (.tmp 4) (.tmp 27) rfl _ hst ?_))
      have hlv := run_loadVar_row (P := Tryz.prog) _ w.heap.size _ 90 _ _ _ Q5.out Tryz.underlying90 rfl (by rw [fin_info, finC_size, kB_len])
      refine bodyPost_ret (v := .tuple #[.agg (finC (kB t) x), .bool true]) ?_ rfl ⟨rfl, Q4.out⟩
      simp [results, Tryz.results65, asAddr, hlv]

set_option maxRecDepth 100000 in
set_option maxHeartbeats 2000000 in
theorem look_no (A : Option Addr) (m c : Nat) (t : List Int) (x : Int) (w : World) (hR : Row w A m (t.map Iv)) (hm : m ≤ 100000) (hT : tabB t = false) :
    Calls Tryz.prog 65 #[.slice A m c, .int .i64 x] w fun e w' => e = .returned (.tuple #[.agg (finC f32 0), .bool false]) ∧ Below w.heap.size w w' := by
  have hx := below_box w (.cells (finC f32 0) 90)
  have h4 : Blk (w.alloc (.cells (finC f32 0) 90)) w.heap.size 90 (finC f32 0) := Blk.new _ _ _
  have hcall := mright_any A m c t _ (hR.ext hx) hm
  rw [hT] at hcall
  have HC := Lib.hid hcall
  have HB := Lib.hid hx
  have H4 := Lib.hid h4
  clear hcall hT hR hx h4
  go_enter Tryz.func65, Tryz.ntmps65
  go_wp2_with (with_reducible refine wpList_op_alloc rfl 90 rfl _ _ (run_fin_alloc _) ?_)
  generalize w.alloc (.cells (finC f32 0) 90) = W0 at *
  refine HC.out.mono ?_
  rintro e w1 ⟨rfl, hb1⟩
  have h41 := H4.out.ext hb1
  have hst := run_fin_store w1 w.heap.size f32 f32 0 0 rfl rfl h41
  have Q4 := Lib.hid (below_setRow (below_le HB.out hb1) (Nat.le_refl _) (finC f32 0))
  have Q5 := Lib.hid (blk_setRow (cs' := finC f32 0) h41)
  clear hb1 HC H4 HB h41
  go_wp2_with (first | (refine wpList_op_build rfl 90 #[] rfl _ _ (run_fin_zero _) ?_) | (refine wpList_op_store rfl 90 (.tmp 4) (.tmp 12) rfl _ hst ?_))
  have hlv := run_loadVar_row (P := Tryz.prog) _ w.heap.size _ 90 _ _ _ Q5.out Tryz.underlying90 rfl (by rw [fin_info, finC_size]; rfl)
  refine bodyPost_ret (v := .tuple #[.agg (finC f32 0), .bool false]) ?_ rfl ⟨rfl, Q4.out⟩
  simp [results, Tryz.results65, asAddr, hlv]
end Go.Proofs.YtllanbggjfmfhaaGreatDoor
