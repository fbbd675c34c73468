/-
  What is proved: contracts of those functions that this program has, and plain facts beside them. No condition beyond those stated.
-/
import Derived.Test.YtllanbggjfmfhaaGreatDoorHj
namespace Go.Proofs.YtllanbggjfmfhaaGreatDoor
open Go.RowKit Go.Shelf

/-- How many have which state, of the first ones. -/
def cntTo (l : List Int) (j : Nat) : List Int := (List.range 6).map fun i : Nat => if i < j then (countL l (i : Int) : Int) else 0
def pcL (l : List Int) (ts : List (List Int)) : List Int := if pRight l ts then cntTo l 6 else []
def pcC (l : List Int) (ts : List (List Int)) : Nat := if pRight l ts then 0 else 100
theorem cntTo_len (l : List Int) (j : Nat) : (cntTo l j).length = 6 := by simp [cntTo]
theorem cntTo_zero (l : List Int) : cntTo l 0 = List.replicate 6 0 := by simp [cntTo, List.map_const']
theorem cntTo_succ (l : List Int) (j : Nat) : (cntTo l j).set j (countL l (j : Int) : Int) = cntTo l (j + 1) := by
  apply List.ext_getElem
  · simp [cntTo]
  · intro i h1 h2
    simp [cntTo, List.getElem_set]
    by_cases e : j = i
    · simp [e]
    · simp [e]
      by_cases hi : i < j
      · simp [hi, show i < j + 1 by omega]
      · simp [hi, show ¬ i < j + 1 by omega]

/-- A list, and a number. -/
def GivesCnt (w : World) (l : List Int) (code : Nat) (e : Ending) (w' : World) : Prop := ∃ A m c, e = .returned (.tuple #[.slice A m c, .int .i64 code]) ∧ Row w' A m (l.map Iv) ∧ Below w.heap.size w w'

set_option maxRecDepth 100000 in
set_option maxHeartbeats 2000000 in
/-- pool.Counts. -/
theorem pcounts_any (S : Option Addr) (m c : Nat) (T : Option Addr) (k d : Nat) (l : List Int) (ts : List (List Int)) (w : World) (hE : EType w) (hS : Row w S m (l.map Iv)) (hT : Tabs w T k ts) (hm : m ≤ 1000) (hk : k ≤ 1000) :
    Calls Tryz.prog 22 #[.agg #[.slice S m c, .slice T k d]] w (GivesCnt w (pcL l ts) (pcC l ts)) := by
  have hb0 := below_box w (.cells #[.slice S m c, .slice T k d] 25)
  have k0 : (w.alloc (.cells #[.slice S m c, .slice T k d] 25)).cell? ⟨w.heap.size, 0, none⟩ = some (.slice S m c) := by simp [go_sem]
  have hcall := pright_any S m c T k d l ts _ (hS.ext hb0) (hT.ext hb0) hm hk
  have HS := Lib.hid (hS.ext hb0)
  have HB := Lib.hid hb0
  have HE := Lib.hid (hE.ext hb0)
  have HC := Lib.hid hcall
  clear hS hT hb0 hcall hE
  cases hp : pRight l ts
  · have hcall := HC.out
    rw [hp] at hcall
    have HQ := Lib.hid (show pcL l ts = [] ∧ pcC l ts = 100 by unfold pcL pcC; rw [hp]; exact ⟨rfl, rfl⟩)
    clear hp HC
    go_enter Tryz.func22, Tryz.ntmps22
    go_wp2_with fail
    generalize w.alloc (.cells #[.slice S m c, .slice T k d] 25) = W0 at *
    refine hcall.mono ?_
    clear hcall
    rintro e w1 ⟨rfl, hb1⟩
    have HB1 := Lib.hid hb1
    clear hb1
    go_wp2_with fail
    refine (refuse_pool _ 100 (by omega) w1).mono ?_
    rintro e w3 ⟨v, rfl, hv, hb3⟩
    have hnum := number_pool 100 v w3 hv (HE.out.ext (below_le HB1.out hb3))
    have HB3 := Lib.hid (below_le HB1.out hb3)
    clear hv hb3
    go_wp2_with fail
    refine hnum.mono ?_
    clear hnum
    rintro e w4 ⟨rfl, hb4⟩
    have HB4 := Lib.hid (below_le HB.out (below_le HB3.out hb4))
    clear hb4
    go_wp2
    refine bodyPost_ret (v := .tuple #[.slice none 0 0, .int .i64 100]) (by simp [results, Tryz.results22, go_sem]) rfl ?_
    rw [HQ.out.1, HQ.out.2]
    exact ⟨_, _, _, rfl, Row.none_, HB4.out⟩
  · have hcall := HC.out
    rw [hp] at hcall
    have hrt := (whole_iff.1 (pright_whole hp).1).1
    have HWF := Lib.hid (right_wf hrt)
    have HQ := Lib.hid (show pcL l ts = cntTo l 6 ∧ pcC l ts = 0 by unfold pcL pcC; rw [hp]; exact ⟨rfl, rfl⟩)
    have hmk := run_make_ints 6 (by omega) (by omega)
    clear hp HC hrt
    go_enter Tryz.func22, Tryz.ntmps22
    go_wp2_with fail
    generalize w.alloc (.cells #[.slice S m c, .slice T k d] 25) = W0 at *
    refine hcall.mono ?_
    clear hcall
    rintro e w1 ⟨rfl, hb1⟩
    have hx1 := below_box w1 (.cells (zerosI 6) 3)
    have hblk : Blk (w1.alloc (.cells (zerosI 6) 3)) w1.heap.size 3 ((cntTo l 0).map Iv).toArray := by rw [cntTo_zero, ← zeros_iv]; exact Blk.new _ _ _
    have K0 := Lib.hid k0
    have HBK := Lib.hid hblk
    have HB1 := Lib.hid (below_le hb1 hx1)
    have hlt : W0.heap.size ≤ w1.heap.size := hb1.size
    have hlt0 : w.heap.size < W0.heap.size := lt_of_cell k0
    clear hb1 hx1 hblk k0
    go_wp2
    change Code.wp _ _ _ _ (w1.alloc (.cells (zerosI 6) 3))
    generalize w1.alloc (.cells (zerosI 6) 3) = W1 at *
    generalize w1.heap.size = CB at *
    go_loopw [14] (fun i wr => ∃ j : Nat, j ≤ 6 ∧ i = .int .i64 j ∧ Blk wr CB 3 ((cntTo l j).map Iv).toArray ∧ Below W0.heap.size W0 wr) (fun i _ => 6 - (intOf i).toNat)
    case atStart => exact ⟨0, Nat.zero_le _, rfl, HBK.out, HB1.out⟩
    case round =>
      obtain ⟨j, hj, rfl, q1, q2⟩ := hrel
      have Q1 := Lib.hid q1
      have Q2 := Lib.hid q2
      clear q1 q2
      by_cases hlt : j < 6
      · have p0 := cell_ext Q2.out K0.out
        have hcall := count_any S m c l (j : Int) wr (HS.out.ext Q2.out) hm HWF.out (wf_small (by omega) (by omega))
        have hle := count_len l (j : Int)
        generalize hcn : countL l (j : Int) = cn at *
        have hset := cntTo_succ l j
        rw [hcn] at hset
        have HSET := Lib.hid hset
        clear hset hcn
        go_wp2_with fail
        refine hcall.mono ?_
        clear hcall
        rintro e w3 ⟨rfl, hb3⟩
        have hbk := Q1.out.ext hb3
        have d0 := hbk.cell j
        have f0 := hbk.frozen j
        rw [List.getElem?_toArray, List.getElem?_map, List.getElem?_eq_getElem (by rw [cntTo_len]; exact hlt)] at d0
        have hb4 := hbk.set_ j (.int .i64 (cn : Int))
        rw [List.setIfInBounds_toArray, show (Value.int .i64 (cn : Int)) = Iv (cn : Int) from rfl, ← List.map_set, HSET.out] at hb4
        have H4 := Lib.hid hb4
        have H5 := Lib.hid ((below_le Q2.out hb3).setCell (p := ⟨CB, j, none⟩) (by show W0.heap.size ≤ CB; omega) (.int .i64 (cn : Int)))
        simp only [Iv] at H4
        clear hbk hb4 hb3
        go_wp2
        go_roundw
        case rel => exact ⟨j + 1, by omega, by go_num, H4.out, H5.out⟩
        case measure => simp [intOf]; omega
      · obtain rfl : j = 6 := by omega
        go_wp2
        refine bodyPost_ret (v := .tuple #[.slice (some ⟨CB, 0, none⟩) 6 6, .int .i64 0]) (by simp [results, Tryz.results22, go_sem]) rfl ?_
        rw [HQ.out.1, HQ.out.2]
        refine ⟨_, _, _, rfl, ?_, below_le HB.out Q2.out⟩
        have := Q1.out.row
        simpa [cntTo_len] using this

/-! ### Same -/
theorem take_eq_tab {xs ys : List (List Int)} {k : Nat} {x y : List Int} (hx : xs[k]? = some x) (hy : ys[k]? = some y) (h : xs.take k = ys.take k) : xs.take (k + 1) = ys.take (k + 1) ↔ x = y := by
  have hxl := (List.getElem?_eq_some_iff.1 hx).1
  have hyl := (List.getElem?_eq_some_iff.1 hy).1
  rw [List.take_succ_eq_append_getElem hxl, List.take_succ_eq_append_getElem hyl, h]
  rw [List.getElem?_eq_getElem hxl] at hx
  rw [List.getElem?_eq_getElem hyl] at hy
  cases hx
  cases hy
  constructor
  · intro e
    have := List.append_cancel_left e
    simpa using this
  · intro e
    rw [e]

def psameB (l l' : List Int) (ts ts' : List (List Int)) : Bool := decide (l = l') && decide (ts = ts')


end Go.Proofs.YtllanbggjfmfhaaGreatDoor
