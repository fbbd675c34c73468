/-
  What is proved: contracts of Counts and Same of package pool, and of slices.Equal and slices.EqualFunc there. No condition beyond those stated.
-/
import Derived.Test.YtllanbggjfmfhaaDoorHj
namespace Go.Proofs.YtllanbggjfmfhaaDoor
open Go.RowKit Go.Shelf

/-- How many have which state, of the first ones. -/
def cntTo (l : List Int) (j : Nat) : List Int := (List.range 6).map fun i : Nat => if i < j then (countL l (i : Int) : Int) else 0
def pcL (l : List Int) (ts : List (List Int)) : List Int := if pRight l ts then cntTo l 6 else []
def pcC (l : List Int) (ts : List (List Int)) : Nat := if pRight l ts then 0 else 100
theorem cntTo_len (l : List Int) (j : Nat) : (cntTo l j).length = 6 := by simp [cntTo]
theorem cntTo_zero (l : List Int) : cntTo l 0 = List.replicate 6 0 := by simp [cntTo, List.map_const']
theorem cntTo_succ (l : List Int) (j : Nat) : (cntTo l j).set j (countL l (j : Int) : Int) = cntTo l (j + 1) := by
  apply List.ext_getElem
  · simp [cntTo]
  · intro i h1 h2
    simp [cntTo, List.getElem_set]
    by_cases e : j = i
    · simp [e]
    · simp [e]
      by_cases hi : i < j
      · simp [hi, show i < j + 1 by omega]
      · simp [hi, show ¬ i < j + 1 by omega]

/-- A list, and a number. -/
def GivesCnt (w : World) (l : List Int) (code : Nat) (e : Ending) (w' : World) : Prop := ∃ A m c, e = .returned (.tuple #[.slice A m c, .int .i64 code]) ∧ Row w' A m (l.map Iv) ∧ Below w.heap.size w w'

set_option maxRecDepth 100000 in
set_option maxHeartbeats 2000000 in
/-- pool.Counts. -/
theorem pcounts_any (S : Option Addr) (m c : Nat) (T : Option Addr) (k d : Nat) (l : List Int) (ts : List (List Int)) (w : World) (hE : EType w) (hS : Row w S m (l.map Iv)) (hT : Tabs w T k ts) (hm : m ≤ 1000) (hk : k ≤ 1000) :
    Calls Tryd.prog 15 #[.agg #[.slice S m c, .slice T k d]] w (GivesCnt w (pcL l ts) (pcC l ts)) := by
  have hb0 := below_box w (.cells #[.slice S m c, .slice T k d] 25)
  have k0 : (w.alloc (.cells #[.slice S m c, .slice T k d] 25)).cell? ⟨w.heap.size, 0, none⟩ = some (.slice S m c) := by simp [go_sem]
  have hcall := pright_any S m c T k d l ts _ (hS.ext hb0) (hT.ext hb0) hm hk
  have HS := Lib.hid (hS.ext hb0)
  have HB := Lib.hid hb0
  have HE := Lib.hid (hE.ext hb0)
  have HC := Lib.hid hcall
  clear hS hT hb0 hcall hE
  cases hp : pRight l ts
  · have hcall := HC.out
    rw [hp] at hcall
    have HQ := Lib.hid (show pcL l ts = [] ∧ pcC l ts = 100 by unfold pcL pcC; rw [hp]; exact ⟨rfl, rfl⟩)
    clear hp HC
    go_enter Tryd.func15, Tryd.ntmps15
    go_wp2_with fail
    generalize w.alloc (.cells #[.slice S m c, .slice T k d] 25) = W0 at *
    refine hcall.mono ?_
    clear hcall
    rintro e w1 ⟨rfl, hb1⟩
    have HB1 := Lib.hid hb1
    clear hb1
    go_wp2_with fail
    refine (refuse_pool _ 100 (by omega) w1).mono ?_
    rintro e w3 ⟨v, rfl, hv, hb3⟩
    have hnum := number_pool 100 v w3 hv (HE.out.ext (below_le HB1.out hb3))
    have HB3 := Lib.hid (below_le HB1.out hb3)
    clear hv hb3
    go_wp2_with fail
    refine hnum.mono ?_
    clear hnum
    rintro e w4 ⟨rfl, hb4⟩
    have HB4 := Lib.hid (below_le HB.out (below_le HB3.out hb4))
    clear hb4
    go_wp2
    refine bodyPost_ret (v := .tuple #[.slice none 0 0, .int .i64 100]) (by simp [results, Tryd.results15, go_sem]) rfl ?_
    rw [HQ.out.1, HQ.out.2]
    exact ⟨_, _, _, rfl, Row.none_, HB4.out⟩
  · have hcall := HC.out
    rw [hp] at hcall
    have hrt := (whole_iff.1 (pright_whole hp).1).1
    have HWF := Lib.hid (right_wf hrt)
    have HQ := Lib.hid (show pcL l ts = cntTo l 6 ∧ pcC l ts = 0 by unfold pcL pcC; rw [hp]; exact ⟨rfl, rfl⟩)
    have hmk := run_make_ints 6 (by omega) (by omega)
    clear hp HC hrt
    go_enter Tryd.func15, Tryd.ntmps15
    go_wp2_with fail
    generalize w.alloc (.cells #[.slice S m c, .slice T k d] 25) = W0 at *
    refine hcall.mono ?_
    clear hcall
    rintro e w1 ⟨rfl, hb1⟩
    have hx1 := below_box w1 (.cells (zerosI 6) 3)
    have hblk : Blk (w1.alloc (.cells (zerosI 6) 3)) w1.heap.size 3 ((cntTo l 0).map Iv).toArray := by rw [cntTo_zero, ← zeros_iv]; exact Blk.new _ _ _
    have K0 := Lib.hid k0
    have HBK := Lib.hid hblk
    have HB1 := Lib.hid (below_le hb1 hx1)
    have hlt : W0.heap.size ≤ w1.heap.size := hb1.size
    have hlt0 : w.heap.size < W0.heap.size := lt_of_cell k0
    clear hb1 hx1 hblk k0
    go_wp2
    change Code.wp _ _ _ _ (w1.alloc (.cells (zerosI 6) 3))
    generalize w1.alloc (.cells (zerosI 6) 3) = W1 at *
    generalize w1.heap.size = CB at *
    go_loopw [14] (fun i wr => ∃ j : Nat, j ≤ 6 ∧ i = .int .i64 j ∧ Blk wr CB 3 ((cntTo l j).map Iv).toArray ∧ Below W0.heap.size W0 wr) (fun i _ => 6 - (intOf i).toNat)
    case atStart => exact ⟨0, Nat.zero_le _, rfl, HBK.out, HB1.out⟩
    case round =>
      obtain ⟨j, hj, rfl, q1, q2⟩ := hrel
      have Q1 := Lib.hid q1
      have Q2 := Lib.hid q2
      clear q1 q2
      by_cases hlt : j < 6
      · have p0 := cell_ext Q2.out K0.out
        have hcall := count_any S m c l (j : Int) wr (HS.out.ext Q2.out) hm HWF.out (wf_small (by omega) (by omega))
        have hle := count_len l (j : Int)
        generalize hcn : countL l (j : Int) = cn at *
        have hset := cntTo_succ l j
        rw [hcn] at hset
        have HSET := Lib.hid hset
        clear hset hcn
        go_wp2_with fail
        refine hcall.mono ?_
        clear hcall
        rintro e w3 ⟨rfl, hb3⟩
        have hbk := Q1.out.ext hb3
        have d0 := hbk.cell j
        have f0 := hbk.frozen j
        rw [List.getElem?_toArray, List.getElem?_map, List.getElem?_eq_getElem (by rw [cntTo_len]; exact hlt)] at d0
        have hb4 := hbk.set_ j (.int .i64 (cn : Int))
        rw [List.setIfInBounds_toArray, show (Value.int .i64 (cn : Int)) = Iv (cn : Int) from rfl, ← List.map_set, HSET.out] at hb4
        have H4 := Lib.hid hb4
        have H5 := Lib.hid ((below_le Q2.out hb3).setCell (p := ⟨CB, j, none⟩) (by show W0.heap.size ≤ CB; omega) (.int .i64 (cn : Int)))
        simp only [Iv] at H4
        clear hbk hb4 hb3
        go_wp2
        go_roundw
        case rel => exact ⟨j + 1, by omega, by go_num, H4.out, H5.out⟩
        case measure => simp [intOf]; omega
      · obtain rfl : j = 6 := by omega
        go_wp2
        refine bodyPost_ret (v := .tuple #[.slice (some ⟨CB, 0, none⟩) 6 6, .int .i64 0]) (by simp [results, Tryd.results15, go_sem]) rfl ?_
        rw [HQ.out.1, HQ.out.2]
        refine ⟨_, _, _, rfl, ?_, below_le HB.out Q2.out⟩
        have := Q1.out.row
        simpa [cntTo_len] using this

/-! ### Same -/
set_option maxHeartbeats 1000000 in
theorem equal_any (A B : Option Addr) (n c m d : Nat) (xs ys : List Int) (w : World) (hA : Row w A n (xs.map Iv)) (hB : Row w B m (ys.map Iv)) (hn : n ≤ 1000) (hm : m ≤ 1000) :
    Calls Tryd.prog 50 #[.slice A n c, .slice B m d] w fun e w' => e = .returned (.bool (decide (xs = ys))) ∧ Below w.heap.size w w' := by
  have hx := hA.1
  have hy := hB.1
  simp at hx hy
  by_cases he : n = m
  · subst he
    have hq : ((n : Int) != (n : Int)) = false := by simp
    have HA := Lib.hid hA
    have HB := Lib.hid hB
    have HX := Lib.hid hx
    have HY := Lib.hid hy
    clear hA hB hx hy
    go_enter Tryd.func50, Tryd.ntmps50
    go_wp2
    go_loopw [13] (fun i wr => ∃ k : Nat, k ≤ n ∧ i = .int .i64 k ∧ xs.take k = ys.take k ∧ Below w.heap.size w wr) (fun i _ => n - (intOf i).toNat)
    case atStart => exact ⟨0, Nat.zero_le _, rfl, rfl, Below.refl _ _⟩
    case round =>
      obtain ⟨k, hk, rfl, ht, hb⟩ := hrel
      have HT := Lib.hid ht
      have Hb := Lib.hid hb
      clear ht hb
      by_cases hlt : k < n
      · obtain ⟨b1, o1, x, rfl, c1, e1, -⟩ := num_at (HA.out.ext Hb.out) hlt
        obtain ⟨b2, o2, y, rfl, c2, e2, -⟩ := num_at (HB.out.ext Hb.out) hlt
        have E1 := Lib.hid e1
        have E2 := Lib.hid e2
        clear e1 e2
        have t1 := fun z : Ext wr => ext_cell c1 z
        have t2 := fun z : Ext wr => ext_cell c2 z
        clear c1 c2
        by_cases hxy : x = y
        · have hd : (x != y) = false := by simpa using hxy
          have HXY := Lib.hid hxy
          clear hxy
          go_wp2
          refine wp_region_plan [(0, true), (1, true), (2, true), (3, true), (4, true), (5, true), (6, true), (7, true), (8, true)] (by kernel_rfl) (by kernel_rfl) ?_
          repeat (first | (refine plan_skip rfl rfl ?_; go_frame) | (refine plan_soft rfl rfl (fun K hK => ?_); go_simp; first | (refine hK _ ?_; clear hK K) | (apply Exists.intro; refine ⟨fun x => ?_, hK _ ?_⟩; (· (fail)); clear hK K; try go_frame)))
          refine plan_nil ?_; intro w1 h0b; have Hb1 := Lib.hid h0b; clear h0b
          clear t1 t2
          go_wp2
          go_roundw
          case rel => exact ⟨k + 1, by omega, by go_num, (take_eq_next (by have := HX.out; omega) (by have := HY.out; omega) HT.out).2 (by rw [E1.out, E2.out]; exact HXY.out), below_le Hb.out Hb1.out⟩
          case measure => simp [intOf]; omega
        · have hd : (x != y) = true := by simpa using hxy
          have HXY := Lib.hid hxy
          clear hxy
          go_wp2
          refine wp_region_plan [(0, true), (1, true), (2, true), (3, true), (4, true), (5, true), (6, true), (7, true), (8, true)] (by kernel_rfl) (by kernel_rfl) ?_
          repeat (first | (refine plan_skip rfl rfl ?_; go_frame) | (refine plan_soft rfl rfl (fun K hK => ?_); go_simp; first | (refine hK _ ?_; clear hK K) | (apply Exists.intro; refine ⟨fun x => ?_, hK _ ?_⟩; (· (fail)); clear hK K; try go_frame)))
          refine plan_nil ?_; intro w1 h0b; have Hb1 := Lib.hid h0b; clear h0b
          clear t1 t2
          go_wp2
          go_ret
          refine ⟨ret_bool ?_, below_le Hb.out Hb1.out⟩
          have hne : ¬ xs = ys := fun e => HXY.out (by rw [← E1.out, ← E2.out, e])
          simp [hne]
      · go_wp2
        go_ret
        refine ⟨ret_bool ?_, Hb.out⟩
        have h1 := HT.out
        rw [List.take_of_length_le (by have := HX.out; omega), List.take_of_length_le (by have := HY.out; omega)] at h1
        simp [h1]
  · have hq : ((n : Int) != (m : Int)) = true := by simp; omega
    have hne : ¬ xs = ys := fun e => he (by rw [← hx, ← hy, e])
    have HN := Lib.hid hne
    clear hne he hx hy hA hB
    go_enter Tryd.func50, Tryd.ntmps50
    go_wp2
    go_ret
    exact ⟨ret_bool (by simp [HN.out]), Below.refl _ _⟩

set_option maxHeartbeats 400000 in
theorem same1_any (A B : Option Addr) (n c m d : Nat) (xs ys : List Int) (w : World) (hA : Row w A n (xs.map Iv)) (hB : Row w B m (ys.map Iv)) (hn : n ≤ 1000) (hm : m ≤ 1000) :
    Calls Tryd.prog 52 #[.slice A n c, .slice B m d] w fun e w' => e = .returned (.bool (decide (xs = ys))) ∧ Below w.heap.size w w' := by
  have hcall := equal_any A B n c m d xs ys w hA hB hn hm
  clear hA hB
  generalize decide (xs = ys) = r at *
  go_enter Tryd.func52, Tryd.ntmps52
  go_wp2_with fail
  refine hcall.mono ?_
  clear hcall
  rintro e w1 ⟨rfl, hb⟩
  have HB := Lib.hid hb
  clear hb
  go_wp2
  go_ret
  exact ⟨rfl, HB.out⟩

theorem take_eq_tab {xs ys : List (List Int)} {k : Nat} {x y : List Int} (hx : xs[k]? = some x) (hy : ys[k]? = some y) (h : xs.take k = ys.take k) : xs.take (k + 1) = ys.take (k + 1) ↔ x = y := by
  have hxl := (List.getElem?_eq_some_iff.1 hx).1
  have hyl := (List.getElem?_eq_some_iff.1 hy).1
  rw [List.take_succ_eq_append_getElem hxl, List.take_succ_eq_append_getElem hyl, h]
  rw [List.getElem?_eq_getElem hxl] at hx
  rw [List.getElem?_eq_getElem hyl] at hy
  cases hx
  cases hy
  constructor
  · intro e
    have := List.append_cancel_left e
    simpa using this
  · intro e
    rw [e]

theorem enters_same : ∀ args W, (callFunc 52 args).run Tryd.prog W = .ok (.enter 52 args) W := fun args W => by simp [go_sem]

set_option maxHeartbeats 1000000 in
theorem equalF_any (A B : Option Addr) (n c m d : Nat) (xs ys : List (List Int)) (w : World) (hA : Tabs w A n xs) (hB : Tabs w B m ys) (hn : n ≤ 1000) (hm : m ≤ 1000) :
    Calls Tryd.prog 51 #[.slice A n c, .slice B m d, .func (.func 52) #[] #[]] w fun e w' => e = .returned (.bool (decide (xs = ys))) ∧ Below w.heap.size w w' := by
  have hx := hA.1
  have hy := hB.1
  by_cases he : n = m
  · subst he
    have hq : ((n : Int) != (n : Int)) = false := by simp
    have HA := Lib.hid hA
    have HB := Lib.hid hB
    have HX := Lib.hid hx
    have HY := Lib.hid hy
    clear hA hB hx hy
    go_enter Tryd.func51, Tryd.ntmps51
    go_wp2
    go_loopw [17] (fun i wr => ∃ k : Nat, k ≤ n ∧ i = .int .i64 k ∧ xs.take k = ys.take k ∧ Below w.heap.size w wr) (fun i _ => n - (intOf i).toNat)
    case atStart => exact ⟨0, Nat.zero_le _, rfl, rfl, Below.refl _ _⟩
    case round =>
      obtain ⟨k, hk, rfl, ht, hb⟩ := hrel
      have HT := Lib.hid ht
      have Hb := Lib.hid hb
      clear ht hb
      by_cases hlt : k < n
      · obtain ⟨b1, o1, A1, n1, c1, x, rfl, hc1, -, hn1, hR1, hx1, -⟩ := (HA.out.ext Hb.out).at_ hlt
        obtain ⟨b2, o2, A2, n2, c2, y, rfl, hc2, -, hn2, hR2, hy1, -⟩ := (HB.out.ext Hb.out).at_ hlt
        have hcall := same1_any A1 A2 n1 c1 n2 c2 x y wr hR1 hR2 hn1 hn2
        have HX1 := Lib.hid hx1
        have HY1 := Lib.hid hy1
        clear hx1 hy1 hR1 hR2
        by_cases hxy : x = y
        · rw [decide_eq_true hxy] at hcall
          have HXY := Lib.hid hxy
          clear hxy
          go_wp2_with fail
          refine hcall.mono ?_
          clear hcall
          rintro e w1 ⟨rfl, hb1⟩
          have Hb1 := Lib.hid hb1
          clear hb1
          go_wp2
          go_roundw
          case rel => exact ⟨k + 1, by omega, by go_num, (take_eq_tab HX1.out HY1.out HT.out).2 HXY.out, below_le Hb.out Hb1.out⟩
          case measure => simp [intOf]; omega
        · rw [decide_eq_false hxy] at hcall
          have HXY := Lib.hid hxy
          clear hxy
          go_wp2_with fail
          refine hcall.mono ?_
          clear hcall
          rintro e w1 ⟨rfl, hb1⟩
          have Hb1 := Lib.hid hb1
          clear hb1
          go_wp2
          go_ret
          refine ⟨ret_bool ?_, below_le Hb.out Hb1.out⟩
          have hne : ¬ xs = ys := fun e => by
            subst e
            have := HX1.out.symm.trans HY1.out
            exact HXY.out (Option.some.inj this)
          simp [hne]
      · go_wp2
        go_ret
        refine ⟨ret_bool ?_, Hb.out⟩
        have h1 := HT.out
        rw [List.take_of_length_le (by have := HX.out; omega), List.take_of_length_le (by have := HY.out; omega)] at h1
        simp [h1]
  · have hq : ((n : Int) != (m : Int)) = true := by simp; omega
    have hne : ¬ xs = ys := fun e => he (by rw [← hx, ← hy, e])
    have HN := Lib.hid hne
    clear hne he hx hy hA hB
    go_enter Tryd.func51, Tryd.ntmps51
    go_wp2
    go_ret
    exact ⟨ret_bool (by simp [HN.out]), Below.refl _ _⟩

def psameB (l l' : List Int) (ts ts' : List (List Int)) : Bool := decide (l = l') && decide (ts = ts')

set_option maxHeartbeats 1000000 in
/-- pool.Same. -/
theorem psame_any (S : Option Addr) (m c : Nat) (T : Option Addr) (k d : Nat) (S' : Option Addr) (m' c' : Nat) (T' : Option Addr) (k' d' : Nat) (l l' : List Int) (ts ts' : List (List Int)) (w : World) (hS : Row w S m (l.map Iv)) (hT : Tabs w T k ts) (hS' : Row w S' m' (l'.map Iv)) (hT' : Tabs w T' k' ts')
    (hm : m ≤ 1000) (hk : k ≤ 1000) (hm' : m' ≤ 1000) (hk' : k' ≤ 1000) :
    Calls Tryd.prog 24 #[.agg #[.slice S m c, .slice T k d], .agg #[.slice S' m' c', .slice T' k' d']] w fun e w' => e = .returned (.bool (psameB l l' ts ts')) ∧ Below w.heap.size w w' := by
  have hb0 : Below w.heap.size w ((w.alloc (.cells #[.slice S m c, .slice T k d] 25)).alloc (.cells #[.slice S' m' c', .slice T' k' d'] 25)) := below_le (below_box _ _) (below_box _ _)
  have h1 : Blk ((w.alloc (.cells #[.slice S m c, .slice T k d] 25)).alloc (.cells #[.slice S' m' c', .slice T' k' d'] 25)) w.heap.size 25 #[.slice S m c, .slice T k d] := Blk.alloc (heap_new rfl _) _
  have h2 : Blk ((w.alloc (.cells #[.slice S m c, .slice T k d] 25)).alloc (.cells #[.slice S' m' c', .slice T' k' d'] 25)) (w.heap.size + 1) 25 #[.slice S' m' c', .slice T' k' d'] := heap_new (by simp) _
  have hcall := equal_any S S' m c m' c' l l' _ (hS.ext hb0) (hS'.ext hb0) hm hm'
  have HT := Lib.hid (hT.ext hb0)
  have HT' := Lib.hid (hT'.ext hb0)
  have HB := Lib.hid hb0
  have H1 := Lib.hid h1
  have H2 := Lib.hid h2
  have HC := Lib.hid hcall
  unfold psameB
  clear hS hS' hT hT' hb0 h1 h2 hcall
  by_cases hl : l = l'
  · have hcall := HC.out
    rw [decide_eq_true hl] at hcall ⊢
    clear hl HC
    go_enter Tryd.func24, Tryd.ntmps24
    go_wp2_with fail
    generalize (w.alloc (.cells #[.slice S m c, .slice T k d] 25)).alloc (.cells #[.slice S' m' c', .slice T' k' d'] 25) = W0 at *
    refine hcall.mono ?_
    clear hcall
    rintro e w1 ⟨rfl, hb1⟩
    have k1 := (H1.out.ext hb1).cell 1
    have k2 := (H2.out.ext hb1).cell 1
    simp at k1 k2
    have hcall := equalF_any T T' k d k' d' ts ts' w1 (HT.out.ext hb1) (HT'.out.ext hb1) hk hk'
    generalize hr : decide (ts = ts') = r at *
    have HR := Lib.hid hr
    have HB1 := Lib.hid (below_le HB.out hb1)
    clear hb1 hr
    go_wp2_with fail
    refine hcall.mono ?_
    clear hcall
    rintro e w2 ⟨rfl, hb2⟩
    have HB2 := Lib.hid (below_le HB1.out hb2)
    clear hb2
    go_wp2
    go_ret
    exact ⟨ret_bool (by rw [HR.out]; simp), HB2.out⟩
  · have hcall := HC.out
    rw [decide_eq_false hl] at hcall ⊢
    clear hl HC
    go_enter Tryd.func24, Tryd.ntmps24
    go_wp2_with fail
    generalize (w.alloc (.cells #[.slice S m c, .slice T k d] 25)).alloc (.cells #[.slice S' m' c', .slice T' k' d'] 25) = W0 at *
    refine hcall.mono ?_
    clear hcall
    rintro e w1 ⟨rfl, hb1⟩
    have HB1 := Lib.hid (below_le HB.out hb1)
    clear hb1
    go_wp2
    go_ret
    exact ⟨ret_bool (by simp), HB1.out⟩

end Go.Proofs.YtllanbggjfmfhaaDoor
