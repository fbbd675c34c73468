/-
  What is proved: StartsAll returns true. No condition beyond those stated.
-/
import Derived.Test.YtelbddnjnapoeaaDoorDt
namespace Go.Proofs.YtelbddnjnapoeaaDoor
open Go.RowKit Go.Shelf

theorem beq_dec (x a : Int) : (x == a) = decide (a = x) := by
  by_cases h : x = a
  · subst h; simp
  · rw [decide_eq_false fun e => h e.symm]; simpa using h
theorem all_eq {n : Int} {ws : List Nat} (hr : sRight n ws = true) : allL n ws = (listN n ws).map fun i : Nat => (i : Int) * 8 := by
  rw [allL, eachL, if_pos hr]
  exact List.filter_eq_self.2 fun _ _ => rfl
theorem all_mem (n : Int) (ws : List Nat) (a : Int) : a ∈ allL n ws ↔ sHas n ws a = true := by
  cases hr : sRight n ws
  · simp [allL, eachL, sHas, hr]
  · have h := (sRight_elim hr).2.2.2
    rw [all_eq hr]
    simp only [List.mem_map, listN, h, if_true, List.mem_filter, List.mem_range, sHas, hr, hasB, Bool.true_and, Bool.and_eq_true, decide_eq_true_eq]
    constructor
    · rintro ⟨i, ⟨h1, h2⟩, rfl⟩
      have e : (i : Int) * 8 / 8 = i := by omega
      rw [e]
      exact ⟨⟨by omega, by omega⟩, ⟨by omega, by omega⟩, by simpa using h2⟩
    · rintro ⟨⟨h1, h2⟩, ⟨h3, h4⟩, h5⟩
      exact ⟨(a / 8).toNat, ⟨by omega, h5⟩, by omega⟩
theorem all_len {n : Int} {ws : List Nat} (hr : sRight n ws = true) : (allL n ws).length = countN n ws := by
  have h := (sRight_elim hr).2.2.2
  rw [count_eq h, List.countP_eq_length_filter, all_eq hr]
  simp [listN, h]
theorem all_wrong {n : Int} {ws : List Nat} (hr : sRight n ws = false) : allL n ws = [] := by simp [allL, eachL, hr]

set_option maxRecDepth 100000 in
set_option maxHeartbeats 4000000 in
theorem startsAll_any (A : Option Addr) (m c : Nat) (n : Int) (ws : List Nat) (a : Int) (aA aB aP aS : Addr) (w : World) (hB : BSent w aA aB aP) (hS : SSent w aS) (hR : Row w A m (ws.map U32)) (hF : Fits ws) (hc : m ≤ c) (ha : a ≤ 9223372036854775807) :
    Calls Tryd.prog 8 #[.agg #[.int .i64 n, .slice A m c], .int .i64 a] w (Holds w) := by
  have hx := below_box w (.cells #[.int .i64 n, .slice A m c] 24)
  have k0 : (w.alloc (.cells #[.int .i64 n, .slice A m c] 24)).cell? ⟨w.heap.size, 0, none⟩ = some (.int .i64 n) := by simp [go_sem]
  have k1 : (w.alloc (.cells #[.int .i64 n, .slice A m c] 24)).cell? ⟨w.heap.size, 1, none⟩ = some (.slice A m c) := by simp [go_sem]
  have hbl : Blk (w.alloc (.cells #[.int .i64 n, .slice A m c] 24)) w.heap.size 24 #[.int .i64 n, .slice A m c] := heap_new rfl _
  have HS := Lib.hid hS
  have HBS := Lib.hid hB
  have HR := Lib.hid (srow_cut hR)
  have hm50 : min m 50 ≤ 50 := Nat.min_le_right _ _
  have HF := Lib.hid (fits_take hF 50)
  generalize ws.take 50 = vs at HR HF
  have HB := Lib.hid hx
  have HBL := Lib.hid hbl
  clear hS hB hR hx hbl hF
  go_enter Tryd.func8, Tryd.ntmps8
  go_wp2_with fail
  generalize w.alloc (.cells #[.int .i64 n, .slice A m c] 24) = W0 at *
  refine (sshown_any aA aB aP aS W0 (HBS.out.ext HB.out) (HS.out.ext HB.out)).mono ?_
  rintro e w1 ⟨rfl, hb1⟩
  have e0 := cell_ext hb1 k0
  have e1 := cell_ext hb1 k1
  have HBL1 := Lib.hid (HBL.out.ext hb1)
  have HB1 := Lib.hid (below_le HB.out hb1)
  clear hb1 k0 k1 HBL HB
  go_wp2_with fail
  refine (scut_any A m c n w1 hc).mono ?_
  rintro e w2 ⟨⟨c', rfl⟩, hb2⟩
  generalize min m 50 = m' at *
  have h2 := HBL1.out.ext hb2
  have f0 := h2.frozen 0
  have f1 := h2.frozen 1
  have d0 := h2.cell 0
  have d1 := h2.cell 1
  have h3 := (h2.set_ 0 (.int .i64 n)).set_ 1 (.slice A m' c')
  have hb3 : Below w.heap.size w ((w2.setCell ⟨w.heap.size, 0, none⟩ (.int .i64 n)).setCell ⟨w.heap.size, 1, none⟩ (.slice A m' c')) :=
    ((below_le HB1.out hb2).setCell (p := ⟨w.heap.size, 0, none⟩) (Nat.le_refl _) _).setCell (p := ⟨w.heap.size, 1, none⟩) (Nat.le_refl _) _
  have k0 := h3.cell 0
  have k1 := h3.cell 1
  simp at k0 k1
  have H3 := Lib.hid h3
  have HB3 := Lib.hid hb3
  clear h2 h3 hb2 hb3 HB1 HBL1 e0 e1
  go_wp2_with fail
  generalize (w2.setCell ⟨w.heap.size, 0, none⟩ (.int .i64 n)).setCell ⟨w.heap.size, 1, none⟩ (.slice A m' c') = W3 at *
  clear f0 f1 d0 d1
  have hme := all_mem n vs a
  have hln := all_len (n := n) (ws := vs)
  have hwr := all_wrong (n := n) (ws := vs)
  have hle := eachL_le n vs (fun _ => true)
  have hall := sall_any A m' c' n vs W3 (HR.out.ext HB3.out) HF.out
  change (allL n vs).length ≤ 16384 at hle
  generalize allL n vs = L at *
  refine hall.mono ?_
  clear hall
  rintro e w4 ⟨C, q, f, rfl, hRl, hb4⟩
  have hql := hRl.1
  simp at hql
  have e0 := cell_ext hb4 k0
  have e1 := cell_ext hb4 k1
  have HB4 := Lib.hid (below_le HB3.out hb4)
  have HRL := Lib.hid hRl
  have HME := Lib.hid hme
  have HLN := Lib.hid hln
  have HWR := Lib.hid hwr
  have HQL := Lib.hid hql
  have hq : q ≤ 16384 := by omega
  clear hRl hb4 k0 k1 hme hln hwr hql hle
  go_wp2
  go_loop [7, 8] (fun b i => ∃ k : Nat, k ≤ q ∧ i = .int .i64 k ∧ b = .bool (decide (a ∈ L.take k))) (fun _ i => q - (intOf i).toNat)
  case atStart => exact ⟨0, Nat.zero_le _, rfl, by simp⟩
  case round =>
    obtain ⟨k, hk, rfl, rfl⟩ := hrel
    by_cases hlt : k < q
    · obtain ⟨b, off, x, rfl, hcx, -, hx⟩ := num_at HRL.out hlt
      have hts : L.take (k + 1) = L.take k ++ [x] := by rw [List.take_add_one, hx]; rfl
      have HTS := Lib.hid hts
      clear hts hx
      by_cases hin : a ∈ L.take k
      · rw [decide_eq_true hin]
        have HIN := Lib.hid hin
        clear hin
        go_wp2
        go_round
        case rel => exact ⟨k + 1, by omega, by go_num, by rw [HTS.out]; simp [HIN.out]⟩
        case measure => simp [intOf]; omega
      · rw [decide_eq_false hin]
        have HIN := Lib.hid hin
        clear hin
        go_wp2
        go_round
        case rel => exact ⟨k + 1, by omega, by go_num, by rw [HTS.out]; simp [HIN.out]; exact beq_dec x a⟩
        case measure => simp [intOf]; omega
    · have hkq : L.take k = L := List.take_of_length_le (by have := HQL.out; omega)
      rw [hkq]
      have hdec : decide (a ∈ L) = sHas n vs a := by
        have := HME.out
        cases h : sHas n vs a
        · rw [h] at this; simpa using this
        · rw [h] at this; simpa using this
      rw [hdec]
      clear hkq hdec
      have hha := shas_any A m' c' n vs a ha w4 (HR.out.ext HB4.out) HF.out
      go_wp2_with fail
      generalize sHas n vs a = d at *
      refine hha.mono ?_
      clear hha
      rintro e w5 ⟨rfl, hb5⟩
      have k0 := cell_ext hb5 e0
      have k1 := cell_ext hb5 e1
      have HB5 := Lib.hid (below_le HB4.out hb5)
      have hdd : (d == d) = true := by simp
      clear hb5 e0 e1
      have hri := sright_any A m' c' n vs w5 (HR.out.ext HB5.out) HF.out
      go_wp2_with fail
      cases hr : sRight n vs
      · rw [hr] at hri
        have hL0 := HWR.out hr
        have hq0 : q = 0 := by have := HQL.out; rw [hL0] at this; simpa using this.symm
        subst hq0
        clear hL0
        refine hri.mono ?_
        clear hri
        rintro e w6 ⟨rfl, hb6⟩
        have e0 := cell_ext hb6 k0
        have e1 := cell_ext hb6 k1
        have HB6 := Lib.hid (below_le HB5.out hb6)
        clear hb6 k0 k1
        have hri := sright_any A m' c' n vs w6 (HR.out.ext HB6.out) HF.out
        rw [hr] at hri
        clear hr
        go_wp2_with fail
        refine hri.mono ?_
        clear hri
        rintro e w7 ⟨rfl, hb7⟩
        have HB7 := Lib.hid (below_le HB6.out hb7)
        clear hb7
        go_wp2
        go_ret
        exact ⟨ret_bool (by simp), HB7.out⟩
      · rw [hr] at hri
        have hL1 := HLN.out hr
        refine hri.mono ?_
        clear hri
        rintro e w6 ⟨rfl, hb6⟩
        have e0 := cell_ext hb6 k0
        have e1 := cell_ext hb6 k1
        have HB6 := Lib.hid (below_le HB5.out hb6)
        clear hb6 k0 k1
        have hct := count_any A m' c' n vs w6 (HR.out.ext HB6.out) HF.out
        rw [← hL1, HQL.out] at hct
        clear hr hL1
        go_wp2_with fail
        refine hct.mono ?_
        clear hct
        rintro e w7 ⟨rfl, hb7⟩
        have HB7 := Lib.hid (below_le HB6.out hb7)
        clear hb7
        go_wp2
        go_ret
        exact ⟨ret_bool (by simp), HB7.out⟩

end Go.Proofs.YtelbddnjnapoeaaDoor
