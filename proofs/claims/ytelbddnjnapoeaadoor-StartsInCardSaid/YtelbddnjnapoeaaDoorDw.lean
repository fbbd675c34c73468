/-
  What is proved: plain facts of starts' lists; StartsBefore returns true. No condition beyond those stated.
-/
import Derived.Test.YtelbddnjnapoeaaDoorDu
namespace Go.Proofs.YtelbddnjnapoeaaDoor
open Go.RowKit Go.Shelf

theorem all_sorted (n : Int) (ws : List Nat) : (allL n ws).Pairwise (· < ·) := by
  cases hr : sRight n ws
  · rw [all_wrong hr]; exact List.Pairwise.nil
  · rw [all_eq hr, listN, if_pos (sRight_elim hr).2.2.2]
    exact List.Pairwise.map _ (fun a b (h : a < b) => by omega) (List.pairwise_lt_range.filter _)
theorem in_eq (n : Int) (ws : List Nat) (lo hi : Int) : inL n ws lo hi = (allL n ws).filter fun a => decide (lo ≤ a) && decide (a < hi) := by
  cases hr : sRight n ws
  · rw [all_wrong hr]; simp [inL, eachL, hr]
  · rw [all_eq hr, inL, eachL, if_pos hr]
theorem all_bound {n : Int} {ws : List Nat} {x : Int} (h : x ∈ allL n ws) : 0 ≤ x ∧ x < 131072 := by
  cases hr : sRight n ws
  · rw [all_wrong hr] at h; cases h
  · have := sRight_elim hr
    rw [all_eq hr, listN, if_pos this.2.2.2] at h
    obtain ⟨i, hi, rfl⟩ := List.mem_map.1 h
    have := List.mem_range.1 (List.mem_filter.1 hi).1
    omega
theorem upTo_mem {L : List Int} (hs : L.Pairwise (· < ·)) {a x : Int} : x ∈ upTo L a ↔ x ∈ L ∧ x ≤ a := by
  induction L with
  | nil => simp [upTo]
  | cons y L ih =>
    rw [upTo_cons]
    obtain ⟨h1, h2⟩ := List.pairwise_cons.1 hs
    by_cases hy : y ≤ a
    · rw [if_pos hy, List.mem_cons, ih h2, List.mem_cons]
      constructor
      · rintro (rfl | ⟨h3, h4⟩)
        · exact ⟨.inl rfl, hy⟩
        · exact ⟨.inr h3, h4⟩
      · rintro ⟨rfl | h3, h4⟩
        · exact .inl rfl
        · exact .inr ⟨h3, h4⟩
    · rw [if_neg hy]
      constructor
      · intro h; cases h
      · rintro ⟨h3, h4⟩
        rcases List.mem_cons.1 h3 with rfl | h3
        · exact absurd h4 hy
        · have := h1 x h3; omega
theorem upTo_sorted {L : List Int} (hs : L.Pairwise (· < ·)) (a : Int) : (upTo L a).Pairwise (· < ·) := hs.sublist (List.takeWhile_sublist _)
theorem last_max {U : List Int} (hs : U.Pairwise (· < ·)) (hU : U ≠ []) : U.getLastD 0 ∈ U ∧ ∀ x ∈ U, x ≤ U.getLastD 0 := by
  have e := List.dropLast_concat_getLast hU
  have el : U.getLastD 0 = U.getLast hU := by rw [List.getLastD_eq_getLast?, List.getLast?_eq_some_getLast hU]; rfl
  rw [el]
  refine ⟨List.getLast_mem hU, fun x hx => ?_⟩
  rw [← e] at hs hx
  rcases List.mem_append.1 hx with h | h
  · exact Int.le_of_lt ((List.pairwise_append.1 hs).2.2 x h _ (by simp))
  · rw [List.mem_singleton.1 h]; simp
theorem one_of {L : List Int} (hs : L.Pairwise (· < ·)) {x : Int} (hx : x ∈ L) : (L.filter fun a => decide (x ≤ a) && decide (a < x + 1)).length = 1 := by
  induction L with
  | nil => cases hx
  | cons y L ih =>
    obtain ⟨h1, h2⟩ := List.pairwise_cons.1 hs
    rcases List.mem_cons.1 hx with rfl | hx
    · rw [List.filter_cons, if_pos (by simp; omega), List.filter_eq_nil_iff.2 (fun z hz => by have := h1 z hz; simp; omega)]
      rfl
    · have := h1 x hx
      rw [List.filter_cons, if_neg (by simp; omega)]
      exact ih h2 hx

/-- What Before's law says, in plain words. -/
theorem before_plain (n : Int) (ws : List Nat) (a : Int) :
    (upTo (allL n ws) a = [] → (1099511627776 ≤ a → allL n ws = []) ∧ (a < 1099511627776 → inL n ws 0 (a + 1) = [])) ∧
    (upTo (allL n ws) a ≠ [] → ∃ x, (upTo (allL n ws) a).getLastD 0 = x ∧ 0 ≤ x ∧ x < 131072 ∧ sHas n ws x = true ∧ x ≤ a ∧ inL n ws (x + 1) (a + 1) = [] ∧ (inL n ws x (x + 1)).length = 1) := by
  have hs := all_sorted n ws
  refine ⟨fun h => ⟨fun ha => ?_, fun ha => ?_⟩, fun h => ?_⟩
  · rw [← upTo_all (L := allL n ws) (a := a) (fun x hx => by have := all_bound hx; omega)]; exact h
  · rw [in_eq, List.filter_eq_nil_iff]
    intro x hx
    have h3 : ¬ x ≤ a := fun hxa => by
      have := (upTo_mem hs).2 ⟨hx, hxa⟩
      rw [h] at this
      cases this
    simp
    omega
  · obtain ⟨h1, h2⟩ := last_max (upTo_sorted hs a) h
    have h3 := (upTo_mem hs).1 h1
    have h4 := all_bound h3.1
    refine ⟨_, rfl, h4.1, h4.2, (all_mem n ws _).1 h3.1, h3.2, ?_, ?_⟩
    · rw [in_eq, List.filter_eq_nil_iff]
      intro x hx
      have h5 : x ≤ a → x ≤ (upTo (allL n ws) a).getLastD 0 := fun hxa => h2 x ((upTo_mem hs).2 ⟨hx, hxa⟩)
      simp only [Bool.and_eq_true, decide_eq_true_eq]
      omega
    · rw [in_eq]; exact one_of hs h3.1

set_option maxRecDepth 100000 in
set_option maxHeartbeats 4000000 in
theorem startsBefore_any (A : Option Addr) (m c : Nat) (n : Int) (ws : List Nat) (a : Int) (aA aB aP aS : Addr) (w : World) (hB : BSent w aA aB aP) (hS : SSent w aS) (hR : Row w A m (ws.map U32)) (hF : Fits ws) (hc : m ≤ c) (ha0 : -9223372036854775808 ≤ a) (ha : a ≤ 9223372036854775807) :
    Calls Tryd.prog 6 #[.agg #[.int .i64 n, .slice A m c], .int .i64 a] w (Holds w) := by
  have hx := below_box w (.cells #[.int .i64 n, .slice A m c] 24)
  have k0 : (w.alloc (.cells #[.int .i64 n, .slice A m c] 24)).cell? ⟨w.heap.size, 0, none⟩ = some (.int .i64 n) := by simp [go_sem]
  have k1 : (w.alloc (.cells #[.int .i64 n, .slice A m c] 24)).cell? ⟨w.heap.size, 1, none⟩ = some (.slice A m c) := by simp [go_sem]
  have hbl : Blk (w.alloc (.cells #[.int .i64 n, .slice A m c] 24)) w.heap.size 24 #[.int .i64 n, .slice A m c] := heap_new rfl _
  have HS := Lib.hid hS
  have HBS := Lib.hid hB
  have HR := Lib.hid (srow_cut hR)
  have hm50 : min m 50 ≤ 50 := Nat.min_le_right _ _
  have HF := Lib.hid (fits_take hF 50)
  generalize ws.take 50 = vs at HR HF
  have HB := Lib.hid hx
  have HBL := Lib.hid hbl
  clear hS hB hR hx hbl hF
  go_enter Tryd.func6, Tryd.ntmps6
  go_wp2_with fail
  generalize w.alloc (.cells #[.int .i64 n, .slice A m c] 24) = W0 at *
  refine (sshown_any aA aB aP aS W0 (HBS.out.ext HB.out) (HS.out.ext HB.out)).mono ?_
  rintro e w1 ⟨rfl, hb1⟩
  have e0 := cell_ext hb1 k0
  have e1 := cell_ext hb1 k1
  have HBL1 := Lib.hid (HBL.out.ext hb1)
  have HB1 := Lib.hid (below_le HB.out hb1)
  clear hb1 k0 k1 HBL HB
  go_wp2_with fail
  refine (scut_any A m c n w1 hc).mono ?_
  rintro e w2 ⟨⟨c', rfl⟩, hb2⟩
  generalize min m 50 = m' at *
  have h2 := HBL1.out.ext hb2
  have f0 := h2.frozen 0
  have f1 := h2.frozen 1
  have d0 := h2.cell 0
  have d1 := h2.cell 1
  have h3 := (h2.set_ 0 (.int .i64 n)).set_ 1 (.slice A m' c')
  have hb3 : Below w.heap.size w ((w2.setCell ⟨w.heap.size, 0, none⟩ (.int .i64 n)).setCell ⟨w.heap.size, 1, none⟩ (.slice A m' c')) :=
    ((below_le HB1.out hb2).setCell (p := ⟨w.heap.size, 0, none⟩) (Nat.le_refl _) _).setCell (p := ⟨w.heap.size, 1, none⟩) (Nat.le_refl _) _
  have k0 := h3.cell 0
  have k1 := h3.cell 1
  simp at k0 k1
  have H3 := Lib.hid h3
  have HB3 := Lib.hid hb3
  clear h2 h3 hb2 hb3 HB1 HBL1 e0 e1
  go_wp2_with fail
  generalize (w2.setCell ⟨w.heap.size, 0, none⟩ (.int .i64 n)).setCell ⟨w.heap.size, 1, none⟩ (.slice A m' c') = W3 at *
  clear f0 f1 d0 d1
  obtain ⟨hp0, hp1⟩ := before_plain n vs a
  have hbe := sbefore_any A m' c' n vs a W3 (HR.out.ext HB3.out) HF.out
  have IN : Hid (∀ (lo hi : Int) (x : World), Row x A m' (vs.map U32) → Calls Tryd.prog 27 #[.agg #[.int .i64 n, .slice A m' c'], .int .i64 lo, .int .i64 hi] x (GivesL x (inL n vs lo hi))) := Lib.hid (fun lo hi x h => sin_any A m' c' n vs lo hi x h HF.out)
  have AL : Hid (∀ x : World, Row x A m' (vs.map U32) → Calls Tryd.prog 25 #[.agg #[.int .i64 n, .slice A m' c']] x (GivesL x (allL n vs))) := Lib.hid (fun x h => sall_any A m' c' n vs x h HF.out)
  have HA : Hid (∀ (b : Int) (x : World), b ≤ 9223372036854775807 → Row x A m' (vs.map U32) → Calls Tryd.prog 22 #[.agg #[.int .i64 n, .slice A m' c'], .int .i64 b] x fun e w' => e = .returned (.bool (sHas n vs b)) ∧ Below x.heap.size x w') := Lib.hid (fun b x hb h => shas_any A m' c' n vs b hb x h HF.out)
  generalize upTo (allL n vs) a = U at *
  refine hbe.mono ?_
  clear hbe
  rintro e w4 ⟨rfl, hb4⟩
  have e0 := cell_ext hb4 k0
  have e1 := cell_ext hb4 k1
  have HB4 := Lib.hid (below_le HB3.out hb4)
  clear hb4 k0 k1
  by_cases hU : U = []
  · obtain ⟨hq0, hq1⟩ := hp0 hU
    rw [show U.getLastD 0 = 0 by rw [hU]; rfl, show (!U.isEmpty) = false by rw [hU]; rfl]
    clear hp0 hp1 hU
    by_cases hbig : 1099511627776 ≤ a
    · have hL := hq0 hbig
      have hal := AL.out w4 (HR.out.ext HB4.out)
      rw [hL] at hal
      clear hq0 hq1 hL AL IN HA
      go_wp2_with fail
      refine hal.mono ?_
      clear hal
      rintro e w5 ⟨C, q, f, rfl, hRl, hb5⟩
      obtain rfl : q = 0 := by have := hRl.1; simpa using this.symm
      have HB5 := Lib.hid (below_le HB4.out hb5)
      clear hRl hb5
      go_wp2
      go_ret
      exact ⟨ret_bool (by simp), HB5.out⟩
    · have hlt : a < 1099511627776 := by omega
      have hL := hq1 hlt
      have hin := IN.out 0 (a + 1) w4 (HR.out.ext HB4.out)
      rw [hL] at hin
      clear hq0 hq1 hL AL IN HA
      go_wp2_with fail
      refine hin.mono ?_
      clear hin
      rintro e w5 ⟨C, q, f, rfl, hRl, hb5⟩
      obtain rfl : q = 0 := by have := hRl.1; simpa using this.symm
      have HB5 := Lib.hid (below_le HB4.out hb5)
      clear hRl hb5
      go_wp2
      go_ret
      exact ⟨ret_bool (by simp), HB5.out⟩
  · obtain ⟨x, hx, hx0, hx1, hhas, hxa, hi1, hi2⟩ := hp1 hU
    rw [hx, show (!U.isEmpty) = true by cases U <;> simp_all]
    have H1 := Lib.hid hi1
    have H2 := Lib.hid hi2
    have hha := HA.out x w4 (by omega) (HR.out.ext HB4.out)
    rw [hhas] at hha
    clear hp0 hp1 hU hi1 hi2 hx hhas HA AL
    go_wp2_with fail
    refine hha.mono ?_
    clear hha
    rintro e w5 ⟨rfl, hb5⟩
    have k0 := cell_ext hb5 e0
    have k1 := cell_ext hb5 e1
    have HB5 := Lib.hid (below_le HB4.out hb5)
    clear hb5 e0 e1
    by_cases hbig : 1099511627776 ≤ a
    · go_wp2_with fail
      have hin := IN.out x (x + 1) w5 (HR.out.ext HB5.out)
      refine hin.mono ?_
      clear hin
      rintro e w6 ⟨C, q, f, rfl, hRl, hb6⟩
      obtain rfl : q = 1 := by have := hRl.1; rw [List.length_map, H2.out] at this; exact this.symm
      have HB6 := Lib.hid (below_le HB5.out hb6)
      clear hRl hb6
      go_wp2
      go_ret
      exact ⟨ret_bool (by simp), HB6.out⟩
    · go_wp2_with fail
      have hin := IN.out (x + 1) (a + 1) w5 (HR.out.ext HB5.out)
      rw [H1.out] at hin
      refine hin.mono ?_
      clear hin
      rintro e w6 ⟨C, q, f, rfl, hRl, hb6⟩
      obtain rfl : q = 0 := by have := hRl.1; simpa using this.symm
      have e0 := cell_ext hb6 k0
      have e1 := cell_ext hb6 k1
      have HB6 := Lib.hid (below_le HB5.out hb6)
      clear hRl hb6 k0 k1
      go_wp2_with fail
      have hin := IN.out x (x + 1) w6 (HR.out.ext HB6.out)
      refine hin.mono ?_
      clear hin
      rintro e w7 ⟨C, q, f, rfl, hRl, hb7⟩
      obtain rfl : q = 1 := by have := hRl.1; rw [List.length_map, H2.out] at this; exact this.symm
      have HB7 := Lib.hid (below_le HB6.out hb7)
      clear hRl hb7
      go_wp2
      go_ret
      exact ⟨ret_bool (by simp), HB7.out⟩

end Go.Proofs.YtelbddnjnapoeaaDoor
