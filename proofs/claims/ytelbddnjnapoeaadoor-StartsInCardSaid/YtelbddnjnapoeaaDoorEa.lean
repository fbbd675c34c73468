/-
  What is proved: plain facts of starts up to a place and from there on; StartsIn returns true. No condition beyond those stated.
-/
import Derived.Test.YtelbddnjnapoeaaDoorDw
import Derived.Test.YtelbddnjnapoeaaDoorApp
import Derived.Deep.RegionWith
namespace Go.Proofs.YtelbddnjnapoeaaDoor
open Go.RowKit Go.Shelf

theorem one_ints (l : List Int) : ∀ u ∈ l.map Iv, u.oneCell' = true := by intro u hu; obtain ⟨x, _, rfl⟩ := List.mem_map.1 hu; rfl
theorem split_sorted {L : List Int} (hs : L.Pairwise (· < ·)) (a : Int) : (L.filter fun x => decide (x < a)) ++ (L.filter fun x => decide (a ≤ x)) = L := by
  induction L with
  | nil => rfl
  | cons y L ih =>
    obtain ⟨h1, h2⟩ := List.pairwise_cons.1 hs
    by_cases hy : y < a
    · rw [List.filter_cons, if_pos (by simpa using hy), List.filter_cons, if_neg (by simp; omega), List.cons_append, ih h2]
    · rw [List.filter_cons, if_neg (by simpa using hy), List.filter_cons, if_pos (by simp; omega), List.filter_eq_nil_iff.2 (fun z hz => by have := h1 z hz; simp; omega), List.nil_append]
      rw [List.filter_eq_self.2 (fun z hz => by have := h1 z hz; simp; omega)]
theorem in_all (n : Int) (ws : List Nat) (a : Int) : inL n ws 0 a ++ inL n ws (max a 0) 1099511627776 = allL n ws := by
  rw [in_eq, in_eq]
  refine Eq.trans ?_ (split_sorted (all_sorted n ws) a)
  congr 1
  · refine List.filter_congr fun x hx => ?_
    have := all_bound hx
    rw [decide_eq_true this.1, Bool.true_and]
  · refine List.filter_congr fun x hx => ?_
    have := all_bound hx
    rw [decide_eq_true (show x < 1099511627776 by omega), Bool.and_true]
    by_cases h : a ≤ x
    · rw [decide_eq_true h, decide_eq_true (show max a 0 ≤ x by omega)]
    · rw [decide_eq_false h, decide_eq_false (show ¬ max a 0 ≤ x by omega)]
theorem in_at {n : Int} {ws : List Nat} {lo a : Int} {x : Int} (h : x ∈ inL n ws lo a) : 0 ≤ x ∧ x < 131072 ∧ lo ≤ x ∧ x < a ∧ sHas n ws x = true := by
  rw [in_eq, List.mem_filter] at h
  have h1 := all_bound h.1
  have h2 : lo ≤ x ∧ x < a := by simpa using h.2
  exact ⟨h1.1, h1.2, h2.1, h2.2, (all_mem n ws x).1 h.1⟩
theorem in_sorted (n : Int) (ws : List Nat) (lo hi : Int) : (inL n ws lo hi).Pairwise (· < ·) := by
  rw [in_eq]
  exact (all_sorted n ws).filter _
theorem sorted_next {L : List Int} (hs : L.Pairwise (· < ·)) {k : Nat} {x y : Int} (hy : L[k]? = some y) (hx : L[k + 1]? = some x) : y < x := by
  obtain ⟨h1, rfl⟩ := List.getElem?_eq_some_iff.1 hy
  obtain ⟨h2, rfl⟩ := List.getElem?_eq_some_iff.1 hx
  exact List.pairwise_iff_getElem.1 hs k (k + 1) h1 h2 (by omega)

set_option maxRecDepth 100000 in
set_option maxHeartbeats 4000000 in
theorem startsIn_any (A : Option Addr) (m c : Nat) (n : Int) (ws : List Nat) (a : Int) (aA aB aP aS : Addr) (w : World) (hB : BSent w aA aB aP) (hS : SSent w aS) (hR : Row w A m (ws.map U32)) (hF : Fits ws) (hc : m ≤ c) (ha : a ≤ 9223372036854775807) :
    Calls Tryd.prog 7 #[.agg #[.int .i64 n, .slice A m c], .int .i64 a] w (Holds w) := by
  have hx := below_box w (.cells #[.int .i64 n, .slice A m c] 24)
  have k0 : (w.alloc (.cells #[.int .i64 n, .slice A m c] 24)).cell? ⟨w.heap.size, 0, none⟩ = some (.int .i64 n) := by simp [go_sem]
  have k1 : (w.alloc (.cells #[.int .i64 n, .slice A m c] 24)).cell? ⟨w.heap.size, 1, none⟩ = some (.slice A m c) := by simp [go_sem]
  have hbl : Blk (w.alloc (.cells #[.int .i64 n, .slice A m c] 24)) w.heap.size 24 #[.int .i64 n, .slice A m c] := heap_new rfl _
  have HS := Lib.hid hS
  have HBS := Lib.hid hB
  have HR := Lib.hid (srow_cut hR)
  have hm50 : min m 50 ≤ 50 := Nat.min_le_right _ _
  have HF := Lib.hid (fits_take hF 50)
  generalize ws.take 50 = vs at HR HF
  have HB := Lib.hid hx
  have HBL := Lib.hid hbl
  clear hS hB hR hx hbl hF
  go_enter Tryd.func7, Tryd.ntmps7
  go_wp2_with fail
  generalize w.alloc (.cells #[.int .i64 n, .slice A m c] 24) = W0 at *
  refine (sshown_any aA aB aP aS W0 (HBS.out.ext HB.out) (HS.out.ext HB.out)).mono ?_
  rintro e w1 ⟨rfl, hb1⟩
  have e0 := cell_ext hb1 k0
  have e1 := cell_ext hb1 k1
  have HBL1 := Lib.hid (HBL.out.ext hb1)
  have HB1 := Lib.hid (below_le HB.out hb1)
  clear hb1 k0 k1 HBL HB
  go_wp2_with fail
  refine (scut_any A m c n w1 hc).mono ?_
  rintro e w2 ⟨⟨c', rfl⟩, hb2⟩
  generalize min m 50 = m' at *
  have h2 := HBL1.out.ext hb2
  have f0 := h2.frozen 0
  have f1 := h2.frozen 1
  have d0 := h2.cell 0
  have d1 := h2.cell 1
  have h3 := (h2.set_ 0 (.int .i64 n)).set_ 1 (.slice A m' c')
  have hb3 : Below w.heap.size w ((w2.setCell ⟨w.heap.size, 0, none⟩ (.int .i64 n)).setCell ⟨w.heap.size, 1, none⟩ (.slice A m' c')) :=
    ((below_le HB1.out hb2).setCell (p := ⟨w.heap.size, 0, none⟩) (Nat.le_refl _) _).setCell (p := ⟨w.heap.size, 1, none⟩) (Nat.le_refl _) _
  have k0 := h3.cell 0
  have k1 := h3.cell 1
  simp at k0 k1
  have H3 := Lib.hid h3
  have HB3 := Lib.hid hb3
  clear h2 h3 hb2 hb3 HB1 HBL1 e0 e1
  go_wp2_with fail
  generalize (w2.setCell ⟨w.heap.size, 0, none⟩ (.int .i64 n)).setCell ⟨w.heap.size, 1, none⟩ (.slice A m' c') = W3 at *
  clear f0 f1 d0 d1
  have IN : Hid (∀ (lo hi : Int) (x : World), Row x A m' (vs.map U32) → Calls Tryd.prog 27 #[.agg #[.int .i64 n, .slice A m' c'], .int .i64 lo, .int .i64 hi] x (GivesL x (inL n vs lo hi))) := Lib.hid (fun lo hi x h => sin_any A m' c' n vs lo hi x h HF.out)
  have AL : Hid (∀ x : World, Row x A m' (vs.map U32) → Calls Tryd.prog 25 #[.agg #[.int .i64 n, .slice A m' c']] x (GivesL x (inL n vs 0 a ++ inL n vs (max a 0) 1099511627776))) := Lib.hid (fun x h => by rw [in_all]; exact sall_any A m' c' n vs x h HF.out)
  have HA : Hid (∀ (b : Int) (x : World), b ∈ inL n vs 0 a → Row x A m' (vs.map U32) → Calls Tryd.prog 22 #[.agg #[.int .i64 n, .slice A m' c'], .int .i64 b] x fun e w' => e = .returned (.bool true) ∧ Below x.heap.size x w') := Lib.hid (fun b x hb h => by
    have h1 := in_at hb
    rw [← h1.2.2.2.2]
    exact shas_any A m' c' n vs b (by omega) x h HF.out)
  have IB : Hid (∀ x ∈ inL n vs 0 a, 0 ≤ x ∧ x < a) := Lib.hid (fun x hx => ⟨(in_at hx).1, (in_at hx).2.2.2.1⟩)
  have IS := Lib.hid (in_sorted n vs 0 a)
  have hl1 := eachL_le n vs (fun x => decide (0 ≤ x) && decide (x < a))
  have hl2 := eachL_le n vs (fun x => decide (max a 0 ≤ x) && decide (x < 1099511627776))
  change (inL n vs 0 a).length ≤ 16384 at hl1
  change (inL n vs (max a 0) 1099511627776).length ≤ 16384 at hl2
  have I1 := Lib.hid (IN.out 0 a)
  have I2 := Lib.hid (IN.out (max a 0) 1099511627776)
  clear IN
  generalize inL n vs 0 a = L at *
  generalize inL n vs (max a 0) 1099511627776 = M at *
  have HB := HB3
  clear HB3
  refine (I1.out W3 (HR.out.ext HB.out)).mono ?_
  rintro e w4 ⟨C, q, f, rfl, hRl, hb_⟩
  replace k0 := cell_ext hb_ k0
  replace k1 := cell_ext hb_ k1
  replace HB := Lib.hid (below_le HB.out hb_)
  clear hb_
  have hql := hRl.1
  simp at hql
  subst hql
  have HL := Lib.hid hRl
  clear hRl
  obtain ⟨mv, hmv, hmc⟩ : ∃ mv, max a 0 = mv ∧ ((a < 0 ∧ mv = 0) ∨ (0 ≤ a ∧ mv = a)) := ⟨_, rfl, by omega⟩
  rw [hmv] at I2
  clear hmv
  rcases hmc with ⟨hneg, hmv⟩ | ⟨hneg, hmv⟩
  all_goals
    rw [hmv] at I2
    clear hmv
    go_wp2_with fail
    refine (I2.out w4 (HR.out.ext HB.out)).mono ?_
    rintro e w5 ⟨D, q, g, rfl, hRm, hb_⟩
    replace k0 := cell_ext hb_ k0
    replace k1 := cell_ext hb_ k1
    replace HL := Lib.hid (HL.out.ext hb_)
    replace HB := Lib.hid (below_le HB.out hb_)
    clear hb_
    have hqm := hRm.1
    simp at hqm
    subst hqm
    have HM := Lib.hid hRm
    clear hRm I1 I2 hneg
    generalize hlq : L.length = ql at *
    have HLQ := Lib.hid hlq
    clear hlq
    go_wp2
    go_loopw [8] (fun i wr => ∃ k : Nat, k ≤ ql ∧ i = .int .i64 k ∧ Below w5.heap.size w5 wr) (fun i _ => ql - (intOf i).toNat)
    case atStart => exact ⟨0, Nat.zero_le _, rfl, Below.refl _ _⟩
    case round =>
      obtain ⟨k, hk, rfl, hbr⟩ := hrel
      have HBr := Lib.hid hbr
      have r0 := ext_cell (cell_ext hbr k0)
      have r1 := ext_cell (cell_ext hbr k1)
      clear hbr
      by_cases hlt : k < ql
      · obtain ⟨b, off, ex, rfl, hcx, -, hx⟩ := num_at (HL.out.ext HBr.out) hlt
        have hmx := List.mem_of_getElem? hx
        obtain ⟨hx0, hxa⟩ := IB.out ex hmx
        have tx := ext_cell hcx
        have HMX := Lib.hid hmx
        have d1 : decide (ex < 0) = false := by simp; omega
        have d2 : decide (a ≤ ex) = false := by simp; omega
        rcases Nat.eq_zero_or_pos k with hz | hz
        · have d4 : decide ((0 : Int) < (k : Int)) = false := by simp; omega
          have d5 : decide (0 < k) = false := by simp; omega
          clear hx hmx hcx hz
          go_wp2
          refine wp_region_plan [(0, true), (1, true), (2, true), (3, true), (4, true), (5, true), (6, true), (7, true), (8, true), (9, true), (10, true), (11, true), (12, true), (13, true), (14, true), (15, true), (16, true), (17, true), (18, true), (19, true), (20, true), (21, true), (22, true), (23, true), (24, true), (25, true), (26, true), (27, true), (28, true), (29, true), (30, true), (31, true), (32, true), (33, true), (34, true), (35, true), (36, true), (37, true)] (by kernel_rfl) (by kernel_rfl) ?_
          repeat (first | (refine plan_skip rfl rfl ?_; go_frame) | (refine plan_soft rfl rfl (fun K hK => ?_); go_simp; first | (refine hK _ ?_; clear hK K) | (apply Exists.intro; refine ⟨fun x => ?_, hK _ ?_⟩; (· (go_at_call 22; exact HA.out ex x.val HMX.out ((HR.out.ext HB.out).ext (below_le HBr.out x.below)))); clear hK K; try go_frame)))
          refine plan_nil fun w6 hb6 => ?_
          have HB6 := Lib.hid hb6
          clear hb6
          go_wp2
          go_roundw
          case rel => exact ⟨k + 1, by omega, by go_num, below_le HBr.out HB6.out⟩
          case measure => simp [intOf]; omega
        · obtain ⟨j, hj⟩ : ∃ j, k = j + 1 := ⟨k - 1, by omega⟩
          obtain ⟨b', off', y, e, hcy, -, hy⟩ := num_at (HL.out.ext HBr.out) (show j < ql by omega)
          cases e
          have hyx := sorted_next IS.out hy (by rw [← hj]; exact hx)
          have ty := ext_cell hcy
          have hk1 : IntKind.i64.wrap ((k : Int) - 1) = (j : Int) := by rw [IntKind.wrap_i64]; omega
          have hjq : j < ql := by omega
          have d3 : decide (ex ≤ y) = false := by simp; omega
          have d4 : decide ((0 : Int) < (k : Int)) = true := by simp; omega
          have d5 : decide (0 < k) = true := by simp; omega
          clear hx hmx hcx hcy hy hj hyx hz
          go_wp2
          refine wp_region_plan [(0, true), (1, true), (2, true), (3, true), (4, true), (5, true), (6, true), (7, true), (8, true), (9, true), (10, true), (11, true), (12, true), (13, true), (14, true), (15, true), (16, true), (17, true), (18, true), (19, true), (20, true), (21, true), (22, true), (23, true), (24, true), (25, true), (26, true), (27, true), (28, true), (29, true), (30, true), (31, true), (32, true), (33, true), (34, true), (35, true), (36, true), (37, true)] (by kernel_rfl) (by kernel_rfl) ?_
          repeat (first | (refine plan_skip rfl rfl ?_; go_frame) | (refine plan_soft rfl rfl (fun K hK => ?_); go_simp; first | (refine hK _ ?_; clear hK K) | (apply Exists.intro; refine ⟨fun x => ?_, hK _ ?_⟩; (· (go_at_call 22; exact HA.out ex x.val HMX.out ((HR.out.ext HB.out).ext (below_le HBr.out x.below)))); clear hK K; try go_frame)))
          refine plan_nil fun w6 hb6 => ?_
          have HB6 := Lib.hid hb6
          clear hb6
          go_wp2
          go_roundw
          case rel => exact ⟨k + 1, by omega, by go_num, below_le HBr.out HB6.out⟩
          case measure => simp [intOf]; omega
      · replace HB := Lib.hid (below_le HB.out HBr.out)
        replace HL := Lib.hid (HL.out.ext HBr.out)
        replace HM := Lib.hid (HM.out.ext HBr.out)
        replace r0 := r0 (Ext.self wr)
        replace r1 := r1 (Ext.self wr)
        simp only [Ext.self] at r0 r1
        obtain ⟨inf, hinf, hi0, hi1, hi2⟩ := info_parts int_info
        have hl3 := HLQ.out
        clear HBr k0 k1
        go_wp2_with (at_builtin; refine stop_here ?_)
        intro _
        refine wpList_append_row _ rfl (.tmp 64) (.tmp 65) 37 rfl wr.heap.size 3 inf (.int .i64 0) 8 Tryd.underlying37 hinf hi0 hi1 hi2 rfl _ 0 [] rfl ⟨rfl, .inl ⟨rfl, rfl⟩⟩ C ql f (L.map Iv) rfl HL.out (one_ints L) (by unfold maxLen; omega) (by omega) (Nat.le_refl _) ?_
        intro v1 wa hown1 hg1
        simp only [List.nil_append, Nat.zero_add] at hown1
        have hb1 : Below wr.heap.size wr wa := (Below.refl _ _).grown hg1 (Nat.le_refl _) (fun b e => by cases e)
        replace HM := Lib.hid (HM.out.ext hb1)
        go_wp2_with (at_builtin; refine stop_here ?_)
        intro _
        refine wpList_append_row _ rfl (.tmp 66) (.tmp 67) 37 rfl wr.heap.size 3 inf (.int .i64 0) 8 Tryd.underlying37 hinf hi0 hi1 hi2 rfl _ ql (L.map Iv) rfl hown1 D M.length g (M.map Iv) rfl HM.out (one_ints M) (by unfold maxLen; omega) (by omega) hb1.size ?_
        intro v2 wb hown2 hg2
        rw [← List.map_append] at hown2
        have hb2 : Below wr.heap.size wr wb := hb1.trans ((Below.refl _ _).grown hg2 hb1.size (fun b e => own_base hown1 e))
        obtain ⟨E, ec, rfl, hRE, -⟩ := row_of_owns hown2
        replace r0 := cell_ext hb2 r0
        replace r1 := cell_ext hb2 r1
        replace HB := Lib.hid (below_le HB.out hb2)
        have HE := Lib.hid hRE
        clear hown1 hg1 hb1 hown2 hg2 hb2 hRE HL HM hinf hi0 hi1 hi2
        by_cases hbig : 1099511627776 < a
        · go_wp2
          go_ret
          exact ⟨ret_bool (by simp), HB.out⟩
        · go_wp2_with fail
          refine (AL.out wb (HR.out.ext HB.out)).mono ?_
          rintro e w7 ⟨X, x1, x2, rfl, hRX, hb_⟩
          replace r0 := cell_ext hb_ r0
          replace r1 := cell_ext hb_ r1
          replace HE := Lib.hid (HE.out.ext hb_)
          replace HB := Lib.hid (below_le HB.out hb_)
          clear hb_
          have hxl := hRX.1
          simp at hxl
          have hin := ints_any E X _ ec x1 x2 _ _ w7 HE.out hRX (by omega) (by omega)
          rw [decide_eq_true rfl] at hin
          go_wp2_with fail
          refine hin.mono ?_
          rintro e w8 ⟨rfl, hb8⟩
          clear hin
          replace HB := Lib.hid (below_le HB.out hb8)
          go_wp2
          go_ret
          exact ⟨ret_bool (by simp), HB.out⟩

end Go.Proofs.YtelbddnjnapoeaaDoor
