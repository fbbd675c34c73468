/-
  What is proved: plain facts of a start that is put; StartsBack returns true. No condition beyond those stated.
-/
import Derived.Test.YtelbddnjnapoeaaDoorDw
import Derived.Deep.RegionWith
namespace Go.Proofs.YtelbddnjnapoeaaDoor
open Go.RowKit Go.Shelf

theorem code_zero {n : Int} {ws : List Nat} {a : Int} {there : Bool} (h : chkCode n ws (sRight n ws) a there = 0) : sRight n ws = true ∧ placeB n a = true ∧ hasB n ws (a / 8) = there := by
  unfold chkCode at h
  cases hr : sRight n ws
  · simp [hr] at h
  · cases hp : placeB n a
    · simp [hr, hp] at h
    · by_cases hh : hasB n ws (a / 8) = there
      · exact ⟨rfl, rfl, hh⟩
      · have : (hasB n ws (a / 8) == there) = false := by simpa using hh
        cases there <;> simp [hr, hp, this] at h
theorem code_of {n : Int} {ws : List Nat} {a : Int} {there : Bool} (hr : sRight n ws = true) (hp : placeB n a = true) (hh : hasB n ws (a / 8) = there) : chkCode n ws (sRight n ws) a there = 0 := by
  simp [chkCode, hr, hp, hh]
theorem place_in {n a : Int} (h : placeB n a = true) : 0 ≤ a ∧ a % 8 = 0 ∧ a / 8 < n := by simpa [placeB, and_assoc] using h

theorem put_plain {n : Int} {ws : List Nat} {a : Int} (hF : Fits ws) (h : chkCode n ws (sRight n ws) a false = 0) :
    chkCode n (setW ws (a / 8).toNat true) (sRight n (setW ws (a / 8).toNat true)) a true = 0 ∧ setW (setW ws (a / 8).toNat true) (a / 8).toNat false = ws ∧ sHas n (setW ws (a / 8).toNat true) a = true ∧ sHas n ws a = false ∧
      (∀ o, o ≠ a → sHas n (setW ws (a / 8).toNat true) o = sHas n ws o) ∧ (allL n (setW ws (a / 8).toNat true)).length = (allL n ws).length + 1 := by
  obtain ⟨hr, hp, hh⟩ := code_zero h
  obtain ⟨h0, h8, hn⟩ := place_in hp
  obtain ⟨r1, r2, r3, r4⟩ := sRight_elim hr
  obtain ⟨e1, e2, e3, _⟩ := rightB_elim r4
  have hq0 : 0 ≤ a / 8 := by omega
  have hil : (a / 8).toNat / 32 < ws.length := by omega
  have hru := right_set r4 (a / 8).toNat true (by omega)
  have hsu : sRight n (setW ws (a / 8).toNat true) = true := by simp [sRight, r1, r2, r3, hru]
  have hhu := has_set_same r4 (a / 8) true hq0 hn
  have htw : tb ws (a / 8).toNat = false := by rw [has_eq r4] at hh; simpa [hq0, hn] using hh
  refine ⟨code_of hsu hp hhu, ?_, ?_, ?_, fun o ho => ?_, ?_⟩
  · refine tb_ext (by simp [length_setW]) (fits_set (fits_set hF _ _) _ _) hF fun k => ?_
    rw [tb_set _ _ _ (by rw [length_setW]; exact hil), tb_set _ _ _ hil]
    by_cases hk : k = (a / 8).toNat
    · rw [if_pos hk, hk, htw]
    · rw [if_neg hk, if_neg hk]
  · simp [sHas, hsu, h0, h8, hhu]
  · simp [sHas, hh]
  · unfold sHas
    rw [hsu, hr]
    by_cases h1 : 0 ≤ o ∧ o % 8 = 0
    · rw [has_set_other r4 (a / 8) (o / 8) true hq0 hn (by omega)]
    · by_cases h2 : 0 ≤ o
      · have : ¬ o % 8 = 0 := fun e => h1 ⟨h2, e⟩
        simp [this]
      · simp [h2]
  · rw [all_len hsu, all_len hr, count_eq hru, count_eq r4]
    rw [countP_split (tb (setW ws (a / 8).toNat true)) (tb ws) (fun k => decide ((a / 8).toNat ≤ k) && decide (k < (a / 8).toNat + 1)) _ (fun k => ?_), count_between (a / 8).toNat ((a / 8).toNat + 1) n.toNat (by omega) (by omega)]
    · omega
    · rw [tb_set _ _ _ hil]
      by_cases hk : k = (a / 8).toNat
      · subst hk; simp [htw]
      · have : ¬ ((a / 8).toNat ≤ k ∧ k < (a / 8).toNat + 1) := by omega
        rw [if_neg hk]
        have h3 : (decide ((a / 8).toNat ≤ k) && decide (k < (a / 8).toNat + 1)) = false := by simpa using this
        rw [h3]; simp

theorem beq_cast (k j : Nat) : ((k : Int) == (j : Int)) = (k == j) := by
  by_cases h : k = j
  · subst h; simp
  · rw [show (k == j) = false by simpa using h]; simp; omega
theorem put_code {n : Int} {ws : List Nat} {a : Int} : ((chkCode n ws (sRight n ws) a false == 130) = !sRight n ws) ∧ ((chkCode n ws (sRight n ws) a false == 52) = sHas n ws a) := by
  unfold chkCode sHas
  cases hr : sRight n ws
  · simp
  · cases hp : placeB n a
    · refine ⟨by simp, ?_⟩
      have r4 := (sRight_elim hr).2.2.2
      simp [placeB] at hp
      simp [has_eq r4]
      intro h1 h2 h3 h4
      have := hp h1 h2
      omega
    · obtain ⟨h0, h8, hn⟩ := place_in hp
      cases hh : hasB n ws (a / 8) <;> simp [h0, h8]

set_option maxRecDepth 100000 in
set_option maxHeartbeats 4000000 in
theorem startsBack_any (A : Option Addr) (m c : Nat) (n : Int) (ws : List Nat) (a o : Int) (aA aB aP aS : Addr) (w : World) (hB : BSent w aA aB aP) (hS : SSent w aS) (hR : Row w A m (ws.map U32)) (hF : Fits ws) (hc : m ≤ c) (ha : a ≤ 9223372036854775807) (ho : o ≤ 9223372036854775807) :
    Calls Tryd.prog 5 #[.agg #[.int .i64 n, .slice A m c], .int .i64 a, .int .i64 o] w (Holds w) := by
  have hx := below_box w (.cells #[.int .i64 n, .slice A m c] 24)
  have k0 : (w.alloc (.cells #[.int .i64 n, .slice A m c] 24)).cell? ⟨w.heap.size, 0, none⟩ = some (.int .i64 n) := by simp [go_sem]
  have k1 : (w.alloc (.cells #[.int .i64 n, .slice A m c] 24)).cell? ⟨w.heap.size, 1, none⟩ = some (.slice A m c) := by simp [go_sem]
  have hbl : Blk (w.alloc (.cells #[.int .i64 n, .slice A m c] 24)) w.heap.size 24 #[.int .i64 n, .slice A m c] := heap_new rfl _
  have HS := Lib.hid hS
  have HBS := Lib.hid hB
  have HR := Lib.hid (srow_cut hR)
  have hm50 : min m 50 ≤ 50 := Nat.min_le_right _ _
  have HF := Lib.hid (fits_take hF 50)
  generalize ws.take 50 = vs at HR HF
  have HB := Lib.hid hx
  have HBL := Lib.hid hbl
  clear hS hB hR hx hbl hF
  go_enter Tryd.func5, Tryd.ntmps5
  go_wp2_with fail
  generalize w.alloc (.cells #[.int .i64 n, .slice A m c] 24) = W0 at *
  refine (sshown_any aA aB aP aS W0 (HBS.out.ext HB.out) (HS.out.ext HB.out)).mono ?_
  rintro e w1 ⟨rfl, hb1⟩
  have e0 := cell_ext hb1 k0
  have e1 := cell_ext hb1 k1
  have HBL1 := Lib.hid (HBL.out.ext hb1)
  have HB1 := Lib.hid (below_le HB.out hb1)
  clear hb1 k0 k1 HBL HB
  go_wp2_with fail
  refine (scut_any A m c n w1 hc).mono ?_
  rintro e w2 ⟨⟨c', rfl⟩, hb2⟩
  generalize min m 50 = m' at *
  have h2 := HBL1.out.ext hb2
  have f0 := h2.frozen 0
  have f1 := h2.frozen 1
  have d0 := h2.cell 0
  have d1 := h2.cell 1
  have h3 := (h2.set_ 0 (.int .i64 n)).set_ 1 (.slice A m' c')
  have hb3 : Below w.heap.size w ((w2.setCell ⟨w.heap.size, 0, none⟩ (.int .i64 n)).setCell ⟨w.heap.size, 1, none⟩ (.slice A m' c')) :=
    ((below_le HB1.out hb2).setCell (p := ⟨w.heap.size, 0, none⟩) (Nat.le_refl _) _).setCell (p := ⟨w.heap.size, 1, none⟩) (Nat.le_refl _) _
  have k0 := h3.cell 0
  have k1 := h3.cell 1
  simp at k0 k1
  have H3 := Lib.hid h3
  have HB3 := Lib.hid hb3
  clear h2 h3 hb2 hb3 HB1 HBL1 e0 e1
  go_wp2_with fail
  generalize (w2.setCell ⟨w.heap.size, 0, none⟩ (.int .i64 n)).setCell ⟨w.heap.size, 1, none⟩ (.slice A m' c') = W3 at *
  clear f0 f1 d0 d1
  have hpc := put_code (n := n) (ws := vs) (a := a)
  have hpp := put_plain (n := n) (ws := vs) (a := a) HF.out
  have hlv : vs.length ≤ 50 := by have := HR.out.1; simp at this; omega
  obtain ⟨code, hcode⟩ : ∃ code, chkCode n vs (sRight n vs) a false = code := ⟨_, rfl⟩
  have hput := sput_any A m' c' n a vs aA aB aP aS W3 ha (HBS.out.ext HB3.out) (HS.out.ext HB3.out) (HR.out.ext HB3.out) HF.out code hcode
  rw [hcode] at hpc hpp
  by_cases hz : code = 0
  · subst hz
    obtain ⟨q1, q2, q3, q4, q5, q6⟩ := hpp rfl
    have hput' := hput.mono fun _ _ h => h.ok
    refine hput'.mono ?_
    clear hput hput' hpp hpc hcode
    have hfu := fits_set HF.out (a / 8).toNat true
    generalize setW vs (a / 8).toNat true = us at *
    rintro e w4 ⟨C, q, f, rfl, hRc, hb4⟩
    have hx := below_box w4 (.cells #[.int .i64 n, .slice C q f] 24)
    have s0 := box0 (w := w4) (t := 24) (v0 := .int .i64 n) (v1 := .slice C q f)
    have s1 := box1 (w := w4) (t := 24) (v0 := .int .i64 n) (v1 := .slice C q f)
    have hbx := below_le hb4 hx
    have e0 := cell_ext hbx k0
    have e1 := cell_ext hbx k1
    have HB := Lib.hid (below_le HB3.out hbx)
    have hlc : q ≤ 1099511627776 := by
      have h1 := hRc.1
      have h2 := congrArg List.length q2
      rw [length_setW] at h2
      simp at h1
      omega
    have hlb : m' ≤ 1099511627776 := by omega
    have HC := Lib.hid (hRc.ext hx)
    have DR : Hid (∀ x : World, BSent x aA aB aP → SSent x aS → Row x C q (us.map U32) → Calls Tryd.prog 13 #[.agg #[.int .i64 n, .slice C q f], .int .i64 a] x (GivesBits x 0 n vs)) :=
      Lib.hid (fun x h1 h2 h3 => by rw [← q2]; exact (sdrop_any C q f n a us aA aB aP aS x ha h1 h2 h3 hfu 0 q1).mono fun _ _ h => h.ok)
    have SA : Hid (∀ (x : World) (D : Option Addr) (s g : Nat), Row x D s (vs.map U32) → Row x A m' (vs.map U32) → Calls Tryd.prog 15 #[.agg #[.int .i64 n, .slice D s g], .agg #[.int .i64 n, .slice A m' c']] x fun e w' => e = .returned (.bool true) ∧ Below x.heap.size x w') :=
      Lib.hid (fun x D s g h1 h2 => by
        have h := refsame_any D A n n s g m' c' vs vs x h1 h2 HF.out HF.out (by have h3 := h1.1; have h4 := h2.1; omega) hlb
        rw [show sameB n vs n vs = true by simp [sameB]] at h
        exact h)
    have H1 : Hid (∀ x : World, Row x C q (us.map U32) → Calls Tryd.prog 22 #[.agg #[.int .i64 n, .slice C q f], .int .i64 a] x fun e w' => e = .returned (.bool true) ∧ Below x.heap.size x w') := Lib.hid (fun x h => by rw [← q3]; exact shas_any C q f n us a ha x h hfu)
    have H2 : Hid (∀ x : World, Row x A m' (vs.map U32) → Calls Tryd.prog 22 #[.agg #[.int .i64 n, .slice A m' c'], .int .i64 a] x fun e w' => e = .returned (.bool false) ∧ Below x.heap.size x w') := Lib.hid (fun x h => by rw [← q4]; exact shas_any A m' c' n vs a ha x h HF.out)
    have H3 : Hid (∀ x : World, Row x C q (us.map U32) → Calls Tryd.prog 22 #[.agg #[.int .i64 n, .slice C q f], .int .i64 o] x fun e w' => e = .returned (.bool (sHas n us o)) ∧ Below x.heap.size x w') := Lib.hid (fun x h => shas_any C q f n us o ho x h hfu)
    have H4 : Hid (∀ x : World, Row x A m' (vs.map U32) → Calls Tryd.prog 22 #[.agg #[.int .i64 n, .slice A m' c'], .int .i64 o] x fun e w' => e = .returned (.bool (sHas n vs o)) ∧ Below x.heap.size x w') := Lib.hid (fun x h => shas_any A m' c' n vs o ho x h HF.out)
    have H5 : Hid (∀ x : World, Row x C q (us.map U32) → Calls Tryd.prog 25 #[.agg #[.int .i64 n, .slice C q f]] x (GivesL x (allL n us))) := Lib.hid (fun x h => sall_any C q f n us x h hfu)
    have H6 : Hid (∀ x : World, Row x A m' (vs.map U32) → Calls Tryd.prog 25 #[.agg #[.int .i64 n, .slice A m' c']] x (GivesL x (allL n vs))) := Lib.hid (fun x h => sall_any A m' c' n vs x h HF.out)
    have Q5 := Lib.hid (q5 o)
    have Q6 := Lib.hid q6
    have Q7 : Hid ((allL n vs).length ≤ 16384) := Lib.hid (eachL_le n vs _)
    clear hRc hb4 hx hbx k0 k1 HB3 q1 q2 q3 q4 q5 q6
    generalize allL n us = LU at *
    generalize allL n vs = LV at *
    generalize sHas n us o = hu at *
    generalize sHas n vs o = hv at *
    go_wp2_with fail
    generalize w4.alloc (.cells #[.int .i64 n, .slice C q f] 24) = W4 at *
    refine (DR.out W4 (HBS.out.ext HB.out) (HS.out.ext HB.out) HC.out).mono ?_
    rintro e w5 ⟨D, s, g, rfl, hRd, hb_⟩
    replace e0 := cell_ext hb_ e0
    replace e1 := cell_ext hb_ e1
    replace s0 := cell_ext hb_ s0
    replace s1 := cell_ext hb_ s1
    replace HC := Lib.hid (HC.out.ext hb_)
    replace HB := Lib.hid (below_le HB.out hb_)
    clear hb_
    have hx := below_box w5 (.cells #[.int .i64 n, .slice D s g] 24)
    have t0 := box0 (w := w5) (t := 24) (v0 := .int .i64 n) (v1 := .slice D s g)
    have t1 := box1 (w := w5) (t := 24) (v0 := .int .i64 n) (v1 := .slice D s g)
    replace e0 := cell_ext hx e0; replace e1 := cell_ext hx e1; replace s0 := cell_ext hx s0; replace s1 := cell_ext hx s1; replace HC := Lib.hid (HC.out.ext hx)
    replace HB := Lib.hid (below_le HB.out hx)
    have HD := Lib.hid (hRd.ext hx)
    clear hx hRd DR
    go_wp2_with fail
    generalize w5.alloc (.cells #[.int .i64 n, .slice D s g] 24) = W5 at *
    replace e0 := ext_cell e0
    replace e1 := ext_cell e1
    replace s0 := ext_cell s0
    replace s1 := ext_cell s1
    replace t0 := ext_cell t0
    replace t1 := ext_cell t1
    by_cases hoa : o = a
    · subst hoa
      refine wp_region_plan [(0, true), (1, true), (2, true), (3, true), (4, true), (5, true), (6, true), (7, true), (8, true), (9, true), (10, true), (11, true), (12, true), (13, true), (14, true), (15, true), (16, true), (17, true), (18, true), (19, true), (20, true), (21, true), (22, true), (23, true), (24, true), (25, true), (26, true), (27, true), (28, true), (29, true), (30, true), (31, true), (32, true), (33, true), (34, true), (35, true), (36, true), (39, true), (37, false), (38, true), (40, false), (41, true), (42, true), (43, true), (44, true), (45, true)] (by kernel_rfl) (by kernel_rfl) ?_
      repeat (first | (refine plan_skip rfl rfl ?_; go_frame) | (refine plan_soft rfl rfl (fun K hK => ?_); go_simp; first | (refine hK _ ?_; clear hK K) | (apply Exists.intro; refine ⟨fun x => ?_, hK _ ?_⟩; (· (first | (go_at_call 15; exact SA.out x.val D s g (HD.out.ext x.below) ((HR.out.ext HB.out).ext x.below)) | (go_at_call_of 22 C; go_at_call_of 22 o; exact H1.out x.val (HC.out.ext x.below)) | (go_at_call_of 22 A; go_at_call_of 22 o; exact H2.out x.val ((HR.out.ext HB.out).ext x.below)) | (go_at_call_of 22 C; exact H3.out x.val (HC.out.ext x.below)) | (go_at_call_of 22 A; exact H4.out x.val ((HR.out.ext HB.out).ext x.below)))); clear hK K; try go_frame)))
      refine plan_hard rfl rfl ?_; intro w6 hb6 K hK; go_simp
      go_at_call 25
      refine (H5.out w6 (HC.out.ext hb6)).mono ?_
      rintro e w7 ⟨X, x1, x2, rfl, hRX, hb7⟩
      refine hK _ _ hb7 ?_
      clear hK K
      obtain rfl : x1 = (LU.length) := by have := hRX.1; simpa using this.symm
      replace hb7 := below_le hb6 hb7
      repeat (first | (refine plan_skip rfl rfl ?_; go_frame) | (refine plan_soft rfl rfl (fun K hK => ?_); go_simp; first | (refine hK _ ?_; clear hK K) | (apply Exists.intro; refine ⟨fun x => ?_, hK _ ?_⟩; (· (fail)); clear hK K; try go_frame)))
      refine plan_hard rfl rfl ?_; intro w8 hb8 K hK; go_simp
      go_at_call 25
      refine (H6.out w8 ((HR.out.ext HB.out).ext (below_le hb7 hb8))).mono ?_
      rintro e w9 ⟨Y, y1, y2, rfl, hRY, hb9⟩
      refine hK _ _ hb9 ?_
      clear hK K
      obtain rfl : y1 = (LV.length) := by have := hRY.1; simpa using this.symm
      have hll := Q6.out
      have hlv := Q7.out
      have hwr : IntKind.i64.wrap ((LV.length : Int) + 1) = (LV.length : Int) + 1 := by rw [IntKind.wrap_i64]; omega
      have heq : ((LU.length : Int) == (LV.length : Int) + 1) = true := by rw [hll]; simp
      repeat (first | (refine plan_skip rfl rfl ?_; go_frame) | (refine plan_soft rfl rfl (fun K hK => ?_); go_simp; first | (refine hK _ ?_; clear hK K) | (apply Exists.intro; refine ⟨fun x => ?_, hK _ ?_⟩; (· (fail)); clear hK K; try go_frame)))
      refine plan_nil fun wf hbf => ?_
      go_wp2
      go_ret
      exact ⟨ret_bool (by simp), below_le HB.out (below_le (below_le hb7 (below_le hb8 hb9)) hbf)⟩
    · have huv := Q5.out hoa
      subst huv
      have hoa' : (o == a) = false := by simpa using hoa
      have hvv : (hu == hu) = true := by simp
      refine wp_region_plan [(0, true), (1, true), (2, true), (3, true), (4, true), (5, true), (6, true), (7, true), (8, true), (9, true), (10, true), (11, true), (12, true), (13, true), (14, true), (15, true), (16, true), (17, true), (18, true), (19, true), (20, true), (21, true), (22, true), (23, true), (24, true), (25, true), (26, true), (27, true), (28, true), (29, true), (30, true), (31, true), (32, true), (33, true), (34, true), (35, true), (36, true), (39, true), (37, false), (38, true), (40, false), (41, true), (42, true), (43, true), (44, true), (45, true)] (by kernel_rfl) (by kernel_rfl) ?_
      repeat (first | (refine plan_skip rfl rfl ?_; go_frame) | (refine plan_soft rfl rfl (fun K hK => ?_); go_simp; first | (refine hK _ ?_; clear hK K) | (apply Exists.intro; refine ⟨fun x => ?_, hK _ ?_⟩; (· (first | (go_at_call 15; exact SA.out x.val D s g (HD.out.ext x.below) ((HR.out.ext HB.out).ext x.below)) | (go_at_call_of 22 C; go_at_call_of 22 a; exact H1.out x.val (HC.out.ext x.below)) | (go_at_call_of 22 A; go_at_call_of 22 a; exact H2.out x.val ((HR.out.ext HB.out).ext x.below)) | (go_at_call_of 22 C; exact H3.out x.val (HC.out.ext x.below)) | (go_at_call_of 22 A; exact H4.out x.val ((HR.out.ext HB.out).ext x.below)))); clear hK K; try go_frame)))
      refine plan_hard rfl rfl ?_; intro w6 hb6 K hK; go_simp
      go_at_call 25
      refine (H5.out w6 (HC.out.ext hb6)).mono ?_
      rintro e w7 ⟨X, x1, x2, rfl, hRX, hb7⟩
      refine hK _ _ hb7 ?_
      clear hK K
      obtain rfl : x1 = (LU.length) := by have := hRX.1; simpa using this.symm
      replace hb7 := below_le hb6 hb7
      repeat (first | (refine plan_skip rfl rfl ?_; go_frame) | (refine plan_soft rfl rfl (fun K hK => ?_); go_simp; first | (refine hK _ ?_; clear hK K) | (apply Exists.intro; refine ⟨fun x => ?_, hK _ ?_⟩; (· (fail)); clear hK K; try go_frame)))
      refine plan_hard rfl rfl ?_; intro w8 hb8 K hK; go_simp
      go_at_call 25
      refine (H6.out w8 ((HR.out.ext HB.out).ext (below_le hb7 hb8))).mono ?_
      rintro e w9 ⟨Y, y1, y2, rfl, hRY, hb9⟩
      refine hK _ _ hb9 ?_
      clear hK K
      obtain rfl : y1 = (LV.length) := by have := hRY.1; simpa using this.symm
      have hll := Q6.out
      have hlv := Q7.out
      have hwr : IntKind.i64.wrap ((LV.length : Int) + 1) = (LV.length : Int) + 1 := by rw [IntKind.wrap_i64]; omega
      have heq : ((LU.length : Int) == (LV.length : Int) + 1) = true := by rw [hll]; simp
      repeat (first | (refine plan_skip rfl rfl ?_; go_frame) | (refine plan_soft rfl rfl (fun K hK => ?_); go_simp; first | (refine hK _ ?_; clear hK K) | (apply Exists.intro; refine ⟨fun x => ?_, hK _ ?_⟩; (· (fail)); clear hK K; try go_frame)))
      refine plan_nil fun wf hbf => ?_
      go_wp2
      go_ret
      exact ⟨ret_bool (by simp), below_le HB.out (below_le (below_le hb7 (below_le hb8 hb9)) hbf)⟩
  · have hput' := hput.mono fun _ _ h => h.bad hz
    refine hput'.mono ?_
    clear hput hput' hpp
    rintro e w4 ⟨C, q, f, rfl, -, hb4⟩
    have hx := below_box w4 (.cells #[.int .i64 0, .slice C q f] 24)
    have s0 := box0 (w := w4) (t := 24) (v0 := .int .i64 0) (v1 := .slice C q f)
    have hbx := below_le hb4 hx
    have e0 := cell_ext hbx k0
    have e1 := cell_ext hbx k1
    have HB4 := Lib.hid (below_le HB3.out hbx)
    have hz' : ((code : Int) != 0) = true := by simp; omega
    have h130 : ((code : Int) == 130) = !sRight n vs := by rw [← hpc.1]; exact beq_cast code 130
    have h52 : ((code : Int) == 52) = sHas n vs a := by rw [← hpc.2]; exact beq_cast code 52
    have hri : Hid (∀ x : World, Row x A m' (vs.map U32) → Calls Tryd.prog 20 #[.agg #[.int .i64 n, .slice A m' c']] x fun e w' => e = .returned (.bool (sRight n vs)) ∧ Below x.heap.size x w') := Lib.hid (fun x h => sright_any A m' c' n vs x h HF.out)
    have hha : Hid (∀ x : World, Row x A m' (vs.map U32) → Calls Tryd.prog 22 #[.agg #[.int .i64 n, .slice A m' c'], .int .i64 a] x fun e w' => e = .returned (.bool (sHas n vs a)) ∧ Below x.heap.size x w') := Lib.hid (fun x h => shas_any A m' c' n vs a ha x h HF.out)
    generalize sRight n vs = r at *
    generalize sHas n vs a = d at *
    clear hb4 hx hbx k0 k1 hpc hcode
    go_wp2_with fail
    generalize w4.alloc (.cells #[.int .i64 0, .slice C q f] 24) = W4 at *
    refine (hri.out W4 (HR.out.ext HB4.out)).mono ?_
    rintro e w5 ⟨rfl, hb5⟩
    have k0 := cell_ext hb5 e0
    have k1 := cell_ext hb5 e1
    have HB5 := Lib.hid (below_le HB4.out hb5)
    clear hb5 e0 e1 s0
    have hrr : ((!r) == (!r)) = true := by simp
    go_wp2_with fail
    refine (hha.out w5 (HR.out.ext HB5.out)).mono ?_
    rintro e w6 ⟨rfl, hb6⟩
    have HB6 := Lib.hid (below_le HB5.out hb6)
    have hdd : (d == d) = true := by simp
    clear hb6
    go_wp2
    go_ret
    exact ⟨ret_bool (by simp), HB6.out⟩

end Go.Proofs.YtelbddnjnapoeaaDoor
