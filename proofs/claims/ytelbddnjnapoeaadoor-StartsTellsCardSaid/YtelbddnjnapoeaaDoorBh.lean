/-
  What is proved: the contract of Set of package bits. No condition beyond those stated.
-/
import Derived.Test.YtelbddnjnapoeaaDoorBg
namespace Go.Proofs.YtelbddnjnapoeaaDoor
open Go.RowKit

/-- The world of Set behind its boxes. -/
def setW0 (w : World) (n : Int) (A : Option Addr) (m c : Nat) (i : Int) (on : Bool) : World :=
  (((w.alloc (.cells #[.int .i64 n, .slice A m c] 24)).alloc (.cells #[.int .i64 i] 3)).alloc (.cells #[.bool on] 4)).alloc (.cells #[.int .i64 0, .slice none 0 0] 24)
theorem setW0_below (w : World) (n : Int) (A : Option Addr) (m c : Nat) (i : Int) (on : Bool) : Below w.heap.size w (setW0 w n A m c i on) :=
  below_le (below_le (below_le (below_box _ _) (below_box _ _)) (below_box _ _)) (below_box _ _)

/-- Bits, or a number that says why there are none. -/
def GivesIf (w : World) (code : Nat) (n : Int) (ws : List Nat) (e : Ending) (w' : World) : Prop := GivesBits w code (if code = 0 then n else 0) (if code = 0 then ws else []) e w'
theorem GivesIf.yes {w : World} {code : Nat} {n : Int} {ws : List Nat} {e : Ending} {w' : World} (hc : code = 0) (h : GivesBits w 0 n ws e w') : GivesIf w code n ws e w' := by
  subst hc
  exact h
theorem GivesIf.no {w : World} {code : Nat} {n : Int} {ws : List Nat} {e : Ending} {w' : World} (hc : ¬ code = 0) (h : GivesBits w code 0 [] e w') : GivesIf w code n ws e w' := by
  unfold GivesIf
  rw [if_neg hc, if_neg hc]
  exact h
def placeOk (n i : Int) : Bool := decide (0 ≤ i) && decide (i < n)

set_option maxRecDepth 100000 in
set_option maxHeartbeats 2000000 in
/-- bits.Set. -/
theorem set_any (A : Option Addr) (m c : Nat) (n : Int) (ws : List Nat) (i : Int) (on : Bool) (aA aB aP : Addr) (w : World) (hS : BSent w aA aB aP) (hR : Row w A m (ws.map U32)) (hF : Fits ws)
    (code : Nat) (hcode : code = first2 (chk (rightB n ws) 20) (chk (placeOk n i) 21)) :
    Calls Tryd.prog 48 #[.agg #[.int .i64 n, .slice A m c], .int .i64 i, .bool on] w (GivesIf w code n (setW ws i.toNat on)) := by
  have hl := hR.1
  simp at hl
  have hb0 := setW0_below w n A m c i on
  have g0 := ext_cell (cell_ext hb0 hS.hB.1)
  have g1 := ext_cell (cell_ext hb0 hS.hP.1)
  have k0 : ∀ x : Ext (setW0 w n A m c i on), x.val.cell? ⟨w.heap.size, 0, none⟩ = some (.int .i64 n) := ext_cell (by simp [go_sem, setW0])
  have k1 : ∀ x : Ext (setW0 w n A m c i on), x.val.cell? ⟨w.heap.size, 1, none⟩ = some (.slice A m c) := ext_cell (by simp [go_sem, setW0])
  have k2 : ∀ x : Ext (setW0 w n A m c i on), x.val.cell? ⟨w.heap.size + 1, 0, none⟩ = some (.int .i64 i) := ext_cell (by simp [go_sem, setW0])
  have k3 : ∀ x : Ext (setW0 w n A m c i on), x.val.cell? ⟨w.heap.size + 1 + 1, 0, none⟩ = some (.bool on) := ext_cell (by simp [go_sem, setW0])
  have hbl : Blk (setW0 w n A m c i on) (w.heap.size + 1 + 1 + 1) 24 #[.int .i64 0, .slice none 0 0] := heap_new (by simp) _
  have HS := Lib.hid (hS.ext hb0)
  have HR := Lib.hid (hR.ext hb0)
  have HB := Lib.hid hb0
  have HBL := Lib.hid hbl
  have HL := Lib.hid hl
  have HC := Lib.hid hcode
  clear hS hR hb0 hbl hl hcode
  by_cases h0 : 0 ≤ i
  · have d0 : decide (0 ≤ i) = true := by simpa using h0
    have hp : placeOk n i = decide (i < n) := by simp [placeOk, h0]
    rw [hp] at HC
    clear hp
    go_enter Tryd.func48, Tryd.ntmps48
    go_wp2
    change Code.wp _ _ _ _ (setW0 w n A m c i on)
    generalize setW0 w n A m c i on = W0 at *
    refine wp_region_plan [(0, true), (1, true), (2, true), (3, true), (4, true), (5, true), (6, true), (7, true), (8, true), (9, true), (10, true), (11, true), (12, true), (13, true), (14, false), (15, false), (16, true)] (by kernel_rfl) (by kernel_rfl) ?_
    repeat (first | (refine plan_skip rfl rfl ?_; go_frame) | (refine plan_soft rfl rfl (fun K hK => ?_); go_simp; first | (refine hK _ ?_; clear hK K) | (apply Exists.intro; refine ⟨fun x => ?_, hK _ ?_⟩; (· (first | (go_at_call 36; exact right_any A m c n ws x.val (HR.out.ext x.below) hF) | (go_at_call 51; exact need_ev (aA := aA) (aB := aB) (aP := aP) _ 20 _ _ (ev_bits aA aB aP)) | (go_at_call 51; exact need_ev (aA := aA) (aB := aB) (aP := aP) _ 21 _ _ (ev_place aA aB aP)))); clear hK K; try go_frame)))
    refine plan_build2 rfl rfl 77 (.tmp 12) (.tmp 22) rfl _ _ rfl rfl _ (run_errs2 aA aB aP _ _) ?_
    intro w1 hb1
    go_frame
    refine plan_hard rfl rfl ?_; intro w2 hb2 K hK; go_simp
    refine (told_pair w2 _ _ _ (isErr_chk _ (by simp [isErr])) (isErr_chk _ (by simp [isErr])) ((row_two w1 57 _ _).ext hb2) (HS.out.ext (below_le hb1 (below_le (below_box _ _) hb2)))).mono ?_
    rintro e w3 ⟨rfl, rfl⟩
    refine hK _ _ (Below.refl _ _) ?_
    clear hK K
    rw [← HC.out]
    repeat (first | (refine plan_skip rfl rfl ?_; go_frame) | (refine plan_soft rfl rfl (fun K hK => ?_); go_simp; first | (refine hK _ ?_; clear hK K) | (apply Exists.intro; refine ⟨fun x => ?_, hK _ ?_⟩; (· (fail)); clear hK K; try go_frame)))
    refine plan_nil fun w3 hb3 => ?_
    have hbw : Below W0.heap.size W0 w3 := below_le hb1 (below_le (below_box _ _) (below_le hb2 hb3))
    have y0 := k0 ⟨w3, hbw⟩
    have y1 := k1 ⟨w3, hbw⟩
    have y2 := k2 ⟨w3, hbw⟩
    have y3 := k3 ⟨w3, hbw⟩
    have hbr := HBL.out.ext hbw
    have r0 := hbr.cell 0
    have r1 := hbr.cell 1
    have z0 := hbr.frozen 0
    have z1 := hbr.frozen 1
    dsimp only at y0 y1 y2 y3
    have HW := Lib.hid hbw
    have HBR := Lib.hid hbr
    clear hbw hbr k0 k1 k2 k3 g0 g1 hb1 hb2 hb3
    have HL3 := Lib.hid (HBL.out.lt)
    by_cases hz : code = 0
    · have hz' : ((code : Int) != 0) = false := by simp; omega
      have HZ := Lib.hid hz
      clear hz
      have hq := HC.out
      rw [HZ.out] at hq
      obtain ⟨q1, q2⟩ := first2_zero (by decide) (by decide) hq
      clear hq
      have hrw := rightB_elim q1
      have h1 : i < n := by simpa using q2
      have hm : m ≤ 700 := by have := HL.out; omega
      have h32 : i / 32 < m := by have := HL.out; omega
      have hi : i ≤ 100000 := by omega
      clear hrw q1 q2
      go_wp2_with fail
      refine (change_any 60 #[.pointer (some ⟨w.heap.size + 1, 0, none⟩), .pointer (some ⟨w.heap.size + 1 + 1, 0, none⟩)] enters37 A m c n ws (setW ws i.toNat on) w3.heap.size _ ((HR.out.ext HW.out).ext (below_box _ _)) (by omega) cell_one
        (set1_changes m ws i on _ _ _ hF HL.out h0 h32 hi (cell_ext (below_box _ _) y2) (cell_ext (below_box _ _) y3)) (by rw [length_setW]; exact HL.out)).mono ?_
      rintro e w4 ⟨B, rfl, hBB, hrow, hb4⟩
      have HNE : Hid (B ≠ w.heap.size + 1 + 1 + 1) := Lib.hid (by have := HBR.out.lt; simp at hBB; omega)
      clear hBB
      have hbr4 := (HBR.out.ext (below_box w3 (.cells #[.func (.func 60) #[] #[.pointer (some ⟨w.heap.size + 1, 0, none⟩), .pointer (some ⟨w.heap.size + 1 + 1, 0, none⟩)]] 75))).ext hb4
      have r40 := hbr4.cell 0
      have r41 := hbr4.cell 1
      have z40 := hbr4.frozen 0
      have z41 := hbr4.frozen 1
      have HROW := Lib.hid hrow
      have HB4 := Lib.hid (below_le (below_le HB.out HW.out) (below_le (below_box _ _) hb4))
      have HBR4 := Lib.hid hbr4
      clear hrow hb4 hbr4 r0 r1 z0 z1 y0 y1 y2 y3
      go_wp2
      have hB3 := (HBR4.out.set_ 0 (.int .i64 n)).set_ 1 (.slice (some ⟨B, 0, none⟩) m m)
      have q0 := hB3.cell 0
      have q1 := hB3.cell 1
      simp at q0 q1
      refine bodyPost_ret (v := .tuple #[.agg #[.int .i64 n, .slice (some ⟨B, 0, none⟩) m m], .int .i64 0]) (by simp [results, Tryd.results48, go_sem, q0, q1]) rfl ?_
      refine GivesIf.yes HZ.out ⟨_, _, _, rfl, ?_, ?_⟩
      · exact (HROW.out.far (p := ⟨w.heap.size + 1 + 1 + 1, 0, none⟩) HNE.out _).far (p := ⟨w.heap.size + 1 + 1 + 1, 1, none⟩) HNE.out _
      · exact (HB4.out.setCell (p := ⟨w.heap.size + 1 + 1 + 1, 0, none⟩) (by show w.heap.size ≤ w.heap.size + 1 + 1 + 1; omega) _).setCell (p := ⟨w.heap.size + 1 + 1 + 1, 1, none⟩) (by show w.heap.size ≤ w.heap.size + 1 + 1 + 1; omega) _
    · have hz' : ((code : Int) != 0) = true := by simp; omega
      have HZ := Lib.hid hz
      clear hz
      go_wp2
      have hB3 := (HBR.out.set_ 0 (.int .i64 0)).set_ 1 (.slice none 0 0)
      have q0 := hB3.cell 0
      have q1 := hB3.cell 1
      simp at q0 q1
      refine bodyPost_ret (v := .tuple #[.agg #[.int .i64 0, .slice none 0 0], .int .i64 code]) (by simp [results, Tryd.results48, go_sem, q0, q1]) rfl ?_
      refine GivesIf.no HZ.out ⟨_, _, _, rfl, Row.none_, ?_⟩
      have hb4 := below_le HB.out HW.out
      exact (hb4.setCell (p := ⟨w.heap.size + 1 + 1 + 1, 0, none⟩) (by show w.heap.size ≤ w.heap.size + 1 + 1 + 1; omega) _).setCell (p := ⟨w.heap.size + 1 + 1 + 1, 1, none⟩) (by show w.heap.size ≤ w.heap.size + 1 + 1 + 1; omega) _
  · have d0 : decide (0 ≤ i) = false := by simpa using h0
    have hp : placeOk n i = false := by simp [placeOk, h0]
    rw [hp] at HC
    clear hp
    go_enter Tryd.func48, Tryd.ntmps48
    go_wp2
    change Code.wp _ _ _ _ (setW0 w n A m c i on)
    generalize setW0 w n A m c i on = W0 at *
    refine wp_region_plan [(0, true), (1, true), (2, true), (3, true), (4, true), (5, true), (6, true), (7, true), (8, true), (9, true), (10, true), (11, true), (12, true), (13, true), (14, false), (15, false), (16, true)] (by kernel_rfl) (by kernel_rfl) ?_
    repeat (first | (refine plan_skip rfl rfl ?_; go_frame) | (refine plan_soft rfl rfl (fun K hK => ?_); go_simp; first | (refine hK _ ?_; clear hK K) | (apply Exists.intro; refine ⟨fun x => ?_, hK _ ?_⟩; (· (first | (go_at_call 36; exact right_any A m c n ws x.val (HR.out.ext x.below) hF) | (go_at_call 51; exact need_ev (aA := aA) (aB := aB) (aP := aP) _ 20 _ _ (ev_bits aA aB aP)) | (go_at_call 51; exact need_ev (aA := aA) (aB := aB) (aP := aP) _ 21 _ _ (ev_place aA aB aP)))); clear hK K; try go_frame)))
    refine plan_build2 rfl rfl 77 (.tmp 12) (.tmp 22) rfl _ _ rfl rfl _ (run_errs2 aA aB aP _ _) ?_
    intro w1 hb1
    go_frame
    refine plan_hard rfl rfl ?_; intro w2 hb2 K hK; go_simp
    refine (told_pair w2 _ _ _ (isErr_chk _ (by simp [isErr])) (isErr_chk _ (by simp [isErr])) ((row_two w1 57 _ _).ext hb2) (HS.out.ext (below_le hb1 (below_le (below_box _ _) hb2)))).mono ?_
    rintro e w3 ⟨rfl, rfl⟩
    refine hK _ _ (Below.refl _ _) ?_
    clear hK K
    rw [← HC.out]
    repeat (first | (refine plan_skip rfl rfl ?_; go_frame) | (refine plan_soft rfl rfl (fun K hK => ?_); go_simp; first | (refine hK _ ?_; clear hK K) | (apply Exists.intro; refine ⟨fun x => ?_, hK _ ?_⟩; (· (fail)); clear hK K; try go_frame)))
    refine plan_nil fun w3 hb3 => ?_
    have hbw : Below W0.heap.size W0 w3 := below_le hb1 (below_le (below_box _ _) (below_le hb2 hb3))
    have y0 := k0 ⟨w3, hbw⟩
    have y1 := k1 ⟨w3, hbw⟩
    have y2 := k2 ⟨w3, hbw⟩
    have y3 := k3 ⟨w3, hbw⟩
    have hbr := HBL.out.ext hbw
    have r0 := hbr.cell 0
    have r1 := hbr.cell 1
    have z0 := hbr.frozen 0
    have z1 := hbr.frozen 1
    dsimp only at y0 y1 y2 y3
    have HW := Lib.hid hbw
    have HBR := Lib.hid hbr
    clear hbw hbr k0 k1 k2 k3 g0 g1 hb1 hb2 hb3
    have HL3 := Lib.hid (HBL.out.lt)
    by_cases hz : code = 0
    · have hz' : ((code : Int) != 0) = false := by simp; omega
      have HZ := Lib.hid hz
      clear hz
      have hq := HC.out
      rw [HZ.out] at hq
      obtain ⟨q1, q2⟩ := first2_zero (by decide) (by decide) hq
      clear hq
      cases q2
    · have hz' : ((code : Int) != 0) = true := by simp; omega
      have HZ := Lib.hid hz
      clear hz
      go_wp2
      have hB3 := (HBR.out.set_ 0 (.int .i64 0)).set_ 1 (.slice none 0 0)
      have q0 := hB3.cell 0
      have q1 := hB3.cell 1
      simp at q0 q1
      refine bodyPost_ret (v := .tuple #[.agg #[.int .i64 0, .slice none 0 0], .int .i64 code]) (by simp [results, Tryd.results48, go_sem, q0, q1]) rfl ?_
      refine GivesIf.no HZ.out ⟨_, _, _, rfl, Row.none_, ?_⟩
      have hb4 := below_le HB.out HW.out
      exact (hb4.setCell (p := ⟨w.heap.size + 1 + 1 + 1, 0, none⟩) (by show w.heap.size ≤ w.heap.size + 1 + 1 + 1; omega) _).setCell (p := ⟨w.heap.size + 1 + 1 + 1, 1, none⟩) (by show w.heap.size ≤ w.heap.size + 1 + 1 + 1; omega) _

end Go.Proofs.YtelbddnjnapoeaaDoor
