/-
  What is proved: the contract of Either of package bits. No condition beyond those stated.
-/
import Derived.Test.YtpoopkieoidhjaaDoorBi
namespace Go.Proofs.YtpoopkieoidhjaaDoor
open Go.RowKit

def eitherW0 (w : World) (n m : Int) (A B : Option Addr) (k c l d : Nat) : World :=
  ((w.alloc (.cells #[.int .i64 n, .slice A k c] 24)).alloc (.cells #[.int .i64 m, .slice B l d] 24)).alloc (.cells #[.int .i64 0, .slice none 0 0] 24)
theorem eitherW0_below (w : World) (n m : Int) (A B : Option Addr) (k c l d : Nat) : Below w.heap.size w (eitherW0 w n m A B k c l d) :=
  below_le (below_le (below_box _ _) (below_box _ _)) (below_box _ _)

def eitherOk (n : Int) (xs : List Nat) (m : Int) (ys : List Nat) : Bool := rightB n xs && rightB m ys && (n == m)

set_option maxRecDepth 100000 in
set_option maxHeartbeats 2000000 in
/-- bits.Either. -/
theorem either_any (A B : Option Addr) (n m : Int) (k c l d : Nat) (xs ys : List Nat) (aA aB aP : Addr) (w : World) (hS : BSent w aA aB aP) (hA : Row w A k (xs.map U32)) (hB : Row w B l (ys.map U32)) (hF : Fits xs) (hG : Fits ys)
    (code : Nat) (hcode : code = chk (eitherOk n xs m ys) 20) :
    Calls Tryd.prog 21 #[.agg #[.int .i64 n, .slice A k c], .agg #[.int .i64 m, .slice B l d]] w (GivesIf w code n (orW xs ys)) := by
  have hl := hA.1
  have hl2 := hB.1
  simp at hl hl2
  have hb0 := eitherW0_below w n m A B k c l d
  have g0 := ext_cell (cell_ext hb0 hS.hB.1)
  have k0 : ∀ x : Ext (eitherW0 w n m A B k c l d), x.val.cell? ⟨w.heap.size, 0, none⟩ = some (.int .i64 n) := ext_cell (by simp [go_sem, eitherW0])
  have k1 : ∀ x : Ext (eitherW0 w n m A B k c l d), x.val.cell? ⟨w.heap.size, 1, none⟩ = some (.slice A k c) := ext_cell (by simp [go_sem, eitherW0])
  have k2 : ∀ x : Ext (eitherW0 w n m A B k c l d), x.val.cell? ⟨w.heap.size + 1, 0, none⟩ = some (.int .i64 m) := ext_cell (by simp [go_sem, eitherW0])
  have k3 : ∀ x : Ext (eitherW0 w n m A B k c l d), x.val.cell? ⟨w.heap.size + 1, 1, none⟩ = some (.slice B l d) := ext_cell (by simp [go_sem, eitherW0])
  have hbl : Blk (eitherW0 w n m A B k c l d) (w.heap.size + 1 + 1) 24 #[.int .i64 0, .slice none 0 0] := heap_new (by simp) _
  have HS := Lib.hid (hS.ext hb0)
  have HA := Lib.hid (hA.ext hb0)
  have HB := Lib.hid (hB.ext hb0)
  have HW0 := Lib.hid hb0
  have HBL := Lib.hid hbl
  have HL := Lib.hid hl
  have HL2 := Lib.hid hl2
  have HC := Lib.hid hcode
  clear hS hA hB hb0 hbl hl hl2 hcode
  cases hra : rightB n xs
  case' false =>
    have hok : eitherOk n xs m ys = false := by simp [eitherOk, hra]
    rw [hok] at HC
    clear hok
    have OK : Hid (false = true → rightB n xs = true ∧ rightB m ys = true ∧ n = m) := Lib.hid fun h => by cases h
    have Hra := Lib.hid hra
    have arm : ∀ W : World, Below (eitherW0 w n m A B k c l d).heap.size (eitherW0 w n m A B k c l d) W → Calls Tryd.prog 14 #[.agg #[.int .i64 n, .slice A k c]] W fun e w' => e = .returned (.bool false) ∧ Below W.heap.size W w' := fun W hb => by
      have h := right_any A k c n xs W (HA.out.ext hb) hF
      rwa [Hra.out] at h
    have ARM := Lib.hid arm
    have tok : True := trivial
    have ARM2 : Hid (∀ W : World, Below (eitherW0 w n m A B k c l d).heap.size (eitherW0 w n m A B k c l d) W → Calls Tryd.prog 14 #[.agg #[.int .i64 m, .slice B l d]] W fun e w' => e = .returned (.bool (rightB m ys)) ∧ Below W.heap.size W w') := Lib.hid fun W hb => right_any B l d m ys W (HB.out.ext hb) hG
    clear arm hra tok
  case' true =>
    have Hra := Lib.hid hra
    have arm : ∀ W : World, Below (eitherW0 w n m A B k c l d).heap.size (eitherW0 w n m A B k c l d) W → Calls Tryd.prog 14 #[.agg #[.int .i64 n, .slice A k c]] W fun e w' => e = .returned (.bool true) ∧ Below W.heap.size W w' := fun W hb => by
      have h := right_any A k c n xs W (HA.out.ext hb) hF
      rwa [Hra.out] at h
    have ARM := Lib.hid arm
    clear arm
    cases hrb : rightB m ys
    case' false =>
      have hok : eitherOk n xs m ys = false := by simp [eitherOk, hrb]
      rw [hok] at HC
      clear hok
      have OK : Hid (false = true → rightB n xs = true ∧ rightB m ys = true ∧ n = m) := Lib.hid fun h => by cases h
      have Hrb := Lib.hid hrb
      have ARM2 : Hid (∀ W : World, Below (eitherW0 w n m A B k c l d).heap.size (eitherW0 w n m A B k c l d) W → Calls Tryd.prog 14 #[.agg #[.int .i64 m, .slice B l d]] W fun e w' => e = .returned (.bool false) ∧ Below W.heap.size W w') := Lib.hid fun W hb => by
        have h := right_any B l d m ys W (HB.out.ext hb) hG
        rwa [Hrb.out] at h
      clear hra hrb
    case' true =>
      have hok : eitherOk n xs m ys = (n == m) := by simp [eitherOk, hra, hrb]
      rw [hok] at HC
      clear hok
      have OK : Hid ((n == m) = true → rightB n xs = true ∧ rightB m ys = true ∧ n = m) := Lib.hid fun h => ⟨hra, hrb, by simpa using h⟩
      have Hrb := Lib.hid hrb
      have ARM2 : Hid (∀ W : World, Below (eitherW0 w n m A B k c l d).heap.size (eitherW0 w n m A B k c l d) W → Calls Tryd.prog 14 #[.agg #[.int .i64 m, .slice B l d]] W fun e w' => e = .returned (.bool true) ∧ Below W.heap.size W w') := Lib.hid fun W hb => by
        have h := right_any B l d m ys W (HB.out.ext hb) hG
        rwa [Hrb.out] at h
      clear hra hrb
  all_goals
    go_enter Tryd.func21, Tryd.ntmps21
    go_wp2
    change Code.wp _ _ _ _ (eitherW0 w n m A B k c l d)
    generalize eitherW0 w n m A B k c l d = W0 at *
    refine wp_region_plan [(0, true), (1, true), (2, true), (3, true), (4, true), (5, true), (6, true), (7, true), (8, true), (9, true), (10, true), (11, true), (12, true), (13, true), (14, true), (15, false), (16, false), (17, true)] (by kernel_rfl) (by kernel_rfl) ?_
    repeat (first | (refine plan_skip rfl rfl ?_; go_frame) | (refine plan_soft rfl rfl (fun K hK => ?_); go_simp; first | (refine hK _ ?_; clear hK K) | (apply Exists.intro; refine ⟨fun x => ?_, hK _ ?_⟩; (· (first | (go_at_call 14; with_reducible exact ARM.out x.val x.below) | (go_at_call 14; with_reducible exact ARM2.out x.val x.below) | (go_at_call 35; exact need_ev (aA := aA) (aB := aB) (aP := aP) _ 20 _ _ (ev_bits aA aB aP)))); clear hK K; try go_frame)))
    refine plan_build1 rfl rfl 63 (.tmp 22) rfl _ rfl _ (run_errs1 aA aB aP _) ?_
    intro w1 hb1
    go_frame
    refine plan_hard rfl rfl ?_; intro w2 hb2 K hK; go_simp
    refine (told_single w2 _ _ (isErr_chk _ (by simp [isErr])) ((row_one w1 50 _).ext hb2) (HS.out.ext (below_le hb1 (below_le (below_box _ _) hb2)))).mono ?_
    rintro e w3 ⟨rfl, rfl⟩
    refine hK _ _ (Below.refl _ _) ?_
    clear hK K
    rw [← HC.out]
    repeat (first | (refine plan_skip rfl rfl ?_; go_frame) | (refine plan_soft rfl rfl (fun K hK => ?_); go_simp; first | (refine hK _ ?_; clear hK K) | (apply Exists.intro; refine ⟨fun x => ?_, hK _ ?_⟩; (· (fail)); clear hK K; try go_frame)))
    refine plan_nil fun w3 hb3 => ?_
    have hbw : Below W0.heap.size W0 w3 := below_le hb1 (below_le (below_box _ _) (below_le hb2 hb3))
    have y0 := k0 ⟨w3, hbw⟩
    have y1 := k1 ⟨w3, hbw⟩
    have y3 := k3 ⟨w3, hbw⟩
    have hbr := HBL.out.ext hbw
    have r0 := hbr.cell 0
    have r1 := hbr.cell 1
    have z0 := hbr.frozen 0
    have z1 := hbr.frozen 1
    dsimp only at y0 y1 y3
    have HW := Lib.hid hbw
    have HBR := Lib.hid hbr
    clear hbw hbr k0 k1 k2 k3 g0 hb1 hb2 hb3
    by_cases hz : code = 0
    · have hz' : ((code : Int) != 0) = false := by simp; omega
      have hq := HC.out
      rw [hz] at hq
      obtain ⟨q1, q2, q3⟩ := OK.out (chk_zero (by decide) hq)
      have HZ := Lib.hid hz
      clear hz hq
      have hrw := rightB_elim q1
      have hrw2 := rightB_elim q2
      have hkl : Hid (l = k) := Lib.hid (by have := HL.out; have := HL2.out; have := hrw.2.2.1; have := hrw2.2.2.1; subst q3; omega)
      have hk7 : k ≤ 700 := by have := HL.out; omega
      clear hrw hrw2 q1 q2 q3
      go_wp2_with fail
      refine (change_any 45 #[.pointer (some ⟨w.heap.size + 1, 0, none⟩)] enters45 A k c n xs (orW xs ys) w3.heap.size _ ((HA.out.ext HW.out).ext (below_box _ _)) (by omega) cell_one
        (either1_changes k xs ys _ B d _ hF hG HL.out (by rw [HL2.out]; exact hkl.out) hk7 (by rw [← hkl.out]; exact cell_ext (below_box _ _) y3) (by rw [← hkl.out]; exact (HB.out.ext HW.out).ext (below_box _ _)))
        (by have := HL.out; have := HL2.out; have := hkl.out; simp [orW]; omega)).mono ?_
      rintro e w4 ⟨C, rfl, hBB, hrow, hb4⟩
      have HNE : Hid (C ≠ w.heap.size + 1 + 1) := Lib.hid (by have := HBR.out.lt; simp at hBB; omega)
      clear hBB
      have hbr4 := (HBR.out.ext (below_box w3 (.cells #[.func (.func 45) #[] #[.pointer (some ⟨w.heap.size + 1, 0, none⟩)]] 54))).ext hb4
      have r40 := hbr4.cell 0
      have r41 := hbr4.cell 1
      have z40 := hbr4.frozen 0
      have z41 := hbr4.frozen 1
      have HROW := Lib.hid hrow
      have HB4 := Lib.hid (below_le (below_le HW0.out HW.out) (below_le (below_box _ _) hb4))
      have HBR4 := Lib.hid hbr4
      clear hrow hb4 hbr4 r0 r1 z0 z1 y0 y1 y3
      go_wp2
      have hB3 := (HBR4.out.set_ 0 (.int .i64 n)).set_ 1 (.slice (some ⟨C, 0, none⟩) k k)
      have q0 := hB3.cell 0
      have q1 := hB3.cell 1
      simp at q0 q1
      refine bodyPost_ret (v := .tuple #[.agg #[.int .i64 n, .slice (some ⟨C, 0, none⟩) k k], .int .i64 0]) (by simp [results, Tryd.results21, go_sem, q0, q1]) rfl ?_
      refine GivesIf.yes HZ.out ⟨_, _, _, rfl, ?_, ?_⟩
      · exact (HROW.out.far (p := ⟨w.heap.size + 1 + 1, 0, none⟩) HNE.out _).far (p := ⟨w.heap.size + 1 + 1, 1, none⟩) HNE.out _
      · exact (HB4.out.setCell (p := ⟨w.heap.size + 1 + 1, 0, none⟩) (by show w.heap.size ≤ w.heap.size + 1 + 1; omega) _).setCell (p := ⟨w.heap.size + 1 + 1, 1, none⟩) (by show w.heap.size ≤ w.heap.size + 1 + 1; omega) _
    · have hz' : ((code : Int) != 0) = true := by simp; omega
      have HZ := Lib.hid hz
      clear hz
      go_wp2
      have hB3 := (HBR.out.set_ 0 (.int .i64 0)).set_ 1 (.slice none 0 0)
      have q0 := hB3.cell 0
      have q1 := hB3.cell 1
      simp at q0 q1
      refine bodyPost_ret (v := .tuple #[.agg #[.int .i64 0, .slice none 0 0], .int .i64 code]) (by simp [results, Tryd.results21, go_sem, q0, q1]) rfl ?_
      refine GivesIf.no HZ.out ⟨_, _, _, rfl, Row.none_, ?_⟩
      have hb4 := below_le HW0.out HW.out
      exact (hb4.setCell (p := ⟨w.heap.size + 1 + 1, 0, none⟩) (by show w.heap.size ≤ w.heap.size + 1 + 1; omega) _).setCell (p := ⟨w.heap.size + 1 + 1, 1, none⟩) (by show w.heap.size ≤ w.heap.size + 1 + 1; omega) _

end Go.Proofs.YtpoopkieoidhjaaDoor
