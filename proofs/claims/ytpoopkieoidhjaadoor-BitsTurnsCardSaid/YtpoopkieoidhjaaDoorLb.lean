/-
  What is proved: the contract of shown of the laws. No condition beyond those stated.
-/
import Derived.Test.YtpoopkieoidhjaaDoorLa
namespace Go.Proofs.YtpoopkieoidhjaaDoor
open Go.RowKit Go.Shelf

theorem chk_true (k : Nat) : chk true k = 0 := by unfold chk; rfl
theorem chk_false (k : Nat) : chk false k = k := by unfold chk; rfl
theorem first2_z (l : Nat) : first2 0 l = l := by unfold first2; rfl
theorem first2_nz (k l : Nat) (h : k ≠ 0) : first2 k l = k := by unfold first2; rw [if_neg h]
theorem GivesIf.ok {w : World} {n : Int} {ws : List Nat} {e : Ending} {w' : World} (h : GivesIf w 0 n ws e w') : GivesBits w 0 n ws e w' := h
theorem GivesIf.bad {w : World} {code : Nat} {n : Int} {ws : List Nat} {e : Ending} {w' : World} (hc : code ≠ 0) (h : GivesIf w code n ws e w') : GivesBits w code 0 [] e w' := by
  unfold GivesIf at h
  rwa [if_neg hc, if_neg hc] at h

theorem run_two (W : World) :
    (Instr.buildSlice 22 2 #[(0, .int .u32 3221225472), (1, .int .u32 3)]).run Tryd.prog W = .ok (.slice (some ⟨W.heap.size, 0, none⟩) 2 2) (W.alloc (.cells #[.int .u32 3221225472, .int .u32 3] 47)) := by
  go_simp

set_option maxRecDepth 100000 in
set_option maxHeartbeats 2000000 in
/-- shown. -/
theorem shown_any (aA aB aP : Addr) (w : World) (hS : BSent w aA aB aP) :
    Calls Tryd.prog 11 #[] w fun e w' => e = .returned (.bool true) ∧ Below w.heap.size w w' := by
  have HS := Lib.hid hS
  clear hS
  go_enter Tryd.func11, Tryd.ntmps11
  go_wp2_with fail
  refine (make_ok 40 aA aB aP w HS.out (by omega) (by omega)).mono ?_
  rintro e w1 ⟨A, m, c, rfl, hR1, hb1⟩
  have hx := below_box w1 (.cells #[.int .i64 40, .slice A m c] 24)
  have HR1 := Lib.hid (hR1.ext hx)
  have HB1 := Lib.hid (below_le hb1 hx)
  clear hR1 hb1 hx
  go_wp2_with fail
  refine (fill_any A m c 40 [0, 0] 30 34 true aA aB aP _ (HS.out.ext HB1.out) HR1.out (by simp [Fits]) 0 (by rw [show rightB 40 [0, 0] = true by decide, show fillOk 40 30 34 = true by decide, chk_true, chk_true, first2_z])).mono ?_
  rintro e w2 h2
  obtain ⟨B, l, d, rfl, hR2, hb2⟩ := h2.ok
  rw [show fillW [0, 0] (placesN 30 34) true = [3221225472, 3] by decide] at hR2
  have hx := below_box w2 (.cells #[.int .i64 40, .slice B l d] 24)
  have HR2 := Lib.hid (hR2.ext hx)
  have HB2 := Lib.hid (below_le HB1.out (below_le hb2 hx))
  have k0 : (w2.alloc (.cells #[.int .i64 40, .slice B l d] 24)).cell? ⟨w2.heap.size, 0, none⟩ = some (.int .i64 40) := by simp [go_sem]
  have k1 : (w2.alloc (.cells #[.int .i64 40, .slice B l d] 24)).cell? ⟨w2.heap.size, 1, none⟩ = some (.slice B l d) := by simp [go_sem]
  clear hR2 hb2 hx h2 HR1 HB1
  go_wp2_with fail
  generalize w2.alloc (.cells #[.int .i64 40, .slice B l d] 24) = W2 at *
  refine (next_any B l d 40 [3221225472, 3] 0 true W2 HR2.out (by simp [Fits])).mono ?_
  rw [show nextN 40 [3221225472, 3] 0 true = some 30 by decide]
  rintro e w3 ⟨rfl, hb3⟩
  have e0 := cell_ext hb3 k0
  have e1 := cell_ext hb3 k1
  have HR3 := Lib.hid (HR2.out.ext hb3)
  have HB3 := Lib.hid (below_le HB2.out hb3)
  clear hb3 k0 k1 HR2 HB2
  go_wp2_with fail
  refine (next_any B l d 40 [3221225472, 3] 30 false w3 HR3.out (by simp [Fits])).mono ?_
  rw [show nextN 40 [3221225472, 3] 30 false = some 34 by decide]
  rintro e w4 ⟨rfl, hb4⟩
  have k0 := cell_ext hb4 e0
  have k1 := cell_ext hb4 e1
  have HR4 := Lib.hid (HR3.out.ext hb4)
  have HB4 := Lib.hid (below_le HB3.out hb4)
  clear hb4 e0 e1 HR3 HB3
  go_wp2_with fail
  refine (set_any B l d 40 [3221225472, 3] 40 true aA aB aP w4 (HS.out.ext HB4.out) HR4.out (by simp [Fits]) 21 (by rw [show rightB 40 [3221225472, 3] = true by decide, show placeOk 40 40 = false by decide, chk_true, chk_false, first2_z])).mono ?_
  rintro e w5 h5
  obtain ⟨C, q, f, rfl, -, hb5⟩ := h5.bad (by omega)
  have hx := below_box w5 (.cells #[.int .i64 0, .slice C q f] 24)
  have hb6 := below_le hb5 hx
  have e0 := cell_ext hb6 k0
  have e1 := cell_ext hb6 k1
  have hy : Row ((w5.alloc (.cells #[.int .i64 0, .slice C q f] 24)).alloc (.cells #[.int .u32 3221225472, .int .u32 3] 47)) (some ⟨w5.heap.size + 1, 0, none⟩) 2 ([3221225472, 3].map U32) := by
    refine ⟨rfl, fun _ => ⟨_, _, rfl, fun j u hj => ?_⟩⟩
    match j with
    | 0 => simp [go_sem, U32] at hj ⊢; exact hj
    | 1 => simp [go_sem, U32] at hj ⊢; exact hj
    | j + 2 => simp at hj
  have hz := below_box (w5.alloc (.cells #[.int .i64 0, .slice C q f] 24)) (.cells #[.int .u32 3221225472, .int .u32 3] 47)
  have k0' := cell_ext hz e0
  have k1' := cell_ext hz e1
  have HR6 := Lib.hid ((HR4.out.ext hb6).ext hz)
  have HY := Lib.hid hy
  have HB6 := Lib.hid (below_le HB4.out (below_le hb6 hz))
  clear hb5 hb6 k0 k1 HR4 HB4 hx hy h5 hz
  have hrt := run_two
  have hl2 : l = 2 := by have := HR6.out.1; simpa using this.symm
  have hfit : Fits [3221225472, 3] := by simp [Fits]
  have hsm : sameB 40 [3221225472, 3] 40 [3221225472, 3] = true := by simp [sameB]
  have h7 := refsame_any B _ 40 40 l d 2 2 [3221225472, 3] [3221225472, 3] _ HR6.out HY.out hfit hfit (by omega) (by omega)
  rw [hsm] at h7
  have H7 := Lib.hid h7
  clear h7 hfit hsm hl2
  go_wp2_with fail
  generalize (w5.alloc (.cells #[.int .i64 0, .slice C q f] 24)).alloc (.cells #[.int .u32 3221225472, .int .u32 3] 47) = W6 at *
  refine H7.out.mono ?_
  rintro e w7 ⟨rfl, hb7⟩
  have e0 := cell_ext hb7 k0'
  have e1 := cell_ext hb7 k1'
  have HR7 := Lib.hid (HR6.out.ext hb7)
  have HB7 := Lib.hid (below_le HB6.out hb7)
  clear hb7 k0' k1' HR6 HB6 HY hrt H7
  go_wp2_with fail
  refine (count_any B l d 40 [3221225472, 3] w7 HR7.out (by simp [Fits])).mono ?_
  rw [show countN 40 [3221225472, 3] = 4 by decide +kernel]
  rintro e w8 ⟨rfl, hb8⟩
  have HB8 := Lib.hid (below_le HB7.out hb8)
  clear hb8
  go_wp2
  go_ret
  exact ⟨rfl, HB8.out⟩

end Go.Proofs.YtpoopkieoidhjaaDoor
