/-
  What is proved: the contract of shown of the laws of layer 4. No condition beyond those stated.
-/
import Derived.Test.YtepnamlcofmccaaGreatDoorCq
namespace Go.Proofs.YtepnamlcofmccaaGreatDoor
open Go.RowKit Go.Stop

/-- What the variables hold. -/
def DE (w : World) : Prop := EType w ∧ SSize w ∧ MLen w
theorem DE.ext {w w' : World} (h : DE w) (hb : Below w.heap.size w w') : DE w' := ⟨h.1.ext hb, h.2.1.ext hb, h.2.2.ext hb⟩

theorem run_five (x y z u v : Int) (W : World) : (Instr.buildSlice 22 5 #[(0, .int .i64 x), (1, .int .i64 y), (2, .int .i64 z), (3, .int .i64 u), (4, .int .i64 v)]).run Tryz.prog W = .ok (.slice (some ⟨W.heap.size, 0, none⟩) 5 5) (W.alloc (.cells #[.int .i64 x, .int .i64 y, .int .i64 z, .int .i64 u, .int .i64 v] 3)) := by go_simp

set_option maxRecDepth 100000 in
set_option maxHeartbeats 4000000 in
/-- shown. -/
theorem dshown_any (w : World) (hD : DE w) : Calls Tryz.prog 5 #[] w fun e w' => e = .returned (.bool true) ∧ Below w.heap.size w w' := by
  have HD := Lib.hid hD
  have HB := Lib.hid (Below.refl w.heap.size w)
  clear hD
  go_enter Tryz.func5, Tryz.ntmps5
  go_wp2_with fail
  have h := parse_any ⟨#[56, 58, 32, 52, 59, 32, 49, 50, 58, 32, 48, 32, 56]⟩ w (by decide) HD.out.2.2 HD.out.1
  rw [show readT (⟨#[56, 58, 32, 52, 59, 32, 49, 50, 58, 32, 48, 32, 56]⟩ : ByteArray).data.toList = some (8, [4], 12, [0, 8]) from sh_read1] at h
  refine h.mono ?_
  clear h
  rintro x w1 ⟨dv, rfl, ⟨P, m, c, Q, q, f, rfl, hP, hQ, -, -⟩, hb1⟩
  have hP : Row w1 P m ([4].map Iv) := hP
  have hQ : Row w1 Q q ([0, 8].map Iv) := hQ
  obtain rfl : m = 1 := hP.1.symm
  obtain rfl : q = 2 := hQ.1.symm
  have hx := below_box w1 (descO 8 P 1 c 12 Q 2 f)
  have h1 : Blk (w1.alloc (descO 8 P 1 c 12 Q 2 f)) w1.heap.size 24 #[.int .i64 8, .slice P 1 c, .int .i64 12, .slice Q 2 f] := Blk.new _ _ _
  have HP := Lib.hid (hP.ext hx)
  have HQ := Lib.hid (hQ.ext hx)
  have a0 := h1.at_ (i := 0) rfl
  have a1 := h1.at_ (i := 1) rfl
  have a2 := h1.at_ (i := 2) rfl
  have a3 := h1.at_ (i := 3) rfl
  replace HB := Lib.hid (below_le (below_le HB.out hb1) hx)
  clear hP hQ hx hb1 h1
  simp only [dsc0, Option.getD_some, Option.isSome_some, if_true]
  go_wp2_with fail
  generalize w1.alloc (descO 8 P 1 c 12 Q 2 f) = W1 at *
  have h := bytes_any 8 12 2 P Q 1 c 2 f [4] [0, 8] W1 (HD.out.1.ext HB.out) (HD.out.2.1.ext HB.out) HP.out HQ.out (by omega) (by omega)
  rw [sh_bytes, sh_form.1] at h
  refine h.mono ?_
  clear h
  rintro x w2 ⟨rfl, hb2⟩
  replace a0 := cell_ext hb2 a0; replace a1 := cell_ext hb2 a1; replace a2 := cell_ext hb2 a2; replace a3 := cell_ext hb2 a3; replace HP := Lib.hid (HP.out.ext hb2); replace HQ := Lib.hid (HQ.out.ext hb2)
  replace HB := Lib.hid (below_le HB.out hb2)
  clear hb2
  go_wp2_with fail
  have h := slots_any 8 12 2 P Q 1 c 2 f [4] [0, 8] w2 (HD.out.1.ext HB.out) HP.out HQ.out (by omega) (by omega) (by omega)
  rw [sh_slots, sh_form.1] at h
  refine h.mono ?_
  clear h
  rintro x w3 ⟨L, l, lc, rfl, hL, -, hb3⟩
  obtain rfl : l = 5 := hL.1.symm
  replace a0 := cell_ext hb3 a0; replace a1 := cell_ext hb3 a1; replace a2 := cell_ext hb3 a2; replace a3 := cell_ext hb3 a3; replace HP := Lib.hid (HP.out.ext hb3); replace HQ := Lib.hid (HQ.out.ext hb3)
  replace HB := Lib.hid (below_le HB.out hb3)
  have HL := Lib.hid hL
  clear hb3 hL
  go_wp2_with fail
  have h := kind_any 8 12 2 12 P Q 1 c 2 f [4] [0, 8] w3 (HD.out.1.ext HB.out) HP.out HQ.out (by omega) (by omega)
  rw [sh_kind, sh_form.1] at h
  refine h.mono ?_
  clear h
  rintro x w4 ⟨rfl, hb4⟩
  replace HL := Lib.hid (HL.out.ext hb4)
  replace HB := Lib.hid (below_le HB.out hb4)
  clear hb4 a0 a1 a2 a3 HP HQ
  go_wp2_with fail
  have h := parse_any ⟨#[56, 58, 32, 56, 59, 32, 48, 58]⟩ w4 (by decide) (HD.out.2.2.ext HB.out) (HD.out.1.ext HB.out)
  rw [show readT (⟨#[56, 58, 32, 56, 59, 32, 48, 58]⟩ : ByteArray).data.toList = none from sh_read2] at h
  refine h.mono ?_
  clear h
  rintro x w5 ⟨dv, rfl, ⟨P', m', c', Q', q', f', rfl, -, -, -, -⟩, hb5⟩
  have hx := below_box w5 (descO 0 P' m' c' 0 Q' q' f')
  replace HL := Lib.hid ((HL.out.ext hb5).ext hx)
  replace HB := Lib.hid (below_le (below_le HB.out hb5) hx)
  clear hb5 hx
  simp only [dsc0, Option.getD_none, Option.isSome_none, Bool.false_eq_true, if_false]
  go_wp2_with fail
  generalize w5.alloc (descO 0 P' m' c' 0 Q' q' f') = W5 at *
  have h := bytes_any 0 0 1 none none 0 0 0 0 [] [] W5 (HD.out.1.ext HB.out) (HD.out.2.1.ext HB.out) Row.none_ Row.none_ (by omega) (by omega)
  rw [sh_form.2] at h
  generalize bytesR 0 [] 0 [] 1 = br at h
  refine h.mono ?_
  clear h
  rintro x w6 ⟨rfl, hb6⟩
  replace HL := Lib.hid (HL.out.ext hb6)
  replace HB := Lib.hid (below_le HB.out hb6)
  clear hb6
  have hro := run_five 4 8 16 20 28
  go_wp2_with fail
  have hx := below_box w6 (.cells #[.int .i64 4, .int .i64 8, .int .i64 16, .int .i64 20, .int .i64 28] 3)
  have hbl : Blk (w6.alloc (.cells #[.int .i64 4, .int .i64 8, .int .i64 16, .int .i64 20, .int .i64 28] 3)) w6.heap.size 3 #[.int .i64 4, .int .i64 8, .int .i64 16, .int .i64 20, .int .i64 28] := Blk.new _ _ _
  have h := ints_any L (some ⟨w6.heap.size, 0, none⟩) 5 lc 5 5 [4, 8, 16, 20, 28] [4, 8, 16, 20, 28] _ (HL.out.ext hx) hbl.row (by omega) (by omega)
  refine h.mono ?_
  clear h hro
  rintro x w7 ⟨rfl, hb7⟩
  have hI : decide (([4, 8, 16, 20, 28] : List Int) = [4, 8, 16, 20, 28]) = true := decide_eq_true rfl
  rw [hI]
  replace HB := Lib.hid (below_le (below_le HB.out hx) hb7)
  clear hx hbl hb7
  go_wp2
  go_ret
  exact ⟨rfl, HB.out⟩

end Go.Proofs.YtepnamlcofmccaaGreatDoor
