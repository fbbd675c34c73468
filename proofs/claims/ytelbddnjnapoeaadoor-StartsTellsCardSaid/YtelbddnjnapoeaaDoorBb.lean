/-
  What is proved: contracts of Has, Same and Count of package bits. No condition beyond those stated.
-/
import Derived.Test.YtelbddnjnapoeaaDoorBa
namespace Go.Proofs.YtelbddnjnapoeaaDoor
open Go.RowKit

theorem box0 {w : World} {t : TypeId} {v0 v1 : Value} : (w.alloc (.cells #[v0, v1] t)).cell? ⟨w.heap.size, 0, none⟩ = some v0 := by simp [go_sem]
theorem box1 {w : World} {t : TypeId} {v0 v1 : Value} : (w.alloc (.cells #[v0, v1] t)).cell? ⟨w.heap.size, 1, none⟩ = some v1 := by simp [go_sem]

set_option maxHeartbeats 400000 in
/-- bits.Has, whatever the bits and the place are. -/
theorem has_any (A : Option Addr) (m c : Nat) (n : Int) (ws : List Nat) (i : Int) (w : World) (hR : Row w A m (ws.map U32)) (hF : Fits ws) :
    Calls Tryd.prog 38 #[.agg #[.int .i64 n, .slice A m c], .int .i64 i] w fun e w' => e = .returned (.bool (hasB n ws i)) ∧ Below w.heap.size w w' := by
  have hl := hR.1
  simp at hl
  have hb0 := below_box w (.cells #[.int .i64 n, .slice A m c] 24)
  have hR0 := hR.ext hb0
  have H0 := Lib.hid hR0
  have HF := Lib.hid hF
  have HL := Lib.hid hl
  have HB := Lib.hid hb0
  clear hR hF hR0 hl hb0
  cases hr : rightB n ws
  · have HH : Hid (hasB n ws i = false) := Lib.hid (by simp [hasB, hr])
    have Hr := Lib.hid hr
    clear hr
    go_enter Tryd.func38, Tryd.ntmps38
    go_wp2_with fail
    refine (right_any A m c n ws _ H0.out HF.out).mono ?_
    rintro e w1 ⟨rfl, hb1⟩
    have HB1 := Lib.hid hb1
    clear hb1
    rw [Hr.out]
    go_wp2
    go_ret
    exact ⟨ret_bool HH.out.symm, below_le HB.out HB1.out⟩
  · obtain ⟨g0, g1, g2, _⟩ := rightB_elim hr
    by_cases h0 : 0 ≤ i
    · by_cases h1 : i < n
      · have d0 : decide (0 ≤ i) = true := by simpa using h0
        have d1 : decide (i < n) = true := by simpa using h1
        have HH : Hid (hasB n ws i = tb ws i.toNat) := Lib.hid (by simp [hasB, hr, h0, h1])
        have Hr := Lib.hid hr
        have G2 := Lib.hid g2
        clear hr g2
        go_enter Tryd.func38, Tryd.ntmps38
        go_wp2_with fail
        refine (right_any A m c n ws _ H0.out HF.out).mono ?_
        rintro e w1 ⟨rfl, hb1⟩
        have k0 := cell_ext hb1 (box0 (w := w) (t := 24) (v0 := .int .i64 n) (v1 := .slice A m c))
        have k1 := cell_ext hb1 (box1 (w := w) (t := 24) (v0 := .int .i64 n) (v1 := .slice A m c))
        have HB1 := Lib.hid hb1
        clear hb1
        rw [Hr.out]
        go_wp2_with fail
        refine (isOn_any A m c ws i _ (H0.out.ext HB1.out) HF.out h0 (by have := G2.out; have := HL.out; omega) (by omega)).mono ?_
        rintro e w2 ⟨rfl, rfl⟩
        go_wp2
        go_ret
        exact ⟨ret_bool HH.out.symm, below_le HB.out HB1.out⟩
      · have d0 : decide (0 ≤ i) = true := by simpa using h0
        have d1 : decide (i < n) = false := by simpa using h1
        have HH : Hid (hasB n ws i = false) := Lib.hid (by simp [hasB, d1])
        have Hr := Lib.hid hr
        have G2 := Lib.hid g2
        clear hr g2
        go_enter Tryd.func38, Tryd.ntmps38
        go_wp2_with fail
        refine (right_any A m c n ws _ H0.out HF.out).mono ?_
        rintro e w1 ⟨rfl, hb1⟩
        have k0 := cell_ext hb1 (box0 (w := w) (t := 24) (v0 := .int .i64 n) (v1 := .slice A m c))
        have HB1 := Lib.hid hb1
        clear hb1
        rw [Hr.out]
        go_wp2
        go_ret
        exact ⟨ret_bool HH.out.symm, below_le HB.out HB1.out⟩
    · have d0 : decide (0 ≤ i) = false := by simpa using h0
      have HH : Hid (hasB n ws i = false) := Lib.hid (by simp [hasB, d0])
      have Hr := Lib.hid hr
      have G2 := Lib.hid g2
      clear hr g2
      go_enter Tryd.func38, Tryd.ntmps38
      go_wp2_with fail
      refine (right_any A m c n ws _ H0.out HF.out).mono ?_
      rintro e w1 ⟨rfl, hb1⟩
      have HB1 := Lib.hid hb1
      clear hb1
      rw [Hr.out]
      go_wp2
      go_ret
      exact ⟨ret_bool HH.out.symm, below_le HB.out HB1.out⟩

end Go.Proofs.YtelbddnjnapoeaaDoor
