/-
  What is proved: contracts of package starts' turn, Put and Drop. No condition beyond those stated.
-/
import Derived.Test.YtelbddnjnapoeaaDoorDl
namespace Go.Proofs.YtelbddnjnapoeaaDoor
open Go.RowKit

def turnW0 (w : World) (n : Int) (A : Option Addr) (m c : Nat) (r : Bool) : World := (w.alloc (.cells #[.int .i64 n, .slice A m c, .bool r] 44)).alloc (.cells #[.int .i64 0, .slice none 0 0] 24)
theorem chk_ok {n : Int} {ws : List Nat} {a : Int} {there : Bool} (h : chkCode n ws (sRight n ws) a there = 0) : rightB n ws = true ∧ placeOk n (a / 8) = true ∧ 0 ≤ a := by
  unfold chkCode at h
  cases hr : sRight n ws
  · simp [hr] at h
  · cases hp : placeB n a
    · simp [hr, hp] at h
    · have h1 := (sRight_elim hr).2.2.2
      have h2 : (0 ≤ a ∧ a % 8 = 0) ∧ a / 8 < n := by simpa [placeB] using hp
      refine ⟨h1, ?_, h2.1.1⟩
      have : 0 ≤ a / 8 := by omega
      simp [placeOk, this, h2.2]

set_option maxRecDepth 100000 in
set_option maxHeartbeats 1000000 in
/-- starts' turn. -/
theorem sturn_any (A : Option Addr) (m c : Nat) (n a : Int) (ws : List Nat) (on : Bool) (aA aB aP aS : Addr) (w : World) (ha : a ≤ 9223372036854775807) (hB : BSent w aA aB aP) (hS : SSent w aS) (hR : Row w A m (ws.map U32)) (hF : Fits ws)
    (code : Nat) (hcode : chkCode n ws (sRight n ws) a (!on) = code) :
    Calls Tryd.prog 31 #[startsV n A m c (sRight n ws), .int .i64 a, .bool on] w (GivesIf w code n (setW ws (a / 8).toNat on)) := by
  have hb0 : Below w.heap.size w (turnW0 w n A m c (sRight n ws)) := below_le (below_box _ _) (below_box _ _)
  have k0 : (turnW0 w n A m c (sRight n ws)).cell? ⟨w.heap.size, 0, none⟩ = some (.int .i64 n) := by simp [go_sem, turnW0]
  have k1 : (turnW0 w n A m c (sRight n ws)).cell? ⟨w.heap.size, 1, none⟩ = some (.slice A m c) := by simp [go_sem, turnW0]
  have k2 : (turnW0 w n A m c (sRight n ws)).cell? ⟨w.heap.size, 2, none⟩ = some (.bool (sRight n ws)) := by simp [go_sem, turnW0]
  have hrb : Blk (turnW0 w n A m c (sRight n ws)) (w.heap.size + 1) 24 #[.int .i64 0, .slice none 0 0] := heap_new (by simp) _
  have HC := Lib.hid hcode
  have HR := Lib.hid (hR.ext hb0)
  have HS := Lib.hid (hS.ext hb0)
  have HBS := Lib.hid (hB.ext hb0)
  have HB := Lib.hid hb0
  have HRB := Lib.hid hrb
  have HF := Lib.hid hF
  have HA := Lib.hid ha
  have hst : startsV n A m c (sRight n ws) = .agg #[.int .i64 n, .slice A m c, .bool (sRight n ws)] := rfl
  have hchk := check_any A m c n a ws (sRight n ws) (!on) aS (turnW0 w n A m c (sRight n ws)) HA.out HS.out HR.out HF.out
  rw [hcode, hst] at hchk
  have HCHK := Lib.hid hchk
  have hok := chk_ok (n := n) (ws := ws) (a := a) (there := !on)
  rw [hcode] at hok
  have HOK := Lib.hid hok
  clear hR hS hB hb0 hrb hF ha hcode hchk hok
  rw [hst]
  clear hst
  generalize sRight n ws = r at *
  go_enter Tryd.func31, Tryd.ntmps31
  go_wp2_with fail
  change Calls _ _ _ (turnW0 w n A m c r) _
  generalize turnW0 w n A m c r = W0 at *
  refine HCHK.out.mono ?_
  clear HCHK
  rintro e w1 ⟨v, rfl, hv, hb1⟩
  have HV := Lib.hid hv
  have HB1 := Lib.hid hb1
  clear hv hb1
  go_wp2_with fail
  refine (number_any aS code v w1 (HS.out.ext HB1.out) HV.out).mono ?_
  rintro e w2 ⟨rfl, hb2⟩
  have HB2 := Lib.hid (below_le HB1.out hb2)
  clear HV hb2
  have c0 := cell_ext HB2.out k0
  have c1 := cell_ext HB2.out k1
  have hr2 := HRB.out.ext HB2.out
  have f0 := hr2.frozen 0
  have f1 := hr2.frozen 1
  have d0 := hr2.cell 0
  have d1 := hr2.cell 1
  have HR2 := Lib.hid hr2
  clear hr2 k0 k1 k2
  by_cases hz : code = 0
  · subst hz
    have ⟨h1, h2, h3⟩ := HOK.out rfl
    have hq1 : IntKind.i64.wrap (a.tdiv 8) = a / 8 := by have := HA.out; rw [IntKind.wrap_i64, Int.tdiv_eq_ediv_of_nonneg h3]; omega
    have hq3 : IntKind.i64.wrap (a / 8) = a / 8 := by have := HA.out; rw [IntKind.wrap_i64]; omega
    have hset := set_any A m c n ws (a / 8) on aA aB aP w2 (HBS.out.ext HB2.out) (HR.out.ext HB2.out) HF.out 0 (by rw [h1, h2]; simp [first2, chk])
    have HSET := Lib.hid hset
    clear hset h1 h2 h3
    go_wp2_with fail
    refine HSET.out.mono ?_
    clear HSET
    rintro e w3 ⟨C, q, f, rfl, hRc, hb3⟩
    have hr1 := HR2.out.ext hb3
    have f0 := hr1.frozen 0
    have f1 := hr1.frozen 1
    have d0 := hr1.cell 0
    have d1 := hr1.cell 1
    have hr2 := (hr1.set_ 0 (.int .i64 n)).set_ 1 (.slice C q f)
    have hRd := (hRc.unbox (fun _ h => by cases h) hr1 0 (.int .i64 n)).unbox (fun _ h => by cases h) (hr1.set_ 0 (.int .i64 n)) 1 (.slice C q f)
    have HB3 := Lib.hid (below_le (below_le HB.out HB2.out) hb3)
    have HR3 := Lib.hid hr2
    have HRD := Lib.hid hRd
    clear hr1 hr2 hRc hRd hb3
    go_wp2
    have q0 := HR3.out.cell 0
    have q1 := HR3.out.cell 1
    simp at q0 q1
    have hbf := (HB3.out.setCell (p := ⟨w.heap.size + 1, 0, none⟩) (by show w.heap.size ≤ w.heap.size + 1; omega) (.int .i64 n)).setCell (p := ⟨w.heap.size + 1, 1, none⟩) (by show w.heap.size ≤ w.heap.size + 1; omega) (.slice C q f)
    exact bodyPost_ret (v := .tuple #[.agg #[.int .i64 n, .slice C q f], .int .i64 0]) (by simp [results, Tryd.results31, go_sem, q0, q1]) rfl ⟨_, _, _, rfl, HRD.out, hbf⟩
  · have hz' : ((code : Int) != 0) = true := by simp; omega
    have HZ := Lib.hid hz
    clear hz
    go_wp2
    have hr2 := (HR2.out.set_ 0 (.int .i64 0)).set_ 1 (.slice none 0 0)
    have q0 := hr2.cell 0
    have q1 := hr2.cell 1
    simp at q0 q1
    have hbf := ((below_le HB.out HB2.out).setCell (p := ⟨w.heap.size + 1, 0, none⟩) (by show w.heap.size ≤ w.heap.size + 1; omega) (.int .i64 0)).setCell (p := ⟨w.heap.size + 1, 1, none⟩) (by show w.heap.size ≤ w.heap.size + 1; omega) (.slice none 0 0)
    exact bodyPost_ret (v := .tuple #[.agg #[.int .i64 0, .slice none 0 0], .int .i64 code]) (by simp [results, Tryd.results31, go_sem, q0, q1]) rfl (GivesIf.no HZ.out ⟨_, _, _, rfl, Row.none_, hbf⟩)

end Go.Proofs.YtelbddnjnapoeaaDoor
