/-
  What is proved: contracts of those functions that this program has, and plain facts beside them. No condition beyond those stated.
-/
import Derived.Test.YtelbddnjnapoeaaDoorRd
namespace Go.Proofs.YtelbddnjnapoeaaDoor
open Go.RowKit Go.Shelf

/-- The reference's Fill, whatever it is handed. -/
theorem reffill_any (A : Option Addr) (m c : Nat) (n : Int) (ws : List Nat) (lo hi : Int) (on : Bool) (w : World) (hR : Row w A m (ws.map U32)) (hF : Fits ws)
    (code : Nat) (hcode : code = first2 (chk (rightB n ws) 20) (chk (fillOk n lo hi) 21)) :
    Calls Tryd.prog 62 #[.agg #[.int .i64 n, .slice A m c], .int .i64 lo, .int .i64 hi, .bool on] w (GivesIf w code n (fillW ws (placesN lo hi) on)) := by
  by_cases hz : code = 0
  · have hr : rightB n ws = true := by
      cases h : rightB n ws
      · rw [hcode, h, chk_false, first2_nz _ _ (by omega)] at hz; omega
      · rfl
    have hf : fillOk n lo hi = true := by
      cases h : fillOk n lo hi
      · rw [hcode, hr, h, chk_true, chk_false, first2_z] at hz; omega
      · rfl
    exact (reffill_ok A m c n ws lo hi on w hR hF hr hf).mono fun _ _ h => GivesIf.yes hz h
  · exact reffill_bad A m c n ws lo hi on w hR hF code hcode hz

theorem place_one (i : Int) (h : 0 ≤ i) : placesN i (i + 1) = [i.toNat] := by
  have h1 := places_succ (lo := i) (k := i.toNat) (by omega)
  rw [Int.toNat_of_nonneg h, places_none] at h1
  simpa using h1

set_option maxRecDepth 100000 in
set_option maxHeartbeats 2000000 in
/-- The reference's Set. -/
theorem refset_any (A : Option Addr) (m c : Nat) (n : Int) (ws : List Nat) (i : Int) (on : Bool) (w : World) (hR : Row w A m (ws.map U32)) (hF : Fits ws)
    (code : Nat) (hcode : code = first2 (chk (rightB n ws) 20) (chk (placeOk n i) 21)) :
    Calls Tryd.prog 49 #[.agg #[.int .i64 n, .slice A m c], .int .i64 i, .bool on] w (GivesIf w code n (setW ws i.toNat on)) := by
  have hb0 : Below w.heap.size w (fillR0 w n A m c) := below_le (below_box _ _) (below_box _ _)
  have k0 : (fillR0 w n A m c).cell? ⟨w.heap.size, 0, none⟩ = some (.int .i64 n) := by simp [go_sem, fillR0]
  have k1 : (fillR0 w n A m c).cell? ⟨w.heap.size, 1, none⟩ = some (.slice A m c) := by simp [go_sem, fillR0]
  have hrb : Blk (fillR0 w n A m c) (w.heap.size + 1) 24 #[.int .i64 0, .slice none 0 0] := heap_new (by simp) _
  have HR := Lib.hid (hR.ext hb0)
  have HB := Lib.hid hb0
  have HRB := Lib.hid hrb
  have HC := Lib.hid hcode
  have HF := Lib.hid hF
  clear hR hb0 hrb hcode hF
  go_enter Tryd.func49, Tryd.ntmps49
  go_wp2_with fail
  change Calls _ _ _ (fillR0 w n A m c) _
  generalize fillR0 w n A m c = W0 at *
  refine (refright_any A m c n ws W0 HR.out HF.out).mono ?_
  rintro e w1 ⟨rfl, hb1⟩
  have e0 := cell_ext hb1 k0
  have e1 := cell_ext hb1 k1
  have hr1 := HRB.out.ext hb1
  have f0 := hr1.frozen 0
  have f1 := hr1.frozen 1
  have d0 := hr1.cell 0
  have d1 := hr1.cell 1
  have hr2 := (hr1.set_ 0 (.int .i64 0)).set_ 1 (.slice none 0 0)
  have HB1 := Lib.hid (below_le HB.out hb1)
  have HRB1 := Lib.hid hr1
  have HR2 := Lib.hid hr2
  have HR1 := Lib.hid (HR.out.ext hb1)
  clear hb1 k0 k1 hr1 hr2
  have fin : ∀ (cd : Nat), code = cd → cd ≠ 0 → GivesIf w code n (setW ws i.toNat on) (.returned (.tuple #[.agg #[.int .i64 0, .slice none 0 0], .int .i64 cd])) ((w1.setCell ⟨w.heap.size + 1, 0, none⟩ (.int .i64 0)).setCell ⟨w.heap.size + 1, 1, none⟩ (.slice none 0 0)) := by
    intro cd hcd hz
    subst hcd
    exact GivesIf.no hz ⟨_, _, _, rfl, Row.none_, (HB1.out.setCell (p := ⟨w.heap.size + 1, 0, none⟩) (by show w.heap.size ≤ w.heap.size + 1; omega) _).setCell (p := ⟨w.heap.size + 1, 1, none⟩) (by show w.heap.size ≤ w.heap.size + 1; omega) _⟩
  have FIN := Lib.hid fin
  clear fin
  cases hr : rightB n ws
  · have hcd : code = 20 := by rw [HC.out, hr, chk_false, first2_nz _ _ (by omega)]
    have HCD := Lib.hid hcd
    clear hr hcd
    go_wp2
    have q0 := HR2.out.cell 0
    have q1 := HR2.out.cell 1
    simp at q0 q1
    exact bodyPost_ret (v := .tuple #[.agg #[.int .i64 0, .slice none 0 0], .int .i64 20]) (by simp [results, Tryd.results49, go_sem, q0, q1]) rfl (FIN.out 20 HCD.out (by omega))
  · by_cases h0 : i < 0
    · have hcd : code = 21 := by rw [HC.out, hr, show placeOk n i = false by simp [placeOk]; omega, chk_true, chk_false, first2_z]
      have HCD := Lib.hid hcd
      clear hr hcd
      go_wp2
      have q0 := HR2.out.cell 0
      have q1 := HR2.out.cell 1
      simp at q0 q1
      exact bodyPost_ret (v := .tuple #[.agg #[.int .i64 0, .slice none 0 0], .int .i64 21]) (by simp [results, Tryd.results49, go_sem, q0, q1]) rfl (FIN.out 21 HCD.out (by omega))
    by_cases h1 : n ≤ i
    · have hcd : code = 21 := by rw [HC.out, hr, show placeOk n i = false by simp [placeOk]; omega, chk_true, chk_false, first2_z]
      have HCD := Lib.hid hcd
      clear hr hcd
      go_wp2
      have q0 := HR2.out.cell 0
      have q1 := HR2.out.cell 1
      simp at q0 q1
      exact bodyPost_ret (v := .tuple #[.agg #[.int .i64 0, .slice none 0 0], .int .i64 21]) (by simp [results, Tryd.results49, go_sem, q0, q1]) rfl (FIN.out 21 HCD.out (by omega))
    · obtain ⟨hn0, hn1, -, -⟩ := rightB_elim hr
      have hcd : code = 0 := by rw [HC.out, hr, show placeOk n i = true by simp [placeOk]; omega, chk_true, chk_true, first2_z]
      have hfo : fillOk n i (i + 1) = true := by simp [fillOk]; omega
      have hfl : fillW ws (placesN i (i + 1)) on = setW ws i.toNat on := by rw [place_one i (by omega)]; rfl
      have HCD := Lib.hid hcd
      have Hr := Lib.hid hr
      have HFO := Lib.hid hfo
      have HFL := Lib.hid hfl
      clear hr hcd hfo hfl f0 f1 d0 d1
      go_wp2_with fail
      have h := reffill_ok A m c n ws i (i + 1) on w1 HR1.out HF.out Hr.out HFO.out
      rw [HFL.out] at h
      refine h.mono ?_
      clear h
      rintro e w2 ⟨C, q, f, rfl, hRc, hb2⟩
      have hr1 := HRB1.out.ext hb2
      have f0 := hr1.frozen 0
      have f1 := hr1.frozen 1
      have d0 := hr1.cell 0
      have d1 := hr1.cell 1
      have hr2 := (hr1.set_ 0 (.int .i64 n)).set_ 1 (.slice C q f)
      have hRd := (hRc.unbox (fun _ h => by cases h) hr1 0 (.int .i64 n)).unbox (fun _ h => by cases h) (hr1.set_ 0 (.int .i64 n)) 1 (.slice C q f)
      have HB2 := Lib.hid (below_le HB1.out hb2)
      have HR3 := Lib.hid hr2
      have HRD := Lib.hid hRd
      clear hr1 hr2 hRc hRd hb2 HR2
      go_wp2
      have q0 := HR3.out.cell 0
      have q1 := HR3.out.cell 1
      simp at q0 q1
      refine bodyPost_ret (v := .tuple #[.agg #[.int .i64 n, .slice C q f], .int .i64 0]) (by simp [results, Tryd.results49, go_sem, q0, q1]) rfl (GivesIf.yes HCD.out ⟨_, _, _, rfl, HRD.out, ?_⟩)
      exact (HB2.out.setCell (p := ⟨w.heap.size + 1, 0, none⟩) (by show w.heap.size ≤ w.heap.size + 1; omega) _).setCell (p := ⟨w.heap.size + 1, 1, none⟩) (by show w.heap.size ≤ w.heap.size + 1; omega) _

theorem next_at {lo n : Int} {k : Nat} (p : Nat → Bool) (h0 : 0 ≤ lo) (h1 : lo ≤ (k : Int)) (h2 : (k : Int) < n) (hz : ∀ j : Nat, lo ≤ (j : Int) → j < k → p j = false) (hp : p k = true) : (placesN lo n).find? p = some k := by
  have e : placesN lo n = placesN lo k ++ [k] ++ List.range' (k + 1) (n.toNat - (k + 1)) := by
    rw [← places_succ h1]
    unfold placesN
    rw [show k + 1 = lo.toNat + 1 * (((k : Int) + 1).toNat - lo.toNat) by omega, List.range'_append]
    congr 1
    omega
  rw [e]
  exact find_prefix p _ _ _ (fun j hj => by
    have := (mem_places h0 j).1 hj
    exact hz j this.1 (by omega)) hp
theorem next_no {lo n : Int} (p : Nat → Bool) (h0 : 0 ≤ lo) (hz : ∀ j : Nat, lo ≤ (j : Int) → (j : Int) < n → p j = false) : (placesN lo n).find? p = none :=
  List.find?_eq_none.2 fun j hj => by
    have := (mem_places h0 j).1 hj
    rw [hz j this.1 this.2]
    exact Bool.false_ne_true


end Go.Proofs.YtelbddnjnapoeaaDoor
