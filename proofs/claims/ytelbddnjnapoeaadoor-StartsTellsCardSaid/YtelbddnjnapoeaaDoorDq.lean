/-
  What is proved: contracts of package starts' All and In. No condition beyond those stated.
-/
import Derived.Test.YtelbddnjnapoeaaDoorDp
namespace Go.Proofs.YtelbddnjnapoeaaDoor
open Go.RowKit Go.Shelf

def allL (n : Int) (ws : List Nat) : List Int := eachL n ws (fun _ => true)
def inL (n : Int) (ws : List Nat) (lo hi : Int) : List Int := eachL n ws (fun a => decide (lo ≤ a) && decide (a < hi))

set_option maxRecDepth 100000 in
set_option maxHeartbeats 1000000 in
/-- starts.All. -/
theorem sall_any (A : Option Addr) (m c : Nat) (n : Int) (ws : List Nat) (w : World) (hR : Row w A m (ws.map U32)) (hF : Fits ws) :
    Calls Tryd.prog 25 #[.agg #[.int .i64 n, .slice A m c]] w (GivesL w (allL n ws)) := by
  have hb0 := below_box w (.cells #[.int .i64 n, .slice A m c] 24)
  have k0 := box0 (w := w) (t := 24) (v0 := .int .i64 n) (v1 := .slice A m c)
  have k1 := box1 (w := w) (t := 24) (v0 := .int .i64 n) (v1 := .slice A m c)
  have HR := Lib.hid (hR.ext hb0)
  have HB := Lib.hid hb0
  clear hR hb0
  go_enter Tryd.func25, Tryd.ntmps25
  go_wp2_with fail
  generalize w.alloc (.cells #[.int .i64 n, .slice A m c] 24) = W0 at *
  refine (look_any A m c n ws W0 HR.out hF).mono ?_
  rintro e w1 ⟨rfl, hb1⟩
  have HB1 := Lib.hid hb1
  clear hb1 k0 k1
  have hli := slist_any A m c n ws none 0 0 [] w1 (HR.out.ext HB1.out) hF Row.none_ (by omega) (fun _ e => by cases e) (fun _ h => by cases h)
  have HLI := Lib.hid hli
  clear hli
  generalize startsV n A m c (sRight n ws) = sv at *
  go_wp2_with fail
  refine HLI.out.mono ?_
  rintro e w2 ⟨C, q, f, rfl, hRc, hb2⟩
  have HRC := Lib.hid hRc
  have HB2 := Lib.hid (below_le (below_le HB.out HB1.out) hb2)
  clear hRc hb2
  go_wp2
  go_ret
  exact ⟨_, _, _, rfl, HRC.out, HB2.out⟩

def inW0 (w : World) (n : Int) (A : Option Addr) (m c : Nat) (lo hi : Int) : World := ((w.alloc (.cells #[.int .i64 n, .slice A m c] 24)).alloc (.cells #[.int .i64 lo] 3)).alloc (.cells #[.int .i64 hi] 3)
def inWf (w : World) (b : Nat) : World := w.alloc (.cells #[askV (true, b + 1, 0), askV (false, b + 1 + 1, 0)] 53)

set_option maxRecDepth 100000 in
set_option maxHeartbeats 1000000 in
/-- starts.In. -/
theorem sin_any (A : Option Addr) (m c : Nat) (n : Int) (ws : List Nat) (lo hi : Int) (w : World) (hR : Row w A m (ws.map U32)) (hF : Fits ws) :
    Calls Tryd.prog 27 #[.agg #[.int .i64 n, .slice A m c], .int .i64 lo, .int .i64 hi] w (GivesL w (inL n ws lo hi)) := by
  have hb0 : Below w.heap.size w (inW0 w n A m c lo hi) := below_le (below_le (below_box _ _) (below_box _ _)) (below_box _ _)
  have k0 : (inW0 w n A m c lo hi).cell? ⟨w.heap.size, 0, none⟩ = some (.int .i64 n) := by simp [go_sem, inW0]
  have k1 : (inW0 w n A m c lo hi).cell? ⟨w.heap.size, 1, none⟩ = some (.slice A m c) := by simp [go_sem, inW0]
  have k2 : (inW0 w n A m c lo hi).cell? ⟨w.heap.size + 1, 0, none⟩ = some (.int .i64 lo) := by simp [go_sem, inW0]
  have k3 : (inW0 w n A m c lo hi).cell? ⟨w.heap.size + 1 + 1, 0, none⟩ = some (.int .i64 hi) := by simp [go_sem, inW0]
  have HR := Lib.hid (hR.ext hb0)
  have HB := Lib.hid hb0
  clear hR hb0
  go_enter Tryd.func27, Tryd.ntmps27
  go_wp2_with fail
  change Calls _ _ _ (inW0 w n A m c lo hi) _
  generalize inW0 w n A m c lo hi = W0 at *
  refine (look_any A m c n ws W0 HR.out hF).mono ?_
  rintro e w1 ⟨rfl, hb1⟩
  have e2 := cell_ext hb1 k2
  have e3 := cell_ext hb1 k3
  have hbx : Below w1.heap.size w1 (inWf w1 w.heap.size) := below_box _ _
  have hbl : Blk (inWf w1 w.heap.size) w1.heap.size 53 #[askV (true, w.heap.size + 1, 0), askV (false, w.heap.size + 1 + 1, 0)] := heap_new rfl _
  have hli := slist_any A m c n ws (some ⟨w1.heap.size, 0, none⟩) 2 2 [(true, w.heap.size + 1, lo), (false, w.heap.size + 1 + 1, hi)] (inWf w1 w.heap.size) ((HR.out.ext hb1).ext hbx) hF hbl.row (by omega) (fun a e => by cases e; exact hbl.lt)
    (fun k h => by
      simp at h
      rcases h with rfl | rfl
      · exact cell_ext hbx e2
      · exact cell_ext hbx e3)
  have HLI := Lib.hid hli
  have HB1 := Lib.hid (below_le hb1 hbx)
  clear hli hbl hbx hb1 k0 k1 k2 k3 e2 e3
  generalize startsV n A m c (sRight n ws) = sv at *
  go_wp2_with fail
  change Calls _ _ _ (inWf w1 w.heap.size) _
  generalize inWf w1 w.heap.size = W2 at *
  refine HLI.out.mono ?_
  rintro e w2 ⟨C, q, f, rfl, hRc, hb2⟩
  have HRC := Lib.hid hRc
  have HB2 := Lib.hid (below_le (below_le HB.out HB1.out) hb2)
  clear hRc hb2
  go_wp2
  go_ret
  refine ⟨_, _, _, rfl, ?_, HB2.out⟩
  have h : inL n ws lo hi = eachL n ws (asksB [(true, w.heap.size + 1, lo), (false, w.heap.size + 1 + 1, hi)]) := by
    unfold inL
    congr 1
    funext a
    simp [asksB, askB]
  rw [h]
  exact HRC.out

end Go.Proofs.YtelbddnjnapoeaaDoor
