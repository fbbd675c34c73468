/-
  What is proved: contracts of package starts' Put and Drop. No condition beyond those stated.
-/
import Derived.Test.YtelbddnjnapoeaaDoorDm
namespace Go.Proofs.YtelbddnjnapoeaaDoor
open Go.RowKit

def putW0 (w : World) (n : Int) (A : Option Addr) (m c : Nat) : World := (w.alloc (.cells #[.int .i64 n, .slice A m c] 24)).alloc (.cells #[.int .i64 0, .slice none 0 0] 24)

set_option maxRecDepth 100000 in
set_option maxHeartbeats 1000000 in
/-- starts.Put. -/
theorem sput_any (A : Option Addr) (m c : Nat) (n a : Int) (ws : List Nat) (aA aB aP aS : Addr) (w : World) (ha : a ≤ 9223372036854775807) (hB : BSent w aA aB aP) (hS : SSent w aS) (hR : Row w A m (ws.map U32)) (hF : Fits ws)
    (code : Nat) (hcode : chkCode n ws (sRight n ws) a false = code) :
    Calls Tryd.prog 11 #[.agg #[.int .i64 n, .slice A m c], .int .i64 a] w (GivesIf w code n (setW ws (a / 8).toNat true)) := by
  have hb0 : Below w.heap.size w (putW0 w n A m c) := below_le (below_box _ _) (below_box _ _)
  have k0 : (putW0 w n A m c).cell? ⟨w.heap.size, 0, none⟩ = some (.int .i64 n) := by simp [go_sem, putW0]
  have k1 : (putW0 w n A m c).cell? ⟨w.heap.size, 1, none⟩ = some (.slice A m c) := by simp [go_sem, putW0]
  have hrb : Blk (putW0 w n A m c) (w.heap.size + 1) 24 #[.int .i64 0, .slice none 0 0] := heap_new (by simp) _
  have HT : Hid (∀ x : World, BSent x aA aB aP → SSent x aS → Row x A m (ws.map U32) → Calls Tryd.prog 31 #[startsV n A m c (sRight n ws), .int .i64 a, .bool true] x (GivesIf x code n (setW ws (a / 8).toNat true))) := Lib.hid (fun x h1 h2 h3 => sturn_any A m c n a ws true aA aB aP aS x ha h1 h2 h3 hF code hcode)
  have HL : Hid (∀ x : World, Row x A m (ws.map U32) → Calls Tryd.prog 30 #[.agg #[.int .i64 n, .slice A m c]] x fun e w' => e = .returned (startsV n A m c (sRight n ws)) ∧ Below x.heap.size x w') := Lib.hid (fun x h => look_any A m c n ws x h hF)
  have HR := Lib.hid (hR.ext hb0)
  have HS := Lib.hid (hS.ext hb0)
  have HBS := Lib.hid (hB.ext hb0)
  have HB := Lib.hid hb0
  have HRB := Lib.hid hrb
  clear hR hS hB hb0 hrb hF ha hcode
  generalize setW ws (a / 8).toNat true = us at *
  generalize sRight n ws = r at *
  go_enter Tryd.func11, Tryd.ntmps11
  go_wp2_with fail
  change Calls _ _ _ (putW0 w n A m c) _
  generalize putW0 w n A m c = W0 at *
  refine (HL.out W0 HR.out).mono ?_
  rintro e w1 ⟨rfl, hb1⟩
  have HB1 := Lib.hid hb1
  clear hb1
  go_wp2_with fail
  refine (HT.out w1 (HBS.out.ext HB1.out) (HS.out.ext HB1.out) (HR.out.ext HB1.out)).mono ?_
  clear HT HL
  generalize hn : (if code = 0 then n else 0) = n1
  generalize hu : (if code = 0 then us else []) = u1
  rintro e w2 ⟨C, q, f, rfl, hRc, hb2⟩
  rw [hn]
  rw [hu] at hRc
  have hr1 := (HRB.out.ext HB1.out).ext hb2
  have f0 := hr1.frozen 0
  have f1 := hr1.frozen 1
  have d0 := hr1.cell 0
  have d1 := hr1.cell 1
  have hr2 := (hr1.set_ 0 (.int .i64 n1)).set_ 1 (.slice C q f)
  have hRd := (hRc.unbox (fun _ h => by cases h) hr1 0 (.int .i64 n1)).unbox (fun _ h => by cases h) (hr1.set_ 0 (.int .i64 n1)) 1 (.slice C q f)
  have HB3 := Lib.hid (below_le (below_le HB.out HB1.out) hb2)
  have HR3 := Lib.hid hr2
  have HRD := Lib.hid hRd
  have HN := Lib.hid hn
  have HU := Lib.hid hu
  clear hr1 hr2 hRc hRd hb2 k0 k1 hn hu
  go_wp2
  have q0 := HR3.out.cell 0
  have q1 := HR3.out.cell 1
  simp at q0 q1
  have hbf := (HB3.out.setCell (p := ⟨w.heap.size + 1, 0, none⟩) (by show w.heap.size ≤ w.heap.size + 1; omega) (.int .i64 n1)).setCell (p := ⟨w.heap.size + 1, 1, none⟩) (by show w.heap.size ≤ w.heap.size + 1; omega) (.slice C q f)
  refine bodyPost_ret (v := .tuple #[.agg #[.int .i64 n1, .slice C q f], .int .i64 code]) (by simp [results, Tryd.results11, go_sem, q0, q1]) rfl ?_
  unfold GivesIf
  rw [HN.out, HU.out]
  exact ⟨_, _, _, rfl, HRD.out, hbf⟩

set_option maxRecDepth 100000 in
set_option maxHeartbeats 1000000 in
/-- starts.Drop. -/
theorem sdrop_any (A : Option Addr) (m c : Nat) (n a : Int) (ws : List Nat) (aA aB aP aS : Addr) (w : World) (ha : a ≤ 9223372036854775807) (hB : BSent w aA aB aP) (hS : SSent w aS) (hR : Row w A m (ws.map U32)) (hF : Fits ws)
    (code : Nat) (hcode : chkCode n ws (sRight n ws) a true = code) :
    Calls Tryd.prog 13 #[.agg #[.int .i64 n, .slice A m c], .int .i64 a] w (GivesIf w code n (setW ws (a / 8).toNat false)) := by
  have hb0 : Below w.heap.size w (putW0 w n A m c) := below_le (below_box _ _) (below_box _ _)
  have k0 : (putW0 w n A m c).cell? ⟨w.heap.size, 0, none⟩ = some (.int .i64 n) := by simp [go_sem, putW0]
  have k1 : (putW0 w n A m c).cell? ⟨w.heap.size, 1, none⟩ = some (.slice A m c) := by simp [go_sem, putW0]
  have hrb : Blk (putW0 w n A m c) (w.heap.size + 1) 24 #[.int .i64 0, .slice none 0 0] := heap_new (by simp) _
  have HT : Hid (∀ x : World, BSent x aA aB aP → SSent x aS → Row x A m (ws.map U32) → Calls Tryd.prog 31 #[startsV n A m c (sRight n ws), .int .i64 a, .bool false] x (GivesIf x code n (setW ws (a / 8).toNat false))) := Lib.hid (fun x h1 h2 h3 => sturn_any A m c n a ws false aA aB aP aS x ha h1 h2 h3 hF code hcode)
  have HL : Hid (∀ x : World, Row x A m (ws.map U32) → Calls Tryd.prog 30 #[.agg #[.int .i64 n, .slice A m c]] x fun e w' => e = .returned (startsV n A m c (sRight n ws)) ∧ Below x.heap.size x w') := Lib.hid (fun x h => look_any A m c n ws x h hF)
  have HR := Lib.hid (hR.ext hb0)
  have HS := Lib.hid (hS.ext hb0)
  have HBS := Lib.hid (hB.ext hb0)
  have HB := Lib.hid hb0
  have HRB := Lib.hid hrb
  clear hR hS hB hb0 hrb hF ha hcode
  generalize setW ws (a / 8).toNat false = us at *
  generalize sRight n ws = r at *
  go_enter Tryd.func13, Tryd.ntmps13
  go_wp2_with fail
  change Calls _ _ _ (putW0 w n A m c) _
  generalize putW0 w n A m c = W0 at *
  refine (HL.out W0 HR.out).mono ?_
  rintro e w1 ⟨rfl, hb1⟩
  have HB1 := Lib.hid hb1
  clear hb1
  go_wp2_with fail
  refine (HT.out w1 (HBS.out.ext HB1.out) (HS.out.ext HB1.out) (HR.out.ext HB1.out)).mono ?_
  clear HT HL
  generalize hn : (if code = 0 then n else 0) = n1
  generalize hu : (if code = 0 then us else []) = u1
  rintro e w2 ⟨C, q, f, rfl, hRc, hb2⟩
  rw [hn]
  rw [hu] at hRc
  have hr1 := (HRB.out.ext HB1.out).ext hb2
  have f0 := hr1.frozen 0
  have f1 := hr1.frozen 1
  have d0 := hr1.cell 0
  have d1 := hr1.cell 1
  have hr2 := (hr1.set_ 0 (.int .i64 n1)).set_ 1 (.slice C q f)
  have hRd := (hRc.unbox (fun _ h => by cases h) hr1 0 (.int .i64 n1)).unbox (fun _ h => by cases h) (hr1.set_ 0 (.int .i64 n1)) 1 (.slice C q f)
  have HB3 := Lib.hid (below_le (below_le HB.out HB1.out) hb2)
  have HR3 := Lib.hid hr2
  have HRD := Lib.hid hRd
  have HN := Lib.hid hn
  have HU := Lib.hid hu
  clear hr1 hr2 hRc hRd hb2 k0 k1 hn hu
  go_wp2
  have q0 := HR3.out.cell 0
  have q1 := HR3.out.cell 1
  simp at q0 q1
  have hbf := (HB3.out.setCell (p := ⟨w.heap.size + 1, 0, none⟩) (by show w.heap.size ≤ w.heap.size + 1; omega) (.int .i64 n1)).setCell (p := ⟨w.heap.size + 1, 1, none⟩) (by show w.heap.size ≤ w.heap.size + 1; omega) (.slice C q f)
  refine bodyPost_ret (v := .tuple #[.agg #[.int .i64 n1, .slice C q f], .int .i64 code]) (by simp [results, Tryd.results13, go_sem, q0, q1]) rfl ?_
  unfold GivesIf
  rw [HN.out, HU.out]
  exact ⟨_, _, _, rfl, HRD.out, hbf⟩

end Go.Proofs.YtelbddnjnapoeaaDoor
