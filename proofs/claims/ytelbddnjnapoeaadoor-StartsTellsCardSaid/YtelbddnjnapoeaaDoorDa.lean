/-
  What is proved: contracts of Right, Has, New and look of package starts. No condition beyond those stated.
-/
import Derived.Test.YtelbddnjnapoeaaDoorXa
namespace Go.Proofs.YtelbddnjnapoeaaDoor
open Go.RowKit Go.Shelf

def sRight (n : Int) (ws : List Nat) : Bool := decide (n % 512 = 0) && decide (512 ≤ n) && decide (n ≤ 16384) && rightB n ws
def sHas (n : Int) (ws : List Nat) (a : Int) : Bool := sRight n ws && decide (0 ≤ a) && decide (a % 8 = 0) && hasB n ws (a / 8)
theorem sRight_elim {n : Int} {ws : List Nat} (h : sRight n ws = true) : n % 512 = 0 ∧ 512 ≤ n ∧ n ≤ 16384 ∧ rightB n ws = true := by
  simpa [sRight, and_assoc] using h

theorem tmod_zero (n k : Int) : (n.tmod k = 0) ↔ n % k = 0 := by
  rw [← Int.dvd_iff_tmod_eq_zero, ← Int.dvd_iff_emod_eq_zero]

theorem tmod_small (n : Int) : -512 < n.tmod 512 ∧ n.tmod 512 < 512 := by
  by_cases h : 0 ≤ n
  · rw [Int.tmod_eq_emod_of_nonneg h]; omega
  · obtain ⟨m, rfl⟩ : ∃ m, n = -m := ⟨-n, by omega⟩
    rw [Int.neg_tmod, Int.tmod_eq_emod_of_nonneg (by omega)]; omega

set_option maxHeartbeats 1000000 in
/-- starts.Right. -/
theorem sright_any (A : Option Addr) (m c : Nat) (n : Int) (ws : List Nat) (w : World) (hR : Row w A m (ws.map U32)) (hF : Fits ws) :
    Calls Tryd.prog 20 #[.agg #[.int .i64 n, .slice A m c]] w fun e w' => e = .returned (.bool (sRight n ws)) ∧ Below w.heap.size w w' := by
  have hb0 := below_box w (.cells #[.int .i64 n, .slice A m c] 24)
  have k0 := box0 (w := w) (t := 24) (v0 := .int .i64 n) (v1 := .slice A m c)
  have k1 := box1 (w := w) (t := 24) (v0 := .int .i64 n) (v1 := .slice A m c)
  have HR := Lib.hid (hR.ext hb0)
  have HB := Lib.hid hb0
  have HF := Lib.hid hF
  clear hR hb0 hF
  by_cases h1 : n % 512 = 0
  · by_cases h2 : 512 ≤ n
    · by_cases h3 : n ≤ 16384
      · have HQ : Hid (sRight n ws = rightB n ws) := Lib.hid (by simp [sRight, h1, h2, h3])
        have hd : (n % 512 == 0) = true := by simpa using h1
        clear h1
        go_enter Tryd.func20, Tryd.ntmps20
        go_wp2_with fail
        generalize w.alloc (.cells #[.int .i64 n, .slice A m c] 24) = W0 at *
        refine (right_any A m c n ws W0 HR.out HF.out).mono ?_
        rintro e w1 ⟨rfl, hb1⟩
        have HB1 := Lib.hid (below_le HB.out hb1)
        clear hb1
        go_wp2
        go_ret
        exact ⟨ret_bool HQ.out.symm, HB1.out⟩
      · have HQ : Hid (sRight n ws = false) := Lib.hid (by simp [sRight, h3])
        have hd : (n % 512 == 0) = true := by simpa using h1
        clear h1
        go_enter Tryd.func20, Tryd.ntmps20
        go_wp2
        go_ret
        exact ⟨ret_bool HQ.out.symm, HB.out⟩
    · have HQ : Hid (sRight n ws = false) := Lib.hid (by simp [sRight, h2])
      have ht : IntKind.i64.wrap (n.tmod 512) = n.tmod 512 := by
        have ⟨h1, h2⟩ := tmod_small n
        rw [IntKind.wrap_i64]; omega
      have hd : (n.tmod 512 == 0) = true := by simpa using (tmod_zero n 512).2 h1
      clear h1
      go_enter Tryd.func20, Tryd.ntmps20
      go_wp2
      go_ret
      exact ⟨ret_bool HQ.out.symm, HB.out⟩
  · have HQ : Hid (sRight n ws = false) := Lib.hid (by simp [sRight, h1])
    have ht : IntKind.i64.wrap (n.tmod 512) = n.tmod 512 := by
      have ⟨h1, h2⟩ := tmod_small n
      rw [IntKind.wrap_i64]; omega
    have hd : (n.tmod 512 == 0) = false := by simpa using fun h => h1 ((tmod_zero n 512).1 h)
    have hd2 : (n % 512 == 0) = false := by simpa using h1
    clear h1
    go_enter Tryd.func20, Tryd.ntmps20
    go_wp2
    go_ret
    exact ⟨ret_bool HQ.out.symm, HB.out⟩

set_option maxRecDepth 100000 in
set_option maxHeartbeats 1000000 in
/-- starts.Has. -/
theorem shas_any (A : Option Addr) (m c : Nat) (n : Int) (ws : List Nat) (a : Int) (ha : a ≤ 9223372036854775807) (w : World) (hR : Row w A m (ws.map U32)) (hF : Fits ws) :
    Calls Tryd.prog 22 #[.agg #[.int .i64 n, .slice A m c], .int .i64 a] w fun e w' => e = .returned (.bool (sHas n ws a)) ∧ Below w.heap.size w w' := by
  have hb0 := below_box w (.cells #[.int .i64 n, .slice A m c] 24)
  have k0 := box0 (w := w) (t := 24) (v0 := .int .i64 n) (v1 := .slice A m c)
  have k1 := box1 (w := w) (t := 24) (v0 := .int .i64 n) (v1 := .slice A m c)
  have HR := Lib.hid (hR.ext hb0)
  have HB := Lib.hid hb0
  have HF := Lib.hid hF
  obtain ⟨d, hd⟩ : ∃ d, sHas n ws a = d := ⟨_, rfl⟩
  rw [hd]
  have HD := Lib.hid hd
  have HA := Lib.hid ha
  clear hR hb0 hF hd ha
  go_enter Tryd.func22, Tryd.ntmps22
  go_wp2_with fail
  generalize w.alloc (.cells #[.int .i64 n, .slice A m c] 24) = W0 at *
  refine (sright_any A m c n ws W0 HR.out HF.out).mono ?_
  rintro e w1 ⟨rfl, hb1⟩
  have e0 := cell_ext hb1 k0
  have e1 := cell_ext hb1 k1
  have HR1 := Lib.hid (HR.out.ext hb1)
  have HB1 := Lib.hid (below_le HB.out hb1)
  clear hb1 k0 k1
  cases hr : sRight n ws
  · have HQ : Hid (d = false) := Lib.hid (by rw [← HD.out]; simp [sHas, hr])
    clear hr
    go_wp2
    go_ret
    exact ⟨ret_bool HQ.out.symm, HB1.out⟩
  · by_cases h0 : 0 ≤ a
    · have hq1 : IntKind.i64.wrap (a.tdiv 8) = a / 8 := by have := HA.out; rw [IntKind.wrap_i64, Int.tdiv_eq_ediv_of_nonneg h0]; omega
      have hq2 : IntKind.i64.wrap (a.tmod 8) = a % 8 := by have := HA.out; rw [IntKind.wrap_i64, Int.tmod_eq_emod_of_nonneg h0]; omega
      have hq3 : IntKind.i64.wrap (a / 8) = a / 8 := by have := HA.out; rw [IntKind.wrap_i64]; omega
      by_cases h8 : a % 8 = 0
      · have HQ : Hid (d = hasB n ws (a / 8)) := Lib.hid (by rw [← HD.out]; simp [sHas, hr, h0, h8])
        have hd8 : (a % 8 == 0) = true := by simpa using h8
        clear hr h8
        go_wp2_with fail
        refine (has_any A m c n ws (a / 8) w1 HR1.out HF.out).mono ?_
        rintro e w2 ⟨rfl, hb2⟩
        have HB2 := Lib.hid (below_le HB1.out hb2)
        clear hb2
        go_wp2
        go_ret
        exact ⟨ret_bool HQ.out.symm, HB2.out⟩
      · have HQ : Hid (d = false) := Lib.hid (by rw [← HD.out]; simp [sHas, h8])
        have hd8 : (a % 8 == 0) = false := by simpa using h8
        clear hr h8
        go_wp2
        go_ret
        exact ⟨ret_bool HQ.out.symm, HB1.out⟩
    · have HQ : Hid (d = false) := Lib.hid (by rw [← HD.out]; simp [sHas, h0])
      clear hr
      go_wp2
      go_ret
      exact ⟨ret_bool HQ.out.symm, HB1.out⟩

set_option maxHeartbeats 1000000 in
/-- starts.New, of a number of blocks. -/
theorem new_ok (b : Int) (aA aB aP : Addr) (w : World) (hS : BSent w aA aB aP) (h0 : 1 ≤ b) (h1 : b ≤ 32) :
    Calls Tryd.prog 16 #[.int .i64 b] w (GivesBits w 0 (512 * b) (noneW (512 * b))) := by
  have hb0 := below_box w (.cells #[.int .i64 0, .slice none 0 0] 24)
  have hrb : Blk (w.alloc (.cells #[.int .i64 0, .slice none 0 0] 24)) w.heap.size 24 #[.int .i64 0, .slice none 0 0] := heap_new rfl _
  have HS := Lib.hid (hS.ext hb0)
  have HB := Lib.hid hb0
  have HRB := Lib.hid hrb
  clear hS hb0 hrb
  go_enter Tryd.func16, Tryd.ntmps16
  go_wp2_with fail
  generalize w.alloc (.cells #[.int .i64 0, .slice none 0 0] 24) = W0 at *
  have h := make_ok (b * 512) aA aB aP W0 HS.out (by omega) (by omega)
  refine h.mono ?_
  clear h
  rintro e w1 ⟨C, q, f, rfl, hRc, hb1⟩
  have hr1 := HRB.out.ext hb1
  have f0 := hr1.frozen 0
  have f1 := hr1.frozen 1
  have d0 := hr1.cell 0
  have d1 := hr1.cell 1
  have hr2 := (hr1.set_ 0 (.int .i64 (b * 512))).set_ 1 (.slice C q f)
  have hRd := (hRc.unbox (fun _ h => by cases h) hr1 0 (.int .i64 (b * 512))).unbox (fun _ h => by cases h) (hr1.set_ 0 (.int .i64 (b * 512))) 1 (.slice C q f)
  have HB1 := Lib.hid (below_le HB.out hb1)
  have HR3 := Lib.hid hr2
  have HRD := Lib.hid hRd
  clear hr1 hr2 hRc hRd hb1
  go_wp2
  have q0 := HR3.out.cell 0
  have q1 := HR3.out.cell 1
  simp at q0 q1
  have hbf := (HB1.out.setCell (p := ⟨w.heap.size, 0, none⟩) (Nat.le_refl _) (.int .i64 (b * 512))).setCell (p := ⟨w.heap.size, 1, none⟩) (Nat.le_refl _) (.slice C q f)
  refine bodyPost_ret (v := .tuple #[.agg #[.int .i64 (b * 512), .slice C q f], .int .i64 0]) (by simp [results, Tryd.results16, go_sem, q0, q1]) rfl ⟨_, _, _, by rw [Int.mul_comm 512 b]; rfl, ?_, hbf⟩
  rw [Int.mul_comm 512 b]
  exact HRD.out

set_option maxHeartbeats 1000000 in
theorem new_bad (b : Int) (w : World) (h : b < 1 ∨ 32 < b) :
    Calls Tryd.prog 16 #[.int .i64 b] w (GivesBits w 2 0 []) := by
  by_cases h0 : b < 1
  · go_enter Tryd.func16, Tryd.ntmps16
    go_wp2
    exact bodyPost_ret (v := .tuple #[.agg #[.int .i64 0, .slice none 0 0], .int .i64 2]) (by simp [results, Tryd.results16, go_sem]) rfl ⟨_, _, _, rfl, Row.none_, below_box _ _⟩
  · have h1 : 32 < b := by omega
    go_enter Tryd.func16, Tryd.ntmps16
    go_wp2
    exact bodyPost_ret (v := .tuple #[.agg #[.int .i64 0, .slice none 0 0], .int .i64 2]) (by simp [results, Tryd.results16, go_sem]) rfl ⟨_, _, _, rfl, Row.none_, below_box _ _⟩

def lookW0 (w : World) (n : Int) (A : Option Addr) (m c : Nat) : World := (w.alloc (.cells #[.int .i64 n, .slice A m c] 24)).alloc (.cells #[.int .i64 0, .slice none 0 0, .bool false] 44)
/-- The starts of a call. -/
def startsV (n : Int) (A : Option Addr) (m c : Nat) (r : Bool) : Value := .agg #[.int .i64 n, .slice A m c, .bool r]

set_option maxHeartbeats 1000000 in
/-- starts.look. -/
theorem look_any (A : Option Addr) (m c : Nat) (n : Int) (ws : List Nat) (w : World) (hR : Row w A m (ws.map U32)) (hF : Fits ws) :
    Calls Tryd.prog 30 #[.agg #[.int .i64 n, .slice A m c]] w fun e w' => e = .returned (startsV n A m c (sRight n ws)) ∧ Below w.heap.size w w' := by
  have hb0 : Below w.heap.size w (lookW0 w n A m c) := below_le (below_box _ _) (below_box _ _)
  have k0 : (lookW0 w n A m c).cell? ⟨w.heap.size, 0, none⟩ = some (.int .i64 n) := by simp [go_sem, lookW0]
  have k1 : (lookW0 w n A m c).cell? ⟨w.heap.size, 1, none⟩ = some (.slice A m c) := by simp [go_sem, lookW0]
  have hrb : Blk (lookW0 w n A m c) (w.heap.size + 1) 44 #[.int .i64 0, .slice none 0 0, .bool false] := heap_new (by simp) _
  have HR := Lib.hid (hR.ext hb0)
  have HB := Lib.hid hb0
  have HRB := Lib.hid hrb
  have HF := Lib.hid hF
  obtain ⟨d, hd⟩ : ∃ d, sRight n ws = d := ⟨_, rfl⟩
  rw [hd]
  have HD := Lib.hid hd
  clear hR hb0 hrb hF hd
  go_enter Tryd.func30, Tryd.ntmps30
  go_wp2
  change Code.wp _ _ _ _ (lookW0 w n A m c)
  generalize lookW0 w n A m c = W0 at *
  have t0 := ext_cell k0
  have t1 := ext_cell k1
  have AR : Hid (∀ x : Ext W0, Calls Tryd.prog 20 #[.agg #[.int .i64 n, .slice A m c]] x.val fun e w' => e = .returned (.bool d) ∧ Below x.val.heap.size x.val w') := Lib.hid (fun x => by rw [← HD.out]; exact sright_any A m c n ws x.val (HR.out.ext x.below) HF.out)
  refine wp_region_tail 4 (by kernel_rfl) (by kernel_rfl) ?_; simp only [List.take_succ_cons, List.take_zero, List.drop_succ_cons, List.drop_zero]
  repeat (first | (refine head_skip rfl ?_; go_frame) | (refine head_soft rfl (fun K hK => ?_); go_simp; first | (refine hK _ ?_; clear hK K) | (apply Exists.intro; refine ⟨fun x => ?_, hK _ ?_⟩; (· (go_at_call 20; with_reducible exact AR.out x)); clear hK K; try go_frame)))
  refine head_nil fun w2 hb2 => ?_
  have h2 := HRB.out.ext hb2
  have f0 := h2.frozen 0
  have f1 := h2.frozen 1
  have f2 := h2.frozen 2
  have c0 := h2.cell 0
  have c1 := h2.cell 1
  have c2 := h2.cell 2
  have h3 := ((h2.set_ 0 (.int .i64 n)).set_ 1 (.slice A m c)).set_ 2 (.bool d)
  have H3 := Lib.hid h3
  have Hb2 := Lib.hid (below_le HB.out hb2)
  clear h2 h3 hb2 t0 t1 k0 k1
  go_wp2
  have q0 := H3.out.cell 0
  have q1 := H3.out.cell 1
  have q2 := H3.out.cell 2
  simp at q0 q1 q2
  have hbf := ((Hb2.out.setCell (p := ⟨w.heap.size + 1, 0, none⟩) (by show w.heap.size ≤ w.heap.size + 1; omega) (.int .i64 n)).setCell (p := ⟨w.heap.size + 1, 1, none⟩) (by show w.heap.size ≤ w.heap.size + 1; omega) (.slice A m c)).setCell (p := ⟨w.heap.size + 1, 2, none⟩) (by show w.heap.size ≤ w.heap.size + 1; omega) (.bool d)
  exact bodyPost_ret (v := startsV n A m c d) (by simp [results, Tryd.results30, go_sem, q0, q1, q2, startsV]) rfl ⟨rfl, hbf⟩

end Go.Proofs.YtelbddnjnapoeaaDoor
