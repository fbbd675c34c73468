/-
  What is proved: the contracts of Cut and shown of the laws. No condition beyond those stated.
-/
import Derived.Test.YtelbddnjnapoeaaDoorDr
import Derived.Test.YtelbddnjnapoeaaDoorLa
import Derived.Test.YtelbddnjnapoeaaDoorLb
namespace Go.Proofs.YtelbddnjnapoeaaDoor
open Go.RowKit Go.Shelf

theorem srow_cut {w : World} {A : Option Addr} {m : Nat} {ws : List Nat} (h : Row w A m (ws.map U32)) : Row w A (min m 50) ((ws.take 50).map U32) := by
  have h1 := h.cut (min m 50) (Nat.min_le_left _ _)
  have hl := h.1
  simp at hl
  rw [← List.map_take, Nat.min_comm, ← List.take_take, List.take_of_length_le (l := ws) (by omega), Nat.min_comm] at h1
  exact h1

set_option maxRecDepth 100000 in
set_option maxHeartbeats 2000000 in
/-- Cut. -/
theorem scut_any (A : Option Addr) (m c : Nat) (n : Int) (w : World) (hc : m ≤ c) :
    Calls Tryd.prog 10 #[.agg #[.int .i64 n, .slice A m c]] w fun e w' => (∃ c', e = .returned (.agg #[.int .i64 n, .slice A (min m 50) c'])) ∧ Below w.heap.size w w' := by
  have hb0 : Below w.heap.size w ((w.alloc (.cells #[.int .i64 n, .slice A m c] 24)).alloc (.cells #[.int .i64 0, .slice none 0 0] 24)) := below_le (below_box _ _) (below_box _ _)
  have k0 : ((w.alloc (.cells #[.int .i64 n, .slice A m c] 24)).alloc (.cells #[.int .i64 0, .slice none 0 0] 24)).cell? ⟨w.heap.size, 0, none⟩ = some (.int .i64 n) := by simp [go_sem]
  have k1 : ((w.alloc (.cells #[.int .i64 n, .slice A m c] 24)).alloc (.cells #[.int .i64 0, .slice none 0 0] 24)).cell? ⟨w.heap.size, 1, none⟩ = some (.slice A m c) := by simp [go_sem]
  have hbl : Blk ((w.alloc (.cells #[.int .i64 n, .slice A m c] 24)).alloc (.cells #[.int .i64 0, .slice none 0 0] 24)) (w.heap.size + 1) 24 #[.int .i64 0, .slice none 0 0] := heap_new (by simp) _
  have HB0 := Lib.hid hb0
  have HBL := Lib.hid hbl
  clear hb0 hbl
  go_enter Tryd.func10, Tryd.ntmps10
  go_wp2
  generalize (w.alloc (.cells #[.int .i64 n, .slice A m c] 24)).alloc (.cells #[.int .i64 0, .slice none 0 0] 24) = W0 at *
  have t0 := ext_cell k0
  have t1 := ext_cell k1
  refine wp_region_tail 10 (by kernel_rfl) (by kernel_rfl) ?_; simp only [List.take_succ_cons, List.take_zero, List.drop_succ_cons, List.drop_zero]
  repeat (first | (refine head_skip rfl ?_; go_frame) | (refine head_soft rfl (fun K hK => ?_); go_simp; first | (refine hK _ ?_; clear hK K) | (apply Exists.intro; refine ⟨fun x => ?_, hK _ ?_⟩; (· (fail)); clear hK K; try go_frame)))
  obtain ⟨q, hq⟩ : ∃ q : Int, (if 50 < (m : Int) then 50 else (m : Int)) = q := ⟨_, rfl⟩
  rw [hq]
  have hqe : q = (min m 50 : Nat) := by rw [← hq]; split <;> omega
  have hq0 : 0 ≤ q := by omega
  have hq1 : q ≤ c := by omega
  have HQ : Hid (q.toNat = min m 50) := Lib.hid (by omega)
  clear hq hqe
  repeat (first | (refine head_skip rfl ?_; go_frame) | (refine head_soft rfl (fun K hK => ?_); go_simp; first | (refine hK _ ?_; clear hK K) | (apply Exists.intro; refine ⟨fun x => ?_, hK _ ?_⟩; (· (fail)); clear hK K; try go_frame)))
  refine head_nil fun w2 hb2 => ?_
  have h2 := HBL.out.ext hb2
  have f0 := h2.frozen 0
  have f1 := h2.frozen 1
  have c0 := h2.cell 0
  have c1 := h2.cell 1
  have H2 := Lib.hid h2
  have Hb2 := Lib.hid hb2
  clear h2 hb2 t0 t1 k0 k1
  go_wp2
  have h3 := (H2.out.set_ 0 (.int .i64 n)).set_ 1 (.slice A q.toNat c)
  have hbf : Below w.heap.size w ((w2.setCell ⟨w.heap.size + 1, 0, none⟩ (.int .i64 n)).setCell ⟨w.heap.size + 1, 1, none⟩ (.slice A q.toNat c)) :=
    ((below_le HB0.out Hb2.out).setCell (p := ⟨w.heap.size + 1, 0, none⟩) (by show w.heap.size ≤ w.heap.size + 1; omega) _).setCell (p := ⟨w.heap.size + 1, 1, none⟩) (by show w.heap.size ≤ w.heap.size + 1; omega) _
  have q0 := h3.cell 0
  have q1 := h3.cell 1
  simp at q0 q1
  refine bodyPost_ret (v := .agg #[.int .i64 n, .slice A q.toNat c]) (by simp [results, Tryd.results10, go_sem, q0, q1]) rfl ⟨⟨_, by rw [HQ.out]⟩, hbf⟩

set_option maxRecDepth 100000 in
theorem shown_plain : ∃ d0 d1 d2 : List Nat, noneW 1024 = d0 ∧ Fits d0 ∧ chkCode 1024 d0 (sRight 1024 d0) 24 false = 0 ∧ setW d0 ((24 : Int) / 8).toNat true = d1 ∧ Fits d1 ∧ chkCode 1024 d1 (sRight 1024 d1) 4096 false = 0 ∧
    setW d1 ((4096 : Int) / 8).toNat true = d2 ∧ Fits d2 ∧ upTo (allL 1024 d2) 30 = [24] ∧ chkCode 1024 d2 (sRight 1024 d2) 24 false = 52 ∧ chkCode 1024 d2 (sRight 1024 d2) 8 true = 131 ∧ chkCode 1024 d2 (sRight 1024 d2) 8192 false = 10 ∧
    inL 1024 d2 8 4096 = [24] ∧ allL 1024 d2 = [24, 4096] :=
  ⟨noneW 1024, setW (noneW 1024) ((24 : Int) / 8).toNat true, setW (setW (noneW 1024) ((24 : Int) / 8).toNat true) ((4096 : Int) / 8).toNat true, rfl, by unfold Fits; decide +kernel, by decide +kernel, rfl, by unfold Fits; decide +kernel, by decide +kernel, rfl, by unfold Fits; decide +kernel,
    by decide +kernel, by decide +kernel, by decide +kernel, by decide +kernel, by decide +kernel, by decide +kernel⟩

set_option maxRecDepth 100000 in
set_option maxHeartbeats 4000000 in
/-- shown. -/
theorem sshown_any (aA aB aP aS : Addr) (w : World) (hB : BSent w aA aB aP) (hS : SSent w aS) :
    Calls Tryd.prog 9 #[] w (Holds w) := by
  obtain ⟨d0, d1, d2, e0, F0, p1, e1, F1, p2, e2, F2, p3, p4, p5, p6, p7, p8⟩ := shown_plain
  have HBS := Lib.hid hB
  have HS := Lib.hid hS
  have X1 : Hid (∀ x : World, BSent x aA aB aP → Calls Tryd.prog 16 #[.int .i64 2] x (GivesBits x 0 1024 d0)) := Lib.hid (fun x h => by have := new_ok 2 aA aB aP x h (by omega) (by omega); rwa [show (512 : Int) * 2 = 1024 from rfl, e0] at this)
  have X2 : Hid (∀ (A : Option Addr) (m c : Nat) (x : World), BSent x aA aB aP → SSent x aS → Row x A m (d0.map U32) → Calls Tryd.prog 11 #[.agg #[.int .i64 1024, .slice A m c], .int .i64 24] x (GivesBits x 0 1024 d1)) := Lib.hid (fun A m c x h1 h2 h3 => by rw [← e1]; exact sput_any A m c 1024 24 d0 aA aB aP aS x (by omega) h1 h2 h3 F0 0 p1)
  have X3 : Hid (∀ (A : Option Addr) (m c : Nat) (x : World), BSent x aA aB aP → SSent x aS → Row x A m (d1.map U32) → Calls Tryd.prog 11 #[.agg #[.int .i64 1024, .slice A m c], .int .i64 4096] x (GivesBits x 0 1024 d2)) := Lib.hid (fun A m c x h1 h2 h3 => by rw [← e2]; exact sput_any A m c 1024 4096 d1 aA aB aP aS x (by omega) h1 h2 h3 F1 0 p2)
  have X4 : Hid (∀ (A : Option Addr) (m c : Nat) (x : World), Row x A m (d2.map U32) → Calls Tryd.prog 18 #[.agg #[.int .i64 1024, .slice A m c], .int .i64 30] x fun e w' => e = .returned (.tuple #[.int .i64 24, .bool true]) ∧ Below x.heap.size x w') := Lib.hid (fun A m c x h => by have h1 := sbefore_any A m c 1024 d2 30 x h F2; rw [p3] at h1; exact h1)
  have X5 : Hid (∀ (A : Option Addr) (m c : Nat) (x : World), BSent x aA aB aP → SSent x aS → Row x A m (d2.map U32) → Calls Tryd.prog 11 #[.agg #[.int .i64 1024, .slice A m c], .int .i64 24] x (GivesBits x 52 0 [])) := Lib.hid (fun A m c x h1 h2 h3 => (sput_any A m c 1024 24 d2 aA aB aP aS x (by omega) h1 h2 h3 F2 52 p4).mono fun _ _ h => h.bad (by omega))
  have X6 : Hid (∀ (A : Option Addr) (m c : Nat) (x : World), BSent x aA aB aP → SSent x aS → Row x A m (d2.map U32) → Calls Tryd.prog 13 #[.agg #[.int .i64 1024, .slice A m c], .int .i64 8] x (GivesBits x 131 0 [])) := Lib.hid (fun A m c x h1 h2 h3 => (sdrop_any A m c 1024 8 d2 aA aB aP aS x (by omega) h1 h2 h3 F2 131 p5).mono fun _ _ h => h.bad (by omega))
  have X7 : Hid (∀ (A : Option Addr) (m c : Nat) (x : World), BSent x aA aB aP → SSent x aS → Row x A m (d2.map U32) → Calls Tryd.prog 11 #[.agg #[.int .i64 1024, .slice A m c], .int .i64 8192] x (GivesBits x 10 0 [])) := Lib.hid (fun A m c x h1 h2 h3 => (sput_any A m c 1024 8192 d2 aA aB aP aS x (by omega) h1 h2 h3 F2 10 p6).mono fun _ _ h => h.bad (by omega))
  have X8 : Hid (∀ (A : Option Addr) (m c : Nat) (x : World), Row x A m (d2.map U32) → Calls Tryd.prog 27 #[.agg #[.int .i64 1024, .slice A m c], .int .i64 8, .int .i64 4096] x (GivesL x [24])) := Lib.hid (fun A m c x h => by have h1 := sin_any A m c 1024 d2 8 4096 x h F2; rw [p7] at h1; exact h1)
  have X9 : Hid (∀ (A : Option Addr) (m c : Nat) (x : World), Row x A m (d2.map U32) → Calls Tryd.prog 25 #[.agg #[.int .i64 1024, .slice A m c]] x (GivesL x [24, 4096])) := Lib.hid (fun A m c x h => by have h1 := sall_any A m c 1024 d2 x h F2; rw [p8] at h1; exact h1)
  have r1 : ∀ W : World, (Instr.buildSlice 37 1 #[(0, .int .i64 24)]).run Tryd.prog W = .ok (.slice (some ⟨W.heap.size, 0, none⟩) 1 1) (W.alloc (.cells #[.int .i64 24] 3)) := fun W => by go_simp
  have r2 : ∀ W : World, (Instr.buildSlice 37 2 #[(0, .int .i64 24), (1, .int .i64 4096)]).run Tryd.prog W = .ok (.slice (some ⟨W.heap.size, 0, none⟩) 2 2) (W.alloc (.cells #[.int .i64 24, .int .i64 4096] 3)) := fun W => by go_simp
  have R1 := Lib.hid r1
  have R2 := Lib.hid r2
  clear hB hS e0 F0 p1 e1 F1 p2 e2 F2 p3 p4 p5 p6 p7 p8 r1 r2
  go_enter Tryd.func9, Tryd.ntmps9
  go_wp2_with fail
  refine (X1.out w HBS.out).mono ?_
  clear X1
  rintro e w1 ⟨A1, m1, c1, rfl, hRn, hbn⟩
  have hx := below_box w1 (.cells #[.int .i64 1024, .slice A1 m1 c1] 24)
  have s10 := box0 (w := w1) (t := 24) (v0 := .int .i64 1024) (v1 := .slice A1 m1 c1)
  have s11 := box1 (w := w1) (t := 24) (v0 := .int .i64 1024) (v1 := .slice A1 m1 c1)
  have hbx := below_le hbn hx
  have HR1 := Lib.hid (hRn.ext hx)
  have HB := Lib.hid hbx
  clear hRn hbn hx hbx
  go_wp2_with fail
  generalize w1.alloc (.cells #[.int .i64 1024, .slice A1 m1 c1] 24) = W1 at *
  refine (X2.out A1 m1 c1 W1 (HBS.out.ext HB.out) (HS.out.ext HB.out) HR1.out).mono ?_
  clear X2 HR1 s10 s11
  rintro e w2 ⟨A2, m2, c2, rfl, hRn, hbn⟩
  have hx := below_box w2 (.cells #[.int .i64 1024, .slice A2 m2 c2] 24)
  have s20 := box0 (w := w2) (t := 24) (v0 := .int .i64 1024) (v1 := .slice A2 m2 c2)
  have s21 := box1 (w := w2) (t := 24) (v0 := .int .i64 1024) (v1 := .slice A2 m2 c2)
  have hbx := below_le hbn hx
  have HR2 := Lib.hid (hRn.ext hx)
  replace HB := Lib.hid (below_le HB.out hbx)
  clear hRn hbn hx hbx
  go_wp2_with fail
  generalize w2.alloc (.cells #[.int .i64 1024, .slice A2 m2 c2] 24) = W2 at *
  refine (X3.out A2 m2 c2 W2 (HBS.out.ext HB.out) (HS.out.ext HB.out) HR2.out).mono ?_
  clear X3 HR2 s20 s21
  rintro e w3 ⟨A3, m3, c3, rfl, hRn, hbn⟩
  have hx := below_box w3 (.cells #[.int .i64 1024, .slice A3 m3 c3] 24)
  have s30 := box0 (w := w3) (t := 24) (v0 := .int .i64 1024) (v1 := .slice A3 m3 c3)
  have s31 := box1 (w := w3) (t := 24) (v0 := .int .i64 1024) (v1 := .slice A3 m3 c3)
  have hbx := below_le hbn hx
  have HR3 := Lib.hid (hRn.ext hx)
  replace HB := Lib.hid (below_le HB.out hbx)
  clear hRn hbn hx hbx
  go_wp2_with fail
  generalize w3.alloc (.cells #[.int .i64 1024, .slice A3 m3 c3] 24) = W3 at *
  refine (X4.out A3 m3 c3 W3 HR3.out).mono ?_
  clear X4
  rintro e W4 ⟨rfl, hbn⟩
  replace s30 := cell_ext hbn s30; replace s31 := cell_ext hbn s31; replace HR3 := Lib.hid (HR3.out.ext hbn)
  replace HB := Lib.hid (below_le HB.out hbn)
  clear hbn
  go_wp2_with fail
  refine (X5.out A3 m3 c3 W4 (HBS.out.ext HB.out) (HS.out.ext HB.out) HR3.out).mono ?_
  clear X5
  rintro e w5 ⟨A5, m5, c5, rfl, hRn, hbn⟩
  have hx := below_box w5 (.cells #[.int .i64 0, .slice A5 m5 c5] 24)
  have hbx := below_le hbn hx
  replace s30 := cell_ext hbx s30; replace s31 := cell_ext hbx s31; replace HR3 := Lib.hid (HR3.out.ext hbx)
  replace HB := Lib.hid (below_le HB.out hbx)
  clear hRn hbn hx hbx
  go_wp2_with fail
  generalize w5.alloc (.cells #[.int .i64 0, .slice A5 m5 c5] 24) = W5 at *
  refine (X6.out A3 m3 c3 W5 (HBS.out.ext HB.out) (HS.out.ext HB.out) HR3.out).mono ?_
  clear X6
  rintro e w6 ⟨A6, m6, c6, rfl, hRn, hbn⟩
  have hx := below_box w6 (.cells #[.int .i64 0, .slice A6 m6 c6] 24)
  have hbx := below_le hbn hx
  replace s30 := cell_ext hbx s30; replace s31 := cell_ext hbx s31; replace HR3 := Lib.hid (HR3.out.ext hbx)
  replace HB := Lib.hid (below_le HB.out hbx)
  clear hRn hbn hx hbx
  go_wp2_with fail
  generalize w6.alloc (.cells #[.int .i64 0, .slice A6 m6 c6] 24) = W6 at *
  refine (X7.out A3 m3 c3 W6 (HBS.out.ext HB.out) (HS.out.ext HB.out) HR3.out).mono ?_
  clear X7
  rintro e w7 ⟨A7, m7, c7, rfl, hRn, hbn⟩
  have hx := below_box w7 (.cells #[.int .i64 0, .slice A7 m7 c7] 24)
  have hbx := below_le hbn hx
  replace s30 := cell_ext hbx s30; replace s31 := cell_ext hbx s31; replace HR3 := Lib.hid (HR3.out.ext hbx)
  replace HB := Lib.hid (below_le HB.out hbx)
  clear hRn hbn hx hbx
  go_wp2_with fail
  generalize w7.alloc (.cells #[.int .i64 0, .slice A7 m7 c7] 24) = W7 at *
  refine (X8.out A3 m3 c3 W7 HR3.out).mono ?_
  clear X8
  rintro e w8 ⟨A8, m8, c8, rfl, hRn, hbn⟩
  have hx := below_box w8 (.cells #[.int .i64 24] 3)
  have hbx := below_le hbn hx
  have hbl : Blk (w8.alloc (.cells #[.int .i64 24] 3)) w8.heap.size 3 #[.int .i64 24] := heap_new rfl _
  have hI := ints_any A8 (some ⟨w8.heap.size, 0, none⟩) m8 c8 1 1 [24] [24] (w8.alloc (.cells #[.int .i64 24] 3)) (hRn.ext hx) hbl.row (by have := hRn.1; simp at this; omega) (by omega)
  rw [show decide (([24] : List Int) = [24]) = true by simp] at hI
  have HI := Lib.hid hI
  replace s30 := cell_ext hbx s30; replace s31 := cell_ext hbx s31; replace HR3 := Lib.hid (HR3.out.ext hbx)
  replace HB := Lib.hid (below_le HB.out hbx)
  have rr := R1.out w8
  clear hRn hbn hx hbx hI hbl
  go_wp2_with fail
  generalize w8.alloc (.cells #[.int .i64 24] 3) = W8 at *
  refine HI.out.mono ?_
  clear HI rr
  rintro e W9 ⟨rfl, hbn⟩
  replace s30 := cell_ext hbn s30; replace s31 := cell_ext hbn s31; replace HR3 := Lib.hid (HR3.out.ext hbn)
  replace HB := Lib.hid (below_le HB.out hbn)
  clear hbn
  go_wp2_with fail
  refine (X9.out A3 m3 c3 W9 HR3.out).mono ?_
  clear X9
  rintro e w10 ⟨A10, m10, c10, rfl, hRn, hbn⟩
  have hx := below_box w10 (.cells #[.int .i64 24, .int .i64 4096] 3)
  have hbx := below_le hbn hx
  have hbl : Blk (w10.alloc (.cells #[.int .i64 24, .int .i64 4096] 3)) w10.heap.size 3 #[.int .i64 24, .int .i64 4096] := heap_new rfl _
  have hI := ints_any A10 (some ⟨w10.heap.size, 0, none⟩) m10 c10 2 2 [24, 4096] [24, 4096] (w10.alloc (.cells #[.int .i64 24, .int .i64 4096] 3)) (hRn.ext hx) hbl.row (by have := hRn.1; simp at this; omega) (by omega)
  rw [show decide (([24, 4096] : List Int) = [24, 4096]) = true by simp] at hI
  have HI := Lib.hid hI
  replace s30 := cell_ext hbx s30; replace s31 := cell_ext hbx s31; replace HR3 := Lib.hid (HR3.out.ext hbx)
  replace HB := Lib.hid (below_le HB.out hbx)
  have rr := R2.out w10
  clear hRn hbn hx hbx hI hbl
  go_wp2_with fail
  generalize w10.alloc (.cells #[.int .i64 24, .int .i64 4096] 3) = W10 at *
  refine HI.out.mono ?_
  clear HI rr
  rintro e w11 ⟨rfl, hbn⟩
  replace HB := Lib.hid (below_le HB.out hbn)
  clear hbn
  go_wp2
  go_ret
  exact ⟨ret_bool (by simp), HB.out⟩

end Go.Proofs.YtelbddnjnapoeaaDoor
