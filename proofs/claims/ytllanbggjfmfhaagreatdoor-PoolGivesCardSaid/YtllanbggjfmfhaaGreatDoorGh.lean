/-
  What is proved: the contract of Room of package hole. No condition beyond those stated.
-/
import Derived.Test.YtllanbggjfmfhaaGreatDoorGg
import Derived.Test.YtllanbggjfmfhaaGreatDoorMin
import Derived.Test.YtllanbggjfmfhaaGreatDoorOs
namespace Go.Proofs.YtllanbggjfmfhaaGreatDoor
open Go.RowKit Go.Shelf
attribute [local go_sem] Oper.semAt_some

/-- What holes have come. -/
def cameH (R : List (Nat × Nat)) (pre : List (Fin R.length)) : List (Nat × Nat) := pre.map fun x => R[x.1]
theorem cameH_snoc (R : List (Nat × Nat)) (pre : List (Fin R.length)) (x : Fin R.length) : cameH R (pre ++ [x]) = cameH R pre ++ [R[x.1]] := by simp [cameH]
theorem cameH_all (R : List (Nat × Nat)) : cameH R (List.finRange R.length) = R := by
  unfold cameH
  apply List.ext_getElem
  · simp
  · intro i h1 h2; simp
theorem sumR_snoc (rs : List (Nat × Nat)) (r : Nat × Nat) : sumR (rs ++ [r]) = sumR rs + (r.2 - r.1) := by simp [sumR]

def roomN (t : List Int) : Nat := if tabB t then 32 - cntN t else 0
theorem count_bits (t : List Int) : countL (bitL (kB t)) 0 = 32 - (linesL t).length := by
  unfold countL bitL kB linesL
  rw [List.countP_map, List.countP_map, List.length_map, ← List.countP_eq_length_filter]
  have h := List.length_eq_countP_add_countP (p := keptB t) (l := List.range 32)
  simp at h
  have e : List.countP (((fun x => x == 0) ∘ fun b => if b = true then (1 : Int) else 0) ∘ keptB t) (List.range 32) = List.countP (fun a => decide ¬keptB t a = true) (List.range 32) := by
    apply List.countP_congr
    intro i _
    cases h : keptB t i <;> simp [h]
  rw [e]
  simp at h ⊢
  omega
theorem room_sum {t : List Int} (h : tabB t = true) : sumR (runsL (bitL (kB t))) = roomN t := by
  rw [sum_runs, count_bits]
  unfold roomN cntN linesR
  rw [h]
  rfl

def RoomI (w W1 : World) (R : List (Nat × Nat)) (pre : List (Fin R.length)) (W' : World) : Prop := W1.heap.size ≤ W'.heap.size ∧ Below w.heap.size w W' ∧ Blk W' w.heap.size 3 #[.int .i64 (sumR (cameH R pre) : Nat)] ∧ sumR (cameH R pre) ≤ 33 * pre.length

def roomF (w : World) (A : Option Addr) (m c : Nat) (cs : Array Value) (fb hb rb : Nat) (r : Nat × Nat) : Act :=
  { tmps := #[.slice A m c, undef, .int .i64 0, .pointer (some ⟨w.heap.size, 0, none⟩), .pointer (some ⟨fb, 0, none⟩), .bool true, .pointer (some ⟨rb, 0, none⟩), .tuple #[.agg cs, .bool true], .slice A m c, .tuple #[.agg cs, .bool true], .agg cs, .bool true, .bool true, .agg cs,
      .func (.func 83) #[] #[.pointer (some ⟨hb, 0, none⟩)], holeV r, undef, undef, undef, undef, undef], defers := [] }

set_option maxRecDepth 100000 in
set_option maxHeartbeats 2000000 in
theorem room_right (A : Option Addr) (m c : Nat) (t : List Int) (w : World) (hR : Row w A m (t.map Iv)) (hm : m ≤ 100000) (hT : tabB t = true) :
    Calls Tryz.prog 42 #[.slice A m c] w fun e w' => e = .returned (.int .i64 (roomN t : Nat)) ∧ Below w.heap.size w w' := by
  have hb0 := below_box w (.cells #[.int .i64 0] 3)
  have hb2 : Blk (w.alloc (.cells #[.int .i64 0] 3)) w.heap.size 3 #[.int .i64 0] := heap_new rfl _
  have hcall := look_ok A m c t 0 _ (hR.ext hb0) hm hT
  have hsum := room_sum hT
  have hcs := kB_len t
  rw [← hsum]
  have hR2 : ∀ x ∈ runsL (bitL (kB t)), x.1 < x.2 ∧ x.2 ≤ 32 := fun x hx => by
    have := runs_mem (b := 0) hx
    rw [bit_len, hcs] at this
    exact ⟨this.1, this.2.1⟩
  have HB0 := Lib.hid hb0
  have HB2 := Lib.hid hb2
  have HC := Lib.hid hcall
  have HR2 := Lib.hid hR2
  clear hR hb0 hb2 hcall hsum hT hR2
  generalize kB t = bs at *
  refine (callsIn_wide (n := 3)).1 ?_
  refine callsIn_of_wp_marks Tryz.func42 rfl trivial ?_ rfl
  simp only [Tryz.ntmps42, List.size_toArray, List.length_cons, List.length_nil, Nat.reduceAdd, Nat.reduceSub, Array.replicate_succ, Array.replicate_zero, List.push_toArray, List.append_toArray, List.nil_append, List.cons_append]
  gi_wp2_with fail
  generalize w.alloc (.cells #[.int .i64 0] 3) = W0 at *
  refine ⟨trivial, (callsIn_wide.2 HC.out).mono ?_⟩
  rintro e w1 ⟨rfl, hb1⟩
  have hx := below_box w1 (.cells (finC bs 0) 90)
  have h4 := Blk.new w1 90 (finC bs 0)
  have hld := run_fin_load _ _ _ _ hcs h4
  have hlt1 : w.heap.size < w1.heap.size := (HB2.out.ext hb1).lt
  have HB3 := Lib.hid (HB2.out.ext (below_le hb1 hx))
  have HB1 := Lib.hid (below_le HB0.out (below_le hb1 hx))
  clear hb1 hx HC HB0 HB2 h4
  gi_wp2_with (first | (with_reducible refine wpListIn_op_alloc rfl 90 rfl _ _ (run_fin_alloc _) ?_) | (refine wpListIn_op_store rfl 90 (.tmp 4) (.tmp 10) rfl _ (run_storeAt_fin bs 0 hcs _) ?_) | (refine wpListIn_op_load rfl 90 (.tmp 4) rfl _ _ hld ?_))
  refine ⟨trivial, (callsIn_wide.2 (holes_any bs 0 _)).mono ?_⟩
  rintro e w' ⟨rfl, rfl⟩
  have hsz : (w1.alloc (.cells (finC bs 0) 90)).heap.size = w1.heap.size + 1 := by simp
  rw [hsz]
  have hx2 := below_box (w1.alloc (.cells (finC bs 0) 90)) (.cells (finC bs 0) 90)
  have h5 : Blk ((w1.alloc (.cells (finC bs 0) 90)).alloc (.cells (finC bs 0) 90)) (w1.heap.size + 1) 90 (finC bs 0) := heap_new (by simp) _
  have hz : ((w1.alloc (.cells (finC bs 0) 90)).alloc (.cells (finC bs 0) 90)).heap.size = w1.heap.size + 2 := by simp
  have hB3 := HB3.out.ext hx2
  have hB1 := below_le HB1.out hx2
  generalize (w1.alloc (.cells (finC bs 0) 90)).alloc (.cells (finC bs 0) 90) = W1 at *
  have hst := holes1_stops (3 - 1) bs hcs (w1.heap.size + 1) W1 h5
  have hRl : (runsL (bitL bs)).length ≤ 32 := by
    unfold runsL runsFrom
    have := List.length_filterMap_le (startAt (bitL bs)) (List.range' 0 ((bitL bs).length - 0))
    simp [bit_len, hcs] at this ⊢
    exact this
  generalize hRR : runsL (bitL bs) = R at *
  have HRR := Lib.hid hRR
  clear hRR
  have HI0 : RoomI w W1 R [] W1 := ⟨Nat.le_refl _, hB1, by simpa [cameH, sumR] using hB3, by simp [cameH, sumR]⟩
  clear h5 hB3 hB1 HB3 HB1 hsz hx2 hld
  gi_wp2_with fail
  refine wpIn_rangeFunc_ownH (F := Fence.wide) (n := 3) rfl (by omega) (gf := 83) (lb := #[.pointer (some ⟨w1.heap.size + 1, 0, none⟩)]) rfl trivial (enters_of Tryz.func83 (by kernel_rfl) rfl)
    hst (fun h k => h.t k) (KeepB.b (by simp; omega)) (Below.refl _ _) (fun _ => rfl)
    (RoomI w W1 R) (fun _ _ _ => False)
    (fun pre X Y row hs hg hr => by
      obtain ⟨h1, h2, h3, h4⟩ := hs
      exact ⟨Nat.le_trans h1 hg.size, h2.trans (((Below.refl _ X).grown hg h1 (fun k e => (hr k e).1)).mono (by omega)), h3.own hg hr, h4⟩)
    (fun _ _ _ _ _ hs _ _ => hs)
    HI0
    (fun x a' W => ∃ rb, W1.heap.size ≤ rb ∧ a' = roomF w A m c (finC bs 0) w1.heap.size (w1.heap.size + 1) rb (R[x.1]) ∧ Blk W rb 72 #[.int .i64 (R[x.1]).1, .int .i64 (R[x.1]).2])
    (fun x a' _ X Y row hs hg hr => by obtain ⟨rb, h1, h2, h3⟩ := hs; exact ⟨rb, h1, h2, h3.own hg hr⟩)
    ?assign ?body ?done ?stop
  case assign =>
    intro l0 pre x W' K hI hK
    generalize R[x.1] = r at *
    obtain ⟨p, q⟩ := r
    dsimp only [holeV]
    have HK := Lib.hid hK
    have HI := Lib.hid hI
    clear hK hI HI0 hst
    gi_wp2
    have hx := below_box W' (.cells #[.int .i64 (p : Int), .int .i64 (q : Int)] 72)
    obtain ⟨h1, h2, h3, h4⟩ := HI.out
    exact HK.out _ _ (keepsFrom_below hx) (KeepB.of_below (hx.mono h1) (by simp; omega)) ⟨Nat.le_trans h1 hx.size, h2.trans (hx.mono h2.size), h3.ext hx, h4⟩ ⟨W'.heap.size, h1, rfl, Blk.new _ _ _⟩
  case body =>
    rintro l0 pre x a' W' - - ⟨s1, s2, s3, s4⟩ ⟨rb, hrb, rfl, hbl⟩ hpre
    have hmem := HR2.out _ (List.getElem_mem x.2)
    have hsn := cameH_snoc R pre x
    have hls := sumR_snoc (cameH R pre) (R[x.1])
    rw [← hsn] at hls
    have hgl : sumR (cameH R pre) ≤ 10000000 := by omega
    generalize R[x.1] = r at *
    obtain ⟨p, q⟩ := r
    obtain ⟨hpq, hq32⟩ := hmem
    dsimp only at hpq hq32 hls
    generalize sumR (cameH R pre) = g at *
    have c0 := ext_cell (by have := hbl.cell 0; simpa using this : W'.cell? ⟨rb, 0, none⟩ = some (.int .i64 (p : Int)))
    have c1 := ext_cell (by have := hbl.cell 1; simpa using this : W'.cell? ⟨rb, 1, none⟩ = some (.int .i64 (q : Int)))
    have c2 := ext_cell (by have := s3.cell 0; simpa using this : W'.cell? ⟨w.heap.size, 0, none⟩ = some (.int .i64 (g : Int)))
    have hln := fun W => length_any p q (by omega) W
    have S2 := Lib.hid s2
    have S3 := Lib.hid s3
    have HLS := Lib.hid hls
    have HLN := Lib.hid hln
    clear s2 hsn hbl s3 hls hln HI0 hst
    simp only [roomF, holeV]
    have hadd : IntKind.i64.wrap ((g : Int) + ((q : Int) - (p : Int))) = ((g + (q - p) : Nat) : Int) := by
      rw [IntWalk.i64_in _ (by omega)]; omega
    gi_wp2_with fail
    refine wpIn_region_tail 4 (by kernel_rfl) (by kernel_rfl) ?_; simp only [List.take_succ_cons, List.take_zero, List.drop_succ_cons, List.drop_zero]
    repeat (first | (refine head_skip rfl ?_; go_frame) | (refine head_soft rfl (fun K hK => ?_); go_simp; first | (refine hK _ ?_; clear hK K) | (apply Exists.intro; refine ⟨fun x => ?_, hK _ ?_⟩; (· (go_at_call 67; exact (HLN.out x.val).mono (fun e w' ⟨h1, h2⟩ => ⟨h1, h2 ▸ below_box _ _⟩))); clear hK K; try go_frame)))
    refine head_nil fun w2 hb2 => ?_
    have hb3 := S3.out.ext hb2
    have d2 := hb3.cell 0
    have f2 := hb3.frozen 0
    simp at d2
    have H3 := Lib.hid hb3
    have Hb2 := Lib.hid hb2
    clear hb3 hb2 c0 c1 c2 HLN
    go_wp2
    have e : ((g : Int) + ((q - p : Nat) : Int)) = ((g + (q - p) : Nat) : Int) := by omega
    rw [e]
    have g2 := grown_set w2 w.heap.size 0 (.int .i64 ((g + (q - p) : Nat) : Int))
    have hbs := Hb2.out.size
    refine (?_ : KeepsFrom _ _ _ ∧ KeepB _ _ _ ∧ RoomI _ _ _ _ _)
    refine ⟨(keepsFrom_below Hb2.out).trans (KeepsFrom.of_grownBy g2 (fun j e => by cases e; omega)), (KeepB.of_below Hb2.out (by simp; omega)).t (KeepB.of_grown g2 (by simp; omega)), Nat.le_trans s1 (Nat.le_trans hbs g2.size), ?_, ?_, ?_⟩
    · exact (below_le S2.out Hb2.out).setCell (p := ⟨w.heap.size, 0, none⟩) (Nat.le_refl _) _
    · rw [HLS.out]
      exact H3.out.set_ 0 (.int .i64 ((g + (q - p) : Nat) : Int))
    · rw [HLS.out]; simp; omega
  case done =>
    rintro D ys W' hD rfl ⟨s1, s2, s3, s4⟩ hK
    rw [cameH_all] at s3 s4
    have c2 := s3.cell 0
    simp at c2
    have S2 := Lib.hid s2
    clear s2 s3 HI0 hst
    gi_wp2
    refine ⟨by simp, .inl ⟨_, _, rfl, run_takeDeferred hK, ?_⟩⟩
    have hbD := belowK_b (w := W1) (Nat.le_refl _) _ D _ (.deferred none) hD hK rfl rfl
    refine ⟨.int .i64 (sumR R : Nat), by simp [results, Tryz.results42, go_sem], ret_int (by rw [HRR.out]), ?_⟩
    exact S2.out.trans (hbD.mono (by omega))
  case stop =>
    rintro D c pre W' _ _ h _
    exact h.elim

set_option maxRecDepth 100000 in
set_option maxHeartbeats 1000000 in
/-- hole.Room. -/
theorem room_any (A : Option Addr) (m c : Nat) (t : List Int) (w : World) (hR : Row w A m (t.map Iv)) (hm : m ≤ 100000) :
    Calls Tryz.prog 42 #[.slice A m c] w fun e w' => e = .returned (.int .i64 (roomN t : Nat)) ∧ Below w.heap.size w w' := by
  cases hT : tabB t
  · have HQ : Hid (roomN t = 0) := Lib.hid (by simp [roomN, hT])
    have hb0 := below_box w (.cells #[.int .i64 0] 3)
    have k0 := cell_one (w := w) (t := 3) (v := .int .i64 0)
    have hcall := look_no A m c t 0 _ (hR.ext hb0) hm hT
    have HB := Lib.hid hb0
    have HC := Lib.hid hcall
    clear hR hb0 hT hcall
    go_enter Tryz.func42, Tryz.ntmps42
    go_wp2_with fail
    generalize w.alloc (.cells #[.int .i64 0] 3) = W0 at *
    refine HC.out.mono ?_
    rintro e w1 ⟨rfl, hb1⟩
    have j0 := cell_ext (below_le hb1 (below_box w1 (.cells (finC f32 0) 90))) k0
    have HB1 := Lib.hid (below_le HB.out (below_le hb1 (below_box w1 (.cells (finC f32 0) 90))))
    clear hb1 k0 HC
    go_wp2_with (first | (with_reducible refine wpList_op_alloc rfl 90 rfl _ _ (run_fin_alloc _) ?_) | (refine wpList_op_store rfl 90 (.tmp 4) (.tmp 10) rfl _ (run_storeAt_fin f32 0 rfl _) ?_))
    go_ret
    exact ⟨ret_int (by rw [HQ.out]; rfl), HB1.out⟩
  · exact room_right A m c t w hR hm hT

end Go.Proofs.YtllanbggjfmfhaaGreatDoor
