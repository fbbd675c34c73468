/-
  What is proved: contracts of pairs of package desc, as an iterator, and of within. No condition beyond those stated.
-/
import Derived.Test.YtmabokmnniiadaaGreatDoorIt
import Derived.Test.YtmabokmnniiadaaGreatDoorC2
namespace Go.Proofs.YtmabokmnniiadaaGreatDoor
open Go.RowKit Go.Shelf
attribute [local go_sem] Oper.semAt_some

/-- A place, and what stands ahead of it. -/
def pairV (l : List Int) (i : Nat) : Array Value := #[.int .i64 ((-1 :: l).getD i 0), .int .i64 (l.getD i 0)]

abbrev StopsP (n f : Nat) (lb : Array Value) (S : List Nat) (l : List Int) (w : World) : Prop :=
  SeqStopsK Fence.wide n Tryz.prog f lb (fun x : Fin l.length => pairV l x.1) (KeepB S) (fun ys => ys = List.finRange l.length) (fun pre => ∃ k, k ≤ l.length ∧ pre = (List.finRange l.length).take k) l.length w

set_option maxRecDepth 100000 in
set_option maxHeartbeats 2000000 in
theorem pairs1_in (n : Nat) (A : Option Addr) (m c : Nat) (l : List Int) (bb y : Nat) (S : List Nat) (hA : ∀ b ∈ blkR A m, b ∈ S) (hm : m ≤ 1000) (J Jx : List (Fin l.length) → World → Prop) (W : World)
    (hY : ∀ pre x W, J pre W → pre.length < l.length → YieldAt Fence.wide (n - 1) Tryz.prog y (pairV l x.1) W fun e W' =>
      (e = .returned (.bool true) ∧ J (pre ++ [x]) W' ∧ KeepB S W W') ∨ (e = .returned (.bool false) ∧ Jx (pre ++ [x]) W'))
    (hc : W.cell? ⟨bb, 0, none⟩ = some (.slice A m c)) (hR : Row W A m (l.map Iv)) (h0 : J [] W) :
    CallsIn Fence.wide n Tryz.prog 74 #[.func (.yield y) #[] #[], .pointer (some ⟨bb, 0, none⟩)] W (SeqEnd (fun ys => ys = List.finRange l.length) (fun pre => ∃ k, k ≤ l.length ∧ pre = (List.finRange l.length).take k) J Jx) := by
  have hlen := hR.1
  simp at hlen
  have HR := Lib.hid hR
  have HLEN := Lib.hid hlen
  have HA := Lib.hid hA
  clear hR hlen hA
  refine callsIn_of_wp Tryz.func74 rfl trivial ?_ rfl
  simp only [Tryz.ntmps74, List.size_toArray, List.length_cons, List.length_nil, Nat.reduceAdd, Nat.reduceSub, Array.replicate_succ, Array.replicate_zero, List.push_toArray, List.append_toArray, List.nil_append, List.cons_append]
  gi_wp2
  gi_loopw [3, 8] (fun ah i wr => ∃ k : Nat, k ≤ m ∧ i = .int .i64 k ∧ ah = .int .i64 ((-1 :: l).getD k 0) ∧ J ((List.finRange l.length).take k) wr ∧ KeepB S W wr)
    (fun _ i _ => m - (intOf i).toNat)
  case atStart => exact ⟨0, Nat.zero_le _, rfl, rfl, h0, KeepB.refl _ _⟩
  case round =>
    obtain ⟨k, hk, rfl, hah, hJs, hkp⟩ := hrel
    subst hah
    have HK := Lib.hid hkp
    have HJs := Lib.hid hJs
    by_cases hlt : k < m
    · have hkN : k < l.length := by have := HLEN.out; omega
      obtain ⟨b, off, x, rfl, hx, hxe, -⟩ := num_at (hkp.rowR HR.out HA.out) hlt
      obtain ⟨fn, tmps, assign, body, hy, hRy⟩ := hY _ ⟨k, hkN⟩ _ hJs (by simp; omega)
      dsimp only [pairV] at hy hRy
      rw [hxe] at hy
      have hnx : (-1 :: l).getD (k + 1) 0 = x := by rw [List.getD_cons_succ, hxe]
      have HNX := Lib.hid hnx
      generalize (-1 :: l).getD k 0 = ah at *
      have HRy := Lib.hid hRy
      clear hRy hkp hJs hxe hnx
      gi_wp2
      refine ⟨fun h => by simp [Fence.wide] at h, HRy.out.mono ?_⟩
      rintro e W3 (⟨rfl, hJ4, hk4⟩ | ⟨rfl, hJx4⟩)
      · have HJ4 := Lib.hid hJ4
        have HK4 := Lib.hid hk4
        clear hJ4 hk4
        gi_wp2
        go_roundw
        case rel => exact ⟨k + 1, by omega, by go_num, by rw [HNX.out], by rw [fin_take_succ _ _ hkN]; exact HJ4.out, HK.out.t HK4.out⟩
        case measure => simp [intOf]; omega
      · have HJx4 := Lib.hid hJx4
        clear hJx4
        gi_wp2
        refine bodyPost_ret (results_none rfl _ _ _) rfl ?_
        exact ⟨⟨_, rfl⟩, .inr ⟨_, ⟨k + 1, by omega, rfl⟩, by rw [fin_take_succ _ _ hkN]; exact HJx4.out⟩⟩
    · have HKL := Lib.hid (show k = l.length by have := HLEN.out; omega)
      clear hkp hJs
      gi_wp2
      go_end0
      refine ⟨⟨_, rfl⟩, .inl ⟨_, rfl, ?_⟩⟩
      have := HJs.out
      rwa [HKL.out, fin_take_all] at this

theorem pairs1_stops (n : Nat) (A : Option Addr) (m c : Nat) (l : List Int) (bb : Nat) (hm : m ≤ 1000) (w : World) (hc : w.cell? ⟨bb, 0, none⟩ = some (.slice A m c)) (hR : Row w A m (l.map Iv)) :
    StopsP n 74 #[.pointer (some ⟨bb, 0, none⟩)] (bb :: blkR A m) l w := fun y J Jx W hW _ _ hY h0 =>
  pairs1_in n A m c l bb y _ (fun _ hb => List.mem_cons_of_mem _ hb) hm J Jx W hY (cell_ext hW hc) (hR.ext hW) h0

set_option maxHeartbeats 400000 in
theorem pairs_any (S : Option Addr) (n c : Nat) (w : World) :
    Calls Tryz.prog 62 #[.slice S n c] w fun e w' => e = .returned (.func (.func 74) #[] #[.pointer (some ⟨w.heap.size, 0, none⟩)]) ∧ w.alloc (.cells #[.slice S n c] 33) = w' := by
  go_enter Tryz.func62, Tryz.ntmps62
  go_wp2
  go_ret
  exact ⟨rfl, rfl⟩

def okI (e : Int) (l : List Int) (i : Nat) : Bool := decide ((-1 :: l).getD i 0 < l.getD i 0) && decide (l.getD i 0 < e) && decide ((l.getD i 0).tmod 4 = 0)
theorem rise_okI (e : Int) (l : List Int) : riseB e (-1) l = true ↔ ∀ i, i < l.length → okI e l i = true := by
  rw [rise_iff]
  simp only [okI, Bool.and_eq_true, decide_eq_true_eq, and_assoc]

def WthI (W1 : World) (e : Int) (l : List Int) (pre : List (Fin l.length)) (W' : World) : Prop := W1.heap.size ≤ W'.heap.size ∧ Below W1.heap.size W1 W' ∧ ∀ x ∈ pre, okI e l x.1 = true
def WthX (W1 : World) (rb : Nat) (e : Int) (l : List Int) (c : Code) (pre : List (Fin l.length)) (W' : World) : Prop := W1.heap.size ≤ W'.heap.size ∧ c = .exit 0 ∧ (∃ x ∈ pre, okI e l x.1 = false) ∧ Below W1.heap.size (W1.setCell ⟨rb, 0, none⟩ (.bool false)) W'
theorem WthI.low {W1 X Y : World} {e : Int} {l : List Int} {pre : List (Fin l.length)} (h : WthI W1 e l pre X) (hb : Below W1.heap.size X Y) : WthI W1 e l pre Y := ⟨Nat.le_trans h.1 hb.size, h.2.1.trans hb, h.2.2⟩
theorem WthX.low {W1 X Y : World} {rb : Nat} {e : Int} {l : List Int} {c : Code} {pre : List (Fin l.length)} (h : WthX W1 rb e l c pre X) (hb : Below W1.heap.size X Y) : WthX W1 rb e l c pre Y := by
  obtain ⟨h1, h2, h3, h4⟩ := h
  exact ⟨Nat.le_trans h1 hb.size, h2, h3, h4.trans hb⟩

def wthF (w : World) (e : Int) (A : Option Addr) (m c : Nat) (bb : Nat) (ah p : Int) : Act :=
  { tmps := #[.int .i64 e, .slice A m c, .pointer (some ⟨w.heap.size, 0, none⟩), undef, .bool false, .pointer (some ⟨w.heap.size + 1, 0, none⟩), .int .i64 ah, .int .i64 p, .slice A m c, .func (.func 74) #[] #[.pointer (some ⟨bb, 0, none⟩)], .int .i64 ah, .int .i64 p, undef, undef, undef, undef, undef, undef, undef, undef, undef, undef, undef, undef, undef, undef], defers := [] }

set_option maxRecDepth 100000 in
set_option maxHeartbeats 2000000 in
theorem within_any (e : Int) (A : Option Addr) (m c : Nat) (l : List Int) (w : World) (hR : Row w A m (l.map Iv)) (hm : m ≤ 1000) :
    Calls Tryz.prog 45 #[.int .i64 e, .slice A m c] w fun x w' => x = .returned (.bool (riseB e (-1) l)) ∧ Below w.heap.size w w' := by
  have hl := hR.1
  simp at hl
  have hb0 := below_le (below_box w (.cells #[.int .i64 e] 3)) (below_box _ (.cells #[.bool true] 4))
  have h2 : Blk ((w.alloc (.cells #[.int .i64 e] 3)).alloc (.cells #[.bool true] 4)) w.heap.size 3 #[.int .i64 e] := Blk.alloc (Blk.new _ _ _) _
  have h5 : Blk ((w.alloc (.cells #[.int .i64 e] 3)).alloc (.cells #[.bool true] 4)) (w.heap.size + 1) 4 #[.bool true] := heap_new (by simp) _
  have hz : ((w.alloc (.cells #[.int .i64 e] 3)).alloc (.cells #[.bool true] 4)).heap.size = w.heap.size + 2 := by simp
  have HR := Lib.hid (hR.ext hb0)
  have HB := Lib.hid hb0
  have H2 := Lib.hid h2
  have H5 := Lib.hid h5
  have HL := Lib.hid hl
  have HZ := Lib.hid hz
  clear hR hb0 h2 h5 hl hz
  refine (callsIn_wide (n := 3)).1 ?_
  refine callsIn_of_wp_marks Tryz.func45 rfl trivial ?_ rfl
  simp only [Tryz.ntmps45, List.size_toArray, List.length_cons, List.length_nil, Nat.reduceAdd, Nat.reduceSub, Array.replicate_succ, Array.replicate_zero, List.push_toArray, List.append_toArray, List.nil_append, List.cons_append]
  gi_wp2_with fail
  refine wpIn_scope_ahead 0 (fun _ _ => False) rfl ?_ (fun _ _ h => h.elim)
  gi_wp2_with fail
  generalize (w.alloc (.cells #[.int .i64 e] 3)).alloc (.cells #[.bool true] 4) = W0 at *
  refine wpIn_label ?_
  gi_wp2_with fail
  refine ⟨trivial, (callsIn_wide.2 (pairs_any _ _ _ _)).mono ?_⟩
  rintro x w' ⟨rfl, rfl⟩
  have hb1 := below_box W0 (.cells #[.slice A m c] 33)
  have hz : (W0.alloc (.cells #[.slice A m c] 33)).heap.size = w.heap.size + 3 := by simp [HZ.out]
  have e1 := cell_one (w := W0) (t := 33) (v := .slice A m c)
  have h2 := H2.out.ext hb1
  have h5 := H5.out.ext hb1
  have hR := HR.out.ext hb1
  have hB := below_le HB.out hb1
  rw [HZ.out] at e1 ⊢
  generalize W0.alloc (.cells #[.slice A m c] 33) = W1 at *
  have hst := pairs1_stops (3 - 1) A m c l (w.heap.size + 2) hm W1 e1 hR
  have hlt : ∀ b ∈ (w.heap.size + 2) :: blkR A m, b < W1.heap.size := by
    intro b hb
    rcases List.mem_cons.1 hb with rfl | hb
    · omega
    · exact blkR_lt hR b hb
  have HH2 := Lib.hid h2
  have HH5 := Lib.hid h5
  have HHB := Lib.hid hB
  have HZ1 := Lib.hid (show w.heap.size + 3 ≤ W1.heap.size by omega)
  clear HR HB H2 H5 HZ hb1 e1 h2 h5 hR hB hz
  gi_wp2_with fail
  refine wpIn_rangeFunc_ownG (F := Fence.wide) (n := 3) rfl (by omega) (gf := 74) (lb := #[.pointer (some ⟨w.heap.size + 2, 0, none⟩)]) rfl trivial (enters_of Tryz.func74 (by kernel_rfl) rfl)
    hst (fun h k => h.t k) (KeepB.b hlt) (Below.refl _ _) (fun _ => rfl)
    (WthI W1 e l) (WthX W1 (w.heap.size + 1) e l)
    (ownFrom_low _ _ (fun _ _ h => h.1) (fun _ X Y h hb => h.low hb))
    (fun c => ownFrom_low _ _ (fun _ _ h => h.1) (fun _ X Y h hb => h.low hb))
    ⟨Nat.le_refl _, Below.refl _ _, fun _ h => by cases h⟩
    (fun x' => wthF w e A m c (w.heap.size + 2) ((-1 :: l).getD x'.1 0) (l.getD x'.1 0)) ?assign ?body ?done ?stop
  case assign =>
    intro l1 x1 W' K hK
    dsimp only [pairV]
    generalize (-1 :: l).getD x1.1 0 = ah at *
    generalize l.getD x1.1 0 = p at *
    gi_wp2
    exact hK
  case body =>
    rintro l0 pre x W' ⟨s1, s2, s3⟩ hpre
    have h2 := HH2.out.ext s2
    have h5 := HH5.out.ext s2
    have c2 := h2.cell 0
    have c5 := h5.cell 0
    have f5 := h5.frozen 0
    simp at c2 c5
    have hok : okI e l x.1 = (decide ((-1 :: l).getD x.1 0 < l.getD x.1 0) && decide (l.getD x.1 0 < e) && decide ((l.getD x.1 0).tmod 4 = 0)) := rfl
    have S3 := Lib.hid s3
    have S2 := Lib.hid s2
    have hset := KeepsFrom.of_grownBy (B := W1.heap.size) (grown_set W' (w.heap.size + 1) 0 (.bool false)) (fun j e => by cases e; have := HZ1.out; omega)
    have hend : okI e l x.1 = false → WthX W1 (w.heap.size + 1) e l (.exit 0) (pre ++ [x]) (W'.setCell ⟨w.heap.size + 1, 0, none⟩ (.bool false)) := fun h =>
      ⟨Nat.le_trans s1 (grown_set W' (w.heap.size + 1) 0 (.bool false)).size, rfl, ⟨x, by simp, h⟩, below_set S2.out _ _⟩
    have hgo : okI e l x.1 = true → WthI W1 e l (pre ++ [x]) W' := fun h => ⟨s1, S2.out, fun y hy => by
      rcases List.mem_append.1 hy with hy | hy
      · exact S3.out y hy
      · rw [List.mem_singleton.1 hy]; exact h⟩
    have HOK := Lib.hid hok
    have HEND := Lib.hid hend
    have HGO := Lib.hid hgo
    have HSET := Lib.hid hset
    clear hok hend hgo hset s2 s3 h2 h5 hst hpre S2 S3
    generalize okI e l x.1 = ok at *
    generalize (-1 :: l).getD x.1 0 = ah at *
    generalize l.getD x.1 0 = p at *
    simp only [wthF]
    by_cases h1 : ah < p
    · have g1 : ¬ p ≤ ah := by omega
      by_cases h2 : p < e
      · have g2 : ¬ e ≤ p := by omega
        by_cases h3 : p.tmod 4 = 0
        · have hok : ok = true := by rw [HOK.out, decide_eq_true h1, decide_eq_true h2, decide_eq_true h3]; rfl
          have hI := HGO.out hok
          have HI := Lib.hid hI
          have g3 : (p.tmod 4 != 0) = false := by rw [h3]; rfl
          clear hok hI h3
          gi_wp2
          exact ⟨KeepsFrom.refl _ _, KeepB.refl _ _, HI.out⟩
        · have hok : ok = false := by rw [HOK.out, decide_eq_false h3]; simp
          have hI := HEND.out hok
          have HI := Lib.hid hI
          have g3 : (p.tmod 4 != 0) = true := bne_iff_ne.2 h3
          clear hok hI h3
          gi_wp2
          exact ⟨HSET.out, HI.out⟩
      · have g2 : e ≤ p := by omega
        have hok : ok = false := by rw [HOK.out, decide_eq_false h2]; simp
        have hI := HEND.out hok
        have HI := Lib.hid hI
        clear hok hI
        gi_wp2
        exact ⟨HSET.out, HI.out⟩
    · have g1 : p ≤ ah := by omega
      have hok : ok = false := by rw [HOK.out, decide_eq_false h1]; simp
      have hI := HEND.out hok
      have HI := Lib.hid hI
      clear hok hI
      gi_wp2
      exact ⟨HSET.out, HI.out⟩
  case done =>
    rintro D ys W' hD rfl ⟨s1, s2, s3⟩ hK
    have hri : riseB e (-1) l = true := (rise_okI e l).2 fun i hi => s3 ⟨i, hi⟩ (List.mem_finRange _)
    have HRI := Lib.hid hri
    have h5 := HH5.out.ext s2
    have c5 := h5.cell 0
    simp at c5
    have HB := Lib.hid (below_le HHB.out s2)
    have HK := Lib.hid hK
    clear hri s2 s3 hK h5 hst
    gi_wp2
    simp only [Exit.jump]
    refine ⟨by simp, .inl ⟨_, _, rfl, run_takeDeferred HK.out, ?_⟩⟩
    have hbD := belowK_b (w := W1) (n₀ := W1.heap.size) (Nat.le_refl _) W' D _ (.deferred none) hD HK.out rfl rfl
    refine ⟨.bool true, by simp [results, Tryz.results45, go_sem], by rw [HRI.out], ?_⟩
    exact HB.out.trans (hbD.mono (by have := HZ1.out; omega))
  case stop =>
    rintro D cd pre W' hD ⟨j, hj, rfl⟩ ⟨s1, rfl, ⟨x, hx, hno⟩, s3⟩ hK
    have hri : riseB e (-1) l = false := by
      cases h : riseB e (-1) l
      · rfl
      · rw [(rise_okI e l).1 h x.1 x.2] at hno; cases hno
    have HRI := Lib.hid hri
    have h5 := (HH5.out.set_ 0 (.bool false)).below s3 (by have := HZ1.out; omega)
    have c5 := h5.cell 0
    simp at c5
    have HB := Lib.hid ((HHB.out.setCell (p := ⟨w.heap.size + 1, 0, none⟩) (by show w.heap.size ≤ w.heap.size + 1; omega) (.bool false)).trans (s3.mono (by have := HZ1.out; omega)))
    have HK := Lib.hid hK
    clear hri s3 hK h5 hst hno hx
    gi_wp2
    simp only [Exit.jump]
    refine ⟨by simp, .inl ⟨_, _, rfl, run_takeDeferred HK.out, ?_⟩⟩
    have hbD := belowK_b (w := W1) (n₀ := W1.heap.size) (Nat.le_refl _) W' D _ (.deferred none) hD HK.out rfl rfl
    refine ⟨.bool false, by simp [results, Tryz.results45, go_sem], by rw [HRI.out], ?_⟩
    exact HB.out.trans (hbD.mono (by have := HZ1.out; omega))

end Go.Proofs.YtmabokmnniiadaaGreatDoor
