/-
  What is proved: the contract of Next of package bits. No condition beyond those stated.
-/
import Derived.Test.YtpoopkieoidhjaaDoorBl
import Derived.Test.YtpoopkieoidhjaaDoorIn
namespace Go.Proofs.YtpoopkieoidhjaaDoor
open Go.RowKit Go.Shelf
attribute [local go_sem] Oper.semAt_some

def nextW0 (w : World) (n : Int) (A : Option Addr) (m c : Nat) (on : Bool) : World :=
  (((w.alloc (.cells #[.int .i64 n, .slice A m c] 24)).alloc (.cells #[.bool on] 4)).alloc (.cells #[.int .i64 0] 3)).alloc (.cells #[.bool false] 4)
theorem nextW0_below (w : World) (n : Int) (A : Option Addr) (m c : Nat) (on : Bool) : Below w.heap.size w (nextW0 w n A m c on) :=
  below_le (below_le (below_le (below_box _ _) (below_box _ _)) (below_box _ _)) (below_box _ _)

/-- A place, and whether there is one. -/
def GivesNext (w : World) (o : Option Nat) (e : Ending) (w' : World) : Prop := e = .returned (.tuple #[.int .i64 (o.getD 0 : Nat), .bool o.isSome]) ∧ Below w.heap.size w w'

set_option maxRecDepth 100000 in
set_option maxHeartbeats 2000000 in
theorem next_wrong (A : Option Addr) (m c : Nat) (n : Int) (ws : List Nat) (lo : Int) (on : Bool) (w : World) (hR : Row w A m (ws.map U32)) (hF : Fits ws) (hr : rightB n ws = false) :
    Calls Tryd.prog 19 #[.agg #[.int .i64 n, .slice A m c], .int .i64 lo, .bool on] w (GivesNext w none) := by
  have hb0 := nextW0_below w n A m c on
  have hb2 : Blk (nextW0 w n A m c on) (w.heap.size + 1 + 1) 3 #[.int .i64 0] := Blk.alloc (heap_new (by simp) _) _
  have hb3 : Blk (nextW0 w n A m c on) (w.heap.size + 1 + 1 + 1) 4 #[.bool false] := heap_new (by simp) _
  have k0 : (nextW0 w n A m c on).cell? ⟨w.heap.size, 0, none⟩ = some (.int .i64 n) := by simp [go_sem, nextW0]
  have k1 : (nextW0 w n A m c on).cell? ⟨w.heap.size, 1, none⟩ = some (.slice A m c) := by simp [go_sem, nextW0]
  have HR := Lib.hid (hR.ext hb0)
  have HB0 := Lib.hid hb0
  have HB2 := Lib.hid hb2
  have HB3 := Lib.hid hb3
  have Hr := Lib.hid hr
  clear hR hb0 hb2 hb3 hr
  refine (callsIn_wide (n := 3)).1 ?_
  refine callsIn_of_wp_marks Tryd.func19 rfl trivial ?_ rfl
  simp only [Tryd.ntmps19, List.size_toArray, List.length_cons, List.length_nil, Nat.reduceAdd, Nat.reduceSub, Array.replicate_succ, Array.replicate_zero, List.push_toArray, List.append_toArray, List.nil_append, List.cons_append]
  gi_wp2_with fail
  change Code.wpIn _ _ _ _ _ _ (nextW0 w n A m c on)
  refine wpIn_scope_ahead 0 (fun a W' => Below (nextW0 w n A m c on).heap.size (nextW0 w n A m c on) W' ∧ a = { tmps := #[.agg #[.int .i64 n, .slice A m c], .int .i64 lo, .bool on, .pointer (some ⟨w.heap.size, 0, none⟩), undef, .pointer (some ⟨w.heap.size + 1, 0, none⟩), .pointer (some ⟨w.heap.size + 1 + 1, 0, none⟩), .pointer (some ⟨w.heap.size + 1 + 1 + 1, 0, none⟩), undef, .agg #[.int .i64 n, .slice A m c], .bool false, .bool true, undef, undef, undef, undef, undef, undef, undef, undef, undef, undef, undef, undef, undef], defers := [] }) rfl ?first ?pass
  case first =>
    gi_wp2_with fail
    refine ⟨trivial, ?_⟩
    have h := right_any A m c n ws (nextW0 w n A m c on) HR.out hF
    rw [Hr.out] at h
    refine (callsIn_wide.2 h).mono ?_
    rintro e w1 ⟨rfl, hb1⟩
    have HB1 := Lib.hid hb1
    clear h hb1
    gi_wp2
    refine wpIn_goto ?_
    exact ⟨rfl, HB1.out, rfl⟩
  case pass =>
    rintro a W' ⟨hb, rfl⟩
    have h2 := HB2.out.ext hb
    have h3 := HB3.out.ext hb
    have c2 := h2.cell 0
    have c3 := h3.cell 0
    have f2 := h2.frozen 0
    have f3 := h3.frozen 0
    have H2 := Lib.hid h2
    have H3 := Lib.hid h3
    have HB := Lib.hid hb
    clear hb h2 h3
    gi_wp2
    have q2 := ((H2.out.set_ 0 (.int .i64 0)).far (p := ⟨w.heap.size + 1 + 1 + 1, 0, none⟩) (by show w.heap.size + 1 + 1 ≠ _; simp) (.bool false)).cell 0
    have q3 := ((H3.out.far (p := ⟨w.heap.size + 1 + 1, 0, none⟩) (by show w.heap.size + 1 + 1 + 1 ≠ _; simp) (.int .i64 0)).set_ 0 (.bool false)).cell 0
    simp at q2 q3
    refine ⟨.tuple #[.int .i64 0, .bool false], by simp [results, Tryd.results19, go_sem, q2, q3], rfl, ?_⟩
    have hb4 := below_le HB0.out HB.out
    exact (hb4.setCell (p := ⟨w.heap.size + 1 + 1, 0, none⟩) (by show w.heap.size ≤ w.heap.size + 1 + 1; omega) _).setCell (p := ⟨w.heap.size + 1 + 1 + 1, 0, none⟩) (by show w.heap.size ≤ w.heap.size + 1 + 1 + 1; omega) _

theorem find_prefix {α : Type} (p : α → Bool) (pre rest : List α) (x : α) (h : ∀ y ∈ pre, p y = false) (hx : p x = true) : (pre ++ [x] ++ rest).find? p = some x := by
  rw [List.append_assoc, List.find?_append, List.find?_eq_none.2 (by simpa using h)]
  simp [hx]

theorem keepsFrom_below {B : Nat} {W W' : World} (h : Below W.heap.size W W') : KeepsFrom B W W' := KeepsFrom.of_grownBy (row := none) ⟨h.os, h.tape, h.output, h.size, fun i hi _ => h.block i hi⟩ (fun _ e => by cases e)

/-- What holds from round to round. -/
def NextI (W1 : World) (ws : List Nat) (on : Bool) (L : Int) {m : Nat} (pre : List (Fin m)) (W' : World) : Prop := W1.heap.size ≤ W'.heap.size ∧ Below W1.heap.size W1 W' ∧ ∀ i ∈ came L pre, (tb ws i == on) = false
theorem NextI.low {W1 X Y : World} {ws : List Nat} {on : Bool} {L : Int} {m : Nat} {pre : List (Fin m)} (h : NextI W1 ws on L pre X) (hb : Below W1.heap.size X Y) : NextI W1 ws on L pre Y := ⟨Nat.le_trans h.1 hb.size, h.2.1.trans hb, h.2.2⟩
/-- What holds where the walk is left. -/
def NextX (w W1 : World) (ws : List Nat) (on : Bool) (L : Int) {m : Nat} (c : Code) (pre : List (Fin m)) (W' : World) : Prop :=
  W1.heap.size ≤ W'.heap.size ∧ c = .ret ∧ Below w.heap.size w W' ∧ ∃ pr : List Nat, ∃ i : Nat, came L pre = pr ++ [i] ∧ (∀ y ∈ pr, (tb ws y == on) = false) ∧ (tb ws i == on) = true ∧
    Blk W' (w.heap.size + 1 + 1) 3 #[.int .i64 i] ∧ Blk W' (w.heap.size + 1 + 1 + 1) 4 #[.bool true]
theorem NextX.low {w W1 X Y : World} {ws : List Nat} {on : Bool} {L : Int} {m : Nat} {c : Code} {pre : List (Fin m)} (h : NextX w W1 ws on L c pre X) (hb : Below W1.heap.size X Y) (hw : w.heap.size + 4 ≤ W1.heap.size) : NextX w W1 ws on L c pre Y := by
  obtain ⟨h1, h2, h3, pr, i, h4, h5, h6, h7, h8⟩ := h
  exact ⟨Nat.le_trans h1 hb.size, h2, h3.trans (hb.mono (by omega)), pr, i, h4, h5, h6, h7.below hb (by omega), h8.below hb (by omega)⟩

set_option maxRecDepth 100000 in
set_option maxHeartbeats 2000000 in
theorem next_right (A : Option Addr) (m c : Nat) (n : Int) (ws : List Nat) (lo : Int) (on : Bool) (w : World) (hR : Row w A m (ws.map U32)) (hF : Fits ws) (hr : rightB n ws = true) :
    Calls Tryd.prog 19 #[.agg #[.int .i64 n, .slice A m c], .int .i64 lo, .bool on] w (GivesNext w ((placesN (max lo 0) n).find? (fun i => tb ws i == on))) := by
  have hl := hR.1
  simp at hl
  obtain ⟨hn0, hn1, hn2, _⟩ := rightB_elim hr
  have hnm : n ≤ 32 * m := by omega
  have hb0 := nextW0_below w n A m c on
  have hb2 : Blk (nextW0 w n A m c on) (w.heap.size + 1 + 1) 3 #[.int .i64 0] := Blk.alloc (heap_new (by simp) _) _
  have hb3 : Blk (nextW0 w n A m c on) (w.heap.size + 1 + 1 + 1) 4 #[.bool false] := heap_new (by simp) _
  have k0 : (nextW0 w n A m c on).cell? ⟨w.heap.size, 0, none⟩ = some (.int .i64 n) := by simp [go_sem, nextW0]
  have k1 : (nextW0 w n A m c on).cell? ⟨w.heap.size, 1, none⟩ = some (.slice A m c) := by simp [go_sem, nextW0]
  have k2 : (nextW0 w n A m c on).cell? ⟨w.heap.size + 1, 0, none⟩ = some (.bool on) := by simp [go_sem, nextW0]
  have HR := Lib.hid (hR.ext hb0)
  have HB0 := Lib.hid hb0
  have HB2 := Lib.hid hb2
  have HB3 := Lib.hid hb3
  have Hr := Lib.hid hr
  clear hR hb0 hb2 hb3 hr hl hn2
  refine (callsIn_wide (n := 3)).1 ?_
  refine callsIn_of_wp_marks Tryd.func19 rfl trivial ?_ rfl
  simp only [Tryd.ntmps19, List.size_toArray, List.length_cons, List.length_nil, Nat.reduceAdd, Nat.reduceSub, Array.replicate_succ, Array.replicate_zero, List.push_toArray, List.append_toArray, List.nil_append, List.cons_append]
  gi_wp2_with fail
  change Code.wpIn _ _ _ _ _ _ (nextW0 w n A m c on)
  refine wpIn_scope_ahead 0 (fun _ _ => False) rfl ?first (fun _ _ h => h.elim)
  case first =>
    gi_wp2_with fail
    refine ⟨trivial, ?_⟩
    have h := right_any A m c n ws (nextW0 w n A m c on) HR.out hF
    rw [Hr.out] at h
    refine (callsIn_wide.2 h).mono ?_
    rintro e w1 ⟨rfl, hb1⟩
    have j0 := cell_ext hb1 k0
    have j1 := cell_ext hb1 k1
    have j2 := cell_ext hb1 k2
    have HB1 := Lib.hid hb1
    clear h hb1 k0 k1 k2
    gi_wp2_with fail
    refine wpIn_label ?_
    have hc : ∃ L : Int, L = max lo 0 := ⟨_, rfl⟩
    by_cases hlo : 0 ≤ lo
    case' pos =>
      gi_wp2_with fail
      let L : Int := lo
      have hL := Lib.hid (show L = max lo 0 by show lo = _; omega)
      change Fence.wide.fn 42 ∧ CallsIn Fence.wide 2 Tryd.prog 42 #[Value.int IntKind.i64 L, Value.int IntKind.i64 n] _ _
    case' neg =>
      gi_wp2_with fail
      let L : Int := 0
      have hL := Lib.hid (show L = max lo 0 by show 0 = _; omega)
      change Fence.wide.fn 42 ∧ CallsIn Fence.wide 2 Tryd.prog 42 #[Value.int IntKind.i64 L, Value.int IntKind.i64 n] _ _
    all_goals
      clear hc hlo
      have hL0 : 0 ≤ L := by have := hL.out; omega
      refine ⟨trivial, (callsIn_wide.2 (places_any _ _ _)).mono ?_⟩
      rintro e w' ⟨rfl, rfl⟩
      have hb01 := below_le HB0.out HB1.out
      have hW1 : Below w1.heap.size w1 ((w1.alloc (.cells #[.int .i64 L] 3)).alloc (.cells #[.int .i64 n] 3)) := below_le (below_box _ _) (below_box _ _)
      have hz : ((w1.alloc (.cells #[.int .i64 L] 3)).alloc (.cells #[.int .i64 n] 3)).heap.size = w1.heap.size + 1 + 1 := by simp
      have e1 : ((w1.alloc (.cells #[.int .i64 L] 3)).alloc (.cells #[.int .i64 n] 3)).cell? ⟨w1.heap.size, 0, none⟩ = some (.int .i64 L) := by simp [go_sem]
      have e2 : ((w1.alloc (.cells #[.int .i64 L] 3)).alloc (.cells #[.int .i64 n] 3)).cell? ⟨w1.heap.size + 1, 0, none⟩ = some (.int .i64 n) := by simp [go_sem]
      have b0 := Lib.hid (below_le HB1.out hW1)
      generalize (w1.alloc (.cells #[.int .i64 L] 3)).alloc (.cells #[.int .i64 n] 3) = W1 at *
      have i0 := cell_ext hW1 j0
      have i1 := cell_ext hW1 j1
      have i2 := cell_ext hW1 j2
      have hs01 := hb01.size
      gi_wp2_with fail
      have hhs : w.heap.size + 4 ≤ (nextW0 w n A m c on).heap.size := by simp [nextW0]
      have hhs2 := HB1.out.size
      have hW1s := hW1.size
      have hI0 : NextI W1 ws on L ([] : List (Fin (n - L).toNat)) W1 := ⟨Nat.le_refl _, Below.refl _ _, by simp [came]⟩
      refine wpIn_rangeFunc_ownG (F := Fence.wide) (n := 3) rfl (by omega) (gf := 49) (lb := #[.pointer (some ⟨w1.heap.size, 0, none⟩), .pointer (some ⟨w1.heap.size + 1, 0, none⟩)]) rfl trivial (enters_of Tryd.func49 (by kernel_rfl) rfl)
        (places1_stops (3 - 1) L n (w1.heap.size) (w1.heap.size + 1) W1 hL0 (by omega) e1 e2) (fun h k => h.t k) (KeepB.b (by omega)) (Below.refl _ _) (fun _ => rfl)
        (NextI W1 ws on L) (NextX w W1 ws on L)
        (ownFrom_low _ _ (fun _ _ h => h.1) (fun _ X Y h hb => h.low hb))
        (fun c => ownFrom_low _ _ (fun _ _ h => h.1) (fun _ X Y h hb => h.low hb (by omega)))
        hI0
        (fun x => { tmps := #[.agg #[.int .i64 n, .slice A m c], .int .i64 lo, .bool on, .pointer (some ⟨w.heap.size, 0, none⟩), undef, .pointer (some ⟨w.heap.size + 1, 0, none⟩), .pointer (some ⟨w.heap.size + 1 + 1, 0, none⟩), .pointer (some ⟨w.heap.size + 1 + 1 + 1, 0, none⟩), .int .i64 (L + x.1), .agg #[.int .i64 n, .slice A m c], .bool true, .bool false, .int .i64 lo, .int .i64 L, .pointer (some ⟨w.heap.size, 0, none⟩), .int .i64 n,
          .func (.func 49) #[] #[.pointer (some ⟨w1.heap.size, 0, none⟩), .pointer (some ⟨w1.heap.size + 1, 0, none⟩)], .int .i64 (L + x.1), undef, undef, undef, undef, undef, undef, undef], defers := [] }) ?assign ?body ?done ?stop
      case assign =>
        intro l x W' K hK
        gi_wp2
        exact hK
      case body =>
        rintro l pre j W' ⟨s1, s2, s3⟩ _
        have hxb := j.2
        have hRW := (HR.out.ext b0.out).ext s2
        have r1 := ext_cell (cell_ext s2 i1)
        have r2 := ext_cell (cell_ext s2 i2)
        have S2 := Lib.hid s2
        have H2 := Lib.hid ((HB2.out.ext b0.out).ext s2)
        have H3 := Lib.hid ((HB3.out.ext b0.out).ext s2)
        have RW := Lib.hid hRW
        clear s2 hRW
        gi_wp2_with fail
        refine wpIn_region_plan [(0, true), (1, true), (2, true), (3, true), (4, true), (5, true)] (by kernel_rfl) (by kernel_rfl) ?_
        repeat (first | (refine plan_skip rfl rfl ?_; go_frame) | (refine plan_soft rfl rfl (fun K hK => ?_); go_simp; first | (refine hK _ ?_; clear hK K) | (apply Exists.intro; refine ⟨fun x => ?_, hK _ ?_⟩; (· (go_at_call 40; exact Calls.still (isOn_any A m c ws (L + j.1) x.val (RW.out.ext x.below) hF (by omega) (by omega) (by omega)))); clear hK K; try go_frame)))
        refine plan_nil ?_; intro W2 h0b; have HW2 := Lib.hid h0b; clear h0b
        have s1' := HW2.out.size
        have hB2 := below_le S2.out HW2.out
        cases hd : (tb ws (L + j.1).toNat == on)
        · have Hd := Lib.hid hd
          clear hd
          gi_wp2
          refine ⟨keepsFrom_below HW2.out, KeepB.of_below HW2.out (by omega), by omega, hB2, ?_⟩
          rw [came_snoc]
          intro i hi
          rcases List.mem_append.1 hi with hi | hi
          · exact s3 i hi
          · rw [List.mem_singleton.1 hi]; exact Hd.out
        · have Hd := Lib.hid hd
          have HB2' := Lib.hid hB2
          have h2 := H2.out.ext HW2.out
          have h3 := H3.out.ext HW2.out
          have c2 := h2.cell 0
          have c3 := h3.cell 0
          have f2 := h2.frozen 0
          have f3 := h3.frozen 0
          have HH2 := Lib.hid h2
          have HH3 := Lib.hid h3
          clear hd h2 h3 hB2
          gi_wp2
          have g2 := grown_set W2 (w.heap.size + 1 + 1) 0 (.int .i64 (L + j.1))
          have g3 := grown_set (W2.setCell ⟨w.heap.size + 1 + 1, 0, none⟩ (.int .i64 (L + j.1))) (w.heap.size + 1 + 1 + 1) 0 (.bool true)
          have hi : L + (j.1 : Int) = ((L + (j.1 : Int)).toNat : Int) := by omega
          refine ⟨((keepsFrom_below HW2.out).trans (KeepsFrom.of_grownBy g2 (fun j e => by cases e; show w.heap.size + 1 + 1 < _; omega))).trans (KeepsFrom.of_grownBy g3 (fun j e => by cases e; show w.heap.size + 1 + 1 + 1 < _; omega)), ?_, rfl, ?_, came L pre, (L + j.1).toNat, came_snoc _ _ _, s3, Hd.out, ?_, ?_⟩
          · exact Nat.le_trans (by omega) (Nat.le_trans g2.size g3.size)
          · have hb4 := below_le (below_le hb01 hW1) HB2'.out
            exact (hb4.setCell (p := ⟨w.heap.size + 1 + 1, 0, none⟩) (by show w.heap.size ≤ w.heap.size + 1 + 1; omega) _).setCell (p := ⟨w.heap.size + 1 + 1 + 1, 0, none⟩) (by show w.heap.size ≤ w.heap.size + 1 + 1 + 1; omega) _
          · rw [← hi]
            exact (HH2.out.set_ 0 (.int .i64 (L + j.1))).far (p := ⟨w.heap.size + 1 + 1 + 1, 0, none⟩) (by show w.heap.size + 1 + 1 ≠ _; simp) (.bool true)
          · exact (HH3.out.far (p := ⟨w.heap.size + 1 + 1, 0, none⟩) (by show w.heap.size + 1 + 1 + 1 ≠ _; simp) (.int .i64 (L + j.1))).set_ 0 (.bool true)
      case done =>
        rintro D ys W' hD rfl ⟨s1, s2, s3⟩ hK
        rw [came_all L n hL0] at s3
        have h2 := (HB2.out.ext b0.out).ext s2
        have h3 := (HB3.out.ext b0.out).ext s2
        have c2 := h2.cell 0
        have c3 := h3.cell 0
        have f2 := h2.frozen 0
        have f3 := h3.frozen 0
        have H2 := Lib.hid h2
        have H3 := Lib.hid h3
        have S2 := Lib.hid s2
        clear h2 h3 s2 i0 i1 i2
        gi_wp2
        refine wpIn_label ?_
        gi_wp2
        have hK2 : ((W'.setCell ⟨w.heap.size + 1 + 1, 0, none⟩ (.int .i64 0)).setCell ⟨w.heap.size + 1 + 1 + 1, 0, none⟩ (.bool false)).heap[D]? = some (.deferred (some [])) :=
          (Below.heap_setCell _ _ _ D (by show D ≠ w.heap.size + 1 + 1 + 1; omega)).trans ((Below.heap_setCell _ _ _ D (by show D ≠ w.heap.size + 1 + 1; omega)).trans hK)
        refine ⟨by simp, .inl ⟨_, _, rfl, run_takeDeferred hK2, ?_⟩⟩
        have hbD := belowK_b (w := W1) (Nat.le_refl _) _ D _ (.deferred none) hD hK2 rfl rfl
        have q2 := (((H2.out.set_ 0 (.int .i64 0)).far (p := ⟨w.heap.size + 1 + 1 + 1, 0, none⟩) (by show w.heap.size + 1 + 1 ≠ _; simp) (.bool false)).below hbD (by omega)).cell 0
        have q3 := (((H3.out.far (p := ⟨w.heap.size + 1 + 1, 0, none⟩) (by show w.heap.size + 1 + 1 + 1 ≠ _; simp) (.int .i64 0)).set_ 0 (.bool false)).below hbD (by omega)).cell 0
        simp at q2 q3
        refine ⟨.tuple #[.int .i64 0, .bool false], by simp [results, Tryd.results19, go_sem, q2, q3], ?_, ?_⟩
        · rw [List.find?_eq_none.2 (by rw [← hL.out]; simpa using s3)]
          rfl
        · have hb4 := below_le (below_le hb01 hW1) S2.out
          exact ((hb4.setCell (p := ⟨w.heap.size + 1 + 1, 0, none⟩) (by show w.heap.size ≤ w.heap.size + 1 + 1; omega) _).setCell (p := ⟨w.heap.size + 1 + 1 + 1, 0, none⟩) (by show w.heap.size ≤ w.heap.size + 1 + 1 + 1; omega) _).trans (hbD.mono (by omega))
      case stop =>
        rintro D c pre W' hD ⟨k, hk, rfl⟩ ⟨s1, rfl, s2, pr, i, h4, h5, h6, h7, h8⟩ hK
        have hf : (placesN (max lo 0) n).find? (fun i => tb ws i == on) = some i := by
          rw [← hL.out, ← came_all L n hL0, ← List.take_append_drop k (List.finRange (n - L).toNat)]
          rw [show ∀ a b : List (Fin (n - L).toNat), came L (a ++ b) = came L a ++ came L b from fun a b => by simp [came], h4]
          exact find_prefix _ _ _ _ h5 h6
        have HF := Lib.hid hf
        have H7 := Lib.hid h7
        have H8 := Lib.hid h8
        have S2 := Lib.hid s2
        clear h7 h8 s2 hf i0 i1 i2
        gi_wp2
        simp only [Exit.jump]
        gi_wp2
        refine ⟨by simp, .inl ⟨_, _, rfl, run_takeDeferred hK, ?_⟩⟩
        have hbD := belowK_b (w := W1) (Nat.le_refl _) _ D _ (.deferred none) hD hK rfl rfl
        have q2 := (H7.out.below hbD (by omega)).cell 0
        have q3 := (H8.out.below hbD (by omega)).cell 0
        simp at q2 q3
        refine ⟨.tuple #[.int .i64 i, .bool true], by simp [results, Tryd.results19, go_sem, q2, q3], ?_, ?_⟩
        · rw [HF.out]
          rfl
        · exact S2.out.trans (hbD.mono (by omega))

theorem next_any (A : Option Addr) (m c : Nat) (n : Int) (ws : List Nat) (lo : Int) (on : Bool) (w : World) (hR : Row w A m (ws.map U32)) (hF : Fits ws) :
    Calls Tryd.prog 19 #[.agg #[.int .i64 n, .slice A m c], .int .i64 lo, .bool on] w (GivesNext w (nextN n ws lo on)) := by
  unfold nextN
  cases hr : rightB n ws
  · exact next_wrong A m c n ws lo on w hR hF hr
  · exact next_right A m c n ws lo on w hR hF hr

end Go.Proofs.YtpoopkieoidhjaaDoor
