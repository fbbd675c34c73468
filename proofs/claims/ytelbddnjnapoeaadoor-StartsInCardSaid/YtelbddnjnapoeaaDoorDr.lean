/-
  What is proved: the contract of package starts' Before. No condition beyond those stated.
-/
import Derived.Test.YtelbddnjnapoeaaDoorDq
namespace Go.Proofs.YtelbddnjnapoeaaDoor
open Go.RowKit Go.Shelf
attribute [local go_sem] Oper.semAt_some

/-- Those up to an address. -/
def upTo (L : List Int) (a : Int) : List Int := L.takeWhile fun x => decide (x ≤ a)
/-- The last one, and whether there is one. -/
def GivesBef (w : World) (l : List Int) (e : Ending) (w' : World) : Prop := e = .returned (.tuple #[.int .i64 (l.getLastD 0), .bool (!l.isEmpty)]) ∧ Below w.heap.size w w'

theorem upTo_cons (x : Int) (L : List Int) (a : Int) : upTo (x :: L) a = if x ≤ a then x :: upTo L a else [] := by
  unfold upTo
  rw [List.takeWhile_cons]
  by_cases h : x ≤ a <;> simp [h]
theorem upTo_all {L : List Int} {a : Int} (h : ∀ x ∈ L, x ≤ a) : upTo L a = L := by
  induction L with
  | nil => rfl
  | cons x L ih => rw [upTo_cons, if_pos (h x (by simp)), ih fun y hy => h y (by simp [hy])]
theorem upTo_cut {pr rest : List Int} {x a : Int} (h : ∀ y ∈ pr, y ≤ a) (hx : a < x) : upTo (pr ++ [x] ++ rest) a = pr := by
  induction pr with
  | nil => rw [List.nil_append, List.singleton_append, upTo_cons, if_neg (by omega)]
  | cons y pr ih =>
    rw [List.cons_append, List.cons_append, upTo_cons, if_pos (h y (by simp)), ih fun z hz => h z (by simp [hz])]

theorem snoc_ne (l : List Int) (x : Int) : (l ++ [x]).isEmpty = false := by cases l <;> rfl

def befW0 (w : World) (n : Int) (A : Option Addr) (m c : Nat) (a : Int) : World :=
  (((w.alloc (.cells #[.int .i64 n, .slice A m c] 24)).alloc (.cells #[.int .i64 a] 3)).alloc (.cells #[.int .i64 0] 3)).alloc (.cells #[.bool false] 4)

def BefI (w W1 : World) (L : List Int) (a : Int) (pre : List (Fin L.length)) (W' : World) : Prop :=
  W1.heap.size ≤ W'.heap.size ∧ Below w.heap.size w W' ∧ W'.cell? ⟨w.heap.size + 1, 0, none⟩ = some (.int .i64 a) ∧ (∀ x ∈ cameE L pre, x ≤ a) ∧
    Blk W' (w.heap.size + 1 + 1) 3 #[.int .i64 ((cameE L pre).getLastD 0)] ∧ Blk W' (w.heap.size + 1 + 1 + 1) 4 #[.bool (!(cameE L pre).isEmpty)]
def BefX (w W1 : World) (L : List Int) (a : Int) (c : Code) (pre : List (Fin L.length)) (W' : World) : Prop :=
  W1.heap.size ≤ W'.heap.size ∧ c = .exit 0 ∧ Below w.heap.size w W' ∧ ∃ pr x, cameE L pre = pr ++ [x] ∧ (∀ y ∈ pr, y ≤ a) ∧ a < x ∧
    Blk W' (w.heap.size + 1 + 1) 3 #[.int .i64 (pr.getLastD 0)] ∧ Blk W' (w.heap.size + 1 + 1 + 1) 4 #[.bool (!pr.isEmpty)]
theorem BefI.low {w W1 X Y : World} {L : List Int} {a : Int} {pre : List (Fin L.length)} (h : BefI w W1 L a pre X) (hb : Below W1.heap.size X Y) (hw : w.heap.size + 4 ≤ W1.heap.size) : BefI w W1 L a pre Y :=
  ⟨Nat.le_trans h.1 hb.size, h.2.1.trans (hb.mono (by omega)), cell_low h.2.2.1 hb (by show w.heap.size + 1 < _; omega), h.2.2.2.1, h.2.2.2.2.1.below hb (by omega), h.2.2.2.2.2.below hb (by omega)⟩
theorem BefX.low {w W1 X Y : World} {L : List Int} {a : Int} {c : Code} {pre : List (Fin L.length)} (h : BefX w W1 L a c pre X) (hb : Below W1.heap.size X Y) (hw : w.heap.size + 4 ≤ W1.heap.size) : BefX w W1 L a c pre Y := by
  obtain ⟨h1, h2, h3, pr, x, h4, h5, h6, h7, h8⟩ := h
  exact ⟨Nat.le_trans h1 hb.size, h2, h3.trans (hb.mono (by omega)), pr, x, h4, h5, h6, h7.below hb (by omega), h8.below hb (by omega)⟩

def befF (w : World) (n : Int) (A : Option Addr) (m c : Nat) (r : Bool) (a : Int) (bb : Nat) (x : Int) : Act :=
  { tmps := #[.agg #[.int .i64 n, .slice A m c], .int .i64 a, .pointer (some ⟨w.heap.size, 0, none⟩), .pointer (some ⟨w.heap.size + 1, 0, none⟩), .int .i64 0, .bool false, .pointer (some ⟨w.heap.size + 1 + 1, 0, none⟩), .pointer (some ⟨w.heap.size + 1 + 1 + 1, 0, none⟩), .int .i64 x,
      .agg #[.int .i64 n, .slice A m c], startsV n A m c r, .func (.func 53) #[] #[.pointer (some ⟨bb, 0, none⟩), .pointer (some ⟨bb + 1, 0, none⟩)], .int .i64 x, undef, undef, undef, undef, undef, undef], defers := [] }

set_option maxRecDepth 100000 in
set_option maxHeartbeats 2000000 in
/-- starts.Before. -/
theorem sbefore_any (A : Option Addr) (m c : Nat) (n : Int) (ws : List Nat) (a : Int) (w : World) (hR : Row w A m (ws.map U32)) (hF : Fits ws) :
    Calls Tryd.prog 18 #[.agg #[.int .i64 n, .slice A m c], .int .i64 a] w (GivesBef w (upTo (allL n ws) a)) := by
  have hb0 : Below w.heap.size w (befW0 w n A m c a) := below_le (below_le (below_le (below_box _ _) (below_box _ _)) (below_box _ _)) (below_box _ _)
  have hsz : (befW0 w n A m c a).heap.size = w.heap.size + 4 := by simp [befW0]
  have hc0 : Blk (befW0 w n A m c a) w.heap.size 24 #[.int .i64 n, .slice A m c] := Blk.alloc (Blk.alloc (Blk.alloc (heap_new rfl _) _) _) _
  have hc1 : Blk (befW0 w n A m c a) (w.heap.size + 1) 3 #[.int .i64 a] := Blk.alloc (Blk.alloc (heap_new (by simp) _) _) _
  have hc2 : Blk (befW0 w n A m c a) (w.heap.size + 1 + 1) 3 #[.int .i64 0] := Blk.alloc (heap_new (by simp) _) _
  have hc3 : Blk (befW0 w n A m c a) (w.heap.size + 1 + 1 + 1) 4 #[.bool false] := heap_new (by simp) _
  have k0 := hc0.cell 0
  have k1 := hc0.cell 1
  simp at k0 k1
  have hcount := eachL_le n ws (asksB [])
  obtain ⟨L, hLL⟩ : ∃ L, eachL n ws (asksB []) = L := ⟨_, rfl⟩
  have hLL' : allL n ws = L := hLL
  rw [hLL'] at *
  rw [hLL] at hcount
  have HR := Lib.hid (hR.ext hb0)
  have HB := Lib.hid hb0
  have HC1 := Lib.hid hc1
  have HC2 := Lib.hid hc2
  have HC3 := Lib.hid hc3
  clear hR hb0 hc0 hc1 hc2 hc3
  refine (callsIn_wide (n := 3)).1 ?_
  refine callsIn_of_wp_marks Tryd.func18 rfl trivial ?_ rfl
  simp only [Tryd.ntmps18, List.size_toArray, List.length_cons, List.length_nil, Nat.reduceAdd, Nat.reduceSub, Array.replicate_succ, Array.replicate_zero, List.push_toArray, List.append_toArray, List.nil_append, List.cons_append]
  gi_wp2_with fail
  refine wpIn_scope_ahead 0 (fun _ _ => False) rfl ?_ (fun _ _ h => h.elim)
  gi_wp2_with fail
  change Code.wpIn _ _ _ _ _ _ (befW0 w n A m c a)
  generalize befW0 w n A m c a = W0 at *
  refine wpIn_label ?_
  gi_wp2_with fail
  refine ⟨trivial, (callsIn_wide.2 (look_any A m c n ws W0 HR.out hF)).mono ?_⟩
  rintro e w1 ⟨rfl, hb1⟩
  have HB1 := Lib.hid hb1
  clear hb1 k0 k1
  gi_wp2_with fail
  refine ⟨trivial, (callsIn_wide.2 (each_any A m c n (sRight n ws) none 0 0 w1)).mono ?_⟩
  rintro e w' ⟨rfl, rfl⟩
  have hb2 : Below w1.heap.size w1 (eachW w1 n A m c (sRight n ws) none 0 0) := below_le (below_box _ _) (below_box _ _)
  have hz : (eachW w1 n A m c (sRight n ws) none 0 0).heap.size = w1.heap.size + 2 := by simp [eachW]
  have e0 : (eachW w1 n A m c (sRight n ws) none 0 0).cell? ⟨w1.heap.size, 0, none⟩ = some (.int .i64 n) := by simp [go_sem, eachW]
  have e1 : (eachW w1 n A m c (sRight n ws) none 0 0).cell? ⟨w1.heap.size, 1, none⟩ = some (.slice A m c) := by simp [go_sem, eachW]
  have e2 : (eachW w1 n A m c (sRight n ws) none 0 0).cell? ⟨w1.heap.size, 2, none⟩ = some (.bool (sRight n ws)) := by simp [go_sem, eachW]
  have e3 : (eachW w1 n A m c (sRight n ws) none 0 0).cell? ⟨w1.heap.size + 1, 0, none⟩ = some (.slice none 0 0) := by simp [go_sem, eachW]
  have hb12 := below_le HB1.out hb2
  have hs1 := HB1.out.size
  have hR1 := HR.out.ext hb12
  have hc1 := HC1.out.ext hb12
  have hc2 := HC2.out.ext hb12
  have hc3 := HC3.out.ext hb12
  have hBW := below_le HB.out hb12
  generalize eachW w1 n A m c (sRight n ws) none 0 0 = W1 at *
  have hpt : ∀ b, ¬ Points (w.heap.size + 1 + 1) W1 b := fun b ⟨v, hv, hv'⟩ => by
    rw [hc2.cell 0] at hv
    simp at hv
    subst hv
    cases hv'
  have hE : EachAt W1 A m c n ws none 0 0 [] w1.heap.size (w1.heap.size + 1) [w.heap.size + 1 + 1, w.heap.size + 1 + 1 + 1] (w.heap.size + 1 + 1) :=
    ⟨e0, e1, e2, hR1, e3, Row.none_, (fun _ h => by cases h), ⟨by simp; omega, hpt _⟩, (fun _ e => by cases e), (fun _ h => by cases h), (fun b h => by simp at h; omega), fun b h => absurd h (hpt b), by omega⟩
  have hI0 : BefI w W1 L a [] W1 := ⟨Nat.le_refl _, hBW, by rw [hc1.cell 0]; rfl, (fun x hx => by cases hx), hc2, hc3⟩
  have hstops := each_stops (3 - 1) A m c n ws none 0 0 [] w1.heap.size (w1.heap.size + 1) [w.heap.size + 1 + 1, w.heap.size + 1 + 1 + 1] (w.heap.size + 1 + 1) W1 hF (by omega) hE _ hLL
  clear e0 e1 e2 e3 hR1 hpt hE hc1 hc2 hc3 HR HC1 HC2 HC3 hb2 hb12 hBW
  generalize sRight n ws = r at *
  gi_wp2_with fail
  refine wpIn_rangeFunc_ownG (F := Fence.wide) (n := 3) rfl (by omega) (gf := 53) (lb := #[.pointer (some ⟨w1.heap.size, 0, none⟩), .pointer (some ⟨w1.heap.size + 1, 0, none⟩)]) rfl trivial (enters_of Tryd.func53 (by kernel_rfl) rfl)
    hstops (fun h k => h.t k) (KeepS.b (by omega)) (Below.refl _ _) (fun _ => rfl)
    (BefI w W1 L a) (BefX w W1 L a)
    (ownFrom_low _ _ (fun _ _ h => h.1) (fun _ X Y h hb => h.low hb (by omega)))
    (fun c => ownFrom_low _ _ (fun _ _ h => h.1) (fun _ X Y h hb => h.low hb (by omega)))
    hI0
    (fun x' => befF w n A m c r a w1.heap.size L[x'.1]) ?assign ?body ?done ?stop
  case assign =>
    intro l x1 W' K hK
    gi_wp2
    exact hK
  case body =>
    rintro l pre x W' ⟨s1, s2, s3, s4, s5, s6⟩ hpre
    have hsn := cameE_snoc L pre x
    generalize L[x.1] = y at *
    have S2 := Lib.hid s2
    have S4 := Lib.hid s4
    have S5 := Lib.hid s5
    have S6 := Lib.hid s6
    have HSN := Lib.hid hsn
    have c5 := s5.cell 0
    have f5 := s5.frozen 0
    have c6 := s6.cell 0
    have f6 := s6.frozen 0
    simp at c5 c6
    clear s2 s4 s5 s6 hsn hI0 hstops
    simp only [befF, startsV]
    by_cases hy : y ≤ a
    · have hd : decide (y > a) = false := by simpa using hy
      have HY := Lib.hid hy
      clear hy
      gi_wp2
      have g2 := grown_set W' (w.heap.size + 1 + 1) 0 (.int .i64 y)
      have g3 := grown_set (W'.setCell ⟨w.heap.size + 1 + 1, 0, none⟩ (.int .i64 y)) (w.heap.size + 1 + 1 + 1) 0 (.bool true)
      have t5 := (S5.out.set_ 0 (.int .i64 y)).far (p := ⟨w.heap.size + 1 + 1 + 1, 0, none⟩) (by show w.heap.size + 1 + 1 ≠ _; simp) (.bool true)
      have t6 := (S6.out.far (p := ⟨w.heap.size + 1 + 1, 0, none⟩) (by show w.heap.size + 1 + 1 + 1 ≠ _; simp) (.int .i64 y)).set_ 0 (.bool true)
      have hblk : ∀ b, b < W'.heap.size → b ≠ w.heap.size + 1 + 1 → b ≠ w.heap.size + 1 + 1 + 1 → ((W'.setCell ⟨w.heap.size + 1 + 1, 0, none⟩ (.int .i64 y)).setCell ⟨w.heap.size + 1 + 1 + 1, 0, none⟩ (.bool true)).heap[b]? = W'.heap[b]? := fun b h1 h2 h3 =>
        (g3.block b (Nat.lt_of_lt_of_le h1 g2.size) (fun e => h3 (Option.some.inj e))).trans (g2.block b h1 (fun e => h2 (Option.some.inj e)))
      refine ⟨(KeepsFrom.of_grownBy g2 (fun j e => by cases e; show w.heap.size + 1 + 1 < _; omega)).trans (KeepsFrom.of_grownBy g3 (fun j e => by cases e; show w.heap.size + 1 + 1 + 1 < _; omega)), ⟨fun b o ho hoc hS hp => ?_, fun b hb hp => ?_, Nat.le_trans g2.size g3.size⟩, Nat.le_trans s1 (Nat.le_trans g2.size g3.size), ?_, ?_, ?_, ?_, ?_⟩
      · have hbl : b < W'.heap.size := (Array.getElem?_eq_some_iff.1 ho).1
        simp at hS
        exact (hblk b hbl (by omega) (by omega)).trans ho
      · obtain ⟨u, hu, hub⟩ := hp
        rw [t5.cell 0] at hu
        simp at hu
        subst hu
        cases hub
      · exact (S2.out.setCell (p := ⟨w.heap.size + 1 + 1, 0, none⟩) (by show w.heap.size ≤ w.heap.size + 1 + 1; omega) _).setCell (p := ⟨w.heap.size + 1 + 1 + 1, 0, none⟩) (by show w.heap.size ≤ w.heap.size + 1 + 1 + 1; omega) _
      · exact (World.cell?_of_block (w := W') (hblk (w.heap.size + 1) (by omega) (by omega) (by omega))).trans s3
      · rw [HSN.out]
        intro z hz
        rcases List.mem_append.1 hz with hz | hz
        · exact S4.out z hz
        · rw [List.mem_singleton.1 hz]; exact HY.out
      · rw [HSN.out]; simpa using t5
      · rw [HSN.out, snoc_ne]; exact t6
    · have hd : decide (y > a) = true := by simpa using hy
      have HY := Lib.hid hy
      clear hy
      gi_wp2
      exact ⟨KeepsFrom.refl _ _, s1, rfl, S2.out, _, y, HSN.out, S4.out, by have := HY.out; omega, S5.out, S6.out⟩
  case done =>
    rintro D ys W' hD rfl ⟨s1, s2, s3, s4, s5, s6⟩ hK
    rw [cameE_all] at s4 s5 s6
    have S2 := Lib.hid s2
    have S4 := Lib.hid s4
    have c5 := s5.cell 0
    have c6 := s6.cell 0
    simp at c5 c6
    have hu := upTo_all s4
    rw [show (L.getLast?.getD 0) = L.getLastD 0 by simp] at c5
    generalize hz1 : L.getLastD 0 = z at *
    generalize hz2 : L.isEmpty = z2 at *
    have HU := Lib.hid hu
    clear s2 s4 s5 s6 hI0 hstops S4 hu
    gi_wp2
    gi_region
    gi_wp2
    simp only [Exit.jump]
    have hK2 : W'.drew.heap[D]? = some (.deferred (some [])) := hK
    refine ⟨by simp, .inl ⟨_, _, rfl, run_takeDeferred hK2, ?_⟩⟩
    refine ⟨.tuple #[.int .i64 z, .bool !z2], by simp [results, Tryd.results18, go_sem], by rw [HU.out, hz1, hz2], ?_⟩
    exact S2.out.drew.trans (belowK_b (w := W1) (by omega) W'.drew D _ _ hD hK2 rfl rfl)
  case stop =>
    rintro D c pre W' hD ⟨j, hj, rfl⟩ ⟨s1, rfl, s2, pr, x, h4, h5, h6, h7, h8⟩ hK
    have c5 := h7.cell 0
    have c6 := h8.cell 0
    have hu : upTo L a = pr := by
      obtain ⟨rest, hrest⟩ := cameE_take L j
      rw [hrest, h4]
      exact upTo_cut h5 h6
    simp at c5 c6
    rw [show (pr.getLast?.getD 0) = pr.getLastD 0 by simp] at c5
    generalize hz1 : pr.getLastD 0 = z at *
    generalize hz2 : pr.isEmpty = z2 at *
    have HU := Lib.hid hu
    have S2 := Lib.hid s2
    clear s2 h7 h8 h4 h5 h6 hI0 hstops hu
    gi_wp2
    gi_region
    gi_wp2
    simp only [Exit.jump]
    have hK2 : W'.drew.heap[D]? = some (.deferred (some [])) := hK
    refine ⟨by simp, .inl ⟨_, _, rfl, run_takeDeferred hK2, ?_⟩⟩
    refine ⟨.tuple #[.int .i64 z, .bool !z2], by simp [results, Tryd.results18, go_sem], by rw [HU.out, hz1, hz2], ?_⟩
    exact S2.out.drew.trans (belowK_b (w := W1) (by omega) W'.drew D _ _ hD hK2 rfl rfl)

end Go.Proofs.YtelbddnjnapoeaaDoor
