/-
  What is proved: the contract of package starts' Before. No condition beyond those stated. the contracts of Cut and shown of the laws. No condition beyond those stated. StartsTurns returns true. No condition beyond those stated. the frame that all rows of this layer share: what the list of variables gives, how a list of words is opened, and the row's last step. No condition beyond those stated. the row of StartsTurns, and its tied card: whatever the input, true; the input reads as it did. No condition beyond the statement's own.
-/
import Derived.Test.YtelbddnjnapoeaaDoorDq
import Derived.Test.YtelbddnjnapoeaaDoorLa
import Derived.Test.YtelbddnjnapoeaaDoorLb
import Derived.Test.YtelbddnjnapoeaaDoorEc
import Derived.Test.YtelbddnjnapoeaaDoorRa
import Derived.Test.YtelbddnjnapoeaaDoorCards
import Derived.Test.YtelbddnjnapoeaaDoorTie
import Derived.ProofKit
import Derived.OpenShut
import Derived.Below
import Derived.ChangeSame
import Derived.WideKeyArgs
import Derived.LaidMore
import Derived.LaidHandle
import Derived.MakeChecks
import Derived.Stop.Joined
import Derived.Stop.LaidErr
import Derived.Stop.LaidTwo
import Derived.Lib.SmallJoins
import Derived.Deep.DeepHandedRow
import Derived.Deep.DeepWitnessRowRef
namespace Go.Proofs.YtelbddnjnapoeaaDoor
open Go.RowKit Go.Shelf
attribute [local go_sem] Oper.semAt_some

/-- Those up to an address. -/
def upTo (L : List Int) (a : Int) : List Int := L.takeWhile fun x => decide (x ≤ a)
/-- The last one, and whether there is one. -/
def GivesBef (w : World) (l : List Int) (e : Ending) (w' : World) : Prop := e = .returned (.tuple #[.int .i64 (l.getLastD 0), .bool (!l.isEmpty)]) ∧ Below w.heap.size w w'

theorem upTo_cons (x : Int) (L : List Int) (a : Int) : upTo (x :: L) a = if x ≤ a then x :: upTo L a else [] := by
  unfold upTo
  rw [List.takeWhile_cons]
  by_cases h : x ≤ a <;> simp [h]
theorem upTo_all {L : List Int} {a : Int} (h : ∀ x ∈ L, x ≤ a) : upTo L a = L := by
  induction L with
  | nil => rfl
  | cons x L ih => rw [upTo_cons, if_pos (h x (by simp)), ih fun y hy => h y (by simp [hy])]
theorem upTo_cut {pr rest : List Int} {x a : Int} (h : ∀ y ∈ pr, y ≤ a) (hx : a < x) : upTo (pr ++ [x] ++ rest) a = pr := by
  induction pr with
  | nil => rw [List.nil_append, List.singleton_append, upTo_cons, if_neg (by omega)]
  | cons y pr ih =>
    rw [List.cons_append, List.cons_append, upTo_cons, if_pos (h y (by simp)), ih fun z hz => h z (by simp [hz])]

theorem snoc_ne (l : List Int) (x : Int) : (l ++ [x]).isEmpty = false := by cases l <;> rfl

def befW0 (w : World) (n : Int) (A : Option Addr) (m c : Nat) (a : Int) : World :=
  (((w.alloc (.cells #[.int .i64 n, .slice A m c] 24)).alloc (.cells #[.int .i64 a] 3)).alloc (.cells #[.int .i64 0] 3)).alloc (.cells #[.bool false] 4)

def BefI (w W1 : World) (L : List Int) (a : Int) (pre : List (Fin L.length)) (W' : World) : Prop :=
  W1.heap.size ≤ W'.heap.size ∧ Below w.heap.size w W' ∧ W'.cell? ⟨w.heap.size + 1, 0, none⟩ = some (.int .i64 a) ∧ (∀ x ∈ cameE L pre, x ≤ a) ∧
    Blk W' (w.heap.size + 1 + 1) 3 #[.int .i64 ((cameE L pre).getLastD 0)] ∧ Blk W' (w.heap.size + 1 + 1 + 1) 4 #[.bool (!(cameE L pre).isEmpty)]
def BefX (w W1 : World) (L : List Int) (a : Int) (c : Code) (pre : List (Fin L.length)) (W' : World) : Prop :=
  W1.heap.size ≤ W'.heap.size ∧ c = .exit 0 ∧ Below w.heap.size w W' ∧ ∃ pr x, cameE L pre = pr ++ [x] ∧ (∀ y ∈ pr, y ≤ a) ∧ a < x ∧
    Blk W' (w.heap.size + 1 + 1) 3 #[.int .i64 (pr.getLastD 0)] ∧ Blk W' (w.heap.size + 1 + 1 + 1) 4 #[.bool (!pr.isEmpty)]
theorem BefI.low {w W1 X Y : World} {L : List Int} {a : Int} {pre : List (Fin L.length)} (h : BefI w W1 L a pre X) (hb : Below W1.heap.size X Y) (hw : w.heap.size + 4 ≤ W1.heap.size) : BefI w W1 L a pre Y :=
  ⟨Nat.le_trans h.1 hb.size, h.2.1.trans (hb.mono (by omega)), cell_low h.2.2.1 hb (by show w.heap.size + 1 < _; omega), h.2.2.2.1, h.2.2.2.2.1.below hb (by omega), h.2.2.2.2.2.below hb (by omega)⟩
theorem BefX.low {w W1 X Y : World} {L : List Int} {a : Int} {c : Code} {pre : List (Fin L.length)} (h : BefX w W1 L a c pre X) (hb : Below W1.heap.size X Y) (hw : w.heap.size + 4 ≤ W1.heap.size) : BefX w W1 L a c pre Y := by
  obtain ⟨h1, h2, h3, pr, x, h4, h5, h6, h7, h8⟩ := h
  exact ⟨Nat.le_trans h1 hb.size, h2, h3.trans (hb.mono (by omega)), pr, x, h4, h5, h6, h7.below hb (by omega), h8.below hb (by omega)⟩

def befF (w : World) (n : Int) (A : Option Addr) (m c : Nat) (r : Bool) (a : Int) (bb : Nat) (x : Int) : Act :=
  { tmps := #[.agg #[.int .i64 n, .slice A m c], .int .i64 a, .pointer (some ⟨w.heap.size, 0, none⟩), .pointer (some ⟨w.heap.size + 1, 0, none⟩), .int .i64 0, .bool false, .pointer (some ⟨w.heap.size + 1 + 1, 0, none⟩), .pointer (some ⟨w.heap.size + 1 + 1 + 1, 0, none⟩), .int .i64 x,
      .agg #[.int .i64 n, .slice A m c], startsV n A m c r, .func (.func 53) #[] #[.pointer (some ⟨bb, 0, none⟩), .pointer (some ⟨bb + 1, 0, none⟩)], .int .i64 x, undef, undef, undef, undef, undef, undef], defers := [] }

set_option maxRecDepth 100000 in
set_option maxHeartbeats 2000000 in
/-- starts.Before. -/
theorem sbefore_any (A : Option Addr) (m c : Nat) (n : Int) (ws : List Nat) (a : Int) (w : World) (hR : Row w A m (ws.map U32)) (hF : Fits ws) :
    Calls Tryd.prog 18 #[.agg #[.int .i64 n, .slice A m c], .int .i64 a] w (GivesBef w (upTo (allL n ws) a)) := by
  have hb0 : Below w.heap.size w (befW0 w n A m c a) := below_le (below_le (below_le (below_box _ _) (below_box _ _)) (below_box _ _)) (below_box _ _)
  have hsz : (befW0 w n A m c a).heap.size = w.heap.size + 4 := by simp [befW0]
  have hc0 : Blk (befW0 w n A m c a) w.heap.size 24 #[.int .i64 n, .slice A m c] := Blk.alloc (Blk.alloc (Blk.alloc (heap_new rfl _) _) _) _
  have hc1 : Blk (befW0 w n A m c a) (w.heap.size + 1) 3 #[.int .i64 a] := Blk.alloc (Blk.alloc (heap_new (by simp) _) _) _
  have hc2 : Blk (befW0 w n A m c a) (w.heap.size + 1 + 1) 3 #[.int .i64 0] := Blk.alloc (heap_new (by simp) _) _
  have hc3 : Blk (befW0 w n A m c a) (w.heap.size + 1 + 1 + 1) 4 #[.bool false] := heap_new (by simp) _
  have k0 := hc0.cell 0
  have k1 := hc0.cell 1
  simp at k0 k1
  have hcount := eachL_le n ws (asksB [])
  obtain ⟨L, hLL⟩ : ∃ L, eachL n ws (asksB []) = L := ⟨_, rfl⟩
  have hLL' : allL n ws = L := hLL
  rw [hLL'] at *
  rw [hLL] at hcount
  have HR := Lib.hid (hR.ext hb0)
  have HB := Lib.hid hb0
  have HC1 := Lib.hid hc1
  have HC2 := Lib.hid hc2
  have HC3 := Lib.hid hc3
  clear hR hb0 hc0 hc1 hc2 hc3
  refine (callsIn_wide (n := 3)).1 ?_
  refine callsIn_of_wp_marks Tryd.func18 rfl trivial ?_ rfl
  simp only [Tryd.ntmps18, List.size_toArray, List.length_cons, List.length_nil, Nat.reduceAdd, Nat.reduceSub, Array.replicate_succ, Array.replicate_zero, List.push_toArray, List.append_toArray, List.nil_append, List.cons_append]
  gi_wp2_with fail
  refine wpIn_scope_ahead 0 (fun _ _ => False) rfl ?_ (fun _ _ h => h.elim)
  gi_wp2_with fail
  change Code.wpIn _ _ _ _ _ _ (befW0 w n A m c a)
  generalize befW0 w n A m c a = W0 at *
  refine wpIn_label ?_
  gi_wp2_with fail
  refine ⟨trivial, (callsIn_wide.2 (look_any A m c n ws W0 HR.out hF)).mono ?_⟩
  rintro e w1 ⟨rfl, hb1⟩
  have HB1 := Lib.hid hb1
  clear hb1 k0 k1
  gi_wp2_with fail
  refine ⟨trivial, (callsIn_wide.2 (each_any A m c n (sRight n ws) none 0 0 w1)).mono ?_⟩
  rintro e w' ⟨rfl, rfl⟩
  have hb2 : Below w1.heap.size w1 (eachW w1 n A m c (sRight n ws) none 0 0) := below_le (below_box _ _) (below_box _ _)
  have hz : (eachW w1 n A m c (sRight n ws) none 0 0).heap.size = w1.heap.size + 2 := by simp [eachW]
  have e0 : (eachW w1 n A m c (sRight n ws) none 0 0).cell? ⟨w1.heap.size, 0, none⟩ = some (.int .i64 n) := by simp [go_sem, eachW]
  have e1 : (eachW w1 n A m c (sRight n ws) none 0 0).cell? ⟨w1.heap.size, 1, none⟩ = some (.slice A m c) := by simp [go_sem, eachW]
  have e2 : (eachW w1 n A m c (sRight n ws) none 0 0).cell? ⟨w1.heap.size, 2, none⟩ = some (.bool (sRight n ws)) := by simp [go_sem, eachW]
  have e3 : (eachW w1 n A m c (sRight n ws) none 0 0).cell? ⟨w1.heap.size + 1, 0, none⟩ = some (.slice none 0 0) := by simp [go_sem, eachW]
  have hb12 := below_le HB1.out hb2
  have hs1 := HB1.out.size
  have hR1 := HR.out.ext hb12
  have hc1 := HC1.out.ext hb12
  have hc2 := HC2.out.ext hb12
  have hc3 := HC3.out.ext hb12
  have hBW := below_le HB.out hb12
  generalize eachW w1 n A m c (sRight n ws) none 0 0 = W1 at *
  have hpt : ∀ b, ¬ Points (w.heap.size + 1 + 1) W1 b := fun b ⟨v, hv, hv'⟩ => by
    rw [hc2.cell 0] at hv
    simp at hv
    subst hv
    cases hv'
  have hE : EachAt W1 A m c n ws none 0 0 [] w1.heap.size (w1.heap.size + 1) [w.heap.size + 1 + 1, w.heap.size + 1 + 1 + 1] (w.heap.size + 1 + 1) :=
    ⟨e0, e1, e2, hR1, e3, Row.none_, (fun _ h => by cases h), ⟨by simp; omega, hpt _⟩, (fun _ e => by cases e), (fun _ h => by cases h), (fun b h => by simp at h; omega), fun b h => absurd h (hpt b), by omega⟩
  have hI0 : BefI w W1 L a [] W1 := ⟨Nat.le_refl _, hBW, by rw [hc1.cell 0]; rfl, (fun x hx => by cases hx), hc2, hc3⟩
  have hstops := each_stops (3 - 1) A m c n ws none 0 0 [] w1.heap.size (w1.heap.size + 1) [w.heap.size + 1 + 1, w.heap.size + 1 + 1 + 1] (w.heap.size + 1 + 1) W1 hF (by omega) hE _ hLL
  clear e0 e1 e2 e3 hR1 hpt hE hc1 hc2 hc3 HR HC1 HC2 HC3 hb2 hb12 hBW
  generalize sRight n ws = r at *
  gi_wp2_with fail
  refine wpIn_rangeFunc_ownG (F := Fence.wide) (n := 3) rfl (by omega) (gf := 53) (lb := #[.pointer (some ⟨w1.heap.size, 0, none⟩), .pointer (some ⟨w1.heap.size + 1, 0, none⟩)]) rfl trivial (enters_of Tryd.func53 (by kernel_rfl) rfl)
    hstops (fun h k => h.t k) (KeepS.b (by omega)) (Below.refl _ _) (fun _ => rfl)
    (BefI w W1 L a) (BefX w W1 L a)
    (ownFrom_low _ _ (fun _ _ h => h.1) (fun _ X Y h hb => h.low hb (by omega)))
    (fun c => ownFrom_low _ _ (fun _ _ h => h.1) (fun _ X Y h hb => h.low hb (by omega)))
    hI0
    (fun x' => befF w n A m c r a w1.heap.size L[x'.1]) ?assign ?body ?done ?stop
  case assign =>
    intro l x1 W' K hK
    gi_wp2
    exact hK
  case body =>
    rintro l pre x W' ⟨s1, s2, s3, s4, s5, s6⟩ hpre
    have hsn := cameE_snoc L pre x
    generalize L[x.1] = y at *
    have S2 := Lib.hid s2
    have S4 := Lib.hid s4
    have S5 := Lib.hid s5
    have S6 := Lib.hid s6
    have HSN := Lib.hid hsn
    have c5 := s5.cell 0
    have f5 := s5.frozen 0
    have c6 := s6.cell 0
    have f6 := s6.frozen 0
    simp at c5 c6
    clear s2 s4 s5 s6 hsn hI0 hstops
    simp only [befF, startsV]
    by_cases hy : y ≤ a
    · have hd : decide (y > a) = false := by simpa using hy
      have HY := Lib.hid hy
      clear hy
      gi_wp2
      have g2 := grown_set W' (w.heap.size + 1 + 1) 0 (.int .i64 y)
      have g3 := grown_set (W'.setCell ⟨w.heap.size + 1 + 1, 0, none⟩ (.int .i64 y)) (w.heap.size + 1 + 1 + 1) 0 (.bool true)
      have t5 := (S5.out.set_ 0 (.int .i64 y)).far (p := ⟨w.heap.size + 1 + 1 + 1, 0, none⟩) (by show w.heap.size + 1 + 1 ≠ _; simp) (.bool true)
      have t6 := (S6.out.far (p := ⟨w.heap.size + 1 + 1, 0, none⟩) (by show w.heap.size + 1 + 1 + 1 ≠ _; simp) (.int .i64 y)).set_ 0 (.bool true)
      have hblk : ∀ b, b < W'.heap.size → b ≠ w.heap.size + 1 + 1 → b ≠ w.heap.size + 1 + 1 + 1 → ((W'.setCell ⟨w.heap.size + 1 + 1, 0, none⟩ (.int .i64 y)).setCell ⟨w.heap.size + 1 + 1 + 1, 0, none⟩ (.bool true)).heap[b]? = W'.heap[b]? := fun b h1 h2 h3 =>
        (g3.block b (Nat.lt_of_lt_of_le h1 g2.size) (fun e => h3 (Option.some.inj e))).trans (g2.block b h1 (fun e => h2 (Option.some.inj e)))
      refine ⟨(KeepsFrom.of_grownBy g2 (fun j e => by cases e; show w.heap.size + 1 + 1 < _; omega)).trans (KeepsFrom.of_grownBy g3 (fun j e => by cases e; show w.heap.size + 1 + 1 + 1 < _; omega)), ⟨fun b o ho hoc hS hp => ?_, fun b hb hp => ?_, Nat.le_trans g2.size g3.size⟩, Nat.le_trans s1 (Nat.le_trans g2.size g3.size), ?_, ?_, ?_, ?_, ?_⟩
      · have hbl : b < W'.heap.size := (Array.getElem?_eq_some_iff.1 ho).1
        simp at hS
        exact (hblk b hbl (by omega) (by omega)).trans ho
      · obtain ⟨u, hu, hub⟩ := hp
        rw [t5.cell 0] at hu
        simp at hu
        subst hu
        cases hub
      · exact (S2.out.setCell (p := ⟨w.heap.size + 1 + 1, 0, none⟩) (by show w.heap.size ≤ w.heap.size + 1 + 1; omega) _).setCell (p := ⟨w.heap.size + 1 + 1 + 1, 0, none⟩) (by show w.heap.size ≤ w.heap.size + 1 + 1 + 1; omega) _
      · exact (World.cell?_of_block (w := W') (hblk (w.heap.size + 1) (by omega) (by omega) (by omega))).trans s3
      · rw [HSN.out]
        intro z hz
        rcases List.mem_append.1 hz with hz | hz
        · exact S4.out z hz
        · rw [List.mem_singleton.1 hz]; exact HY.out
      · rw [HSN.out]; simpa using t5
      · rw [HSN.out, snoc_ne]; exact t6
    · have hd : decide (y > a) = true := by simpa using hy
      have HY := Lib.hid hy
      clear hy
      gi_wp2
      exact ⟨KeepsFrom.refl _ _, s1, rfl, S2.out, _, y, HSN.out, S4.out, by have := HY.out; omega, S5.out, S6.out⟩
  case done =>
    rintro D ys W' hD rfl ⟨s1, s2, s3, s4, s5, s6⟩ hK
    rw [cameE_all] at s4 s5 s6
    have S2 := Lib.hid s2
    have S4 := Lib.hid s4
    have c5 := s5.cell 0
    have c6 := s6.cell 0
    simp at c5 c6
    have hu := upTo_all s4
    rw [show (L.getLast?.getD 0) = L.getLastD 0 by simp] at c5
    generalize hz1 : L.getLastD 0 = z at *
    generalize hz2 : L.isEmpty = z2 at *
    have HU := Lib.hid hu
    clear s2 s4 s5 s6 hI0 hstops S4 hu
    gi_wp2
    gi_region
    gi_wp2
    simp only [Exit.jump]
    have hK2 : W'.drew.heap[D]? = some (.deferred (some [])) := hK
    refine ⟨by simp, .inl ⟨_, _, rfl, run_takeDeferred hK2, ?_⟩⟩
    refine ⟨.tuple #[.int .i64 z, .bool !z2], by simp [results, Tryd.results18, go_sem], by rw [HU.out, hz1, hz2], ?_⟩
    exact S2.out.drew.trans (belowK_b (w := W1) (by omega) W'.drew D _ _ hD hK2 rfl rfl)
  case stop =>
    rintro D c pre W' hD ⟨j, hj, rfl⟩ ⟨s1, rfl, s2, pr, x, h4, h5, h6, h7, h8⟩ hK
    have c5 := h7.cell 0
    have c6 := h8.cell 0
    have hu : upTo L a = pr := by
      obtain ⟨rest, hrest⟩ := cameE_take L j
      rw [hrest, h4]
      exact upTo_cut h5 h6
    simp at c5 c6
    rw [show (pr.getLast?.getD 0) = pr.getLastD 0 by simp] at c5
    generalize hz1 : pr.getLastD 0 = z at *
    generalize hz2 : pr.isEmpty = z2 at *
    have HU := Lib.hid hu
    have S2 := Lib.hid s2
    clear s2 h7 h8 h4 h5 h6 hI0 hstops hu
    gi_wp2
    gi_region
    gi_wp2
    simp only [Exit.jump]
    have hK2 : W'.drew.heap[D]? = some (.deferred (some [])) := hK
    refine ⟨by simp, .inl ⟨_, _, rfl, run_takeDeferred hK2, ?_⟩⟩
    refine ⟨.tuple #[.int .i64 z, .bool !z2], by simp [results, Tryd.results18, go_sem], by rw [HU.out, hz1, hz2], ?_⟩
    exact S2.out.drew.trans (belowK_b (w := W1) (by omega) W'.drew D _ _ hD hK2 rfl rfl)

end Go.Proofs.YtelbddnjnapoeaaDoor
namespace Go.Proofs.YtelbddnjnapoeaaDoor
open Go.RowKit Go.Shelf

theorem srow_cut {w : World} {A : Option Addr} {m : Nat} {ws : List Nat} (h : Row w A m (ws.map U32)) : Row w A (min m 50) ((ws.take 50).map U32) := by
  have h1 := h.cut (min m 50) (Nat.min_le_left _ _)
  have hl := h.1
  simp at hl
  rw [← List.map_take, Nat.min_comm, ← List.take_take, List.take_of_length_le (l := ws) (by omega), Nat.min_comm] at h1
  exact h1

set_option maxRecDepth 100000 in
set_option maxHeartbeats 2000000 in
/-- Cut. -/
theorem scut_any (A : Option Addr) (m c : Nat) (n : Int) (w : World) (hc : m ≤ c) :
    Calls Tryd.prog 10 #[.agg #[.int .i64 n, .slice A m c]] w fun e w' => (∃ c', e = .returned (.agg #[.int .i64 n, .slice A (min m 50) c'])) ∧ Below w.heap.size w w' := by
  have hb0 : Below w.heap.size w ((w.alloc (.cells #[.int .i64 n, .slice A m c] 24)).alloc (.cells #[.int .i64 0, .slice none 0 0] 24)) := below_le (below_box _ _) (below_box _ _)
  have k0 : ((w.alloc (.cells #[.int .i64 n, .slice A m c] 24)).alloc (.cells #[.int .i64 0, .slice none 0 0] 24)).cell? ⟨w.heap.size, 0, none⟩ = some (.int .i64 n) := by simp [go_sem]
  have k1 : ((w.alloc (.cells #[.int .i64 n, .slice A m c] 24)).alloc (.cells #[.int .i64 0, .slice none 0 0] 24)).cell? ⟨w.heap.size, 1, none⟩ = some (.slice A m c) := by simp [go_sem]
  have hbl : Blk ((w.alloc (.cells #[.int .i64 n, .slice A m c] 24)).alloc (.cells #[.int .i64 0, .slice none 0 0] 24)) (w.heap.size + 1) 24 #[.int .i64 0, .slice none 0 0] := heap_new (by simp) _
  have HB0 := Lib.hid hb0
  have HBL := Lib.hid hbl
  clear hb0 hbl
  go_enter Tryd.func10, Tryd.ntmps10
  go_wp2
  generalize (w.alloc (.cells #[.int .i64 n, .slice A m c] 24)).alloc (.cells #[.int .i64 0, .slice none 0 0] 24) = W0 at *
  have t0 := ext_cell k0
  have t1 := ext_cell k1
  refine wp_region_tail 10 (by kernel_rfl) (by kernel_rfl) ?_; simp only [List.take_succ_cons, List.take_zero, List.drop_succ_cons, List.drop_zero]
  repeat (first | (refine head_skip rfl ?_; go_frame) | (refine head_soft rfl (fun K hK => ?_); go_simp; first | (refine hK _ ?_; clear hK K) | (apply Exists.intro; refine ⟨fun x => ?_, hK _ ?_⟩; (· (fail)); clear hK K; try go_frame)))
  obtain ⟨q, hq⟩ : ∃ q : Int, (if 50 < (m : Int) then 50 else (m : Int)) = q := ⟨_, rfl⟩
  rw [hq]
  have hqe : q = (min m 50 : Nat) := by rw [← hq]; split <;> omega
  have hq0 : 0 ≤ q := by omega
  have hq1 : q ≤ c := by omega
  have HQ : Hid (q.toNat = min m 50) := Lib.hid (by omega)
  clear hq hqe
  repeat (first | (refine head_skip rfl ?_; go_frame) | (refine head_soft rfl (fun K hK => ?_); go_simp; first | (refine hK _ ?_; clear hK K) | (apply Exists.intro; refine ⟨fun x => ?_, hK _ ?_⟩; (· (fail)); clear hK K; try go_frame)))
  refine head_nil fun w2 hb2 => ?_
  have h2 := HBL.out.ext hb2
  have f0 := h2.frozen 0
  have f1 := h2.frozen 1
  have c0 := h2.cell 0
  have c1 := h2.cell 1
  have H2 := Lib.hid h2
  have Hb2 := Lib.hid hb2
  clear h2 hb2 t0 t1 k0 k1
  go_wp2
  have h3 := (H2.out.set_ 0 (.int .i64 n)).set_ 1 (.slice A q.toNat c)
  have hbf : Below w.heap.size w ((w2.setCell ⟨w.heap.size + 1, 0, none⟩ (.int .i64 n)).setCell ⟨w.heap.size + 1, 1, none⟩ (.slice A q.toNat c)) :=
    ((below_le HB0.out Hb2.out).setCell (p := ⟨w.heap.size + 1, 0, none⟩) (by show w.heap.size ≤ w.heap.size + 1; omega) _).setCell (p := ⟨w.heap.size + 1, 1, none⟩) (by show w.heap.size ≤ w.heap.size + 1; omega) _
  have q0 := h3.cell 0
  have q1 := h3.cell 1
  simp at q0 q1
  refine bodyPost_ret (v := .agg #[.int .i64 n, .slice A q.toNat c]) (by simp [results, Tryd.results10, go_sem, q0, q1]) rfl ⟨⟨_, by rw [HQ.out]⟩, hbf⟩

set_option maxRecDepth 100000 in
theorem shown_plain : ∃ d0 d1 d2 : List Nat, noneW 1024 = d0 ∧ Fits d0 ∧ chkCode 1024 d0 (sRight 1024 d0) 24 false = 0 ∧ setW d0 ((24 : Int) / 8).toNat true = d1 ∧ Fits d1 ∧ chkCode 1024 d1 (sRight 1024 d1) 4096 false = 0 ∧
    setW d1 ((4096 : Int) / 8).toNat true = d2 ∧ Fits d2 ∧ upTo (allL 1024 d2) 30 = [24] ∧ chkCode 1024 d2 (sRight 1024 d2) 24 false = 52 ∧ chkCode 1024 d2 (sRight 1024 d2) 8 true = 131 ∧ chkCode 1024 d2 (sRight 1024 d2) 8192 false = 10 ∧
    inL 1024 d2 8 4096 = [24] ∧ allL 1024 d2 = [24, 4096] :=
  ⟨noneW 1024, setW (noneW 1024) ((24 : Int) / 8).toNat true, setW (setW (noneW 1024) ((24 : Int) / 8).toNat true) ((4096 : Int) / 8).toNat true, rfl, by unfold Fits; decide +kernel, by decide +kernel, rfl, by unfold Fits; decide +kernel, by decide +kernel, rfl, by unfold Fits; decide +kernel,
    by decide +kernel, by decide +kernel, by decide +kernel, by decide +kernel, by decide +kernel, by decide +kernel⟩

set_option maxRecDepth 100000 in
set_option maxHeartbeats 4000000 in
/-- shown. -/
theorem sshown_any (aA aB aP aS : Addr) (w : World) (hB : BSent w aA aB aP) (hS : SSent w aS) :
    Calls Tryd.prog 9 #[] w (Holds w) := by
  obtain ⟨d0, d1, d2, e0, F0, p1, e1, F1, p2, e2, F2, p3, p4, p5, p6, p7, p8⟩ := shown_plain
  have HBS := Lib.hid hB
  have HS := Lib.hid hS
  have X1 : Hid (∀ x : World, BSent x aA aB aP → Calls Tryd.prog 16 #[.int .i64 2] x (GivesBits x 0 1024 d0)) := Lib.hid (fun x h => by have := new_ok 2 aA aB aP x h (by omega) (by omega); rwa [show (512 : Int) * 2 = 1024 from rfl, e0] at this)
  have X2 : Hid (∀ (A : Option Addr) (m c : Nat) (x : World), BSent x aA aB aP → SSent x aS → Row x A m (d0.map U32) → Calls Tryd.prog 11 #[.agg #[.int .i64 1024, .slice A m c], .int .i64 24] x (GivesBits x 0 1024 d1)) := Lib.hid (fun A m c x h1 h2 h3 => by rw [← e1]; exact sput_any A m c 1024 24 d0 aA aB aP aS x (by omega) h1 h2 h3 F0 0 p1)
  have X3 : Hid (∀ (A : Option Addr) (m c : Nat) (x : World), BSent x aA aB aP → SSent x aS → Row x A m (d1.map U32) → Calls Tryd.prog 11 #[.agg #[.int .i64 1024, .slice A m c], .int .i64 4096] x (GivesBits x 0 1024 d2)) := Lib.hid (fun A m c x h1 h2 h3 => by rw [← e2]; exact sput_any A m c 1024 4096 d1 aA aB aP aS x (by omega) h1 h2 h3 F1 0 p2)
  have X4 : Hid (∀ (A : Option Addr) (m c : Nat) (x : World), Row x A m (d2.map U32) → Calls Tryd.prog 18 #[.agg #[.int .i64 1024, .slice A m c], .int .i64 30] x fun e w' => e = .returned (.tuple #[.int .i64 24, .bool true]) ∧ Below x.heap.size x w') := Lib.hid (fun A m c x h => by have h1 := sbefore_any A m c 1024 d2 30 x h F2; rw [p3] at h1; exact h1)
  have X5 : Hid (∀ (A : Option Addr) (m c : Nat) (x : World), BSent x aA aB aP → SSent x aS → Row x A m (d2.map U32) → Calls Tryd.prog 11 #[.agg #[.int .i64 1024, .slice A m c], .int .i64 24] x (GivesBits x 52 0 [])) := Lib.hid (fun A m c x h1 h2 h3 => (sput_any A m c 1024 24 d2 aA aB aP aS x (by omega) h1 h2 h3 F2 52 p4).mono fun _ _ h => h.bad (by omega))
  have X6 : Hid (∀ (A : Option Addr) (m c : Nat) (x : World), BSent x aA aB aP → SSent x aS → Row x A m (d2.map U32) → Calls Tryd.prog 13 #[.agg #[.int .i64 1024, .slice A m c], .int .i64 8] x (GivesBits x 131 0 [])) := Lib.hid (fun A m c x h1 h2 h3 => (sdrop_any A m c 1024 8 d2 aA aB aP aS x (by omega) h1 h2 h3 F2 131 p5).mono fun _ _ h => h.bad (by omega))
  have X7 : Hid (∀ (A : Option Addr) (m c : Nat) (x : World), BSent x aA aB aP → SSent x aS → Row x A m (d2.map U32) → Calls Tryd.prog 11 #[.agg #[.int .i64 1024, .slice A m c], .int .i64 8192] x (GivesBits x 10 0 [])) := Lib.hid (fun A m c x h1 h2 h3 => (sput_any A m c 1024 8192 d2 aA aB aP aS x (by omega) h1 h2 h3 F2 10 p6).mono fun _ _ h => h.bad (by omega))
  have X8 : Hid (∀ (A : Option Addr) (m c : Nat) (x : World), Row x A m (d2.map U32) → Calls Tryd.prog 27 #[.agg #[.int .i64 1024, .slice A m c], .int .i64 8, .int .i64 4096] x (GivesL x [24])) := Lib.hid (fun A m c x h => by have h1 := sin_any A m c 1024 d2 8 4096 x h F2; rw [p7] at h1; exact h1)
  have X9 : Hid (∀ (A : Option Addr) (m c : Nat) (x : World), Row x A m (d2.map U32) → Calls Tryd.prog 25 #[.agg #[.int .i64 1024, .slice A m c]] x (GivesL x [24, 4096])) := Lib.hid (fun A m c x h => by have h1 := sall_any A m c 1024 d2 x h F2; rw [p8] at h1; exact h1)
  have r1 : ∀ W : World, (Instr.buildSlice 37 1 #[(0, .int .i64 24)]).run Tryd.prog W = .ok (.slice (some ⟨W.heap.size, 0, none⟩) 1 1) (W.alloc (.cells #[.int .i64 24] 3)) := fun W => by go_simp
  have r2 : ∀ W : World, (Instr.buildSlice 37 2 #[(0, .int .i64 24), (1, .int .i64 4096)]).run Tryd.prog W = .ok (.slice (some ⟨W.heap.size, 0, none⟩) 2 2) (W.alloc (.cells #[.int .i64 24, .int .i64 4096] 3)) := fun W => by go_simp
  have R1 := Lib.hid r1
  have R2 := Lib.hid r2
  clear hB hS e0 F0 p1 e1 F1 p2 e2 F2 p3 p4 p5 p6 p7 p8 r1 r2
  go_enter Tryd.func9, Tryd.ntmps9
  go_wp2_with fail
  refine (X1.out w HBS.out).mono ?_
  clear X1
  rintro e w1 ⟨A1, m1, c1, rfl, hRn, hbn⟩
  have hx := below_box w1 (.cells #[.int .i64 1024, .slice A1 m1 c1] 24)
  have s10 := box0 (w := w1) (t := 24) (v0 := .int .i64 1024) (v1 := .slice A1 m1 c1)
  have s11 := box1 (w := w1) (t := 24) (v0 := .int .i64 1024) (v1 := .slice A1 m1 c1)
  have hbx := below_le hbn hx
  have HR1 := Lib.hid (hRn.ext hx)
  have HB := Lib.hid hbx
  clear hRn hbn hx hbx
  go_wp2_with fail
  generalize w1.alloc (.cells #[.int .i64 1024, .slice A1 m1 c1] 24) = W1 at *
  refine (X2.out A1 m1 c1 W1 (HBS.out.ext HB.out) (HS.out.ext HB.out) HR1.out).mono ?_
  clear X2 HR1 s10 s11
  rintro e w2 ⟨A2, m2, c2, rfl, hRn, hbn⟩
  have hx := below_box w2 (.cells #[.int .i64 1024, .slice A2 m2 c2] 24)
  have s20 := box0 (w := w2) (t := 24) (v0 := .int .i64 1024) (v1 := .slice A2 m2 c2)
  have s21 := box1 (w := w2) (t := 24) (v0 := .int .i64 1024) (v1 := .slice A2 m2 c2)
  have hbx := below_le hbn hx
  have HR2 := Lib.hid (hRn.ext hx)
  replace HB := Lib.hid (below_le HB.out hbx)
  clear hRn hbn hx hbx
  go_wp2_with fail
  generalize w2.alloc (.cells #[.int .i64 1024, .slice A2 m2 c2] 24) = W2 at *
  refine (X3.out A2 m2 c2 W2 (HBS.out.ext HB.out) (HS.out.ext HB.out) HR2.out).mono ?_
  clear X3 HR2 s20 s21
  rintro e w3 ⟨A3, m3, c3, rfl, hRn, hbn⟩
  have hx := below_box w3 (.cells #[.int .i64 1024, .slice A3 m3 c3] 24)
  have s30 := box0 (w := w3) (t := 24) (v0 := .int .i64 1024) (v1 := .slice A3 m3 c3)
  have s31 := box1 (w := w3) (t := 24) (v0 := .int .i64 1024) (v1 := .slice A3 m3 c3)
  have hbx := below_le hbn hx
  have HR3 := Lib.hid (hRn.ext hx)
  replace HB := Lib.hid (below_le HB.out hbx)
  clear hRn hbn hx hbx
  go_wp2_with fail
  generalize w3.alloc (.cells #[.int .i64 1024, .slice A3 m3 c3] 24) = W3 at *
  refine (X4.out A3 m3 c3 W3 HR3.out).mono ?_
  clear X4
  rintro e W4 ⟨rfl, hbn⟩
  replace s30 := cell_ext hbn s30; replace s31 := cell_ext hbn s31; replace HR3 := Lib.hid (HR3.out.ext hbn)
  replace HB := Lib.hid (below_le HB.out hbn)
  clear hbn
  go_wp2_with fail
  refine (X5.out A3 m3 c3 W4 (HBS.out.ext HB.out) (HS.out.ext HB.out) HR3.out).mono ?_
  clear X5
  rintro e w5 ⟨A5, m5, c5, rfl, hRn, hbn⟩
  have hx := below_box w5 (.cells #[.int .i64 0, .slice A5 m5 c5] 24)
  have hbx := below_le hbn hx
  replace s30 := cell_ext hbx s30; replace s31 := cell_ext hbx s31; replace HR3 := Lib.hid (HR3.out.ext hbx)
  replace HB := Lib.hid (below_le HB.out hbx)
  clear hRn hbn hx hbx
  go_wp2_with fail
  generalize w5.alloc (.cells #[.int .i64 0, .slice A5 m5 c5] 24) = W5 at *
  refine (X6.out A3 m3 c3 W5 (HBS.out.ext HB.out) (HS.out.ext HB.out) HR3.out).mono ?_
  clear X6
  rintro e w6 ⟨A6, m6, c6, rfl, hRn, hbn⟩
  have hx := below_box w6 (.cells #[.int .i64 0, .slice A6 m6 c6] 24)
  have hbx := below_le hbn hx
  replace s30 := cell_ext hbx s30; replace s31 := cell_ext hbx s31; replace HR3 := Lib.hid (HR3.out.ext hbx)
  replace HB := Lib.hid (below_le HB.out hbx)
  clear hRn hbn hx hbx
  go_wp2_with fail
  generalize w6.alloc (.cells #[.int .i64 0, .slice A6 m6 c6] 24) = W6 at *
  refine (X7.out A3 m3 c3 W6 (HBS.out.ext HB.out) (HS.out.ext HB.out) HR3.out).mono ?_
  clear X7
  rintro e w7 ⟨A7, m7, c7, rfl, hRn, hbn⟩
  have hx := below_box w7 (.cells #[.int .i64 0, .slice A7 m7 c7] 24)
  have hbx := below_le hbn hx
  replace s30 := cell_ext hbx s30; replace s31 := cell_ext hbx s31; replace HR3 := Lib.hid (HR3.out.ext hbx)
  replace HB := Lib.hid (below_le HB.out hbx)
  clear hRn hbn hx hbx
  go_wp2_with fail
  generalize w7.alloc (.cells #[.int .i64 0, .slice A7 m7 c7] 24) = W7 at *
  refine (X8.out A3 m3 c3 W7 HR3.out).mono ?_
  clear X8
  rintro e w8 ⟨A8, m8, c8, rfl, hRn, hbn⟩
  have hx := below_box w8 (.cells #[.int .i64 24] 3)
  have hbx := below_le hbn hx
  have hbl : Blk (w8.alloc (.cells #[.int .i64 24] 3)) w8.heap.size 3 #[.int .i64 24] := heap_new rfl _
  have hI := ints_any A8 (some ⟨w8.heap.size, 0, none⟩) m8 c8 1 1 [24] [24] (w8.alloc (.cells #[.int .i64 24] 3)) (hRn.ext hx) hbl.row (by have := hRn.1; simp at this; omega) (by omega)
  rw [show decide (([24] : List Int) = [24]) = true by simp] at hI
  have HI := Lib.hid hI
  replace s30 := cell_ext hbx s30; replace s31 := cell_ext hbx s31; replace HR3 := Lib.hid (HR3.out.ext hbx)
  replace HB := Lib.hid (below_le HB.out hbx)
  have rr := R1.out w8
  clear hRn hbn hx hbx hI hbl
  go_wp2_with fail
  generalize w8.alloc (.cells #[.int .i64 24] 3) = W8 at *
  refine HI.out.mono ?_
  clear HI rr
  rintro e W9 ⟨rfl, hbn⟩
  replace s30 := cell_ext hbn s30; replace s31 := cell_ext hbn s31; replace HR3 := Lib.hid (HR3.out.ext hbn)
  replace HB := Lib.hid (below_le HB.out hbn)
  clear hbn
  go_wp2_with fail
  refine (X9.out A3 m3 c3 W9 HR3.out).mono ?_
  clear X9
  rintro e w10 ⟨A10, m10, c10, rfl, hRn, hbn⟩
  have hx := below_box w10 (.cells #[.int .i64 24, .int .i64 4096] 3)
  have hbx := below_le hbn hx
  have hbl : Blk (w10.alloc (.cells #[.int .i64 24, .int .i64 4096] 3)) w10.heap.size 3 #[.int .i64 24, .int .i64 4096] := heap_new rfl _
  have hI := ints_any A10 (some ⟨w10.heap.size, 0, none⟩) m10 c10 2 2 [24, 4096] [24, 4096] (w10.alloc (.cells #[.int .i64 24, .int .i64 4096] 3)) (hRn.ext hx) hbl.row (by have := hRn.1; simp at this; omega) (by omega)
  rw [show decide (([24, 4096] : List Int) = [24, 4096]) = true by simp] at hI
  have HI := Lib.hid hI
  replace s30 := cell_ext hbx s30; replace s31 := cell_ext hbx s31; replace HR3 := Lib.hid (HR3.out.ext hbx)
  replace HB := Lib.hid (below_le HB.out hbx)
  have rr := R2.out w10
  clear hRn hbn hx hbx hI hbl
  go_wp2_with fail
  generalize w10.alloc (.cells #[.int .i64 24, .int .i64 4096] 3) = W10 at *
  refine HI.out.mono ?_
  clear HI rr
  rintro e w11 ⟨rfl, hbn⟩
  replace HB := Lib.hid (below_le HB.out hbn)
  clear hbn
  go_wp2
  go_ret
  exact ⟨ret_bool (by simp), HB.out⟩

end Go.Proofs.YtelbddnjnapoeaaDoor
namespace Go.Proofs.YtelbddnjnapoeaaDoor
open Go.RowKit Go.Shelf

theorem gives_if {w : World} {code : Nat} {n : Int} {us : List Nat} {n1 : Int} {u1 : List Nat} (hn : (if code = 0 then n else 0) = n1) (hu : (if code = 0 then us else []) = u1) {e : Ending} {w' : World} (h : GivesIf w code n us e w') : GivesBits w code n1 u1 e w' := by
  subst hn
  subst hu
  exact h
theorem fits_nil : Fits [] := fun _ h => by cases h

set_option maxRecDepth 100000 in
set_option maxHeartbeats 4000000 in
theorem startsTurns_any (A : Option Addr) (m c : Nat) (n : Int) (ws : List Nat) (a : Int) (aA aB aP aS : Addr) (w : World) (hB : BSent w aA aB aP) (hS : SSent w aS) (hR : Row w A m (ws.map U32)) (hF : Fits ws) (hc : m ≤ c) (ha : a ≤ 9223372036854775807) :
    Calls Tryd.prog 3 #[.agg #[.int .i64 n, .slice A m c], .int .i64 a] w (Holds w) := by
  have hx := below_box w (.cells #[.int .i64 n, .slice A m c] 24)
  have k0 : (w.alloc (.cells #[.int .i64 n, .slice A m c] 24)).cell? ⟨w.heap.size, 0, none⟩ = some (.int .i64 n) := by simp [go_sem]
  have k1 : (w.alloc (.cells #[.int .i64 n, .slice A m c] 24)).cell? ⟨w.heap.size, 1, none⟩ = some (.slice A m c) := by simp [go_sem]
  have hbl : Blk (w.alloc (.cells #[.int .i64 n, .slice A m c] 24)) w.heap.size 24 #[.int .i64 n, .slice A m c] := heap_new rfl _
  have HS := Lib.hid hS
  have HBS := Lib.hid hB
  have HR := Lib.hid (srow_cut hR)
  have hm50 : min m 50 ≤ 50 := Nat.min_le_right _ _
  have HF := Lib.hid (fits_take hF 50)
  generalize ws.take 50 = vs at HR HF
  have HB := Lib.hid hx
  have HBL := Lib.hid hbl
  clear hS hB hR hx hbl hF
  go_enter Tryd.func3, Tryd.ntmps3
  go_wp2_with fail
  generalize w.alloc (.cells #[.int .i64 n, .slice A m c] 24) = W0 at *
  refine (sshown_any aA aB aP aS W0 (HBS.out.ext HB.out) (HS.out.ext HB.out)).mono ?_
  rintro e w1 ⟨rfl, hb1⟩
  have e0 := cell_ext hb1 k0
  have e1 := cell_ext hb1 k1
  have HBL1 := Lib.hid (HBL.out.ext hb1)
  have HB1 := Lib.hid (below_le HB.out hb1)
  clear hb1 k0 k1 HBL HB
  go_wp2_with fail
  refine (scut_any A m c n w1 hc).mono ?_
  rintro e w2 ⟨⟨c', rfl⟩, hb2⟩
  generalize min m 50 = m' at *
  have h2 := HBL1.out.ext hb2
  have f0 := h2.frozen 0
  have f1 := h2.frozen 1
  have d0 := h2.cell 0
  have d1 := h2.cell 1
  have h3 := (h2.set_ 0 (.int .i64 n)).set_ 1 (.slice A m' c')
  have hb3 : Below w.heap.size w ((w2.setCell ⟨w.heap.size, 0, none⟩ (.int .i64 n)).setCell ⟨w.heap.size, 1, none⟩ (.slice A m' c')) :=
    ((below_le HB1.out hb2).setCell (p := ⟨w.heap.size, 0, none⟩) (Nat.le_refl _) _).setCell (p := ⟨w.heap.size, 1, none⟩) (Nat.le_refl _) _
  have k0 := h3.cell 0
  have k1 := h3.cell 1
  simp at k0 k1
  have H3 := Lib.hid h3
  have HB3 := Lib.hid hb3
  clear h2 h3 hb2 hb3 HB1 HBL1 e0 e1
  go_wp2_with fail
  generalize (w2.setCell ⟨w.heap.size, 0, none⟩ (.int .i64 n)).setCell ⟨w.heap.size, 1, none⟩ (.slice A m' c') = W3 at *
  clear f0 f1 d0 d1
  have hlv : vs.length ≤ 50 := by have := HR.out.1; simp at this; omega
  obtain ⟨c1, hc1⟩ : ∃ code, chkCode n vs (sRight n vs) a false = code := ⟨_, rfl⟩
  obtain ⟨c2, hc2⟩ : ∃ code, chkCode n vs (sRight n vs) a true = code := ⟨_, rfl⟩
  obtain ⟨n1, hn1⟩ : ∃ n1, (if c1 = 0 then n else 0) = n1 := ⟨_, rfl⟩
  obtain ⟨n2, hn2⟩ : ∃ n2, (if c2 = 0 then n else 0) = n2 := ⟨_, rfl⟩
  obtain ⟨u1, hu1⟩ : ∃ u1, (if c1 = 0 then setW vs (a / 8).toNat true else []) = u1 := ⟨_, rfl⟩
  obtain ⟨u2, hu2⟩ : ∃ u2, (if c2 = 0 then setW vs (a / 8).toNat false else []) = u2 := ⟨_, rfl⟩
  have P1 : Hid (∀ x : World, BSent x aA aB aP → SSent x aS → Row x A m' (vs.map U32) → Calls Tryd.prog 11 #[.agg #[.int .i64 n, .slice A m' c'], .int .i64 a] x (GivesBits x c1 n1 u1)) := Lib.hid (fun x h1 h2 h3 => (sput_any A m' c' n a vs aA aB aP aS x ha h1 h2 h3 HF.out c1 hc1).mono fun _ _ h => gives_if hn1 hu1 h)
  have P2 : Hid (∀ x : World, Row x A m' (vs.map U32) → Calls Tryd.prog 12 #[.agg #[.int .i64 n, .slice A m' c'], .int .i64 a] x (GivesBits x c1 n1 u1)) := Lib.hid (fun x h3 => (rput_any A m' c' n a vs x ha h3 HF.out c1 hc1).mono fun _ _ h => gives_if hn1 hu1 h)
  have D1 : Hid (∀ x : World, BSent x aA aB aP → SSent x aS → Row x A m' (vs.map U32) → Calls Tryd.prog 13 #[.agg #[.int .i64 n, .slice A m' c'], .int .i64 a] x (GivesBits x c2 n2 u2)) := Lib.hid (fun x h1 h2 h3 => (sdrop_any A m' c' n a vs aA aB aP aS x ha h1 h2 h3 HF.out c2 hc2).mono fun _ _ h => gives_if hn2 hu2 h)
  have D2 : Hid (∀ x : World, Row x A m' (vs.map U32) → Calls Tryd.prog 14 #[.agg #[.int .i64 n, .slice A m' c'], .int .i64 a] x (GivesBits x c2 n2 u2)) := Lib.hid (fun x h3 => (rdrop_any A m' c' n a vs x ha h3 HF.out c2 hc2).mono fun _ _ h => gives_if hn2 hu2 h)
  have hf1 : Fits u1 ∧ u1.length ≤ 50 := by
    subst hu1
    split
    · exact ⟨fits_set HF.out _ _, by rw [length_setW]; exact hlv⟩
    · exact ⟨fits_nil, by simp⟩
  have hf2 : Fits u2 ∧ u2.length ≤ 50 := by
    subst hu2
    split
    · exact ⟨fits_set HF.out _ _, by rw [length_setW]; exact hlv⟩
    · exact ⟨fits_nil, by simp⟩
  have SM : Hid (∀ (k : Int) (us : List Nat) (C D : Option Addr) (q f r g : Nat) (x : World), Fits us → us.length ≤ 50 → Row x C q (us.map U32) → Row x D r (us.map U32) → Calls Tryd.prog 15 #[.agg #[.int .i64 k, .slice C q f], .agg #[.int .i64 k, .slice D r g]] x fun e w' => e = .returned (.bool true) ∧ Below x.heap.size x w') := Lib.hid (fun k us C D q f r g x h1 h2 h3 h4 => by
    have h := refsame_any C D k k q f r g us us x h3 h4 h1 h1 (by have := h3.1; simp at this; omega) (by have := h4.1; simp at this; omega)
    rw [show sameB k us k us = true by simp [sameB]] at h
    exact h)
  have F1 := Lib.hid hf1
  have F2 := Lib.hid hf2
  have HB := HB3
  clear HB3 hc1 hc2 hn1 hn2 hu1 hu2 hf1 hf2 hlv
  refine (P1.out W3 (HBS.out.ext HB.out) (HS.out.ext HB.out) (HR.out.ext HB.out)).mono ?_
  rintro e w4 ⟨B1, q1, g1, rfl, r1, hb_⟩
  replace k0 := cell_ext hb_ k0
  replace k1 := cell_ext hb_ k1
  replace HB := Lib.hid (below_le HB.out hb_)
  clear hb_
  have R1 := Lib.hid r1
  clear r1
  have hx_ := below_box w4 (.cells #[.int .i64 n1, .slice B1 q1 g1] 24)
  replace k0 := cell_ext hx_ k0
  replace k1 := cell_ext hx_ k1
  replace R1 := Lib.hid (R1.out.ext hx_)
  have s0 := box0 (w := w4) (t := 24) (v0 := .int .i64 n1) (v1 := .slice B1 q1 g1)
  have s1 := box1 (w := w4) (t := 24) (v0 := .int .i64 n1) (v1 := .slice B1 q1 g1)
  replace HB := Lib.hid (below_le HB.out hx_)
  clear hx_
  go_wp2_with fail
  generalize w4.alloc (.cells #[.int .i64 n1, .slice B1 q1 g1] 24) = W4 at *
  refine (P2.out W4 (HR.out.ext HB.out)).mono ?_
  rintro e w5 ⟨B2, q2, g2, rfl, r2, hb_⟩
  replace k0 := cell_ext hb_ k0
  replace k1 := cell_ext hb_ k1
  replace s0 := cell_ext hb_ s0
  replace s1 := cell_ext hb_ s1
  replace R1 := Lib.hid (R1.out.ext hb_)
  replace HB := Lib.hid (below_le HB.out hb_)
  clear hb_
  have R2 := Lib.hid r2
  clear r2
  have hx_ := below_box w5 (.cells #[.int .i64 n1, .slice B2 q2 g2] 24)
  replace k0 := cell_ext hx_ k0
  replace k1 := cell_ext hx_ k1
  replace s0 := cell_ext hx_ s0
  replace s1 := cell_ext hx_ s1
  replace R1 := Lib.hid (R1.out.ext hx_)
  replace R2 := Lib.hid (R2.out.ext hx_)
  have t0 := box0 (w := w5) (t := 24) (v0 := .int .i64 n1) (v1 := .slice B2 q2 g2)
  have t1 := box1 (w := w5) (t := 24) (v0 := .int .i64 n1) (v1 := .slice B2 q2 g2)
  replace HB := Lib.hid (below_le HB.out hx_)
  clear hx_
  go_wp2_with fail
  generalize w5.alloc (.cells #[.int .i64 n1, .slice B2 q2 g2] 24) = W5 at *
  refine (D1.out W5 (HBS.out.ext HB.out) (HS.out.ext HB.out) (HR.out.ext HB.out)).mono ?_
  rintro e w6 ⟨B3, q3, g3, rfl, r3, hb_⟩
  replace k0 := cell_ext hb_ k0
  replace k1 := cell_ext hb_ k1
  replace s0 := cell_ext hb_ s0
  replace s1 := cell_ext hb_ s1
  replace t0 := cell_ext hb_ t0
  replace t1 := cell_ext hb_ t1
  replace R1 := Lib.hid (R1.out.ext hb_)
  replace R2 := Lib.hid (R2.out.ext hb_)
  replace HB := Lib.hid (below_le HB.out hb_)
  clear hb_
  have R3 := Lib.hid r3
  clear r3
  have hx_ := below_box w6 (.cells #[.int .i64 n2, .slice B3 q3 g3] 24)
  replace k0 := cell_ext hx_ k0
  replace k1 := cell_ext hx_ k1
  replace s0 := cell_ext hx_ s0
  replace s1 := cell_ext hx_ s1
  replace t0 := cell_ext hx_ t0
  replace t1 := cell_ext hx_ t1
  replace R1 := Lib.hid (R1.out.ext hx_)
  replace R2 := Lib.hid (R2.out.ext hx_)
  replace R3 := Lib.hid (R3.out.ext hx_)
  have u0 := box0 (w := w6) (t := 24) (v0 := .int .i64 n2) (v1 := .slice B3 q3 g3)
  have u1 := box1 (w := w6) (t := 24) (v0 := .int .i64 n2) (v1 := .slice B3 q3 g3)
  replace HB := Lib.hid (below_le HB.out hx_)
  clear hx_
  go_wp2_with fail
  generalize w6.alloc (.cells #[.int .i64 n2, .slice B3 q3 g3] 24) = W6 at *
  refine (D2.out W6 (HR.out.ext HB.out)).mono ?_
  rintro e w7 ⟨B4, q4, g4, rfl, r4, hb_⟩
  replace k0 := cell_ext hb_ k0
  replace k1 := cell_ext hb_ k1
  replace s0 := cell_ext hb_ s0
  replace s1 := cell_ext hb_ s1
  replace t0 := cell_ext hb_ t0
  replace t1 := cell_ext hb_ t1
  replace u0 := cell_ext hb_ u0
  replace u1 := cell_ext hb_ u1
  replace R1 := Lib.hid (R1.out.ext hb_)
  replace R2 := Lib.hid (R2.out.ext hb_)
  replace R3 := Lib.hid (R3.out.ext hb_)
  replace HB := Lib.hid (below_le HB.out hb_)
  clear hb_
  have R4 := Lib.hid r4
  clear r4 P1 P2 D1 D2
  have hx_ := below_box w7 (.cells #[.int .i64 n2, .slice B4 q4 g4] 24)
  replace k0 := cell_ext hx_ k0
  replace k1 := cell_ext hx_ k1
  replace s0 := cell_ext hx_ s0
  replace s1 := cell_ext hx_ s1
  replace t0 := cell_ext hx_ t0
  replace t1 := cell_ext hx_ t1
  replace u0 := cell_ext hx_ u0
  replace u1 := cell_ext hx_ u1
  replace R1 := Lib.hid (R1.out.ext hx_)
  replace R2 := Lib.hid (R2.out.ext hx_)
  replace R3 := Lib.hid (R3.out.ext hx_)
  replace R4 := Lib.hid (R4.out.ext hx_)
  have v0 := box0 (w := w7) (t := 24) (v0 := .int .i64 n2) (v1 := .slice B4 q4 g4)
  have v1 := box1 (w := w7) (t := 24) (v0 := .int .i64 n2) (v1 := .slice B4 q4 g4)
  replace HB := Lib.hid (below_le HB.out hx_)
  clear hx_
  go_wp2_with fail
  generalize w7.alloc (.cells #[.int .i64 n2, .slice B4 q4 g4] 24) = W7 at *
  clear k0 k1
  refine (SM.out n1 _ B1 B2 q1 g1 q2 g2 W7 F1.out.1 F1.out.2 R1.out R2.out).mono ?_
  rintro e w8 ⟨rfl, hb_⟩
  replace u0 := cell_ext hb_ u0
  replace u1 := cell_ext hb_ u1
  replace v0 := cell_ext hb_ v0
  replace v1 := cell_ext hb_ v1
  replace R3 := Lib.hid (R3.out.ext hb_)
  replace R4 := Lib.hid (R4.out.ext hb_)
  replace HB := Lib.hid (below_le HB.out hb_)
  clear hb_
  clear s0 s1 t0 t1 R1 R2
  have e1 : ((c1 : Int) == (c1 : Int)) = true := by simp
  have e2 : ((c2 : Int) == (c2 : Int)) = true := by simp
  go_wp2_with fail
  refine (SM.out n2 _ B3 B4 q3 g3 q4 g4 w8 F2.out.1 F2.out.2 R3.out R4.out).mono ?_
  rintro e w9 ⟨rfl, hb_⟩
  replace HB := Lib.hid (below_le HB.out hb_)
  clear hb_
  go_wp2
  go_ret
  exact ⟨ret_bool (by simp), HB.out⟩

end Go.Proofs.YtelbddnjnapoeaaDoor
namespace Go.Proofs.YtelbddnjnapoeaaDoor
open Go.ChangeShapes Go.WideShapes Go.ChangeAt Go.RowKit

theorem own0 : ownKnob Tryd.prog.godebug = none := by kernel_rfl
theorem laidOut0 : laidOutB Tryd.prog = true := by kernel_rfl
theorem star0 : "*" ++ "errors.errorString" = "*errors.errorString" := by decide
theorem rowErr (u : TypeId) (h : Tryd.prog.typeName? 3 u = some "*errors.errorString") : u = 110 :=
  typeName_ptr_named (nm := "errors.errorString") (by rw [star0]; kernel_rfl) (by kernel_rfl) (by decide) u (by rw [star0]; exact h)
theorem gA0 : Tryd.prog.globalNamed "selion/bits.errArg" = some 0 := by kernel_rfl
theorem gB0 : Tryd.prog.globalNamed "selion/bits.errBits" = some 2 := by kernel_rfl
theorem gP0 : Tryd.prog.globalNamed "selion/bits.errPlace" = some 3 := by kernel_rfl
theorem gA1 : (Tryd.prog.globals[0]?).map (·.type) = some 57 := by kernel_rfl
theorem gB1 : (Tryd.prog.globals[2]?).map (·.type) = some 57 := by kernel_rfl
theorem gP1 : (Tryd.prog.globals[3]?).map (·.type) = some 57 := by kernel_rfl

theorem under_err : ∃ te f, Tryd.prog.underlying 110 = some (.pointer te) ∧ Tryd.prog.underlying te = some (.struct #[f]) ∧ f.type = 9 ∧ f.offset = 0 ∧ Tryd.prog.cellsOf te = 1 :=
  ⟨_, _, Tryd.underlying110, Tryd.underlying131, rfl, rfl, by kernel_rfl⟩
theorem under_iface : ∃ ms, Tryd.prog.underlying 57 = some (.interface ms) := ⟨_, Tryd.underlying57⟩
theorem cells_str : Tryd.prog.cellsOf 9 = 1 := by kernel_rfl

theorem var_inj {W : World} {n : String} {t : TypeId} {a b : Addr} (h : W.var? Tryd.prog n = some #[.iface t (.pointer (some a))]) (k : W.var? Tryd.prog n = some #[.iface t (.pointer (some b))]) : a = b := by
  rw [h] at k
  simpa using k

theorem gQ0 : Tryd.prog.globalNamed "selion/starts.errPlace" = some 1 := by kernel_rfl
theorem gQ1 : (Tryd.prog.globals[1]?).map (·.type) = some 57 := by kernel_rfl
theorem gT0 : Tryd.prog.globalNamed "errors.errorType" = some 4 := by kernel_rfl
theorem rt0 : (Tryd.prog.cutTypes.find? (·.1 == "internal/reflectlite.rtype")).map (·.2) = some 96 := by kernel_rfl
theorem oneRow0 : ((List.range Tryd.prog.types.size).filter fun t => Tryd.prog.rowNamed t [101, 114, 114, 111, 114]) = [57] := by kernel_rfl
theorem hnd0 : typeHandle Tryd.prog 57 = hnd 57 := by kernel_rfl

/-- What the condition gives of errors' own variable: the handle of the type error. -/
theorem handle0 {W : World} (h : laidMetH Tryd.prog Rows.startsBackRow.laid W) : W.cell? ⟨4, 0, none⟩ = some (rty 57) := by
  have h1 := h.filter (fun x => x.1 == "errors.errorType")
  have h' : laidMet Tryd.prog [] W ∧ handlesMet Tryd.prog [("errors.errorType", Rows.laid_errors_errorType)] W := h1
  obtain ⟨name, u, ty, e1, e2, e3, e4, e5⟩ := h'.2 _ (List.mem_singleton.2 rfl)
  have en : name = [101, 114, 114, 111, 114] := (Option.some.inj e1).symm
  subst en
  obtain rfl := Option.some.inj (rt0.symm.trans e2)
  have hm : ty ∈ (List.range Tryd.prog.types.size).filter fun t => Tryd.prog.rowNamed t [101, 114, 114, 111, 114] := List.mem_filter.2 ⟨List.mem_range.2 e3, e4⟩
  rw [oneRow0] at hm
  obtain rfl := List.mem_singleton.1 hm
  rw [hnd0] at e5
  simpa using World.var?_cell gT0 e5 0

/-- WHAT THE ROW's LIST GIVES: the sentinels, each one's own, and the handle. -/
theorem sents {W : World} (h : laidMetH Tryd.prog Rows.startsBackRow.laid W) : ∃ aA aB aP aS, BSent W aA aB aP ∧ SSent W aS := by
  have h' : laidMet Tryd.prog [("selion/bits.errArg", Rows.laid_selion_bits_errArg), ("selion/bits.errBits", Rows.laid_selion_bits_errBits), ("selion/bits.errPlace", Rows.laid_selion_bits_errPlace), ("selion/starts.errPlace", Rows.laid_selion_starts_errPlace)] W := by
    have := h.filter (fun x => x.1 != "errors.errorType")
    rw [MakeChecks.laidMetH_plain _ _ _ (by kernel_rfl)] at this
    exact this
  have h'' : laidMet Tryd.prog [("selion/bits.errArg", Rows.laid_selion_bits_errArg), ("selion/bits.errPlace", Rows.laid_selion_bits_errPlace)] W := by
    have := h.filter (fun x => x.1 == "selion/bits.errArg" || x.1 == "selion/bits.errPlace")
    rw [MakeChecks.laidMetH_plain _ _ _ (by kernel_rfl)] at this
    exact this
  obtain ⟨te, f, hp, he, hft, hfo, hc⟩ := under_err
  obtain ⟨ms, hi⟩ := under_iface
  obtain ⟨a0, a1, _, _, c0, c1, t0, t1, v0, v1, _, _, _, _, _, _, n01, b0, b1⟩ := laid_sentinels2 h' gA0 gA1 gB0 gB1 hi rowErr hp he hft hfo Tryd.underlying9 hc cells_str
  obtain ⟨a1', a2, _, _, _, c2, _, t2, v1', v2, _, _, _, _, _, _, n12, _, b2⟩ := laid_sentinels2 h'.tail gB0 gB1 gP0 gP1 hi rowErr hp he hft hfo Tryd.underlying9 hc cells_str
  obtain ⟨a0', a2', _, _, _, _, _, _, v0', v2', _, _, _, _, _, _, n02, _, _⟩ := laid_sentinels2 h'' gA0 gA1 gP0 gP1 hi rowErr hp he hft hfo Tryd.underlying9 hc cells_str
  obtain ⟨_, a3, _, _, _, c3, _, t3, _, v3, _, _, _, _, _, _, _, _, b3⟩ := laid_sentinels2 h'.tail.tail gP0 gP1 gQ0 gQ1 hi rowErr hp he hft hfo Tryd.underlying9 hc cells_str
  obtain rfl := var_inj v0 v0'
  obtain rfl := var_inj v1 v1'
  obtain rfl := var_inj v2 v2'
  exact ⟨a0, a1, a2, a3, ⟨⟨by simpa using World.var?_cell gA0 v0 0, c0, t0, b0⟩, ⟨by simpa using World.var?_cell gB0 v1 0, c1, t1, b1⟩, ⟨by simpa using World.var?_cell gP0 v2 0, c2, t2, b2⟩, n01, n02, n12⟩,
    ⟨⟨by simpa using World.var?_cell gQ0 v3 0, c3, t3, b3⟩, handle0 h⟩⟩

section
variable {H : Type} {enc : TypeId × Value → H} {P : Program}
theorem trodAll_stays (hl : laidOutB P = true) {W W' : World} (hb : Below W.heap.size W W') (sp : Nat → Bool) : ∀ (ts : List TypeId) (vs : List Value) (ds : List (DataW H)) (ps : List MemPlace),
    (ts.all fun t => P.readableRec t && decide (t < P.types.size)) = true → DataW.TrodAll enc P W 0 (fun _ => true) true ts vs ds ps → (∀ x ∈ ps, x.block < W.heap.size) → (∀ x ∈ ps, sp x.block = true) → DataW.TrodAll enc P W' 0 sp true ts vs ds ps
  | [], vs, ds, ps, _, h, _, _ => by
    obtain ⟨rfl, rfl, rfl⟩ := trodAll_nil h
    exact trodAll_mk0
  | t :: ts, vs, ds, ps, hr, h, hlt, hsp => by
    simp only [List.all_cons, Bool.and_eq_true, decide_eq_true_eq] at hr
    obtain ⟨v, vs', d, ds', p, q, rfl, rfl, rfl, h1, h2⟩ := trodAll_cons h
    exact trodAll_cons_mk (WideElems.Trod_stays hl hr.1.1 hr.1.2 h1 (fun x hx => hb.same (hlt x (List.mem_append_left _ hx))) (fun x hx => hsp x (List.mem_append_left _ hx)))
      (trodAll_stays hl hb sp ts vs' ds' q hr.2 h2 (fun x hx => hlt x (List.mem_append_right _ hx)) (fun x hx => hsp x (List.mem_append_right _ hx)))

theorem post_below {f : Func} {s : ChangeSpec} {apart fresh handsOn again : Bool} {W W' : World} {args : Array Value} {v : Value} {ds gs : List (DataW H)} {before pa pv : List MemPlace}
    (hW : DataW.Whole enc P f.params.toList s.vars apart W args.toList ds gs before)
    (hres : ∀ (b : Nat) (sp : Nat → Bool) (hd : Bool), DataW.TrodAll enc P W' b sp hd f.resultTypes.toList (v.resultList f.resultTypes.size) (s.fn H (ds ++ gs)).results [])
    (hargs : ∀ sp : Nat → Bool, (∀ p ∈ before, sp p.block = true) → DataW.TrodAll enc P W' 0 sp true f.params.toList args.toList (s.fn H (ds ++ gs)).args pa)
    (hvars : ∀ sp : Nat → Bool, (∀ p ∈ before, sp p.block = true) → DataW.TrodVars enc P W' sp s.vars (s.fn H (ds ++ gs)).vars pv)
    (hps : before = pa ++ pv) (hb : Below W.heap.size W W')
    (hok : ∀ (j : Nat) (t : TypeId) (r : Value), f.resultTypes[j]? = some t → (v.resultList f.resultTypes.size)[j]? = some r → Value.okWide P W' .any 0 t r) :
    s.post enc P f apart fresh handsOn again W args v W' := by
  have hlt : ∀ p ∈ before, p.block < W.heap.size := fun p hp => hW.lt p hp
  have hold : ∀ p ∈ before, (fun b => decide (b < W.heap.size)) p.block = true := fun p hp => by simpa using hlt p hp
  refine ⟨ds, gs, before, [], pa, pv, hW, hres _ _ _, hargs _ hold, hvars _ hold, World.keptBut_mono (fun p hp => ⟨hp, ?_⟩) (hb.frame (· ∈ before)), fun _ => ?_⟩
  · rw [hps, List.mem_append] at hp
    exact Or.inr hp
  · obtain ⟨_, _, _, _, _, hz, hn⟩ := hW
    refine ⟨hok, _, _, ([] ++ pa) ++ pv, ⟨[] ++ pa, pv, trodAll_append (hargs _ (fun _ _ => rfl)) (hres _ _ _), hvars _ (fun _ _ => rfl), rfl, ?_, ?_⟩, ?_⟩
    · intro b off hp
      have hin : MemPlace.cell b off ∈ before := by rw [hps]; simpa using hp
      rw [hb.frozen (hlt _ hin)]
      exact hz b off hin
    · intro ha
      have := hn ha
      rw [hps] at this
      simpa using this
    · intro p hp _
      rw [hps]
      simpa using hp

/-- THE ROW's LAST STEP, where the law returned true and what was stays. -/
theorem post_true {f : Func} {s : ChangeSpec} (hl : laidOutB P = true) {tb : TypeId} (htb : P.underlying tb = some .bool) (hrt : f.resultTypes = #[tb]) (hvs : s.vars = []) (hr : (f.params.toList.all fun t => P.readableRec t && decide (t < P.types.size)) = true)
    {W W' : World} {args : Array Value} {ds gs : List (DataW H)} {before : List MemPlace}
    (hW : DataW.Whole enc P f.params.toList s.vars false W args.toList ds gs before) (hfn : s.fn H (ds ++ gs) = { results := [.lit (.bool true)], args := ds }) (hb : Below W.heap.size W W') :
    s.post enc P f false true false false W args (.bool true) W' := by
  have hW' := hW
  have hlt : ∀ p ∈ before, p.block < W.heap.size := fun p hp => hW.lt p hp
  obtain ⟨p, q, hA, hV, rfl, hfz, hnd⟩ := hW
  rw [hvs] at hV
  obtain ⟨rfl, rfl⟩ := trodVars_none hV
  simp only [List.append_nil] at hlt hW' hfn
  refine post_below (pa := p) (pv := []) hW' (fun b sp hd => ?_) (fun sp hsp => ?_) (fun sp _ => ?_) (by simp) hb (ok_one hrt rfl (okWide_bool_mk htb _))
  · rw [List.append_nil, hfn, hrt]
    exact trodAll_cons_mk (shut_bool htb _) trodAll_mk0
  · rw [List.append_nil, hfn]
    exact trodAll_stays hl hb sp _ _ _ _ hr hA (fun x hx => hlt x hx) (fun x hx => hsp x hx)
  · rw [List.append_nil, hfn, hvs]
    rfl
end

set_option maxRecDepth 100000 in
/-- A struct of bits, opened. -/
theorem open_bits {H : Type} {enc : TypeId × Value → H} {W : World} {b : Nat} {v : Value} {d : DataW H} {p : List MemPlace} (hv : Value.okWide Tryd.prog W .any b 24 v) (h : DataW.Trod enc Tryd.prog W 0 (fun _ => true) true 24 v d p) :
    ∃ (n : Int) (A : Option Addr) (m c : Nat) (ws : List Nat), v = .agg #[.int .i64 n, .slice A m c] ∧ Row W A m (ws.map U32) ∧ Fits ws ∧ m ≤ c := by
  obtain ⟨v0, v1, y0, y1, k, rfl, _, _, h0, h1⟩ := Joins.open_agg2 Tryd.underlying24 (by kernel_rfl) (by kernel_rfl) hv h
  obtain ⟨n, hn, _, _⟩ := DataW.trod_int Tryd.underlying3 h0
  obtain rfl : v0 = .int .i64 n := by simpa using hn
  rcases open_ints Tryd.underlying22 Tryd.underlying48 (by kernel_rfl) h1 with ⟨hs, _⟩ | ⟨a, len, cap, zs, hs, _, hl, _, hz, _, hc, hw⟩
  · obtain rfl : v1 = .slice none 0 0 := by simpa using hs
    exact ⟨n, none, 0, 0, [], rfl, Row.none_, by simp [Fits], Nat.le_refl _⟩
  · obtain rfl : v1 = .slice (some a) len cap := by simpa using hs
    rw [if_pos rfl] at hz
    have hz0 : ∀ z ∈ zs, 0 ≤ z ∧ z < 4294967296 := fun z hz => by
      have := bounds_u32 (hw z hz)
      omega
    refine ⟨n, some a, len, cap, (zs.take len).map Int.toNat, rfl, ⟨by simp; omega, fun hp => ?_⟩, fun x hx => ?_, hl⟩
    · have hs0 : a.spot = none := by simpa [Addr.add] using World.cell?_spot (hc 0 (by omega))
      obtain ⟨b, off, spot⟩ := a
      obtain rfl : spot = none := hs0
      refine ⟨b, off, rfl, fun j u hu => ?_⟩
      have hj : j < len := by
        have := (List.getElem?_eq_some_iff.1 hu).1
        simp at this
        omega
      have hjz : j < zs.length := by omega
      have h2 := hc j hjz
      have hzj := hz0 zs[j] (List.getElem_mem _)
      simp [hj, hjz] at hu
      have e : (⟨b, off, none⟩ : Addr).add j = ⟨b, off + j, none⟩ := by
        unfold Addr.add
        by_cases h : j = 0 <;> simp [h]
      rw [e] at h2
      simp [hjz] at h2
      rw [h2, ← hu, U32, Int.toNat_of_nonneg hzj.1]
    · obtain ⟨z, hzm, rfl⟩ := List.mem_map.1 hx
      have := hz0 z (List.mem_of_mem_take hzm)
      omega

/-- THE DOOR's OWN HEAP MEETS THE CONDITION. -/
theorem door_met (os : Os) (args : Array Value) : laidMetH Tryd.prog Rows.startsBackRow.laid ((World.doorLaid Tryd.prog 200 os).forCall (fun _ _ => 0) ⟨#[], args, []⟩).memory :=
  laidMetH_of_parts3 (fuel := 8) (laidMet_of_run' 8 (by kernel_rfl) (by kernel_rfl)) (by kernel_rfl) (by kernel_rfl)

end Go.Proofs.YtelbddnjnapoeaaDoor
namespace Go.Proofs.YtelbddnjnapoeaaDoor.StartsTurns
open Go.ChangeShapes Go.WideShapes Go.ChangeAt Go.RowKit

set_option maxRecDepth 100000 in
theorem contract (H : Type) (enc : TypeId × Value → H) (W : World) (base : Nat) (args : Array Value) (ds gs : List (DataW H)) (before : List MemPlace)
    (hval : ∀ (j : Nat) t v, Tryd.f3.params[j]? = some t → args[j]? = some v → Value.okWide Tryd.prog W .any base t v)
    (hW : DataW.Whole enc Tryd.prog Tryd.f3.params.toList Rows.startsTurnsSpec.vars false W args.toList ds gs before) (hL : laidMetH Tryd.prog Rows.startsTurnsRow.laid W) :
    Calls Tryd.prog 3 args W fun e W' => ∃ v, e = .returned v ∧ Rows.startsTurnsSpec.post enc Tryd.prog Tryd.f3 false true false false W args v W' := by
  have hW' := hW
  obtain ⟨p, q, hA0, hV, rfl, hfz, hnd⟩ := hW
  have hA : DataW.TrodAll enc Tryd.prog W 0 (fun _ => true) true Tryd.f3.params.toList args.toList ds p := hA0
  rw [Tryd.params3] at hA hval
  obtain ⟨v0, vs0, d0, ds0, p0, q0, hargs, rfl, rfl, h0, r0⟩ := trodAll_cons hA
  obtain ⟨v1, vs1, d1, ds1, p1, q1, rfl, rfl, rfl, h1, r1⟩ := trodAll_cons r0
  obtain ⟨rfl, rfl, rfl⟩ := trodAll_nil r1
  obtain rfl : args = #[v0, v1] := by cases args; simp_all
  obtain ⟨rfl, rfl⟩ := trodVars_none hV
  obtain ⟨n0, A0, m0, c0, w0, rfl, hR0, hF0, hc0⟩ := open_bits (hval 0 _ v0 rfl rfl) h0
  obtain ⟨i1, rfl, rfl, rfl, b1⟩ := open_int Tryd.underlying3 (hval 1 _ v1 rfl rfl) h1
  obtain ⟨aA, aB, aP, aS, hB, hS⟩ := sents hL
  refine (startsTurns_any A0 m0 c0 n0 w0 i1 aA aB aP aS W hB hS hR0 hF0 hc0 (bounds_i64 b1).2).mono fun e W' ⟨he, hb⟩ => ?_
  subst he
  exact ⟨_, rfl, post_true laidOut0 Tryd.underlying4 (by kernel_rfl) rfl (by kernel_rfl) hW' rfl hb⟩

noncomputable def wArgs : Array Value := #[.agg #[.int .i64 0, .slice none 0 0], .int .i64 0]

theorem reads (os : Os) {H : Type} (enc : TypeId × Value → H) : ∃ places, DataW.whole enc Tryd.prog ((World.doorLaid Tryd.prog 200 os).forCall (fun _ _ => 0) ⟨#[], wArgs, []⟩).memory Tryd.f3.params.toList Rows.startsTurnsSpec.vars false wArgs.toList 8 = some ([.agg [.lit (.int .i64 0), .nil], .lit (.int .i64 0)], [], places) :=
  ⟨[], by kernel_rfl⟩

set_option maxRecDepth 100000 in
theorem lifted (os : Os) (started : os.Started) (H : Type) (enc : TypeId × Value → H) (F : Stop.Interp) :
    ReturnsInHanded {} Tryd.checked os 3 .any ((OpenSpec.ofChange Rows.startsTurnsSpec).preRow enc Tryd.prog Tryd.f3 Rows.startsTurnsRow.domain false Rows.startsTurnsRow.laid) (((OpenSpec.ofChange Rows.startsTurnsSpec).at F).post enc Tryd.prog Tryd.f3 false true false false) := by
  obtain ⟨places, hx⟩ := reads os enc
  refine returnsInHanded_of_row (C := Tryd.checked) (s := OpenSpec.ofChange Rows.startsTurnsSpec) own0 started (by kernel_rfl) Tryd.func3
    (witness_row_atRef (enc := enc) (C := Tryd.checked) false (World.doorLaid Tryd.prog 200 os) wArgs rfl (by kernel_rfl) (by kernel_rfl) (by kernel_rfl)
      (OpenSpec.preRow_of_cond 8 hx (by kernel_rfl) (fun k hk => by cases hk) (by kernel_rfl) (door_met os _))) ?_
  intro W base args ds gs before hval hW _ _ _ hL _ _
  exact contract H enc W base args ds gs before hval hW hL

theorem said : Rows.StartsTurnsSaid :=
  OpenClaim.holds_of_cond 3 Tryd.f3 rfl rfl rfl rfl rfl rfl rfl ⟨rfl, rfl, rfl, rfl, rfl⟩ rfl rfl rfl rfl rfl (by kernel_rfl) Tryd.func3 (by kernel_rfl)
    (of_decide_eq_true (by kernel_rfl)) (by unfold Func.isWrapper; first | (rw [if_pos (by decide +kernel)]; kernel_rfl) | (rw [if_neg (by decide +kernel)]; exact ⟨rfl, rfl⟩))
    (fun os started H enc _ F => by rw [OpenClaim.pre_eq_preRow]; exact lifted os started H enc F)

theorem plain (f : FuncId) (fn : Func) (hf : Tryd.pinned.checked.prog.funcNamed "selion/selionlaw13.StartsTurns" = some f) (hfn : Tryd.pinned.checked.prog.funcs[f]? = some fn) :
    true = Tryd.pinned.checked.prog.looks [] ∧ ∀ (j : Nat) t, fn.params[j]? = some t → Tryd.pinned.checked.prog.wantsStandIn t = false := by
  obtain rfl : f = 3 := Option.some.inj ((show Tryd.prog.funcNamed "selion/selionlaw13.StartsTurns" = some 3 by kernel_rfl).symm.trans hf) |>.symm
  obtain rfl : fn = Tryd.f3 := (Option.some.inj (Tryd.func3.symm.trans hfn)).symm
  refine ⟨by kernel_rfl, fun j t ht => ?_⟩
  have h : (Tryd.f3.params.toList.all fun t => !Tryd.prog.wantsStandIn t) = true := by kernel_rfl
  have := List.all_eq_true.1 h t (by simpa using Array.mem_of_getElem? ht)
  show Tryd.prog.wantsStandIn t = false
  simpa using this

/-- THE CARD. -/
theorem card : Rows.StartsTurnsCardSaid :=
  Claim7.holds_tied_plain_at .later [] _ _ _ _ said (fun _ h => by cases h) (by kernel_rfl) (fun _ h => by cases h) startsTurns_row_tie rfl ⟨rfl, rfl⟩ (by kernel_rfl) rfl plain (by kernel_rfl)
end Go.Proofs.YtelbddnjnapoeaaDoor.StartsTurns
