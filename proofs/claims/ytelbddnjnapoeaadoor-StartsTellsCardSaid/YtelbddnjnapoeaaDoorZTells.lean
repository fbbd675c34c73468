/-
  What is proved: the contract of package starts' Before. No condition beyond those stated. the contracts of Cut and shown of the laws. No condition beyond those stated. the frame that all rows of this layer share: what the list of variables gives, how a list of words is opened, and the row's last step. No condition beyond those stated. StartsAll returns true. No condition beyond those stated. plain facts of starts' lists; StartsBefore returns true. No condition beyond those stated. append of one new element onto a list of the call's own. No condition beyond those stated. contracts of the reference's All, In and Before of starts. No condition beyond those stated. StartsTells returns true. No condition beyond those stated. the row of StartsTells, and its tied card: whatever the input, true; the input reads as it did. No condition beyond the statement's own.
-/
import Derived.Test.YtelbddnjnapoeaaDoorDq
import Derived.Test.YtelbddnjnapoeaaDoorLa
import Derived.Test.YtelbddnjnapoeaaDoorLb
import Derived.Test.YtelbddnjnapoeaaDoorCards
import Derived.Test.YtelbddnjnapoeaaDoorTie
import Derived.ProofKit
import Derived.OpenShut
import Derived.Below
import Derived.ChangeSame
import Derived.WideKeyArgs
import Derived.LaidMore
import Derived.LaidHandle
import Derived.MakeChecks
import Derived.Stop.Joined
import Derived.Stop.LaidErr
import Derived.Stop.LaidTwo
import Derived.Lib.SmallJoins
import Derived.Deep.DeepHandedRow
import Derived.Deep.DeepWitnessRowRef
import Derived.Test.YtelbddnjnapoeaaDoorApp
import Derived.Test.YtelbddnjnapoeaaDoorEc
import Derived.Test.YtelbddnjnapoeaaDoorRa
import Derived.Deep.RegionWith
namespace Go.Proofs.YtelbddnjnapoeaaDoor
open Go.RowKit Go.Shelf
attribute [local go_sem] Oper.semAt_some

/-- Those up to an address. -/
def upTo (L : List Int) (a : Int) : List Int := L.takeWhile fun x => decide (x ≤ a)
/-- The last one, and whether there is one. -/
def GivesBef (w : World) (l : List Int) (e : Ending) (w' : World) : Prop := e = .returned (.tuple #[.int .i64 (l.getLastD 0), .bool (!l.isEmpty)]) ∧ Below w.heap.size w w'

theorem upTo_cons (x : Int) (L : List Int) (a : Int) : upTo (x :: L) a = if x ≤ a then x :: upTo L a else [] := by
  unfold upTo
  rw [List.takeWhile_cons]
  by_cases h : x ≤ a <;> simp [h]
theorem upTo_all {L : List Int} {a : Int} (h : ∀ x ∈ L, x ≤ a) : upTo L a = L := by
  induction L with
  | nil => rfl
  | cons x L ih => rw [upTo_cons, if_pos (h x (by simp)), ih fun y hy => h y (by simp [hy])]
theorem upTo_cut {pr rest : List Int} {x a : Int} (h : ∀ y ∈ pr, y ≤ a) (hx : a < x) : upTo (pr ++ [x] ++ rest) a = pr := by
  induction pr with
  | nil => rw [List.nil_append, List.singleton_append, upTo_cons, if_neg (by omega)]
  | cons y pr ih =>
    rw [List.cons_append, List.cons_append, upTo_cons, if_pos (h y (by simp)), ih fun z hz => h z (by simp [hz])]

theorem snoc_ne (l : List Int) (x : Int) : (l ++ [x]).isEmpty = false := by cases l <;> rfl

def befW0 (w : World) (n : Int) (A : Option Addr) (m c : Nat) (a : Int) : World :=
  (((w.alloc (.cells #[.int .i64 n, .slice A m c] 24)).alloc (.cells #[.int .i64 a] 3)).alloc (.cells #[.int .i64 0] 3)).alloc (.cells #[.bool false] 4)

def BefI (w W1 : World) (L : List Int) (a : Int) (pre : List (Fin L.length)) (W' : World) : Prop :=
  W1.heap.size ≤ W'.heap.size ∧ Below w.heap.size w W' ∧ W'.cell? ⟨w.heap.size + 1, 0, none⟩ = some (.int .i64 a) ∧ (∀ x ∈ cameE L pre, x ≤ a) ∧
    Blk W' (w.heap.size + 1 + 1) 3 #[.int .i64 ((cameE L pre).getLastD 0)] ∧ Blk W' (w.heap.size + 1 + 1 + 1) 4 #[.bool (!(cameE L pre).isEmpty)]
def BefX (w W1 : World) (L : List Int) (a : Int) (c : Code) (pre : List (Fin L.length)) (W' : World) : Prop :=
  W1.heap.size ≤ W'.heap.size ∧ c = .exit 0 ∧ Below w.heap.size w W' ∧ ∃ pr x, cameE L pre = pr ++ [x] ∧ (∀ y ∈ pr, y ≤ a) ∧ a < x ∧
    Blk W' (w.heap.size + 1 + 1) 3 #[.int .i64 (pr.getLastD 0)] ∧ Blk W' (w.heap.size + 1 + 1 + 1) 4 #[.bool (!pr.isEmpty)]
theorem BefI.low {w W1 X Y : World} {L : List Int} {a : Int} {pre : List (Fin L.length)} (h : BefI w W1 L a pre X) (hb : Below W1.heap.size X Y) (hw : w.heap.size + 4 ≤ W1.heap.size) : BefI w W1 L a pre Y :=
  ⟨Nat.le_trans h.1 hb.size, h.2.1.trans (hb.mono (by omega)), cell_low h.2.2.1 hb (by show w.heap.size + 1 < _; omega), h.2.2.2.1, h.2.2.2.2.1.below hb (by omega), h.2.2.2.2.2.below hb (by omega)⟩
theorem BefX.low {w W1 X Y : World} {L : List Int} {a : Int} {c : Code} {pre : List (Fin L.length)} (h : BefX w W1 L a c pre X) (hb : Below W1.heap.size X Y) (hw : w.heap.size + 4 ≤ W1.heap.size) : BefX w W1 L a c pre Y := by
  obtain ⟨h1, h2, h3, pr, x, h4, h5, h6, h7, h8⟩ := h
  exact ⟨Nat.le_trans h1 hb.size, h2, h3.trans (hb.mono (by omega)), pr, x, h4, h5, h6, h7.below hb (by omega), h8.below hb (by omega)⟩

def befF (w : World) (n : Int) (A : Option Addr) (m c : Nat) (r : Bool) (a : Int) (bb : Nat) (x : Int) : Act :=
  { tmps := #[.agg #[.int .i64 n, .slice A m c], .int .i64 a, .pointer (some ⟨w.heap.size, 0, none⟩), .pointer (some ⟨w.heap.size + 1, 0, none⟩), .int .i64 0, .bool false, .pointer (some ⟨w.heap.size + 1 + 1, 0, none⟩), .pointer (some ⟨w.heap.size + 1 + 1 + 1, 0, none⟩), .int .i64 x,
      .agg #[.int .i64 n, .slice A m c], startsV n A m c r, .func (.func 53) #[] #[.pointer (some ⟨bb, 0, none⟩), .pointer (some ⟨bb + 1, 0, none⟩)], .int .i64 x, undef, undef, undef, undef, undef, undef], defers := [] }

set_option maxRecDepth 100000 in
set_option maxHeartbeats 2000000 in
/-- starts.Before. -/
theorem sbefore_any (A : Option Addr) (m c : Nat) (n : Int) (ws : List Nat) (a : Int) (w : World) (hR : Row w A m (ws.map U32)) (hF : Fits ws) :
    Calls Tryd.prog 18 #[.agg #[.int .i64 n, .slice A m c], .int .i64 a] w (GivesBef w (upTo (allL n ws) a)) := by
  have hb0 : Below w.heap.size w (befW0 w n A m c a) := below_le (below_le (below_le (below_box _ _) (below_box _ _)) (below_box _ _)) (below_box _ _)
  have hsz : (befW0 w n A m c a).heap.size = w.heap.size + 4 := by simp [befW0]
  have hc0 : Blk (befW0 w n A m c a) w.heap.size 24 #[.int .i64 n, .slice A m c] := Blk.alloc (Blk.alloc (Blk.alloc (heap_new rfl _) _) _) _
  have hc1 : Blk (befW0 w n A m c a) (w.heap.size + 1) 3 #[.int .i64 a] := Blk.alloc (Blk.alloc (heap_new (by simp) _) _) _
  have hc2 : Blk (befW0 w n A m c a) (w.heap.size + 1 + 1) 3 #[.int .i64 0] := Blk.alloc (heap_new (by simp) _) _
  have hc3 : Blk (befW0 w n A m c a) (w.heap.size + 1 + 1 + 1) 4 #[.bool false] := heap_new (by simp) _
  have k0 := hc0.cell 0
  have k1 := hc0.cell 1
  simp at k0 k1
  have hcount := eachL_le n ws (asksB [])
  obtain ⟨L, hLL⟩ : ∃ L, eachL n ws (asksB []) = L := ⟨_, rfl⟩
  have hLL' : allL n ws = L := hLL
  rw [hLL'] at *
  rw [hLL] at hcount
  have HR := Lib.hid (hR.ext hb0)
  have HB := Lib.hid hb0
  have HC1 := Lib.hid hc1
  have HC2 := Lib.hid hc2
  have HC3 := Lib.hid hc3
  clear hR hb0 hc0 hc1 hc2 hc3
  refine (callsIn_wide (n := 3)).1 ?_
  refine callsIn_of_wp_marks Tryd.func18 rfl trivial ?_ rfl
  simp only [Tryd.ntmps18, List.size_toArray, List.length_cons, List.length_nil, Nat.reduceAdd, Nat.reduceSub, Array.replicate_succ, Array.replicate_zero, List.push_toArray, List.append_toArray, List.nil_append, List.cons_append]
  gi_wp2_with fail
  refine wpIn_scope_ahead 0 (fun _ _ => False) rfl ?_ (fun _ _ h => h.elim)
  gi_wp2_with fail
  change Code.wpIn _ _ _ _ _ _ (befW0 w n A m c a)
  generalize befW0 w n A m c a = W0 at *
  refine wpIn_label ?_
  gi_wp2_with fail
  refine ⟨trivial, (callsIn_wide.2 (look_any A m c n ws W0 HR.out hF)).mono ?_⟩
  rintro e w1 ⟨rfl, hb1⟩
  have HB1 := Lib.hid hb1
  clear hb1 k0 k1
  gi_wp2_with fail
  refine ⟨trivial, (callsIn_wide.2 (each_any A m c n (sRight n ws) none 0 0 w1)).mono ?_⟩
  rintro e w' ⟨rfl, rfl⟩
  have hb2 : Below w1.heap.size w1 (eachW w1 n A m c (sRight n ws) none 0 0) := below_le (below_box _ _) (below_box _ _)
  have hz : (eachW w1 n A m c (sRight n ws) none 0 0).heap.size = w1.heap.size + 2 := by simp [eachW]
  have e0 : (eachW w1 n A m c (sRight n ws) none 0 0).cell? ⟨w1.heap.size, 0, none⟩ = some (.int .i64 n) := by simp [go_sem, eachW]
  have e1 : (eachW w1 n A m c (sRight n ws) none 0 0).cell? ⟨w1.heap.size, 1, none⟩ = some (.slice A m c) := by simp [go_sem, eachW]
  have e2 : (eachW w1 n A m c (sRight n ws) none 0 0).cell? ⟨w1.heap.size, 2, none⟩ = some (.bool (sRight n ws)) := by simp [go_sem, eachW]
  have e3 : (eachW w1 n A m c (sRight n ws) none 0 0).cell? ⟨w1.heap.size + 1, 0, none⟩ = some (.slice none 0 0) := by simp [go_sem, eachW]
  have hb12 := below_le HB1.out hb2
  have hs1 := HB1.out.size
  have hR1 := HR.out.ext hb12
  have hc1 := HC1.out.ext hb12
  have hc2 := HC2.out.ext hb12
  have hc3 := HC3.out.ext hb12
  have hBW := below_le HB.out hb12
  generalize eachW w1 n A m c (sRight n ws) none 0 0 = W1 at *
  have hpt : ∀ b, ¬ Points (w.heap.size + 1 + 1) W1 b := fun b ⟨v, hv, hv'⟩ => by
    rw [hc2.cell 0] at hv
    simp at hv
    subst hv
    cases hv'
  have hE : EachAt W1 A m c n ws none 0 0 [] w1.heap.size (w1.heap.size + 1) [w.heap.size + 1 + 1, w.heap.size + 1 + 1 + 1] (w.heap.size + 1 + 1) :=
    ⟨e0, e1, e2, hR1, e3, Row.none_, (fun _ h => by cases h), ⟨by simp; omega, hpt _⟩, (fun _ e => by cases e), (fun _ h => by cases h), (fun b h => by simp at h; omega), fun b h => absurd h (hpt b), by omega⟩
  have hI0 : BefI w W1 L a [] W1 := ⟨Nat.le_refl _, hBW, by rw [hc1.cell 0]; rfl, (fun x hx => by cases hx), hc2, hc3⟩
  have hstops := each_stops (3 - 1) A m c n ws none 0 0 [] w1.heap.size (w1.heap.size + 1) [w.heap.size + 1 + 1, w.heap.size + 1 + 1 + 1] (w.heap.size + 1 + 1) W1 hF (by omega) hE _ hLL
  clear e0 e1 e2 e3 hR1 hpt hE hc1 hc2 hc3 HR HC1 HC2 HC3 hb2 hb12 hBW
  generalize sRight n ws = r at *
  gi_wp2_with fail
  refine wpIn_rangeFunc_ownG (F := Fence.wide) (n := 3) rfl (by omega) (gf := 53) (lb := #[.pointer (some ⟨w1.heap.size, 0, none⟩), .pointer (some ⟨w1.heap.size + 1, 0, none⟩)]) rfl trivial (enters_of Tryd.func53 (by kernel_rfl) rfl)
    hstops (fun h k => h.t k) (KeepS.b (by omega)) (Below.refl _ _) (fun _ => rfl)
    (BefI w W1 L a) (BefX w W1 L a)
    (ownFrom_low _ _ (fun _ _ h => h.1) (fun _ X Y h hb => h.low hb (by omega)))
    (fun c => ownFrom_low _ _ (fun _ _ h => h.1) (fun _ X Y h hb => h.low hb (by omega)))
    hI0
    (fun x' => befF w n A m c r a w1.heap.size L[x'.1]) ?assign ?body ?done ?stop
  case assign =>
    intro l x1 W' K hK
    gi_wp2
    exact hK
  case body =>
    rintro l pre x W' ⟨s1, s2, s3, s4, s5, s6⟩ hpre
    have hsn := cameE_snoc L pre x
    generalize L[x.1] = y at *
    have S2 := Lib.hid s2
    have S4 := Lib.hid s4
    have S5 := Lib.hid s5
    have S6 := Lib.hid s6
    have HSN := Lib.hid hsn
    have c5 := s5.cell 0
    have f5 := s5.frozen 0
    have c6 := s6.cell 0
    have f6 := s6.frozen 0
    simp at c5 c6
    clear s2 s4 s5 s6 hsn hI0 hstops
    simp only [befF, startsV]
    by_cases hy : y ≤ a
    · have hd : decide (y > a) = false := by simpa using hy
      have HY := Lib.hid hy
      clear hy
      gi_wp2
      have g2 := grown_set W' (w.heap.size + 1 + 1) 0 (.int .i64 y)
      have g3 := grown_set (W'.setCell ⟨w.heap.size + 1 + 1, 0, none⟩ (.int .i64 y)) (w.heap.size + 1 + 1 + 1) 0 (.bool true)
      have t5 := (S5.out.set_ 0 (.int .i64 y)).far (p := ⟨w.heap.size + 1 + 1 + 1, 0, none⟩) (by show w.heap.size + 1 + 1 ≠ _; simp) (.bool true)
      have t6 := (S6.out.far (p := ⟨w.heap.size + 1 + 1, 0, none⟩) (by show w.heap.size + 1 + 1 + 1 ≠ _; simp) (.int .i64 y)).set_ 0 (.bool true)
      have hblk : ∀ b, b < W'.heap.size → b ≠ w.heap.size + 1 + 1 → b ≠ w.heap.size + 1 + 1 + 1 → ((W'.setCell ⟨w.heap.size + 1 + 1, 0, none⟩ (.int .i64 y)).setCell ⟨w.heap.size + 1 + 1 + 1, 0, none⟩ (.bool true)).heap[b]? = W'.heap[b]? := fun b h1 h2 h3 =>
        (g3.block b (Nat.lt_of_lt_of_le h1 g2.size) (fun e => h3 (Option.some.inj e))).trans (g2.block b h1 (fun e => h2 (Option.some.inj e)))
      refine ⟨(KeepsFrom.of_grownBy g2 (fun j e => by cases e; show w.heap.size + 1 + 1 < _; omega)).trans (KeepsFrom.of_grownBy g3 (fun j e => by cases e; show w.heap.size + 1 + 1 + 1 < _; omega)), ⟨fun b o ho hoc hS hp => ?_, fun b hb hp => ?_, Nat.le_trans g2.size g3.size⟩, Nat.le_trans s1 (Nat.le_trans g2.size g3.size), ?_, ?_, ?_, ?_, ?_⟩
      · have hbl : b < W'.heap.size := (Array.getElem?_eq_some_iff.1 ho).1
        simp at hS
        exact (hblk b hbl (by omega) (by omega)).trans ho
      · obtain ⟨u, hu, hub⟩ := hp
        rw [t5.cell 0] at hu
        simp at hu
        subst hu
        cases hub
      · exact (S2.out.setCell (p := ⟨w.heap.size + 1 + 1, 0, none⟩) (by show w.heap.size ≤ w.heap.size + 1 + 1; omega) _).setCell (p := ⟨w.heap.size + 1 + 1 + 1, 0, none⟩) (by show w.heap.size ≤ w.heap.size + 1 + 1 + 1; omega) _
      · exact (World.cell?_of_block (w := W') (hblk (w.heap.size + 1) (by omega) (by omega) (by omega))).trans s3
      · rw [HSN.out]
        intro z hz
        rcases List.mem_append.1 hz with hz | hz
        · exact S4.out z hz
        · rw [List.mem_singleton.1 hz]; exact HY.out
      · rw [HSN.out]; simpa using t5
      · rw [HSN.out, snoc_ne]; exact t6
    · have hd : decide (y > a) = true := by simpa using hy
      have HY := Lib.hid hy
      clear hy
      gi_wp2
      exact ⟨KeepsFrom.refl _ _, s1, rfl, S2.out, _, y, HSN.out, S4.out, by have := HY.out; omega, S5.out, S6.out⟩
  case done =>
    rintro D ys W' hD rfl ⟨s1, s2, s3, s4, s5, s6⟩ hK
    rw [cameE_all] at s4 s5 s6
    have S2 := Lib.hid s2
    have S4 := Lib.hid s4
    have c5 := s5.cell 0
    have c6 := s6.cell 0
    simp at c5 c6
    have hu := upTo_all s4
    rw [show (L.getLast?.getD 0) = L.getLastD 0 by simp] at c5
    generalize hz1 : L.getLastD 0 = z at *
    generalize hz2 : L.isEmpty = z2 at *
    have HU := Lib.hid hu
    clear s2 s4 s5 s6 hI0 hstops S4 hu
    gi_wp2
    gi_region
    gi_wp2
    simp only [Exit.jump]
    have hK2 : W'.drew.heap[D]? = some (.deferred (some [])) := hK
    refine ⟨by simp, .inl ⟨_, _, rfl, run_takeDeferred hK2, ?_⟩⟩
    refine ⟨.tuple #[.int .i64 z, .bool !z2], by simp [results, Tryd.results18, go_sem], by rw [HU.out, hz1, hz2], ?_⟩
    exact S2.out.drew.trans (belowK_b (w := W1) (by omega) W'.drew D _ _ hD hK2 rfl rfl)
  case stop =>
    rintro D c pre W' hD ⟨j, hj, rfl⟩ ⟨s1, rfl, s2, pr, x, h4, h5, h6, h7, h8⟩ hK
    have c5 := h7.cell 0
    have c6 := h8.cell 0
    have hu : upTo L a = pr := by
      obtain ⟨rest, hrest⟩ := cameE_take L j
      rw [hrest, h4]
      exact upTo_cut h5 h6
    simp at c5 c6
    rw [show (pr.getLast?.getD 0) = pr.getLastD 0 by simp] at c5
    generalize hz1 : pr.getLastD 0 = z at *
    generalize hz2 : pr.isEmpty = z2 at *
    have HU := Lib.hid hu
    have S2 := Lib.hid s2
    clear s2 h7 h8 h4 h5 h6 hI0 hstops hu
    gi_wp2
    gi_region
    gi_wp2
    simp only [Exit.jump]
    have hK2 : W'.drew.heap[D]? = some (.deferred (some [])) := hK
    refine ⟨by simp, .inl ⟨_, _, rfl, run_takeDeferred hK2, ?_⟩⟩
    refine ⟨.tuple #[.int .i64 z, .bool !z2], by simp [results, Tryd.results18, go_sem], by rw [HU.out, hz1, hz2], ?_⟩
    exact S2.out.drew.trans (belowK_b (w := W1) (by omega) W'.drew D _ _ hD hK2 rfl rfl)

end Go.Proofs.YtelbddnjnapoeaaDoor
namespace Go.Proofs.YtelbddnjnapoeaaDoor
open Go.RowKit Go.Shelf

theorem srow_cut {w : World} {A : Option Addr} {m : Nat} {ws : List Nat} (h : Row w A m (ws.map U32)) : Row w A (min m 50) ((ws.take 50).map U32) := by
  have h1 := h.cut (min m 50) (Nat.min_le_left _ _)
  have hl := h.1
  simp at hl
  rw [← List.map_take, Nat.min_comm, ← List.take_take, List.take_of_length_le (l := ws) (by omega), Nat.min_comm] at h1
  exact h1

set_option maxRecDepth 100000 in
set_option maxHeartbeats 2000000 in
/-- Cut. -/
theorem scut_any (A : Option Addr) (m c : Nat) (n : Int) (w : World) (hc : m ≤ c) :
    Calls Tryd.prog 10 #[.agg #[.int .i64 n, .slice A m c]] w fun e w' => (∃ c', e = .returned (.agg #[.int .i64 n, .slice A (min m 50) c'])) ∧ Below w.heap.size w w' := by
  have hb0 : Below w.heap.size w ((w.alloc (.cells #[.int .i64 n, .slice A m c] 24)).alloc (.cells #[.int .i64 0, .slice none 0 0] 24)) := below_le (below_box _ _) (below_box _ _)
  have k0 : ((w.alloc (.cells #[.int .i64 n, .slice A m c] 24)).alloc (.cells #[.int .i64 0, .slice none 0 0] 24)).cell? ⟨w.heap.size, 0, none⟩ = some (.int .i64 n) := by simp [go_sem]
  have k1 : ((w.alloc (.cells #[.int .i64 n, .slice A m c] 24)).alloc (.cells #[.int .i64 0, .slice none 0 0] 24)).cell? ⟨w.heap.size, 1, none⟩ = some (.slice A m c) := by simp [go_sem]
  have hbl : Blk ((w.alloc (.cells #[.int .i64 n, .slice A m c] 24)).alloc (.cells #[.int .i64 0, .slice none 0 0] 24)) (w.heap.size + 1) 24 #[.int .i64 0, .slice none 0 0] := heap_new (by simp) _
  have HB0 := Lib.hid hb0
  have HBL := Lib.hid hbl
  clear hb0 hbl
  go_enter Tryd.func10, Tryd.ntmps10
  go_wp2
  generalize (w.alloc (.cells #[.int .i64 n, .slice A m c] 24)).alloc (.cells #[.int .i64 0, .slice none 0 0] 24) = W0 at *
  have t0 := ext_cell k0
  have t1 := ext_cell k1
  refine wp_region_tail 10 (by kernel_rfl) (by kernel_rfl) ?_; simp only [List.take_succ_cons, List.take_zero, List.drop_succ_cons, List.drop_zero]
  repeat (first | (refine head_skip rfl ?_; go_frame) | (refine head_soft rfl (fun K hK => ?_); go_simp; first | (refine hK _ ?_; clear hK K) | (apply Exists.intro; refine ⟨fun x => ?_, hK _ ?_⟩; (· (fail)); clear hK K; try go_frame)))
  obtain ⟨q, hq⟩ : ∃ q : Int, (if 50 < (m : Int) then 50 else (m : Int)) = q := ⟨_, rfl⟩
  rw [hq]
  have hqe : q = (min m 50 : Nat) := by rw [← hq]; split <;> omega
  have hq0 : 0 ≤ q := by omega
  have hq1 : q ≤ c := by omega
  have HQ : Hid (q.toNat = min m 50) := Lib.hid (by omega)
  clear hq hqe
  repeat (first | (refine head_skip rfl ?_; go_frame) | (refine head_soft rfl (fun K hK => ?_); go_simp; first | (refine hK _ ?_; clear hK K) | (apply Exists.intro; refine ⟨fun x => ?_, hK _ ?_⟩; (· (fail)); clear hK K; try go_frame)))
  refine head_nil fun w2 hb2 => ?_
  have h2 := HBL.out.ext hb2
  have f0 := h2.frozen 0
  have f1 := h2.frozen 1
  have c0 := h2.cell 0
  have c1 := h2.cell 1
  have H2 := Lib.hid h2
  have Hb2 := Lib.hid hb2
  clear h2 hb2 t0 t1 k0 k1
  go_wp2
  have h3 := (H2.out.set_ 0 (.int .i64 n)).set_ 1 (.slice A q.toNat c)
  have hbf : Below w.heap.size w ((w2.setCell ⟨w.heap.size + 1, 0, none⟩ (.int .i64 n)).setCell ⟨w.heap.size + 1, 1, none⟩ (.slice A q.toNat c)) :=
    ((below_le HB0.out Hb2.out).setCell (p := ⟨w.heap.size + 1, 0, none⟩) (by show w.heap.size ≤ w.heap.size + 1; omega) _).setCell (p := ⟨w.heap.size + 1, 1, none⟩) (by show w.heap.size ≤ w.heap.size + 1; omega) _
  have q0 := h3.cell 0
  have q1 := h3.cell 1
  simp at q0 q1
  refine bodyPost_ret (v := .agg #[.int .i64 n, .slice A q.toNat c]) (by simp [results, Tryd.results10, go_sem, q0, q1]) rfl ⟨⟨_, by rw [HQ.out]⟩, hbf⟩

set_option maxRecDepth 100000 in
theorem shown_plain : ∃ d0 d1 d2 : List Nat, noneW 1024 = d0 ∧ Fits d0 ∧ chkCode 1024 d0 (sRight 1024 d0) 24 false = 0 ∧ setW d0 ((24 : Int) / 8).toNat true = d1 ∧ Fits d1 ∧ chkCode 1024 d1 (sRight 1024 d1) 4096 false = 0 ∧
    setW d1 ((4096 : Int) / 8).toNat true = d2 ∧ Fits d2 ∧ upTo (allL 1024 d2) 30 = [24] ∧ chkCode 1024 d2 (sRight 1024 d2) 24 false = 52 ∧ chkCode 1024 d2 (sRight 1024 d2) 8 true = 131 ∧ chkCode 1024 d2 (sRight 1024 d2) 8192 false = 10 ∧
    inL 1024 d2 8 4096 = [24] ∧ allL 1024 d2 = [24, 4096] :=
  ⟨noneW 1024, setW (noneW 1024) ((24 : Int) / 8).toNat true, setW (setW (noneW 1024) ((24 : Int) / 8).toNat true) ((4096 : Int) / 8).toNat true, rfl, by unfold Fits; decide +kernel, by decide +kernel, rfl, by unfold Fits; decide +kernel, by decide +kernel, rfl, by unfold Fits; decide +kernel,
    by decide +kernel, by decide +kernel, by decide +kernel, by decide +kernel, by decide +kernel, by decide +kernel⟩

set_option maxRecDepth 100000 in
set_option maxHeartbeats 4000000 in
/-- shown. -/
theorem sshown_any (aA aB aP aS : Addr) (w : World) (hB : BSent w aA aB aP) (hS : SSent w aS) :
    Calls Tryd.prog 9 #[] w (Holds w) := by
  obtain ⟨d0, d1, d2, e0, F0, p1, e1, F1, p2, e2, F2, p3, p4, p5, p6, p7, p8⟩ := shown_plain
  have HBS := Lib.hid hB
  have HS := Lib.hid hS
  have X1 : Hid (∀ x : World, BSent x aA aB aP → Calls Tryd.prog 16 #[.int .i64 2] x (GivesBits x 0 1024 d0)) := Lib.hid (fun x h => by have := new_ok 2 aA aB aP x h (by omega) (by omega); rwa [show (512 : Int) * 2 = 1024 from rfl, e0] at this)
  have X2 : Hid (∀ (A : Option Addr) (m c : Nat) (x : World), BSent x aA aB aP → SSent x aS → Row x A m (d0.map U32) → Calls Tryd.prog 11 #[.agg #[.int .i64 1024, .slice A m c], .int .i64 24] x (GivesBits x 0 1024 d1)) := Lib.hid (fun A m c x h1 h2 h3 => by rw [← e1]; exact sput_any A m c 1024 24 d0 aA aB aP aS x (by omega) h1 h2 h3 F0 0 p1)
  have X3 : Hid (∀ (A : Option Addr) (m c : Nat) (x : World), BSent x aA aB aP → SSent x aS → Row x A m (d1.map U32) → Calls Tryd.prog 11 #[.agg #[.int .i64 1024, .slice A m c], .int .i64 4096] x (GivesBits x 0 1024 d2)) := Lib.hid (fun A m c x h1 h2 h3 => by rw [← e2]; exact sput_any A m c 1024 4096 d1 aA aB aP aS x (by omega) h1 h2 h3 F1 0 p2)
  have X4 : Hid (∀ (A : Option Addr) (m c : Nat) (x : World), Row x A m (d2.map U32) → Calls Tryd.prog 18 #[.agg #[.int .i64 1024, .slice A m c], .int .i64 30] x fun e w' => e = .returned (.tuple #[.int .i64 24, .bool true]) ∧ Below x.heap.size x w') := Lib.hid (fun A m c x h => by have h1 := sbefore_any A m c 1024 d2 30 x h F2; rw [p3] at h1; exact h1)
  have X5 : Hid (∀ (A : Option Addr) (m c : Nat) (x : World), BSent x aA aB aP → SSent x aS → Row x A m (d2.map U32) → Calls Tryd.prog 11 #[.agg #[.int .i64 1024, .slice A m c], .int .i64 24] x (GivesBits x 52 0 [])) := Lib.hid (fun A m c x h1 h2 h3 => (sput_any A m c 1024 24 d2 aA aB aP aS x (by omega) h1 h2 h3 F2 52 p4).mono fun _ _ h => h.bad (by omega))
  have X6 : Hid (∀ (A : Option Addr) (m c : Nat) (x : World), BSent x aA aB aP → SSent x aS → Row x A m (d2.map U32) → Calls Tryd.prog 13 #[.agg #[.int .i64 1024, .slice A m c], .int .i64 8] x (GivesBits x 131 0 [])) := Lib.hid (fun A m c x h1 h2 h3 => (sdrop_any A m c 1024 8 d2 aA aB aP aS x (by omega) h1 h2 h3 F2 131 p5).mono fun _ _ h => h.bad (by omega))
  have X7 : Hid (∀ (A : Option Addr) (m c : Nat) (x : World), BSent x aA aB aP → SSent x aS → Row x A m (d2.map U32) → Calls Tryd.prog 11 #[.agg #[.int .i64 1024, .slice A m c], .int .i64 8192] x (GivesBits x 10 0 [])) := Lib.hid (fun A m c x h1 h2 h3 => (sput_any A m c 1024 8192 d2 aA aB aP aS x (by omega) h1 h2 h3 F2 10 p6).mono fun _ _ h => h.bad (by omega))
  have X8 : Hid (∀ (A : Option Addr) (m c : Nat) (x : World), Row x A m (d2.map U32) → Calls Tryd.prog 27 #[.agg #[.int .i64 1024, .slice A m c], .int .i64 8, .int .i64 4096] x (GivesL x [24])) := Lib.hid (fun A m c x h => by have h1 := sin_any A m c 1024 d2 8 4096 x h F2; rw [p7] at h1; exact h1)
  have X9 : Hid (∀ (A : Option Addr) (m c : Nat) (x : World), Row x A m (d2.map U32) → Calls Tryd.prog 25 #[.agg #[.int .i64 1024, .slice A m c]] x (GivesL x [24, 4096])) := Lib.hid (fun A m c x h => by have h1 := sall_any A m c 1024 d2 x h F2; rw [p8] at h1; exact h1)
  have r1 : ∀ W : World, (Instr.buildSlice 37 1 #[(0, .int .i64 24)]).run Tryd.prog W = .ok (.slice (some ⟨W.heap.size, 0, none⟩) 1 1) (W.alloc (.cells #[.int .i64 24] 3)) := fun W => by go_simp
  have r2 : ∀ W : World, (Instr.buildSlice 37 2 #[(0, .int .i64 24), (1, .int .i64 4096)]).run Tryd.prog W = .ok (.slice (some ⟨W.heap.size, 0, none⟩) 2 2) (W.alloc (.cells #[.int .i64 24, .int .i64 4096] 3)) := fun W => by go_simp
  have R1 := Lib.hid r1
  have R2 := Lib.hid r2
  clear hB hS e0 F0 p1 e1 F1 p2 e2 F2 p3 p4 p5 p6 p7 p8 r1 r2
  go_enter Tryd.func9, Tryd.ntmps9
  go_wp2_with fail
  refine (X1.out w HBS.out).mono ?_
  clear X1
  rintro e w1 ⟨A1, m1, c1, rfl, hRn, hbn⟩
  have hx := below_box w1 (.cells #[.int .i64 1024, .slice A1 m1 c1] 24)
  have s10 := box0 (w := w1) (t := 24) (v0 := .int .i64 1024) (v1 := .slice A1 m1 c1)
  have s11 := box1 (w := w1) (t := 24) (v0 := .int .i64 1024) (v1 := .slice A1 m1 c1)
  have hbx := below_le hbn hx
  have HR1 := Lib.hid (hRn.ext hx)
  have HB := Lib.hid hbx
  clear hRn hbn hx hbx
  go_wp2_with fail
  generalize w1.alloc (.cells #[.int .i64 1024, .slice A1 m1 c1] 24) = W1 at *
  refine (X2.out A1 m1 c1 W1 (HBS.out.ext HB.out) (HS.out.ext HB.out) HR1.out).mono ?_
  clear X2 HR1 s10 s11
  rintro e w2 ⟨A2, m2, c2, rfl, hRn, hbn⟩
  have hx := below_box w2 (.cells #[.int .i64 1024, .slice A2 m2 c2] 24)
  have s20 := box0 (w := w2) (t := 24) (v0 := .int .i64 1024) (v1 := .slice A2 m2 c2)
  have s21 := box1 (w := w2) (t := 24) (v0 := .int .i64 1024) (v1 := .slice A2 m2 c2)
  have hbx := below_le hbn hx
  have HR2 := Lib.hid (hRn.ext hx)
  replace HB := Lib.hid (below_le HB.out hbx)
  clear hRn hbn hx hbx
  go_wp2_with fail
  generalize w2.alloc (.cells #[.int .i64 1024, .slice A2 m2 c2] 24) = W2 at *
  refine (X3.out A2 m2 c2 W2 (HBS.out.ext HB.out) (HS.out.ext HB.out) HR2.out).mono ?_
  clear X3 HR2 s20 s21
  rintro e w3 ⟨A3, m3, c3, rfl, hRn, hbn⟩
  have hx := below_box w3 (.cells #[.int .i64 1024, .slice A3 m3 c3] 24)
  have s30 := box0 (w := w3) (t := 24) (v0 := .int .i64 1024) (v1 := .slice A3 m3 c3)
  have s31 := box1 (w := w3) (t := 24) (v0 := .int .i64 1024) (v1 := .slice A3 m3 c3)
  have hbx := below_le hbn hx
  have HR3 := Lib.hid (hRn.ext hx)
  replace HB := Lib.hid (below_le HB.out hbx)
  clear hRn hbn hx hbx
  go_wp2_with fail
  generalize w3.alloc (.cells #[.int .i64 1024, .slice A3 m3 c3] 24) = W3 at *
  refine (X4.out A3 m3 c3 W3 HR3.out).mono ?_
  clear X4
  rintro e W4 ⟨rfl, hbn⟩
  replace s30 := cell_ext hbn s30; replace s31 := cell_ext hbn s31; replace HR3 := Lib.hid (HR3.out.ext hbn)
  replace HB := Lib.hid (below_le HB.out hbn)
  clear hbn
  go_wp2_with fail
  refine (X5.out A3 m3 c3 W4 (HBS.out.ext HB.out) (HS.out.ext HB.out) HR3.out).mono ?_
  clear X5
  rintro e w5 ⟨A5, m5, c5, rfl, hRn, hbn⟩
  have hx := below_box w5 (.cells #[.int .i64 0, .slice A5 m5 c5] 24)
  have hbx := below_le hbn hx
  replace s30 := cell_ext hbx s30; replace s31 := cell_ext hbx s31; replace HR3 := Lib.hid (HR3.out.ext hbx)
  replace HB := Lib.hid (below_le HB.out hbx)
  clear hRn hbn hx hbx
  go_wp2_with fail
  generalize w5.alloc (.cells #[.int .i64 0, .slice A5 m5 c5] 24) = W5 at *
  refine (X6.out A3 m3 c3 W5 (HBS.out.ext HB.out) (HS.out.ext HB.out) HR3.out).mono ?_
  clear X6
  rintro e w6 ⟨A6, m6, c6, rfl, hRn, hbn⟩
  have hx := below_box w6 (.cells #[.int .i64 0, .slice A6 m6 c6] 24)
  have hbx := below_le hbn hx
  replace s30 := cell_ext hbx s30; replace s31 := cell_ext hbx s31; replace HR3 := Lib.hid (HR3.out.ext hbx)
  replace HB := Lib.hid (below_le HB.out hbx)
  clear hRn hbn hx hbx
  go_wp2_with fail
  generalize w6.alloc (.cells #[.int .i64 0, .slice A6 m6 c6] 24) = W6 at *
  refine (X7.out A3 m3 c3 W6 (HBS.out.ext HB.out) (HS.out.ext HB.out) HR3.out).mono ?_
  clear X7
  rintro e w7 ⟨A7, m7, c7, rfl, hRn, hbn⟩
  have hx := below_box w7 (.cells #[.int .i64 0, .slice A7 m7 c7] 24)
  have hbx := below_le hbn hx
  replace s30 := cell_ext hbx s30; replace s31 := cell_ext hbx s31; replace HR3 := Lib.hid (HR3.out.ext hbx)
  replace HB := Lib.hid (below_le HB.out hbx)
  clear hRn hbn hx hbx
  go_wp2_with fail
  generalize w7.alloc (.cells #[.int .i64 0, .slice A7 m7 c7] 24) = W7 at *
  refine (X8.out A3 m3 c3 W7 HR3.out).mono ?_
  clear X8
  rintro e w8 ⟨A8, m8, c8, rfl, hRn, hbn⟩
  have hx := below_box w8 (.cells #[.int .i64 24] 3)
  have hbx := below_le hbn hx
  have hbl : Blk (w8.alloc (.cells #[.int .i64 24] 3)) w8.heap.size 3 #[.int .i64 24] := heap_new rfl _
  have hI := ints_any A8 (some ⟨w8.heap.size, 0, none⟩) m8 c8 1 1 [24] [24] (w8.alloc (.cells #[.int .i64 24] 3)) (hRn.ext hx) hbl.row (by have := hRn.1; simp at this; omega) (by omega)
  rw [show decide (([24] : List Int) = [24]) = true by simp] at hI
  have HI := Lib.hid hI
  replace s30 := cell_ext hbx s30; replace s31 := cell_ext hbx s31; replace HR3 := Lib.hid (HR3.out.ext hbx)
  replace HB := Lib.hid (below_le HB.out hbx)
  have rr := R1.out w8
  clear hRn hbn hx hbx hI hbl
  go_wp2_with fail
  generalize w8.alloc (.cells #[.int .i64 24] 3) = W8 at *
  refine HI.out.mono ?_
  clear HI rr
  rintro e W9 ⟨rfl, hbn⟩
  replace s30 := cell_ext hbn s30; replace s31 := cell_ext hbn s31; replace HR3 := Lib.hid (HR3.out.ext hbn)
  replace HB := Lib.hid (below_le HB.out hbn)
  clear hbn
  go_wp2_with fail
  refine (X9.out A3 m3 c3 W9 HR3.out).mono ?_
  clear X9
  rintro e w10 ⟨A10, m10, c10, rfl, hRn, hbn⟩
  have hx := below_box w10 (.cells #[.int .i64 24, .int .i64 4096] 3)
  have hbx := below_le hbn hx
  have hbl : Blk (w10.alloc (.cells #[.int .i64 24, .int .i64 4096] 3)) w10.heap.size 3 #[.int .i64 24, .int .i64 4096] := heap_new rfl _
  have hI := ints_any A10 (some ⟨w10.heap.size, 0, none⟩) m10 c10 2 2 [24, 4096] [24, 4096] (w10.alloc (.cells #[.int .i64 24, .int .i64 4096] 3)) (hRn.ext hx) hbl.row (by have := hRn.1; simp at this; omega) (by omega)
  rw [show decide (([24, 4096] : List Int) = [24, 4096]) = true by simp] at hI
  have HI := Lib.hid hI
  replace s30 := cell_ext hbx s30; replace s31 := cell_ext hbx s31; replace HR3 := Lib.hid (HR3.out.ext hbx)
  replace HB := Lib.hid (below_le HB.out hbx)
  have rr := R2.out w10
  clear hRn hbn hx hbx hI hbl
  go_wp2_with fail
  generalize w10.alloc (.cells #[.int .i64 24, .int .i64 4096] 3) = W10 at *
  refine HI.out.mono ?_
  clear HI rr
  rintro e w11 ⟨rfl, hbn⟩
  replace HB := Lib.hid (below_le HB.out hbn)
  clear hbn
  go_wp2
  go_ret
  exact ⟨ret_bool (by simp), HB.out⟩

end Go.Proofs.YtelbddnjnapoeaaDoor
namespace Go.Proofs.YtelbddnjnapoeaaDoor
open Go.ChangeShapes Go.WideShapes Go.ChangeAt Go.RowKit

theorem own0 : ownKnob Tryd.prog.godebug = none := by kernel_rfl
theorem laidOut0 : laidOutB Tryd.prog = true := by kernel_rfl
theorem star0 : "*" ++ "errors.errorString" = "*errors.errorString" := by decide
theorem rowErr (u : TypeId) (h : Tryd.prog.typeName? 3 u = some "*errors.errorString") : u = 110 :=
  typeName_ptr_named (nm := "errors.errorString") (by rw [star0]; kernel_rfl) (by kernel_rfl) (by decide) u (by rw [star0]; exact h)
theorem gA0 : Tryd.prog.globalNamed "selion/bits.errArg" = some 0 := by kernel_rfl
theorem gB0 : Tryd.prog.globalNamed "selion/bits.errBits" = some 2 := by kernel_rfl
theorem gP0 : Tryd.prog.globalNamed "selion/bits.errPlace" = some 3 := by kernel_rfl
theorem gA1 : (Tryd.prog.globals[0]?).map (·.type) = some 57 := by kernel_rfl
theorem gB1 : (Tryd.prog.globals[2]?).map (·.type) = some 57 := by kernel_rfl
theorem gP1 : (Tryd.prog.globals[3]?).map (·.type) = some 57 := by kernel_rfl

theorem under_err : ∃ te f, Tryd.prog.underlying 110 = some (.pointer te) ∧ Tryd.prog.underlying te = some (.struct #[f]) ∧ f.type = 9 ∧ f.offset = 0 ∧ Tryd.prog.cellsOf te = 1 :=
  ⟨_, _, Tryd.underlying110, Tryd.underlying131, rfl, rfl, by kernel_rfl⟩
theorem under_iface : ∃ ms, Tryd.prog.underlying 57 = some (.interface ms) := ⟨_, Tryd.underlying57⟩
theorem cells_str : Tryd.prog.cellsOf 9 = 1 := by kernel_rfl

theorem var_inj {W : World} {n : String} {t : TypeId} {a b : Addr} (h : W.var? Tryd.prog n = some #[.iface t (.pointer (some a))]) (k : W.var? Tryd.prog n = some #[.iface t (.pointer (some b))]) : a = b := by
  rw [h] at k
  simpa using k

theorem gQ0 : Tryd.prog.globalNamed "selion/starts.errPlace" = some 1 := by kernel_rfl
theorem gQ1 : (Tryd.prog.globals[1]?).map (·.type) = some 57 := by kernel_rfl
theorem gT0 : Tryd.prog.globalNamed "errors.errorType" = some 4 := by kernel_rfl
theorem rt0 : (Tryd.prog.cutTypes.find? (·.1 == "internal/reflectlite.rtype")).map (·.2) = some 96 := by kernel_rfl
theorem oneRow0 : ((List.range Tryd.prog.types.size).filter fun t => Tryd.prog.rowNamed t [101, 114, 114, 111, 114]) = [57] := by kernel_rfl
theorem hnd0 : typeHandle Tryd.prog 57 = hnd 57 := by kernel_rfl

/-- What the condition gives of errors' own variable: the handle of the type error. -/
theorem handle0 {W : World} (h : laidMetH Tryd.prog Rows.startsBackRow.laid W) : W.cell? ⟨4, 0, none⟩ = some (rty 57) := by
  have h1 := h.filter (fun x => x.1 == "errors.errorType")
  have h' : laidMet Tryd.prog [] W ∧ handlesMet Tryd.prog [("errors.errorType", Rows.laid_errors_errorType)] W := h1
  obtain ⟨name, u, ty, e1, e2, e3, e4, e5⟩ := h'.2 _ (List.mem_singleton.2 rfl)
  have en : name = [101, 114, 114, 111, 114] := (Option.some.inj e1).symm
  subst en
  obtain rfl := Option.some.inj (rt0.symm.trans e2)
  have hm : ty ∈ (List.range Tryd.prog.types.size).filter fun t => Tryd.prog.rowNamed t [101, 114, 114, 111, 114] := List.mem_filter.2 ⟨List.mem_range.2 e3, e4⟩
  rw [oneRow0] at hm
  obtain rfl := List.mem_singleton.1 hm
  rw [hnd0] at e5
  simpa using World.var?_cell gT0 e5 0

/-- WHAT THE ROW's LIST GIVES: the sentinels, each one's own, and the handle. -/
theorem sents {W : World} (h : laidMetH Tryd.prog Rows.startsBackRow.laid W) : ∃ aA aB aP aS, BSent W aA aB aP ∧ SSent W aS := by
  have h' : laidMet Tryd.prog [("selion/bits.errArg", Rows.laid_selion_bits_errArg), ("selion/bits.errBits", Rows.laid_selion_bits_errBits), ("selion/bits.errPlace", Rows.laid_selion_bits_errPlace), ("selion/starts.errPlace", Rows.laid_selion_starts_errPlace)] W := by
    have := h.filter (fun x => x.1 != "errors.errorType")
    rw [MakeChecks.laidMetH_plain _ _ _ (by kernel_rfl)] at this
    exact this
  have h'' : laidMet Tryd.prog [("selion/bits.errArg", Rows.laid_selion_bits_errArg), ("selion/bits.errPlace", Rows.laid_selion_bits_errPlace)] W := by
    have := h.filter (fun x => x.1 == "selion/bits.errArg" || x.1 == "selion/bits.errPlace")
    rw [MakeChecks.laidMetH_plain _ _ _ (by kernel_rfl)] at this
    exact this
  obtain ⟨te, f, hp, he, hft, hfo, hc⟩ := under_err
  obtain ⟨ms, hi⟩ := under_iface
  obtain ⟨a0, a1, _, _, c0, c1, t0, t1, v0, v1, _, _, _, _, _, _, n01, b0, b1⟩ := laid_sentinels2 h' gA0 gA1 gB0 gB1 hi rowErr hp he hft hfo Tryd.underlying9 hc cells_str
  obtain ⟨a1', a2, _, _, _, c2, _, t2, v1', v2, _, _, _, _, _, _, n12, _, b2⟩ := laid_sentinels2 h'.tail gB0 gB1 gP0 gP1 hi rowErr hp he hft hfo Tryd.underlying9 hc cells_str
  obtain ⟨a0', a2', _, _, _, _, _, _, v0', v2', _, _, _, _, _, _, n02, _, _⟩ := laid_sentinels2 h'' gA0 gA1 gP0 gP1 hi rowErr hp he hft hfo Tryd.underlying9 hc cells_str
  obtain ⟨_, a3, _, _, _, c3, _, t3, _, v3, _, _, _, _, _, _, _, _, b3⟩ := laid_sentinels2 h'.tail.tail gP0 gP1 gQ0 gQ1 hi rowErr hp he hft hfo Tryd.underlying9 hc cells_str
  obtain rfl := var_inj v0 v0'
  obtain rfl := var_inj v1 v1'
  obtain rfl := var_inj v2 v2'
  exact ⟨a0, a1, a2, a3, ⟨⟨by simpa using World.var?_cell gA0 v0 0, c0, t0, b0⟩, ⟨by simpa using World.var?_cell gB0 v1 0, c1, t1, b1⟩, ⟨by simpa using World.var?_cell gP0 v2 0, c2, t2, b2⟩, n01, n02, n12⟩,
    ⟨⟨by simpa using World.var?_cell gQ0 v3 0, c3, t3, b3⟩, handle0 h⟩⟩

section
variable {H : Type} {enc : TypeId × Value → H} {P : Program}
theorem trodAll_stays (hl : laidOutB P = true) {W W' : World} (hb : Below W.heap.size W W') (sp : Nat → Bool) : ∀ (ts : List TypeId) (vs : List Value) (ds : List (DataW H)) (ps : List MemPlace),
    (ts.all fun t => P.readableRec t && decide (t < P.types.size)) = true → DataW.TrodAll enc P W 0 (fun _ => true) true ts vs ds ps → (∀ x ∈ ps, x.block < W.heap.size) → (∀ x ∈ ps, sp x.block = true) → DataW.TrodAll enc P W' 0 sp true ts vs ds ps
  | [], vs, ds, ps, _, h, _, _ => by
    obtain ⟨rfl, rfl, rfl⟩ := trodAll_nil h
    exact trodAll_mk0
  | t :: ts, vs, ds, ps, hr, h, hlt, hsp => by
    simp only [List.all_cons, Bool.and_eq_true, decide_eq_true_eq] at hr
    obtain ⟨v, vs', d, ds', p, q, rfl, rfl, rfl, h1, h2⟩ := trodAll_cons h
    exact trodAll_cons_mk (WideElems.Trod_stays hl hr.1.1 hr.1.2 h1 (fun x hx => hb.same (hlt x (List.mem_append_left _ hx))) (fun x hx => hsp x (List.mem_append_left _ hx)))
      (trodAll_stays hl hb sp ts vs' ds' q hr.2 h2 (fun x hx => hlt x (List.mem_append_right _ hx)) (fun x hx => hsp x (List.mem_append_right _ hx)))

theorem post_below {f : Func} {s : ChangeSpec} {apart fresh handsOn again : Bool} {W W' : World} {args : Array Value} {v : Value} {ds gs : List (DataW H)} {before pa pv : List MemPlace}
    (hW : DataW.Whole enc P f.params.toList s.vars apart W args.toList ds gs before)
    (hres : ∀ (b : Nat) (sp : Nat → Bool) (hd : Bool), DataW.TrodAll enc P W' b sp hd f.resultTypes.toList (v.resultList f.resultTypes.size) (s.fn H (ds ++ gs)).results [])
    (hargs : ∀ sp : Nat → Bool, (∀ p ∈ before, sp p.block = true) → DataW.TrodAll enc P W' 0 sp true f.params.toList args.toList (s.fn H (ds ++ gs)).args pa)
    (hvars : ∀ sp : Nat → Bool, (∀ p ∈ before, sp p.block = true) → DataW.TrodVars enc P W' sp s.vars (s.fn H (ds ++ gs)).vars pv)
    (hps : before = pa ++ pv) (hb : Below W.heap.size W W')
    (hok : ∀ (j : Nat) (t : TypeId) (r : Value), f.resultTypes[j]? = some t → (v.resultList f.resultTypes.size)[j]? = some r → Value.okWide P W' .any 0 t r) :
    s.post enc P f apart fresh handsOn again W args v W' := by
  have hlt : ∀ p ∈ before, p.block < W.heap.size := fun p hp => hW.lt p hp
  have hold : ∀ p ∈ before, (fun b => decide (b < W.heap.size)) p.block = true := fun p hp => by simpa using hlt p hp
  refine ⟨ds, gs, before, [], pa, pv, hW, hres _ _ _, hargs _ hold, hvars _ hold, World.keptBut_mono (fun p hp => ⟨hp, ?_⟩) (hb.frame (· ∈ before)), fun _ => ?_⟩
  · rw [hps, List.mem_append] at hp
    exact Or.inr hp
  · obtain ⟨_, _, _, _, _, hz, hn⟩ := hW
    refine ⟨hok, _, _, ([] ++ pa) ++ pv, ⟨[] ++ pa, pv, trodAll_append (hargs _ (fun _ _ => rfl)) (hres _ _ _), hvars _ (fun _ _ => rfl), rfl, ?_, ?_⟩, ?_⟩
    · intro b off hp
      have hin : MemPlace.cell b off ∈ before := by rw [hps]; simpa using hp
      rw [hb.frozen (hlt _ hin)]
      exact hz b off hin
    · intro ha
      have := hn ha
      rw [hps] at this
      simpa using this
    · intro p hp _
      rw [hps]
      simpa using hp

/-- THE ROW's LAST STEP, where the law returned true and what was stays. -/
theorem post_true {f : Func} {s : ChangeSpec} (hl : laidOutB P = true) {tb : TypeId} (htb : P.underlying tb = some .bool) (hrt : f.resultTypes = #[tb]) (hvs : s.vars = []) (hr : (f.params.toList.all fun t => P.readableRec t && decide (t < P.types.size)) = true)
    {W W' : World} {args : Array Value} {ds gs : List (DataW H)} {before : List MemPlace}
    (hW : DataW.Whole enc P f.params.toList s.vars false W args.toList ds gs before) (hfn : s.fn H (ds ++ gs) = { results := [.lit (.bool true)], args := ds }) (hb : Below W.heap.size W W') :
    s.post enc P f false true false false W args (.bool true) W' := by
  have hW' := hW
  have hlt : ∀ p ∈ before, p.block < W.heap.size := fun p hp => hW.lt p hp
  obtain ⟨p, q, hA, hV, rfl, hfz, hnd⟩ := hW
  rw [hvs] at hV
  obtain ⟨rfl, rfl⟩ := trodVars_none hV
  simp only [List.append_nil] at hlt hW' hfn
  refine post_below (pa := p) (pv := []) hW' (fun b sp hd => ?_) (fun sp hsp => ?_) (fun sp _ => ?_) (by simp) hb (ok_one hrt rfl (okWide_bool_mk htb _))
  · rw [List.append_nil, hfn, hrt]
    exact trodAll_cons_mk (shut_bool htb _) trodAll_mk0
  · rw [List.append_nil, hfn]
    exact trodAll_stays hl hb sp _ _ _ _ hr hA (fun x hx => hlt x hx) (fun x hx => hsp x hx)
  · rw [List.append_nil, hfn, hvs]
    rfl
end

set_option maxRecDepth 100000 in
/-- A struct of bits, opened. -/
theorem open_bits {H : Type} {enc : TypeId × Value → H} {W : World} {b : Nat} {v : Value} {d : DataW H} {p : List MemPlace} (hv : Value.okWide Tryd.prog W .any b 24 v) (h : DataW.Trod enc Tryd.prog W 0 (fun _ => true) true 24 v d p) :
    ∃ (n : Int) (A : Option Addr) (m c : Nat) (ws : List Nat), v = .agg #[.int .i64 n, .slice A m c] ∧ Row W A m (ws.map U32) ∧ Fits ws ∧ m ≤ c := by
  obtain ⟨v0, v1, y0, y1, k, rfl, _, _, h0, h1⟩ := Joins.open_agg2 Tryd.underlying24 (by kernel_rfl) (by kernel_rfl) hv h
  obtain ⟨n, hn, _, _⟩ := DataW.trod_int Tryd.underlying3 h0
  obtain rfl : v0 = .int .i64 n := by simpa using hn
  rcases open_ints Tryd.underlying22 Tryd.underlying48 (by kernel_rfl) h1 with ⟨hs, _⟩ | ⟨a, len, cap, zs, hs, _, hl, _, hz, _, hc, hw⟩
  · obtain rfl : v1 = .slice none 0 0 := by simpa using hs
    exact ⟨n, none, 0, 0, [], rfl, Row.none_, by simp [Fits], Nat.le_refl _⟩
  · obtain rfl : v1 = .slice (some a) len cap := by simpa using hs
    rw [if_pos rfl] at hz
    have hz0 : ∀ z ∈ zs, 0 ≤ z ∧ z < 4294967296 := fun z hz => by
      have := bounds_u32 (hw z hz)
      omega
    refine ⟨n, some a, len, cap, (zs.take len).map Int.toNat, rfl, ⟨by simp; omega, fun hp => ?_⟩, fun x hx => ?_, hl⟩
    · have hs0 : a.spot = none := by simpa [Addr.add] using World.cell?_spot (hc 0 (by omega))
      obtain ⟨b, off, spot⟩ := a
      obtain rfl : spot = none := hs0
      refine ⟨b, off, rfl, fun j u hu => ?_⟩
      have hj : j < len := by
        have := (List.getElem?_eq_some_iff.1 hu).1
        simp at this
        omega
      have hjz : j < zs.length := by omega
      have h2 := hc j hjz
      have hzj := hz0 zs[j] (List.getElem_mem _)
      simp [hj, hjz] at hu
      have e : (⟨b, off, none⟩ : Addr).add j = ⟨b, off + j, none⟩ := by
        unfold Addr.add
        by_cases h : j = 0 <;> simp [h]
      rw [e] at h2
      simp [hjz] at h2
      rw [h2, ← hu, U32, Int.toNat_of_nonneg hzj.1]
    · obtain ⟨z, hzm, rfl⟩ := List.mem_map.1 hx
      have := hz0 z (List.mem_of_mem_take hzm)
      omega

/-- THE DOOR's OWN HEAP MEETS THE CONDITION. -/
theorem door_met (os : Os) (args : Array Value) : laidMetH Tryd.prog Rows.startsBackRow.laid ((World.doorLaid Tryd.prog 200 os).forCall (fun _ _ => 0) ⟨#[], args, []⟩).memory :=
  laidMetH_of_parts3 (fuel := 8) (laidMet_of_run' 8 (by kernel_rfl) (by kernel_rfl)) (by kernel_rfl) (by kernel_rfl)

end Go.Proofs.YtelbddnjnapoeaaDoor
namespace Go.Proofs.YtelbddnjnapoeaaDoor
open Go.RowKit Go.Shelf

theorem beq_dec (x a : Int) : (x == a) = decide (a = x) := by
  by_cases h : x = a
  · subst h; simp
  · rw [decide_eq_false fun e => h e.symm]; simpa using h
theorem all_eq {n : Int} {ws : List Nat} (hr : sRight n ws = true) : allL n ws = (listN n ws).map fun i : Nat => (i : Int) * 8 := by
  rw [allL, eachL, if_pos hr]
  exact List.filter_eq_self.2 fun _ _ => rfl
theorem all_mem (n : Int) (ws : List Nat) (a : Int) : a ∈ allL n ws ↔ sHas n ws a = true := by
  cases hr : sRight n ws
  · simp [allL, eachL, sHas, hr]
  · have h := (sRight_elim hr).2.2.2
    rw [all_eq hr]
    simp only [List.mem_map, listN, h, if_true, List.mem_filter, List.mem_range, sHas, hr, hasB, Bool.true_and, Bool.and_eq_true, decide_eq_true_eq]
    constructor
    · rintro ⟨i, ⟨h1, h2⟩, rfl⟩
      have e : (i : Int) * 8 / 8 = i := by omega
      rw [e]
      exact ⟨⟨by omega, by omega⟩, ⟨by omega, by omega⟩, by simpa using h2⟩
    · rintro ⟨⟨h1, h2⟩, ⟨h3, h4⟩, h5⟩
      exact ⟨(a / 8).toNat, ⟨by omega, h5⟩, by omega⟩
theorem all_len {n : Int} {ws : List Nat} (hr : sRight n ws = true) : (allL n ws).length = countN n ws := by
  have h := (sRight_elim hr).2.2.2
  rw [count_eq h, List.countP_eq_length_filter, all_eq hr]
  simp [listN, h]
theorem all_wrong {n : Int} {ws : List Nat} (hr : sRight n ws = false) : allL n ws = [] := by simp [allL, eachL, hr]

set_option maxRecDepth 100000 in
set_option maxHeartbeats 4000000 in
theorem startsAll_any (A : Option Addr) (m c : Nat) (n : Int) (ws : List Nat) (a : Int) (aA aB aP aS : Addr) (w : World) (hB : BSent w aA aB aP) (hS : SSent w aS) (hR : Row w A m (ws.map U32)) (hF : Fits ws) (hc : m ≤ c) (ha : a ≤ 9223372036854775807) :
    Calls Tryd.prog 8 #[.agg #[.int .i64 n, .slice A m c], .int .i64 a] w (Holds w) := by
  have hx := below_box w (.cells #[.int .i64 n, .slice A m c] 24)
  have k0 : (w.alloc (.cells #[.int .i64 n, .slice A m c] 24)).cell? ⟨w.heap.size, 0, none⟩ = some (.int .i64 n) := by simp [go_sem]
  have k1 : (w.alloc (.cells #[.int .i64 n, .slice A m c] 24)).cell? ⟨w.heap.size, 1, none⟩ = some (.slice A m c) := by simp [go_sem]
  have hbl : Blk (w.alloc (.cells #[.int .i64 n, .slice A m c] 24)) w.heap.size 24 #[.int .i64 n, .slice A m c] := heap_new rfl _
  have HS := Lib.hid hS
  have HBS := Lib.hid hB
  have HR := Lib.hid (srow_cut hR)
  have hm50 : min m 50 ≤ 50 := Nat.min_le_right _ _
  have HF := Lib.hid (fits_take hF 50)
  generalize ws.take 50 = vs at HR HF
  have HB := Lib.hid hx
  have HBL := Lib.hid hbl
  clear hS hB hR hx hbl hF
  go_enter Tryd.func8, Tryd.ntmps8
  go_wp2_with fail
  generalize w.alloc (.cells #[.int .i64 n, .slice A m c] 24) = W0 at *
  refine (sshown_any aA aB aP aS W0 (HBS.out.ext HB.out) (HS.out.ext HB.out)).mono ?_
  rintro e w1 ⟨rfl, hb1⟩
  have e0 := cell_ext hb1 k0
  have e1 := cell_ext hb1 k1
  have HBL1 := Lib.hid (HBL.out.ext hb1)
  have HB1 := Lib.hid (below_le HB.out hb1)
  clear hb1 k0 k1 HBL HB
  go_wp2_with fail
  refine (scut_any A m c n w1 hc).mono ?_
  rintro e w2 ⟨⟨c', rfl⟩, hb2⟩
  generalize min m 50 = m' at *
  have h2 := HBL1.out.ext hb2
  have f0 := h2.frozen 0
  have f1 := h2.frozen 1
  have d0 := h2.cell 0
  have d1 := h2.cell 1
  have h3 := (h2.set_ 0 (.int .i64 n)).set_ 1 (.slice A m' c')
  have hb3 : Below w.heap.size w ((w2.setCell ⟨w.heap.size, 0, none⟩ (.int .i64 n)).setCell ⟨w.heap.size, 1, none⟩ (.slice A m' c')) :=
    ((below_le HB1.out hb2).setCell (p := ⟨w.heap.size, 0, none⟩) (Nat.le_refl _) _).setCell (p := ⟨w.heap.size, 1, none⟩) (Nat.le_refl _) _
  have k0 := h3.cell 0
  have k1 := h3.cell 1
  simp at k0 k1
  have H3 := Lib.hid h3
  have HB3 := Lib.hid hb3
  clear h2 h3 hb2 hb3 HB1 HBL1 e0 e1
  go_wp2_with fail
  generalize (w2.setCell ⟨w.heap.size, 0, none⟩ (.int .i64 n)).setCell ⟨w.heap.size, 1, none⟩ (.slice A m' c') = W3 at *
  clear f0 f1 d0 d1
  have hme := all_mem n vs a
  have hln := all_len (n := n) (ws := vs)
  have hwr := all_wrong (n := n) (ws := vs)
  have hle := eachL_le n vs (fun _ => true)
  have hall := sall_any A m' c' n vs W3 (HR.out.ext HB3.out) HF.out
  change (allL n vs).length ≤ 16384 at hle
  generalize allL n vs = L at *
  refine hall.mono ?_
  clear hall
  rintro e w4 ⟨C, q, f, rfl, hRl, hb4⟩
  have hql := hRl.1
  simp at hql
  have e0 := cell_ext hb4 k0
  have e1 := cell_ext hb4 k1
  have HB4 := Lib.hid (below_le HB3.out hb4)
  have HRL := Lib.hid hRl
  have HME := Lib.hid hme
  have HLN := Lib.hid hln
  have HWR := Lib.hid hwr
  have HQL := Lib.hid hql
  have hq : q ≤ 16384 := by omega
  clear hRl hb4 k0 k1 hme hln hwr hql hle
  go_wp2
  go_loop [7, 8] (fun b i => ∃ k : Nat, k ≤ q ∧ i = .int .i64 k ∧ b = .bool (decide (a ∈ L.take k))) (fun _ i => q - (intOf i).toNat)
  case atStart => exact ⟨0, Nat.zero_le _, rfl, by simp⟩
  case round =>
    obtain ⟨k, hk, rfl, rfl⟩ := hrel
    by_cases hlt : k < q
    · obtain ⟨b, off, x, rfl, hcx, -, hx⟩ := num_at HRL.out hlt
      have hts : L.take (k + 1) = L.take k ++ [x] := by rw [List.take_add_one, hx]; rfl
      have HTS := Lib.hid hts
      clear hts hx
      by_cases hin : a ∈ L.take k
      · rw [decide_eq_true hin]
        have HIN := Lib.hid hin
        clear hin
        go_wp2
        go_round
        case rel => exact ⟨k + 1, by omega, by go_num, by rw [HTS.out]; simp [HIN.out]⟩
        case measure => simp [intOf]; omega
      · rw [decide_eq_false hin]
        have HIN := Lib.hid hin
        clear hin
        go_wp2
        go_round
        case rel => exact ⟨k + 1, by omega, by go_num, by rw [HTS.out]; simp [HIN.out]; exact beq_dec x a⟩
        case measure => simp [intOf]; omega
    · have hkq : L.take k = L := List.take_of_length_le (by have := HQL.out; omega)
      rw [hkq]
      have hdec : decide (a ∈ L) = sHas n vs a := by
        have := HME.out
        cases h : sHas n vs a
        · rw [h] at this; simpa using this
        · rw [h] at this; simpa using this
      rw [hdec]
      clear hkq hdec
      have hha := shas_any A m' c' n vs a ha w4 (HR.out.ext HB4.out) HF.out
      go_wp2_with fail
      generalize sHas n vs a = d at *
      refine hha.mono ?_
      clear hha
      rintro e w5 ⟨rfl, hb5⟩
      have k0 := cell_ext hb5 e0
      have k1 := cell_ext hb5 e1
      have HB5 := Lib.hid (below_le HB4.out hb5)
      have hdd : (d == d) = true := by simp
      clear hb5 e0 e1
      have hri := sright_any A m' c' n vs w5 (HR.out.ext HB5.out) HF.out
      go_wp2_with fail
      cases hr : sRight n vs
      · rw [hr] at hri
        have hL0 := HWR.out hr
        have hq0 : q = 0 := by have := HQL.out; rw [hL0] at this; simpa using this.symm
        subst hq0
        clear hL0
        refine hri.mono ?_
        clear hri
        rintro e w6 ⟨rfl, hb6⟩
        have e0 := cell_ext hb6 k0
        have e1 := cell_ext hb6 k1
        have HB6 := Lib.hid (below_le HB5.out hb6)
        clear hb6 k0 k1
        have hri := sright_any A m' c' n vs w6 (HR.out.ext HB6.out) HF.out
        rw [hr] at hri
        clear hr
        go_wp2_with fail
        refine hri.mono ?_
        clear hri
        rintro e w7 ⟨rfl, hb7⟩
        have HB7 := Lib.hid (below_le HB6.out hb7)
        clear hb7
        go_wp2
        go_ret
        exact ⟨ret_bool (by simp), HB7.out⟩
      · rw [hr] at hri
        have hL1 := HLN.out hr
        refine hri.mono ?_
        clear hri
        rintro e w6 ⟨rfl, hb6⟩
        have e0 := cell_ext hb6 k0
        have e1 := cell_ext hb6 k1
        have HB6 := Lib.hid (below_le HB5.out hb6)
        clear hb6 k0 k1
        have hct := count_any A m' c' n vs w6 (HR.out.ext HB6.out) HF.out
        rw [← hL1, HQL.out] at hct
        clear hr hL1
        go_wp2_with fail
        refine hct.mono ?_
        clear hct
        rintro e w7 ⟨rfl, hb7⟩
        have HB7 := Lib.hid (below_le HB6.out hb7)
        clear hb7
        go_wp2
        go_ret
        exact ⟨ret_bool (by simp), HB7.out⟩

end Go.Proofs.YtelbddnjnapoeaaDoor
namespace Go.Proofs.YtelbddnjnapoeaaDoor
open Go.RowKit Go.Shelf

theorem all_sorted (n : Int) (ws : List Nat) : (allL n ws).Pairwise (· < ·) := by
  cases hr : sRight n ws
  · rw [all_wrong hr]; exact List.Pairwise.nil
  · rw [all_eq hr, listN, if_pos (sRight_elim hr).2.2.2]
    exact List.Pairwise.map _ (fun a b (h : a < b) => by omega) (List.pairwise_lt_range.filter _)
theorem in_eq (n : Int) (ws : List Nat) (lo hi : Int) : inL n ws lo hi = (allL n ws).filter fun a => decide (lo ≤ a) && decide (a < hi) := by
  cases hr : sRight n ws
  · rw [all_wrong hr]; simp [inL, eachL, hr]
  · rw [all_eq hr, inL, eachL, if_pos hr]
theorem all_bound {n : Int} {ws : List Nat} {x : Int} (h : x ∈ allL n ws) : 0 ≤ x ∧ x < 131072 := by
  cases hr : sRight n ws
  · rw [all_wrong hr] at h; cases h
  · have := sRight_elim hr
    rw [all_eq hr, listN, if_pos this.2.2.2] at h
    obtain ⟨i, hi, rfl⟩ := List.mem_map.1 h
    have := List.mem_range.1 (List.mem_filter.1 hi).1
    omega
theorem upTo_mem {L : List Int} (hs : L.Pairwise (· < ·)) {a x : Int} : x ∈ upTo L a ↔ x ∈ L ∧ x ≤ a := by
  induction L with
  | nil => simp [upTo]
  | cons y L ih =>
    rw [upTo_cons]
    obtain ⟨h1, h2⟩ := List.pairwise_cons.1 hs
    by_cases hy : y ≤ a
    · rw [if_pos hy, List.mem_cons, ih h2, List.mem_cons]
      constructor
      · rintro (rfl | ⟨h3, h4⟩)
        · exact ⟨.inl rfl, hy⟩
        · exact ⟨.inr h3, h4⟩
      · rintro ⟨rfl | h3, h4⟩
        · exact .inl rfl
        · exact .inr ⟨h3, h4⟩
    · rw [if_neg hy]
      constructor
      · intro h; cases h
      · rintro ⟨h3, h4⟩
        rcases List.mem_cons.1 h3 with rfl | h3
        · exact absurd h4 hy
        · have := h1 x h3; omega
theorem upTo_sorted {L : List Int} (hs : L.Pairwise (· < ·)) (a : Int) : (upTo L a).Pairwise (· < ·) := hs.sublist (List.takeWhile_sublist _)
theorem last_max {U : List Int} (hs : U.Pairwise (· < ·)) (hU : U ≠ []) : U.getLastD 0 ∈ U ∧ ∀ x ∈ U, x ≤ U.getLastD 0 := by
  have e := List.dropLast_concat_getLast hU
  have el : U.getLastD 0 = U.getLast hU := by rw [List.getLastD_eq_getLast?, List.getLast?_eq_some_getLast hU]; rfl
  rw [el]
  refine ⟨List.getLast_mem hU, fun x hx => ?_⟩
  rw [← e] at hs hx
  rcases List.mem_append.1 hx with h | h
  · exact Int.le_of_lt ((List.pairwise_append.1 hs).2.2 x h _ (by simp))
  · rw [List.mem_singleton.1 h]; simp
theorem one_of {L : List Int} (hs : L.Pairwise (· < ·)) {x : Int} (hx : x ∈ L) : (L.filter fun a => decide (x ≤ a) && decide (a < x + 1)).length = 1 := by
  induction L with
  | nil => cases hx
  | cons y L ih =>
    obtain ⟨h1, h2⟩ := List.pairwise_cons.1 hs
    rcases List.mem_cons.1 hx with rfl | hx
    · rw [List.filter_cons, if_pos (by simp; omega), List.filter_eq_nil_iff.2 (fun z hz => by have := h1 z hz; simp; omega)]
      rfl
    · have := h1 x hx
      rw [List.filter_cons, if_neg (by simp; omega)]
      exact ih h2 hx

/-- What Before's law says, in plain words. -/
theorem before_plain (n : Int) (ws : List Nat) (a : Int) :
    (upTo (allL n ws) a = [] → (1099511627776 ≤ a → allL n ws = []) ∧ (a < 1099511627776 → inL n ws 0 (a + 1) = [])) ∧
    (upTo (allL n ws) a ≠ [] → ∃ x, (upTo (allL n ws) a).getLastD 0 = x ∧ 0 ≤ x ∧ x < 131072 ∧ sHas n ws x = true ∧ x ≤ a ∧ inL n ws (x + 1) (a + 1) = [] ∧ (inL n ws x (x + 1)).length = 1) := by
  have hs := all_sorted n ws
  refine ⟨fun h => ⟨fun ha => ?_, fun ha => ?_⟩, fun h => ?_⟩
  · rw [← upTo_all (L := allL n ws) (a := a) (fun x hx => by have := all_bound hx; omega)]; exact h
  · rw [in_eq, List.filter_eq_nil_iff]
    intro x hx
    have h3 : ¬ x ≤ a := fun hxa => by
      have := (upTo_mem hs).2 ⟨hx, hxa⟩
      rw [h] at this
      cases this
    simp
    omega
  · obtain ⟨h1, h2⟩ := last_max (upTo_sorted hs a) h
    have h3 := (upTo_mem hs).1 h1
    have h4 := all_bound h3.1
    refine ⟨_, rfl, h4.1, h4.2, (all_mem n ws _).1 h3.1, h3.2, ?_, ?_⟩
    · rw [in_eq, List.filter_eq_nil_iff]
      intro x hx
      have h5 : x ≤ a → x ≤ (upTo (allL n ws) a).getLastD 0 := fun hxa => h2 x ((upTo_mem hs).2 ⟨hx, hxa⟩)
      simp only [Bool.and_eq_true, decide_eq_true_eq]
      omega
    · rw [in_eq]; exact one_of hs h3.1

set_option maxRecDepth 100000 in
set_option maxHeartbeats 4000000 in
theorem startsBefore_any (A : Option Addr) (m c : Nat) (n : Int) (ws : List Nat) (a : Int) (aA aB aP aS : Addr) (w : World) (hB : BSent w aA aB aP) (hS : SSent w aS) (hR : Row w A m (ws.map U32)) (hF : Fits ws) (hc : m ≤ c) (ha0 : -9223372036854775808 ≤ a) (ha : a ≤ 9223372036854775807) :
    Calls Tryd.prog 6 #[.agg #[.int .i64 n, .slice A m c], .int .i64 a] w (Holds w) := by
  have hx := below_box w (.cells #[.int .i64 n, .slice A m c] 24)
  have k0 : (w.alloc (.cells #[.int .i64 n, .slice A m c] 24)).cell? ⟨w.heap.size, 0, none⟩ = some (.int .i64 n) := by simp [go_sem]
  have k1 : (w.alloc (.cells #[.int .i64 n, .slice A m c] 24)).cell? ⟨w.heap.size, 1, none⟩ = some (.slice A m c) := by simp [go_sem]
  have hbl : Blk (w.alloc (.cells #[.int .i64 n, .slice A m c] 24)) w.heap.size 24 #[.int .i64 n, .slice A m c] := heap_new rfl _
  have HS := Lib.hid hS
  have HBS := Lib.hid hB
  have HR := Lib.hid (srow_cut hR)
  have hm50 : min m 50 ≤ 50 := Nat.min_le_right _ _
  have HF := Lib.hid (fits_take hF 50)
  generalize ws.take 50 = vs at HR HF
  have HB := Lib.hid hx
  have HBL := Lib.hid hbl
  clear hS hB hR hx hbl hF
  go_enter Tryd.func6, Tryd.ntmps6
  go_wp2_with fail
  generalize w.alloc (.cells #[.int .i64 n, .slice A m c] 24) = W0 at *
  refine (sshown_any aA aB aP aS W0 (HBS.out.ext HB.out) (HS.out.ext HB.out)).mono ?_
  rintro e w1 ⟨rfl, hb1⟩
  have e0 := cell_ext hb1 k0
  have e1 := cell_ext hb1 k1
  have HBL1 := Lib.hid (HBL.out.ext hb1)
  have HB1 := Lib.hid (below_le HB.out hb1)
  clear hb1 k0 k1 HBL HB
  go_wp2_with fail
  refine (scut_any A m c n w1 hc).mono ?_
  rintro e w2 ⟨⟨c', rfl⟩, hb2⟩
  generalize min m 50 = m' at *
  have h2 := HBL1.out.ext hb2
  have f0 := h2.frozen 0
  have f1 := h2.frozen 1
  have d0 := h2.cell 0
  have d1 := h2.cell 1
  have h3 := (h2.set_ 0 (.int .i64 n)).set_ 1 (.slice A m' c')
  have hb3 : Below w.heap.size w ((w2.setCell ⟨w.heap.size, 0, none⟩ (.int .i64 n)).setCell ⟨w.heap.size, 1, none⟩ (.slice A m' c')) :=
    ((below_le HB1.out hb2).setCell (p := ⟨w.heap.size, 0, none⟩) (Nat.le_refl _) _).setCell (p := ⟨w.heap.size, 1, none⟩) (Nat.le_refl _) _
  have k0 := h3.cell 0
  have k1 := h3.cell 1
  simp at k0 k1
  have H3 := Lib.hid h3
  have HB3 := Lib.hid hb3
  clear h2 h3 hb2 hb3 HB1 HBL1 e0 e1
  go_wp2_with fail
  generalize (w2.setCell ⟨w.heap.size, 0, none⟩ (.int .i64 n)).setCell ⟨w.heap.size, 1, none⟩ (.slice A m' c') = W3 at *
  clear f0 f1 d0 d1
  obtain ⟨hp0, hp1⟩ := before_plain n vs a
  have hbe := sbefore_any A m' c' n vs a W3 (HR.out.ext HB3.out) HF.out
  have IN : Hid (∀ (lo hi : Int) (x : World), Row x A m' (vs.map U32) → Calls Tryd.prog 27 #[.agg #[.int .i64 n, .slice A m' c'], .int .i64 lo, .int .i64 hi] x (GivesL x (inL n vs lo hi))) := Lib.hid (fun lo hi x h => sin_any A m' c' n vs lo hi x h HF.out)
  have AL : Hid (∀ x : World, Row x A m' (vs.map U32) → Calls Tryd.prog 25 #[.agg #[.int .i64 n, .slice A m' c']] x (GivesL x (allL n vs))) := Lib.hid (fun x h => sall_any A m' c' n vs x h HF.out)
  have HA : Hid (∀ (b : Int) (x : World), b ≤ 9223372036854775807 → Row x A m' (vs.map U32) → Calls Tryd.prog 22 #[.agg #[.int .i64 n, .slice A m' c'], .int .i64 b] x fun e w' => e = .returned (.bool (sHas n vs b)) ∧ Below x.heap.size x w') := Lib.hid (fun b x hb h => shas_any A m' c' n vs b hb x h HF.out)
  generalize upTo (allL n vs) a = U at *
  refine hbe.mono ?_
  clear hbe
  rintro e w4 ⟨rfl, hb4⟩
  have e0 := cell_ext hb4 k0
  have e1 := cell_ext hb4 k1
  have HB4 := Lib.hid (below_le HB3.out hb4)
  clear hb4 k0 k1
  by_cases hU : U = []
  · obtain ⟨hq0, hq1⟩ := hp0 hU
    rw [show U.getLastD 0 = 0 by rw [hU]; rfl, show (!U.isEmpty) = false by rw [hU]; rfl]
    clear hp0 hp1 hU
    by_cases hbig : 1099511627776 ≤ a
    · have hL := hq0 hbig
      have hal := AL.out w4 (HR.out.ext HB4.out)
      rw [hL] at hal
      clear hq0 hq1 hL AL IN HA
      go_wp2_with fail
      refine hal.mono ?_
      clear hal
      rintro e w5 ⟨C, q, f, rfl, hRl, hb5⟩
      obtain rfl : q = 0 := by have := hRl.1; simpa using this.symm
      have HB5 := Lib.hid (below_le HB4.out hb5)
      clear hRl hb5
      go_wp2
      go_ret
      exact ⟨ret_bool (by simp), HB5.out⟩
    · have hlt : a < 1099511627776 := by omega
      have hL := hq1 hlt
      have hin := IN.out 0 (a + 1) w4 (HR.out.ext HB4.out)
      rw [hL] at hin
      clear hq0 hq1 hL AL IN HA
      go_wp2_with fail
      refine hin.mono ?_
      clear hin
      rintro e w5 ⟨C, q, f, rfl, hRl, hb5⟩
      obtain rfl : q = 0 := by have := hRl.1; simpa using this.symm
      have HB5 := Lib.hid (below_le HB4.out hb5)
      clear hRl hb5
      go_wp2
      go_ret
      exact ⟨ret_bool (by simp), HB5.out⟩
  · obtain ⟨x, hx, hx0, hx1, hhas, hxa, hi1, hi2⟩ := hp1 hU
    rw [hx, show (!U.isEmpty) = true by cases U <;> simp_all]
    have H1 := Lib.hid hi1
    have H2 := Lib.hid hi2
    have hha := HA.out x w4 (by omega) (HR.out.ext HB4.out)
    rw [hhas] at hha
    clear hp0 hp1 hU hi1 hi2 hx hhas HA AL
    go_wp2_with fail
    refine hha.mono ?_
    clear hha
    rintro e w5 ⟨rfl, hb5⟩
    have k0 := cell_ext hb5 e0
    have k1 := cell_ext hb5 e1
    have HB5 := Lib.hid (below_le HB4.out hb5)
    clear hb5 e0 e1
    by_cases hbig : 1099511627776 ≤ a
    · go_wp2_with fail
      have hin := IN.out x (x + 1) w5 (HR.out.ext HB5.out)
      refine hin.mono ?_
      clear hin
      rintro e w6 ⟨C, q, f, rfl, hRl, hb6⟩
      obtain rfl : q = 1 := by have := hRl.1; rw [List.length_map, H2.out] at this; exact this.symm
      have HB6 := Lib.hid (below_le HB5.out hb6)
      clear hRl hb6
      go_wp2
      go_ret
      exact ⟨ret_bool (by simp), HB6.out⟩
    · go_wp2_with fail
      have hin := IN.out (x + 1) (a + 1) w5 (HR.out.ext HB5.out)
      rw [H1.out] at hin
      refine hin.mono ?_
      clear hin
      rintro e w6 ⟨C, q, f, rfl, hRl, hb6⟩
      obtain rfl : q = 0 := by have := hRl.1; simpa using this.symm
      have e0 := cell_ext hb6 k0
      have e1 := cell_ext hb6 k1
      have HB6 := Lib.hid (below_le HB5.out hb6)
      clear hRl hb6 k0 k1
      go_wp2_with fail
      have hin := IN.out x (x + 1) w6 (HR.out.ext HB6.out)
      refine hin.mono ?_
      clear hin
      rintro e w7 ⟨C, q, f, rfl, hRl, hb7⟩
      obtain rfl : q = 1 := by have := hRl.1; rw [List.length_map, H2.out] at this; exact this.symm
      have HB7 := Lib.hid (below_le HB6.out hb7)
      clear hRl hb7
      go_wp2
      go_ret
      exact ⟨ret_bool (by simp), HB7.out⟩

end Go.Proofs.YtelbddnjnapoeaaDoor
namespace Go.Proofs.YtelbddnjnapoeaaDoor
open Go.RowKit

theorem below_new (w : World) (o : Obj) : Below w.heap.size w (w.alloc o) := (Below.refl _ _).alloc (Nat.le_refl _) _
theorem row_new1 (w : World) (t : TypeId) (v : Value) : Row (w.alloc (.cells #[v] t)) (some ⟨w.heap.size, 0, none⟩) 1 [v] :=
  ⟨rfl, fun _ => ⟨w.heap.size, 0, rfl, fun j u hu => by
    match j with
    | 0 => simp [go_sem] at hu ⊢; exact hu
    | j + 1 => simp at hu⟩⟩

/-- append(s, u), the list s being the call's own since w0. -/
theorem wpList_push {P : Program} {ops : Array Oper} {rest : List Oper} {o : Oper} {a : Act} {Q : Exit → Act → World → Prop} {w0 : World} (W : World) (hgd : o.guard = none) (s x : Operand) (t : TypeId)
    (ho : o.op = .call { callee := .builtin .append, args := #[s, x], argTypes := #[t, t] })
    (base : Nat) (e : TypeId) (i : TypeInfo) (z : Value) (bytes : Nat) (ht : P.underlying t = some (.slice e)) (hi : P.info? e = some i) (hz : i.zero = some z)
    (hsize : i.size = 1) (hby : i.bytes = bytes) (hzs : z.cells.size = 1) (v : Value) (n : Nat) (xs : List Value) (hs : a.eval s = v) (hown : W.ownsRow base e 1 v n xs)
    (u : Value) (hu : u.oneCell' = true) (hx : a.eval x = .slice (some ⟨W.heap.size, 0, none⟩) 1 1)
    (h63 : n + 1 ≤ maxLen) (hbytes : (n + 1) * bytes ≤ 140737488355328) (hw0 : w0.heap.size ≤ base) (hbase : base ≤ W.heap.size) (hB : Below w0.heap.size w0 W)
    (h : ∀ v' w', w'.ownsRow base e 1 v' (n + 1) (xs ++ [u]) → Below w0.heap.size w0 w' → wpList P ops Q rest (a.put o.dst v') w') : wpList P ops Q (o :: rest) a (W.alloc (.cells #[u] e)) := by
  refine wpList_append_row (W.alloc (.cells #[u] e)) hgd s x t ho base e i z bytes ht hi hz hsize hby hzs v n xs hs (own_ext (below_new _ _) hown) (some ⟨W.heap.size, 0, none⟩) 1 1 [u] hx (row_new1 W e u)
    (fun u' hu' => by rw [List.mem_singleton.1 hu']; exact hu) h63 hbytes (Nat.le_trans hbase (below_new W _).size) fun v' w' h2 h3 => h v' w' h2 ?_
  exact (below_le hB (below_new W _)).trans ((Below.refl _ _).grown h3 (Nat.le_trans hw0 (Nat.le_trans hbase (below_new W _).size)) fun k e => Nat.le_trans hw0 (own_base hown e))

end Go.Proofs.YtelbddnjnapoeaaDoor
namespace Go.Proofs.YtelbddnjnapoeaaDoor
open Go.RowKit Go.Shelf

theorem i64_eight (i : Nat) (hi : i ≤ 100000) : IntKind.i64.wrap (8 * (i : Int)) = (i : Int) * 8 := by rw [IntKind.wrap_i64]; omega
theorem all_take {n : Int} {ws : List Nat} (hr : sRight n ws = true) {k i : Nat} (hi : (listN n ws)[k]? = some i) : (allL n ws).take (k + 1) = (allL n ws).take k ++ [(i : Int) * 8] := by
  rw [all_eq hr, List.take_add_one, List.getElem?_map, hi]; rfl
theorem list_bound {n : Int} {ws : List Nat} {i : Nat} (h : i ∈ listN n ws) : i ≤ 20000 := by
  unfold listN at h
  split at h
  · rename_i hr
    have := rightB_elim hr
    have := List.mem_range.1 (List.mem_filter.1 h).1
    omega
  · cases h
theorem nat_at {A : Option Addr} {n : Nat} {l : List Nat} {w : World} {k : Nat} (hR : Row w A n (l.map I64)) (hk : k < n) :
    ∃ b off x, A = some ⟨b, off, none⟩ ∧ w.cell? ⟨b, off + k, none⟩ = some (.int .i64 (x : Nat)) ∧ l[k]? = some x := by
  obtain ⟨b, off, rfl, hc⟩ := hR.at_ (k := k) hk
  have hl := hR.1
  simp at hl
  exact ⟨b, off, l[k]'(by omega), rfl, by simpa [I64] using hc, List.getElem?_eq_getElem _⟩

set_option maxRecDepth 100000 in
set_option maxHeartbeats 1000000 in
/-- The reference's All. -/
theorem rall_any (A : Option Addr) (m c : Nat) (n : Int) (ws : List Nat) (w : World) (hR : Row w A m (ws.map U32)) (hF : Fits ws) :
    Calls Tryd.prog 26 #[.agg #[.int .i64 n, .slice A m c]] w (GivesL w (allL n ws)) := by
  have hb0 := below_box w (.cells #[.int .i64 n, .slice A m c] 24)
  have k0 := box0 (w := w) (t := 24) (v0 := .int .i64 n) (v1 := .slice A m c)
  have k1 := box1 (w := w) (t := 24) (v0 := .int .i64 n) (v1 := .slice A m c)
  have HR := Lib.hid (hR.ext hb0)
  have HF := Lib.hid hF
  have HB := Lib.hid hb0
  clear hR hF hb0
  go_enter Tryd.func26, Tryd.ntmps26
  go_wp2_with fail
  generalize w.alloc (.cells #[.int .i64 n, .slice A m c] 24) = W0 at *
  refine (rsright_any A m c n ws W0 HR.out HF.out).mono ?_
  rintro e w1 ⟨rfl, hb_⟩
  replace k0 := cell_ext hb_ k0
  replace k1 := cell_ext hb_ k1
  replace HR := Lib.hid (HR.out.ext hb_)
  replace HB := Lib.hid (below_le HB.out hb_)
  clear hb_
  cases hr : sRight n ws
  · have HQ := Lib.hid (all_wrong hr)
    clear hr
    go_wp2
    go_ret
    exact ⟨none, 0, 0, rfl, by rw [HQ.out]; exact Row.none_, HB.out⟩
  · have hlen : (allL n ws).length = (listN n ws).length := by rw [all_eq hr, List.length_map]
    have hle : (allL n ws).length ≤ 16384 := eachL_le n ws _
    have hat : ∀ k i : Nat, (listN n ws)[k]? = some i → i ≤ 20000 ∧ (allL n ws).take (k + 1) = (allL n ws).take k ++ [(i : Int) * 8] := fun k i hi => ⟨list_bound (List.mem_of_getElem? hi), all_take hr hi⟩
    have hli := reflist_any A m c n ws w1 HR.out HF.out
    clear hr
    generalize allL n ws = L at *
    generalize listN n ws = M at *
    go_wp2_with fail
    refine hli.mono ?_
    clear hli
    rintro e w2 ⟨C, q, f, rfl, hRl, -, hb2⟩
    replace HB := Lib.hid (below_le HB.out hb2)
    have HL := Lib.hid hRl
    have hql := hRl.1
    simp at hql
    have HAT := Lib.hid hat
    have HLN := Lib.hid hlen
    have hq : q ≤ 16384 := by omega
    have HQL := Lib.hid hql
    clear hRl hb2 hat hle hlen hql
    obtain ⟨i, hi, hz0, hz1, hz2⟩ := info_parts int_info
    go_wp2
    go_loopw [3, 5] (fun s i wr => ∃ k : Nat, k ≤ q ∧ i = .int .i64 k ∧ wr.ownsRow w2.heap.size 3 1 s k ((L.take k).map Iv) ∧ Below w2.heap.size w2 wr) (fun _ i _ => q - (intOf i).toNat)
    case atStart => exact ⟨0, Nat.zero_le _, rfl, ⟨rfl, .inl ⟨rfl, rfl⟩⟩, Below.refl _ _⟩
    case round =>
      obtain ⟨k, hk, rfl, hown, hb⟩ := hrel
      have HO := Lib.hid hown
      have Hb := Lib.hid hb
      have hsz := hb.size
      clear hown hb
      by_cases hlt : k < q
      · obtain ⟨b, off, x, rfl, hcx, hx⟩ := nat_at (HL.out.ext Hb.out) hlt
        obtain ⟨hx1, hx2⟩ := HAT.out k x hx
        have hx3 := i64_eight x (by omega)
        have HX2 := Lib.hid hx2
        clear hx hx2
        go_wp2_with (at_builtin; refine stop_here ?_)
        intro _
        refine wpList_push (w0 := w2) wr rfl (.tmp 18) (.tmp 24) 37 rfl w2.heap.size 3 i (.int .i64 0) 8 Tryd.underlying37 hi hz0 hz1 hz2 rfl u3 k _ rfl HO.out (.int .i64 ((x : Int) * 8)) rfl rfl (by unfold maxLen; omega) (by omega) (Nat.le_refl _) hsz Hb.out ?_
        intro v' w3 hown hb3
        have HOW := Lib.hid hown
        have HB3 := Lib.hid hb3
        clear hown hb3
        go_wp2
        go_roundw
        case rel => exact ⟨k + 1, by omega, by go_num, by rw [HX2.out, List.map_append]; exact HOW.out, HB3.out⟩
        case measure => simp [intOf]; omega
      · obtain rfl : k = q := by omega
        obtain ⟨A', c', rfl, hrow, -⟩ := row_of_owns HO.out
        have HW := Lib.hid hrow
        have HTK : Hid (L.take k = L) := Lib.hid (List.take_of_length_le (by have := HLN.out; have := HQL.out; omega))
        clear hrow
        go_wp2
        go_ret
        exact ⟨_, _, _, rfl, by rw [HTK.out] at HW; exact HW.out, below_le HB.out Hb.out⟩

theorem filter_take {L : List Int} (p : Int → Bool) {k : Nat} {x : Int} (hx : L[k]? = some x) : (L.take (k + 1)).filter p = (L.take k).filter p ++ if p x then [x] else [] := by
  rw [List.take_add_one, hx, List.filter_append]
  congr 1
  cases h : p x <;> simp [h]
theorem filter_take_le (L : List Int) (p : Int → Bool) (k : Nat) : ((L.take k).filter p).length ≤ k := by
  have := List.length_filter_le p (L.take k)
  have := List.length_take_le k L
  omega

set_option maxRecDepth 100000 in
set_option maxHeartbeats 1000000 in
/-- The reference's In. -/
theorem rin_any (A : Option Addr) (m c : Nat) (n : Int) (ws : List Nat) (lo hi : Int) (w : World) (hR : Row w A m (ws.map U32)) (hF : Fits ws) :
    Calls Tryd.prog 28 #[.agg #[.int .i64 n, .slice A m c], .int .i64 lo, .int .i64 hi] w (GivesL w (inL n ws lo hi)) := by
  have hb0 := below_box w (.cells #[.int .i64 n, .slice A m c] 24)
  have k0 := box0 (w := w) (t := 24) (v0 := .int .i64 n) (v1 := .slice A m c)
  have k1 := box1 (w := w) (t := 24) (v0 := .int .i64 n) (v1 := .slice A m c)
  have hal := rall_any A m c n ws (w.alloc (.cells #[.int .i64 n, .slice A m c] 24)) (hR.ext hb0) hF
  have hle : (allL n ws).length ≤ 16384 := eachL_le n ws _
  have HIN := Lib.hid (in_eq n ws lo hi)
  have HB := Lib.hid hb0
  clear hR hF hb0
  generalize allL n ws = L at *
  generalize inL n ws lo hi = M at *
  obtain ⟨p, hp⟩ : ∃ p : Int → Bool, (fun a => decide (lo ≤ a) && decide (a < hi)) = p := ⟨_, rfl⟩
  have HP : Hid (∀ x, p x = (decide (lo ≤ x) && decide (x < hi))) := Lib.hid (fun x => by rw [← hp])
  rw [hp] at HIN
  clear hp
  obtain ⟨i, hi_, hz0, hz1, hz2⟩ := info_parts int_info
  go_enter Tryd.func28, Tryd.ntmps28
  go_wp2_with fail
  generalize w.alloc (.cells #[.int .i64 n, .slice A m c] 24) = W0 at *
  refine (hal).mono ?_
  rintro e w2 ⟨C, q, f, rfl, hRl, hb_⟩
  replace k0 := cell_ext hb_ k0
  replace k1 := cell_ext hb_ k1
  replace HB := Lib.hid (below_le HB.out hb_)
  clear hb_
  have HL := Lib.hid hRl
  have hql := hRl.1
  simp at hql
  have HQL := Lib.hid hql
  have hq : q ≤ 16384 := by omega
  clear hRl hal hle hql
  go_wp2
  go_loopw [7, 9] (fun s i wr => ∃ k : Nat, k ≤ q ∧ i = .int .i64 k ∧ wr.ownsRow w2.heap.size 3 1 s ((L.take k).filter p).length (((L.take k).filter p).map Iv) ∧ Below w2.heap.size w2 wr) (fun _ i _ => q - (intOf i).toNat)
  case atStart => exact ⟨0, Nat.zero_le _, rfl, ⟨rfl, .inl ⟨rfl, rfl⟩⟩, Below.refl _ _⟩
  case round =>
    obtain ⟨k, hk, rfl, hown, hb⟩ := hrel
    have HO := Lib.hid hown
    have Hb := Lib.hid hb
    have hsz := hb.size
    have hfl := filter_take_le L p k
    clear hown hb
    by_cases hlt : k < q
    · obtain ⟨b, off, x, rfl, hcx, -, hx⟩ := num_at (HL.out.ext Hb.out) hlt
      have hft := filter_take p hx
      rw [HP.out] at hft
      clear hx
      by_cases h1 : lo ≤ x
      · by_cases h2 : x < hi
        · rw [decide_eq_true h1, decide_eq_true h2] at hft
          simp only [Bool.and_self, if_true] at hft
          have HFT := Lib.hid hft
          clear hft
          generalize hLL : (L.take k).filter p = LL at *
          go_wp2_with (at_builtin; refine stop_here ?_)
          intro _
          refine wpList_push (w0 := w2) wr rfl (.tmp 32) (.tmp 37) 37 rfl w2.heap.size 3 i (.int .i64 0) 8 Tryd.underlying37 hi_ hz0 hz1 hz2 rfl u7 LL.length _ rfl HO.out (.int .i64 x) rfl rfl (by unfold maxLen; omega) (by omega) (Nat.le_refl _) hsz Hb.out ?_
          intro v' w3 hown hb3
          have HOW := Lib.hid hown
          have HB3 := Lib.hid hb3
          clear hown hb3
          go_wp2
          go_roundw
          case rel => exact ⟨k + 1, by omega, by go_num, by rw [HFT.out, List.map_append, List.length_append]; exact HOW.out, HB3.out⟩
          case measure => simp [intOf]; omega
        · rw [decide_eq_false h2] at hft
          simp only [Bool.and_false, Bool.false_eq_true, if_false, List.append_nil] at hft
          have HFT := Lib.hid hft
          clear hft
          go_wp2
          go_roundw
          case rel => exact ⟨k + 1, by omega, by go_num, by rw [HFT.out]; exact HO.out, Hb.out⟩
          case measure => simp [intOf]; omega
      · rw [decide_eq_false h1] at hft
        simp only [Bool.false_and, Bool.false_eq_true, if_false, List.append_nil] at hft
        have HFT := Lib.hid hft
        clear hft
        go_wp2
        go_roundw
        case rel => exact ⟨k + 1, by omega, by go_num, by rw [HFT.out]; exact HO.out, Hb.out⟩
        case measure => simp [intOf]; omega
    · obtain rfl : k = q := by omega
      obtain ⟨A', c', rfl, hrow, -⟩ := row_of_owns HO.out
      have HW := Lib.hid hrow
      have HTK : Hid (L.take k = L) := Lib.hid (List.take_of_length_le (by have := HQL.out; omega))
      clear hrow
      go_wp2
      go_ret
      have HX : Hid ((L.take k).filter p = M) := Lib.hid (by rw [HTK.out, HIN.out])
      exact ⟨_, _, _, rfl, by have h := HW.out; rw [HX.out] at h ⊢; exact h, below_le HB.out Hb.out⟩

theorem upTo_at {L : List Int} (hs : L.Pairwise (· < ·)) {a x : Int} {k : Nat} (hx : L[k]? = some x) (hxa : x ≤ a) (hd : ∀ y ∈ L.drop (k + 1), a < y) : (upTo L a).getLastD 0 = x ∧ (upTo L a).isEmpty = false := by
  have hxU : x ∈ upTo L a := (upTo_mem hs).2 ⟨List.mem_of_getElem? hx, hxa⟩
  have hne : upTo L a ≠ [] := fun h => by rw [h] at hxU; cases hxU
  obtain ⟨h1, h2⟩ := last_max (upTo_sorted hs a) hne
  have h3 := (upTo_mem hs).1 h1
  have h4 := h2 x hxU
  refine ⟨?_, by cases h : upTo L a <;> simp_all⟩
  have h5 := h3.1
  generalize (upTo L a).getLastD 0 = z at *
  rw [← List.take_append_drop (k + 1) L, List.mem_append] at h5
  rcases h5 with h5 | h5
  · rw [List.take_add_one, hx] at h5
    rcases List.mem_append.1 h5 with h6 | h6
    · obtain ⟨j, hj, hje⟩ := List.mem_iff_getElem.1 h6
      obtain ⟨hk, rfl⟩ := List.getElem?_eq_some_iff.1 hx
      have hjk : j < k := by have := List.length_take_le k L; omega
      have h7 := List.pairwise_iff_getElem.1 hs j k (by omega) hk hjk
      rw [List.getElem_take] at hje
      omega
    · simpa using h6
  · have := hd _ h5
    omega
theorem upTo_none {L : List Int} (hs : L.Pairwise (· < ·)) {a : Int} (h : ∀ y ∈ L, a < y) : upTo L a = [] := by
  refine List.eq_nil_iff_forall_not_mem.2 fun x hx => ?_
  have h1 := (upTo_mem hs).1 hx
  have := h x h1.1
  omega
theorem drop_next {L : List Int} {a x : Int} {k : Nat} (hx : L[k]? = some x) (hd : ∀ y ∈ L.drop (k + 1), a < y) (hxa : a < x) : ∀ y ∈ L.drop k, a < y := by
  obtain ⟨hk, rfl⟩ := List.getElem?_eq_some_iff.1 hx
  intro y hy
  rw [List.drop_eq_getElem_cons hk] at hy
  rcases List.mem_cons.1 hy with rfl | hy
  · exact hxa
  · exact hd y hy

set_option maxRecDepth 100000 in
set_option maxHeartbeats 1000000 in
/-- The reference's Before. -/
theorem rbefore_any (A : Option Addr) (m c : Nat) (n : Int) (ws : List Nat) (a : Int) (w : World) (hR : Row w A m (ws.map U32)) (hF : Fits ws) :
    Calls Tryd.prog 19 #[.agg #[.int .i64 n, .slice A m c], .int .i64 a] w (GivesBef w (upTo (allL n ws) a)) := by
  have hb0 := below_box w (.cells #[.int .i64 n, .slice A m c] 24)
  have k0 := box0 (w := w) (t := 24) (v0 := .int .i64 n) (v1 := .slice A m c)
  have k1 := box1 (w := w) (t := 24) (v0 := .int .i64 n) (v1 := .slice A m c)
  have hal := rall_any A m c n ws (w.alloc (.cells #[.int .i64 n, .slice A m c] 24)) (hR.ext hb0) hF
  have hle : (allL n ws).length ≤ 16384 := eachL_le n ws _
  have HSO := Lib.hid (all_sorted n ws)
  have HB := Lib.hid hb0
  clear hR hF hb0
  generalize allL n ws = L at *
  go_enter Tryd.func19, Tryd.ntmps19
  go_wp2_with fail
  generalize w.alloc (.cells #[.int .i64 n, .slice A m c] 24) = W0 at *
  refine (hal).mono ?_
  rintro e w2 ⟨C, q, f, rfl, hRl, hb_⟩
  replace k0 := cell_ext hb_ k0
  replace k1 := cell_ext hb_ k1
  replace HB := Lib.hid (below_le HB.out hb_)
  clear hb_
  have HL := Lib.hid hRl
  have hql := hRl.1
  simp at hql
  have HQL := Lib.hid hql
  have hq : q ≤ 16384 := by omega
  clear hRl hal hle hql
  go_wp2
  go_loop [7] (fun i => ∃ k : Nat, k ≤ q ∧ i = .int .i64 ((k : Int) - 1) ∧ ∀ y ∈ L.drop k, a < y) (fun i => (intOf i + 1).toNat)
  case atStart => exact ⟨q, Nat.le_refl _, rfl, fun y hy => by rw [List.drop_of_length_le (by have := HQL.out; omega)] at hy; cases hy⟩
  case round =>
    obtain ⟨k, hk, rfl, hd⟩ := hrel
    have HD := Lib.hid hd
    clear hd
    rcases k with _ | k
    · have HE := Lib.hid (upTo_none HSO.out (by simpa using HD.out))
      go_wp2
      go_ret2
      exact ⟨by rw [HE.out]; rfl, HB.out⟩
    · rw [show ((k + 1 : Nat) : Int) - 1 = (k : Int) by omega]
      obtain ⟨b, off, x, rfl, hcx, -, hx⟩ := num_at HL.out (show k < q by omega)
      have HX := Lib.hid hx
      clear hx
      by_cases hxa : x ≤ a
      · have HE := Lib.hid (upTo_at HSO.out HX.out hxa HD.out)
        go_wp2
        go_ret2
        exact ⟨by rw [HE.out.1, HE.out.2]; rfl, HB.out⟩
      · have HE := Lib.hid (drop_next HX.out HD.out (by omega))
        go_wp2
        go_round
        case rel => exact ⟨k, by omega, by go_num, HE.out⟩
        case measure => simp [intOf]

end Go.Proofs.YtelbddnjnapoeaaDoor
namespace Go.Proofs.YtelbddnjnapoeaaDoor
open Go.RowKit Go.Shelf

/-- What New gives. -/
def newC (b : Int) : Nat := if 1 ≤ b ∧ b ≤ 32 then 0 else 2
def newN (b : Int) : Int := if 1 ≤ b ∧ b ≤ 32 then 512 * b else 0
def newW (b : Int) : List Nat := if 1 ≤ b ∧ b ≤ 32 then noneW (512 * b) else []
theorem snew_any (b : Int) (aA aB aP : Addr) (w : World) (hS : BSent w aA aB aP) : Calls Tryd.prog 16 #[.int .i64 b] w (GivesBits w (newC b) (newN b) (newW b)) := by
  unfold newC newN newW
  by_cases h : 1 ≤ b ∧ b ≤ 32
  · rw [if_pos h, if_pos h, if_pos h]; exact new_ok b aA aB aP w hS h.1 h.2
  · rw [if_neg h, if_neg h, if_neg h]; exact new_bad b w (by omega)
theorem rnew_any (b : Int) (w : World) : Calls Tryd.prog 17 #[.int .i64 b] w (GivesBits w (newC b) (newN b) (newW b)) := by
  unfold newC newN newW
  by_cases h : 1 ≤ b ∧ b ≤ 32
  · rw [if_pos h, if_pos h, if_pos h]; exact rnew_ok b w h.1 h.2
  · rw [if_neg h, if_neg h, if_neg h]; exact rnew_bad b w (by omega)
theorem newW_fits (b : Int) : Fits (newW b) ∧ (newW b).length ≤ 1000 := by
  unfold newW
  split
  · refine ⟨fun x hx => ?_, ?_⟩
    · unfold noneW at hx; rw [List.eq_of_mem_replicate hx]; decide
    · unfold noneW; simp; omega
  · exact ⟨fun _ h => (by cases h), by simp⟩

set_option maxRecDepth 100000 in
set_option maxHeartbeats 4000000 in
theorem startsTells_any (A : Option Addr) (m c : Nat) (n : Int) (ws : List Nat) (bl lo hi : Int) (aA aB aP aS : Addr) (w : World) (hB : BSent w aA aB aP) (hS : SSent w aS) (hR : Row w A m (ws.map U32)) (hF : Fits ws) (hc : m ≤ c) (hlo : lo ≤ 9223372036854775807) :
    Calls Tryd.prog 4 #[.agg #[.int .i64 n, .slice A m c], .int .i64 bl, .int .i64 lo, .int .i64 hi] w (Holds w) := by
  have hx := below_box w (.cells #[.int .i64 n, .slice A m c] 24)
  have k0 : (w.alloc (.cells #[.int .i64 n, .slice A m c] 24)).cell? ⟨w.heap.size, 0, none⟩ = some (.int .i64 n) := by simp [go_sem]
  have k1 : (w.alloc (.cells #[.int .i64 n, .slice A m c] 24)).cell? ⟨w.heap.size, 1, none⟩ = some (.slice A m c) := by simp [go_sem]
  have hbl : Blk (w.alloc (.cells #[.int .i64 n, .slice A m c] 24)) w.heap.size 24 #[.int .i64 n, .slice A m c] := heap_new rfl _
  have HS := Lib.hid hS
  have HBS := Lib.hid hB
  have HR := Lib.hid (srow_cut hR)
  have hm50 : min m 50 ≤ 50 := Nat.min_le_right _ _
  have HF := Lib.hid (fits_take hF 50)
  generalize ws.take 50 = vs at HR HF
  have HB := Lib.hid hx
  have HBL := Lib.hid hbl
  clear hS hB hR hx hbl hF
  go_enter Tryd.func4, Tryd.ntmps4
  go_wp2_with fail
  generalize w.alloc (.cells #[.int .i64 n, .slice A m c] 24) = W0 at *
  refine (sshown_any aA aB aP aS W0 (HBS.out.ext HB.out) (HS.out.ext HB.out)).mono ?_
  rintro e w1 ⟨rfl, hb1⟩
  have e0 := cell_ext hb1 k0
  have e1 := cell_ext hb1 k1
  have HBL1 := Lib.hid (HBL.out.ext hb1)
  have HB1 := Lib.hid (below_le HB.out hb1)
  clear hb1 k0 k1 HBL HB
  go_wp2_with fail
  refine (scut_any A m c n w1 hc).mono ?_
  rintro e w2 ⟨⟨c', rfl⟩, hb2⟩
  generalize min m 50 = m' at *
  have h2 := HBL1.out.ext hb2
  have f0 := h2.frozen 0
  have f1 := h2.frozen 1
  have d0 := h2.cell 0
  have d1 := h2.cell 1
  have h3 := (h2.set_ 0 (.int .i64 n)).set_ 1 (.slice A m' c')
  have hb3 : Below w.heap.size w ((w2.setCell ⟨w.heap.size, 0, none⟩ (.int .i64 n)).setCell ⟨w.heap.size, 1, none⟩ (.slice A m' c')) :=
    ((below_le HB1.out hb2).setCell (p := ⟨w.heap.size, 0, none⟩) (Nat.le_refl _) _).setCell (p := ⟨w.heap.size, 1, none⟩) (Nat.le_refl _) _
  have k0 := h3.cell 0
  have k1 := h3.cell 1
  simp at k0 k1
  have H3 := Lib.hid h3
  have HB3 := Lib.hid hb3
  clear h2 h3 hb2 hb3 HB1 HBL1 e0 e1
  go_wp2_with fail
  generalize (w2.setCell ⟨w.heap.size, 0, none⟩ (.int .i64 n)).setCell ⟨w.heap.size, 1, none⟩ (.slice A m' c') = W3 at *
  clear f0 f1 d0 d1
  have N1 : Hid (∀ x : World, BSent x aA aB aP → Calls Tryd.prog 16 #[.int .i64 bl] x (GivesBits x (newC bl) (newN bl) (newW bl))) := Lib.hid (fun x h => snew_any bl aA aB aP x h)
  have N2 : Hid (∀ x : World, Calls Tryd.prog 17 #[.int .i64 bl] x (GivesBits x (newC bl) (newN bl) (newW bl))) := Lib.hid (fun x => rnew_any bl x)
  have SM : Hid (∀ (C D : Option Addr) (q f r g : Nat) (x : World), Row x C q ((newW bl).map U32) → Row x D r ((newW bl).map U32) → Calls Tryd.prog 15 #[.agg #[.int .i64 (newN bl), .slice C q f], .agg #[.int .i64 (newN bl), .slice D r g]] x fun e w' => e = .returned (.bool true) ∧ Below x.heap.size x w') := Lib.hid (fun C D q f r g x h3 h4 => by
    obtain ⟨h1, h2⟩ := newW_fits bl
    have h := refsame_any C D (newN bl) (newN bl) q f r g _ _ x h3 h4 h1 h1 (by have := h3.1; simp at this; omega) (by have := h4.1; simp at this; omega)
    rw [show sameB (newN bl) (newW bl) (newN bl) (newW bl) = true by simp [sameB]] at h
    exact h)
  have B1 : Hid (∀ x : World, Row x A m' (vs.map U32) → Calls Tryd.prog 18 #[.agg #[.int .i64 n, .slice A m' c'], .int .i64 hi] x (GivesBef x (upTo (allL n vs) hi))) := Lib.hid (fun x h => sbefore_any A m' c' n vs hi x h HF.out)
  have B2 : Hid (∀ x : World, Row x A m' (vs.map U32) → Calls Tryd.prog 19 #[.agg #[.int .i64 n, .slice A m' c'], .int .i64 hi] x (GivesBef x (upTo (allL n vs) hi))) := Lib.hid (fun x h => rbefore_any A m' c' n vs hi x h HF.out)
  have R1 : Hid (∀ x : World, Row x A m' (vs.map U32) → Calls Tryd.prog 20 #[.agg #[.int .i64 n, .slice A m' c']] x fun e w' => e = .returned (.bool (sRight n vs)) ∧ Below x.heap.size x w') := Lib.hid (fun x h => sright_any A m' c' n vs x h HF.out)
  have R2 : Hid (∀ x : World, Row x A m' (vs.map U32) → Calls Tryd.prog 21 #[.agg #[.int .i64 n, .slice A m' c']] x fun e w' => e = .returned (.bool (sRight n vs)) ∧ Below x.heap.size x w') := Lib.hid (fun x h => rsright_any A m' c' n vs x h HF.out)
  have H1 : Hid (∀ x : World, Row x A m' (vs.map U32) → Calls Tryd.prog 22 #[.agg #[.int .i64 n, .slice A m' c'], .int .i64 lo] x fun e w' => e = .returned (.bool (sHas n vs lo)) ∧ Below x.heap.size x w') := Lib.hid (fun x h => shas_any A m' c' n vs lo hlo x h HF.out)
  have H2 : Hid (∀ x : World, Row x A m' (vs.map U32) → Calls Tryd.prog 23 #[.agg #[.int .i64 n, .slice A m' c'], .int .i64 lo] x fun e w' => e = .returned (.bool (sHas n vs lo)) ∧ Below x.heap.size x w') := Lib.hid (fun x h => rshas_any A m' c' n vs lo hlo x h HF.out)
  have A1 : Hid (∀ x : World, Row x A m' (vs.map U32) → Calls Tryd.prog 25 #[.agg #[.int .i64 n, .slice A m' c']] x (GivesL x (allL n vs))) := Lib.hid (fun x h => sall_any A m' c' n vs x h HF.out)
  have A2 : Hid (∀ x : World, Row x A m' (vs.map U32) → Calls Tryd.prog 26 #[.agg #[.int .i64 n, .slice A m' c']] x (GivesL x (allL n vs))) := Lib.hid (fun x h => rall_any A m' c' n vs x h HF.out)
  have I1 : Hid (∀ x : World, Row x A m' (vs.map U32) → Calls Tryd.prog 27 #[.agg #[.int .i64 n, .slice A m' c'], .int .i64 lo, .int .i64 hi] x (GivesL x (inL n vs lo hi))) := Lib.hid (fun x h => sin_any A m' c' n vs lo hi x h HF.out)
  have I2 : Hid (∀ x : World, Row x A m' (vs.map U32) → Calls Tryd.prog 28 #[.agg #[.int .i64 n, .slice A m' c'], .int .i64 lo, .int .i64 hi] x (GivesL x (inL n vs lo hi))) := Lib.hid (fun x h => rin_any A m' c' n vs lo hi x h HF.out)
  have IT : Hid (∀ (l : List Int) (C D : Option Addr) (q f r g : Nat) (x : World), l.length ≤ 16384 → Row x C q (l.map Iv) → Row x D r (l.map Iv) → Calls Tryd.prog 24 #[.slice C q f, .slice D r g] x fun e w' => e = .returned (.bool true) ∧ Below x.heap.size x w') := Lib.hid (fun l C D q f r g x h0 h1 h2 => by
    have h := ints_any C D q f r g l l x h1 h2 (by have := h1.1; simp at this; omega) (by have := h2.1; simp at this; omega)
    rw [decide_eq_true rfl] at h
    exact h)
  have L1 : Hid ((allL n vs).length ≤ 16384) := Lib.hid (eachL_le n vs _)
  have L2 : Hid ((inL n vs lo hi).length ≤ 16384) := Lib.hid (eachL_le n vs _)
  generalize newC bl = cd at *
  generalize newN bl = nn at *
  generalize newW bl = nw at *
  generalize upTo (allL n vs) hi = U at *
  generalize allL n vs = AL at *
  generalize inL n vs lo hi = IL at *
  generalize sRight n vs = ri at *
  generalize sHas n vs lo = ha at *
  unfold GivesBef at B1 B2
  generalize U.getLastD 0 = la at *
  generalize (!U.isEmpty) = li at *
  have HB := HB3
  clear HB3
  refine (N1.out W3 (HBS.out.ext HB.out)).mono ?_
  rintro e w4 ⟨C1, q1, g1, rfl, r1, hb_⟩
  replace k0 := cell_ext hb_ k0
  replace k1 := cell_ext hb_ k1
  replace HB := Lib.hid (below_le HB.out hb_)
  clear hb_
  have S1 := Lib.hid r1
  clear r1
  have hx_ := below_box w4 (.cells #[.int .i64 nn, .slice C1 q1 g1] 24)
  replace k0 := cell_ext hx_ k0
  replace k1 := cell_ext hx_ k1
  replace S1 := Lib.hid (S1.out.ext hx_)
  have s0 := box0 (w := w4) (t := 24) (v0 := .int .i64 nn) (v1 := .slice C1 q1 g1)
  have s1 := box1 (w := w4) (t := 24) (v0 := .int .i64 nn) (v1 := .slice C1 q1 g1)
  replace HB := Lib.hid (below_le HB.out hx_)
  clear hx_
  go_wp2_with fail
  generalize w4.alloc (.cells #[.int .i64 nn, .slice C1 q1 g1] 24) = W4 at *
  refine (N2.out W4).mono ?_
  rintro e w5 ⟨C2, q2, g2, rfl, r2, hb_⟩
  replace k0 := cell_ext hb_ k0
  replace k1 := cell_ext hb_ k1
  replace s0 := cell_ext hb_ s0
  replace s1 := cell_ext hb_ s1
  replace S1 := Lib.hid (S1.out.ext hb_)
  replace HB := Lib.hid (below_le HB.out hb_)
  clear hb_
  have S2 := Lib.hid r2
  clear r2
  have hx_ := below_box w5 (.cells #[.int .i64 nn, .slice C2 q2 g2] 24)
  replace k0 := cell_ext hx_ k0
  replace k1 := cell_ext hx_ k1
  replace s0 := cell_ext hx_ s0
  replace s1 := cell_ext hx_ s1
  replace S1 := Lib.hid (S1.out.ext hx_)
  replace S2 := Lib.hid (S2.out.ext hx_)
  have t0 := box0 (w := w5) (t := 24) (v0 := .int .i64 nn) (v1 := .slice C2 q2 g2)
  have t1 := box1 (w := w5) (t := 24) (v0 := .int .i64 nn) (v1 := .slice C2 q2 g2)
  replace HB := Lib.hid (below_le HB.out hx_)
  clear hx_
  go_wp2_with fail
  generalize w5.alloc (.cells #[.int .i64 nn, .slice C2 q2 g2] 24) = W5 at *
  refine (B1.out W5 (HR.out.ext HB.out)).mono ?_
  rintro e w6 ⟨rfl, hb_⟩
  replace k0 := cell_ext hb_ k0
  replace k1 := cell_ext hb_ k1
  replace s0 := cell_ext hb_ s0
  replace s1 := cell_ext hb_ s1
  replace t0 := cell_ext hb_ t0
  replace t1 := cell_ext hb_ t1
  replace S1 := Lib.hid (S1.out.ext hb_)
  replace S2 := Lib.hid (S2.out.ext hb_)
  replace HB := Lib.hid (below_le HB.out hb_)
  clear hb_
  go_wp2_with fail
  refine (B2.out w6 (HR.out.ext HB.out)).mono ?_
  rintro e w7 ⟨rfl, hb_⟩
  replace k0 := cell_ext hb_ k0
  replace k1 := cell_ext hb_ k1
  replace s0 := cell_ext hb_ s0
  replace s1 := cell_ext hb_ s1
  replace t0 := cell_ext hb_ t0
  replace t1 := cell_ext hb_ t1
  replace S1 := Lib.hid (S1.out.ext hb_)
  replace S2 := Lib.hid (S2.out.ext hb_)
  replace HB := Lib.hid (below_le HB.out hb_)
  clear hb_
  replace HR := Lib.hid (HR.out.ext HB.out)
  clear N1 N2 B1 B2
  replace k0 := ext_cell k0
  replace k1 := ext_cell k1
  replace s0 := ext_cell s0
  replace s1 := ext_cell s1
  replace t0 := ext_cell t0
  replace t1 := ext_cell t1
  have e1 : ((cd : Int) == (cd : Int)) = true := by simp
  have e2 : (ri == ri) = true := by simp
  have e3 : (ha == ha) = true := by simp
  have e4 : (la == la) = true := by simp
  have e5 : (li == li) = true := by simp
  go_wp2
  refine wp_region_plan [(0, true), (1, true), (2, true), (3, true), (4, true), (5, true), (6, true), (7, true), (8, true), (9, true), (10, true), (11, true), (12, true), (13, true), (14, true), (15, true), (16, true), (17, true), (18, true), (19, true), (20, true), (21, true), (22, true), (23, true), (24, true), (25, true), (26, true), (27, true), (28, true), (30, true), (29, false), (31, false), (32, true), (33, true), (34, true), (35, true), (36, true), (37, true), (39, true), (40, true), (41, true), (38, false), (42, false), (43, true), (44, true), (45, true), (46, true), (47, true), (48, true), (49, true), (50, true), (51, true), (52, true), (53, true), (54, true), (55, true)] (by kernel_rfl) (by kernel_rfl) ?_
  repeat (first | (refine plan_skip rfl rfl ?_; go_frame) | (refine plan_soft rfl rfl (fun K hK => ?_); go_simp; first | (refine hK _ ?_; clear hK K) | (apply Exists.intro; refine ⟨fun x => ?_, hK _ ?_⟩; (· (first | (go_at_call 15; exact SM.out C1 C2 q1 g1 q2 g2 x.val (S1.out.ext x.below) (S2.out.ext x.below)) | (go_at_call 20; exact R1.out x.val (HR.out.ext x.below)) | (go_at_call 21; exact R2.out x.val (HR.out.ext x.below)) | (go_at_call 22; exact H1.out x.val (HR.out.ext x.below)) | (go_at_call 23; exact H2.out x.val (HR.out.ext x.below)))); clear hK K; try go_frame)))
  refine plan_hard rfl rfl ?_; intro x1 hb1 K hK; go_simp
  go_at_call 25
  refine (A1.out x1 (HR.out.ext hb1)).mono ?_
  rintro e x2 ⟨X, xq, xf, rfl, hRX, hb2⟩
  refine hK _ _ hb2 ?_
  clear hK K
  have hb12 := below_le hb1 hb2
  refine plan_hard rfl rfl ?_; intro x3 hb3 K hK; go_simp
  go_at_call 26
  refine (A2.out x3 (HR.out.ext (below_le hb12 hb3))).mono ?_
  rintro e x4 ⟨Y, yq, yf, rfl, hRY, hb4⟩
  refine hK _ _ hb4 ?_
  clear hK K
  have hb14 := below_le hb12 (below_le hb3 hb4)
  have HX := Lib.hid (hRX.ext (below_le hb3 hb4))
  have HY := Lib.hid hRY
  clear hRX hRY hb1 hb2 hb3 hb4 hb12
  have HB4 := Lib.hid hb14
  clear hb14
  replace k0 := k0 ⟨x4, HB4.out⟩
  replace k1 := k1 ⟨x4, HB4.out⟩
  dsimp only at k0 k1
  replace k0 := ext_cell k0
  replace k1 := ext_cell k1
  clear s0 s1 t0 t1
  replace HR := Lib.hid (HR.out.ext HB4.out)
  replace HB := Lib.hid (below_le HB.out HB4.out)
  clear HB4
  repeat (first | (refine plan_skip rfl rfl ?_; go_frame) | (refine plan_soft rfl rfl (fun K hK => ?_); go_simp; first | (refine hK _ ?_; clear hK K) | (apply Exists.intro; refine ⟨fun x => ?_, hK _ ?_⟩; (· (go_at_call 24; exact IT.out AL X Y xq xf yq yf x.val L1.out (HX.out.ext x.below) (HY.out.ext x.below))); clear hK K; try go_frame)))
  refine plan_hard rfl rfl ?_; intro x5 hb5 K hK; go_simp
  go_at_call 27
  refine (I1.out x5 (HR.out.ext hb5)).mono ?_
  rintro e x6 ⟨V, vq, vf, rfl, hRV, hb6⟩
  refine hK _ _ hb6 ?_
  clear hK K
  have hb56 := below_le hb5 hb6
  refine plan_hard rfl rfl ?_; intro x7 hb7 K hK; go_simp
  go_at_call 28
  refine (I2.out x7 (HR.out.ext (below_le hb56 hb7))).mono ?_
  rintro e x8 ⟨Z, zq, zf, rfl, hRZ, hb8⟩
  refine hK _ _ hb8 ?_
  clear hK K
  have hb58 := below_le hb56 (below_le hb7 hb8)
  have HV := Lib.hid (hRV.ext (below_le hb7 hb8))
  have HZ := Lib.hid hRZ
  clear hRV hRZ hb5 hb6 hb7 hb8 hb56
  replace HB := Lib.hid (below_le HB.out hb58)
  clear hb58
  repeat (first | (refine plan_skip rfl rfl ?_; go_frame) | (refine plan_soft rfl rfl (fun K hK => ?_); go_simp; first | (refine hK _ ?_; clear hK K) | (apply Exists.intro; refine ⟨fun x => ?_, hK _ ?_⟩; (· (go_at_call 24; exact IT.out IL V Z vq vf zq zf x.val L2.out (HV.out.ext x.below) (HZ.out.ext x.below))); clear hK K; try go_frame)))
  refine plan_nil fun wf hbf => ?_
  replace HB := Lib.hid (below_le HB.out hbf)
  clear hbf
  go_wp2
  go_ret
  exact ⟨ret_bool (by simp), HB.out⟩

end Go.Proofs.YtelbddnjnapoeaaDoor
namespace Go.Proofs.YtelbddnjnapoeaaDoor.StartsTells
open Go.ChangeShapes Go.WideShapes Go.ChangeAt Go.RowKit

set_option maxRecDepth 100000 in
theorem contract (H : Type) (enc : TypeId × Value → H) (W : World) (base : Nat) (args : Array Value) (ds gs : List (DataW H)) (before : List MemPlace)
    (hval : ∀ (j : Nat) t v, Tryd.f4.params[j]? = some t → args[j]? = some v → Value.okWide Tryd.prog W .any base t v)
    (hW : DataW.Whole enc Tryd.prog Tryd.f4.params.toList Rows.startsTellsSpec.vars false W args.toList ds gs before) (hL : laidMetH Tryd.prog Rows.startsTellsRow.laid W) :
    Calls Tryd.prog 4 args W fun e W' => ∃ v, e = .returned v ∧ Rows.startsTellsSpec.post enc Tryd.prog Tryd.f4 false true false false W args v W' := by
  have hW' := hW
  obtain ⟨p, q, hA0, hV, rfl, hfz, hnd⟩ := hW
  have hA : DataW.TrodAll enc Tryd.prog W 0 (fun _ => true) true Tryd.f4.params.toList args.toList ds p := hA0
  rw [Tryd.params4] at hA hval
  obtain ⟨v0, vs0, d0, ds0, p0, q0, hargs, rfl, rfl, h0, r0⟩ := trodAll_cons hA
  obtain ⟨v1, vs1, d1, ds1, p1, q1, rfl, rfl, rfl, h1, r1⟩ := trodAll_cons r0
  obtain ⟨v2, vs2, d2, ds2, p2, q2, rfl, rfl, rfl, h2, r2⟩ := trodAll_cons r1
  obtain ⟨v3, vs3, d3, ds3, p3, q3, rfl, rfl, rfl, h3, r3⟩ := trodAll_cons r2
  obtain ⟨rfl, rfl, rfl⟩ := trodAll_nil r3
  obtain rfl : args = #[v0, v1, v2, v3] := by cases args; simp_all
  obtain ⟨rfl, rfl⟩ := trodVars_none hV
  obtain ⟨n0, A0, m0, c0, w0, rfl, hR0, hF0, hc0⟩ := open_bits (hval 0 _ v0 rfl rfl) h0
  obtain ⟨i1, rfl, rfl, rfl, b1⟩ := open_int Tryd.underlying3 (hval 1 _ v1 rfl rfl) h1
  obtain ⟨i2, rfl, rfl, rfl, b2⟩ := open_int Tryd.underlying3 (hval 2 _ v2 rfl rfl) h2
  obtain ⟨i3, rfl, rfl, rfl, b3⟩ := open_int Tryd.underlying3 (hval 3 _ v3 rfl rfl) h3
  obtain ⟨aA, aB, aP, aS, hB, hS⟩ := sents hL
  refine (startsTells_any A0 m0 c0 n0 w0 i1 i2 i3 aA aB aP aS W hB hS hR0 hF0 hc0 (bounds_i64 b2).2).mono fun e W' ⟨he, hb⟩ => ?_
  subst he
  exact ⟨_, rfl, post_true laidOut0 Tryd.underlying4 (by kernel_rfl) rfl (by kernel_rfl) hW' rfl hb⟩

noncomputable def wArgs : Array Value := #[.agg #[.int .i64 0, .slice none 0 0], .int .i64 0, .int .i64 0, .int .i64 0]

theorem reads (os : Os) {H : Type} (enc : TypeId × Value → H) : ∃ places, DataW.whole enc Tryd.prog ((World.doorLaid Tryd.prog 200 os).forCall (fun _ _ => 0) ⟨#[], wArgs, []⟩).memory Tryd.f4.params.toList Rows.startsTellsSpec.vars false wArgs.toList 8 = some ([.agg [.lit (.int .i64 0), .nil], .lit (.int .i64 0), .lit (.int .i64 0), .lit (.int .i64 0)], [], places) :=
  ⟨[], by kernel_rfl⟩

set_option maxRecDepth 100000 in
theorem lifted (os : Os) (started : os.Started) (H : Type) (enc : TypeId × Value → H) (F : Stop.Interp) :
    ReturnsInHanded {} Tryd.checked os 4 .any ((OpenSpec.ofChange Rows.startsTellsSpec).preRow enc Tryd.prog Tryd.f4 Rows.startsTellsRow.domain false Rows.startsTellsRow.laid) (((OpenSpec.ofChange Rows.startsTellsSpec).at F).post enc Tryd.prog Tryd.f4 false true false false) := by
  obtain ⟨places, hx⟩ := reads os enc
  refine returnsInHanded_of_row (C := Tryd.checked) (s := OpenSpec.ofChange Rows.startsTellsSpec) own0 started (by kernel_rfl) Tryd.func4
    (witness_row_atRef (enc := enc) (C := Tryd.checked) false (World.doorLaid Tryd.prog 200 os) wArgs rfl (by kernel_rfl) (by kernel_rfl) (by kernel_rfl)
      (OpenSpec.preRow_of_cond 8 hx (by kernel_rfl) (fun k hk => by cases hk) (by kernel_rfl) (door_met os _))) ?_
  intro W base args ds gs before hval hW _ _ _ hL _ _
  exact contract H enc W base args ds gs before hval hW hL

theorem said : Rows.StartsTellsSaid :=
  OpenClaim.holds_of_cond 4 Tryd.f4 rfl rfl rfl rfl rfl rfl rfl ⟨rfl, rfl, rfl, rfl, rfl⟩ rfl rfl rfl rfl rfl (by kernel_rfl) Tryd.func4 (by kernel_rfl)
    (of_decide_eq_true (by kernel_rfl)) (by unfold Func.isWrapper; first | (rw [if_pos (by decide +kernel)]; kernel_rfl) | (rw [if_neg (by decide +kernel)]; exact ⟨rfl, rfl⟩))
    (fun os started H enc _ F => by rw [OpenClaim.pre_eq_preRow]; exact lifted os started H enc F)

theorem plain (f : FuncId) (fn : Func) (hf : Tryd.pinned.checked.prog.funcNamed "selion/selionlaw13.StartsTells" = some f) (hfn : Tryd.pinned.checked.prog.funcs[f]? = some fn) :
    true = Tryd.pinned.checked.prog.looks [] ∧ ∀ (j : Nat) t, fn.params[j]? = some t → Tryd.pinned.checked.prog.wantsStandIn t = false := by
  obtain rfl : f = 4 := Option.some.inj ((show Tryd.prog.funcNamed "selion/selionlaw13.StartsTells" = some 4 by kernel_rfl).symm.trans hf) |>.symm
  obtain rfl : fn = Tryd.f4 := (Option.some.inj (Tryd.func4.symm.trans hfn)).symm
  refine ⟨by kernel_rfl, fun j t ht => ?_⟩
  have h : (Tryd.f4.params.toList.all fun t => !Tryd.prog.wantsStandIn t) = true := by kernel_rfl
  have := List.all_eq_true.1 h t (by simpa using Array.mem_of_getElem? ht)
  show Tryd.prog.wantsStandIn t = false
  simpa using this

/-- THE CARD. -/
theorem card : Rows.StartsTellsCardSaid :=
  Claim7.holds_tied_plain_at .later [] _ _ _ _ said (fun _ h => by cases h) (by kernel_rfl) (fun _ h => by cases h) startsTells_row_tie rfl ⟨rfl, rfl⟩ (by kernel_rfl) rfl plain (by kernel_rfl)
end Go.Proofs.YtelbddnjnapoeaaDoor.StartsTells
