/-
  What is proved: contracts of take, TakeFree and TakeHole of package pool. No condition beyond those stated.
-/
import Derived.Test.YtllanbggjfmfhaaGreatDoorHe
namespace Go.Proofs.YtllanbggjfmfhaaGreatDoor
open Go.RowKit Go.Shelf
attribute [local go_sem] Oper.semAt_some

/-- A pool, a number, and whether. -/
def GivesTake (w : World) (l : List Int) (ts : List (List Int)) (i : Int) (b : Bool) (e : Ending) (w' : World) : Prop := ∃ v, e = .returned (.tuple #[v, .int .i64 i, .bool b]) ∧ PoolF w' w.heap.size v l ts ∧ Below w.heap.size w w'

/-- The lowest block of a state. -/
def firstOf (l : List Int) (s : Int) : Option Nat := (List.range l.length).find? fun i => l.getD i 0 == s
theorem blocks_first (l : List Int) (s : Int) : (blocksL l [s]).head? = (firstOf l s).map fun i : Nat => (i : Int) := by
  unfold blocksL blocksFrom firstOf
  rw [List.head?_map, List.head?_filter, Nat.sub_zero, ← List.range_eq_range']
  congr 2
  funext i
  rw [Bool.eq_iff_iff]
  simp only [hasB, List.mem_singleton, decide_eq_true_eq, beq_iff_eq]

def takeOk (l : List Int) (ts : List (List Int)) (s : Int) : Bool := pRight l ts && (firstOf l s).isSome
def takeN (l : List Int) (ts : List (List Int)) (s : Int) : Nat := if takeOk l ts s then (firstOf l s).getD 0 else 0
def takeL (l : List Int) (ts : List (List Int)) (s : Int) : List Int := if takeOk l ts s then l.set (takeN l ts s) 5 else []
def takeT (l : List Int) (ts : List (List Int)) (s : Int) : List (List Int) := if takeOk l ts s then ts else []

set_option maxRecDepth 100000 in
set_option maxHeartbeats 2000000 in
theorem take_wrong (S : Option Addr) (m c : Nat) (T : Option Addr) (k d : Nat) (l : List Int) (ts : List (List Int)) (s : Int) (w : World) (hS : Row w S m (l.map Iv)) (hT : Tabs w T k ts) (hm : m ≤ 1000) (hk : k ≤ 1000) (hp : pRight l ts = false) :
    Calls Tryz.prog 25 #[.agg #[.slice S m c, .slice T k d], .int .i64 s] w (GivesTake w [] [] 0 false) := by
  have hb0 : Below w.heap.size w (((w.alloc (.cells #[.slice S m c, .slice T k d] 25)).alloc (.cells #[.slice none 0 0, .slice none 0 0] 25)).alloc (.cells #[.int .i64 (-1)] 3)) := below_le (below_le (below_box _ _) (below_box _ _)) (below_box _ _)
  have h4 : Blk (((w.alloc (.cells #[.slice S m c, .slice T k d] 25)).alloc (.cells #[.slice none 0 0, .slice none 0 0] 25)).alloc (.cells #[.int .i64 (-1)] 3)) (w.heap.size + 1) 25 #[.slice none 0 0, .slice none 0 0] := Blk.alloc (heap_new (by simp) _) _
  have hcall := keep_no S m c T k d l ts _ (hS.ext hb0) (hT.ext hb0) hm hk hp
  have HC := Lib.hid hcall
  have HB := Lib.hid hb0
  have H4 := Lib.hid h4
  clear hS hT hb0 hp hcall h4
  refine (callsIn_wide (n := 3)).1 ?_
  refine callsIn_of_wp_marks Tryz.func25 rfl trivial ?_ rfl
  simp only [Tryz.ntmps25, List.size_toArray, List.length_cons, List.length_nil, Nat.reduceAdd, Nat.reduceSub, Array.replicate_succ, Array.replicate_zero, List.push_toArray, List.append_toArray, List.nil_append, List.cons_append]
  gi_wp2_with fail
  refine wpIn_scope_ahead 0 (fun a W' => ∃ v, Blk W' (w.heap.size + 1) 25 #[.slice none 0 0, .slice none 0 0] ∧ Below w.heap.size w W' ∧ a = { tmps := #[.agg #[.slice S m c, .slice T k d], .int .i64 s, .pointer (some ⟨w.heap.size, 0, none⟩), undef, .pointer (some ⟨w.heap.size + 1, 0, none⟩), .int .i64 0, .bool false, .pointer (some ⟨w.heap.size + 1 + 1, 0, none⟩), .pointer none, v, undef, .tuple #[.pointer none, v], .agg #[.slice S m c, .slice T k d], .tuple #[.pointer none, v], .pointer none, v, v, .bool true, undef, undef, undef, undef, undef, undef, undef, undef, undef, undef, undef, undef, undef, undef, undef, undef, undef, undef, undef, undef, undef], defers := [] }) rfl ?first ?pass
  case first =>
    gi_wp2_with fail
    refine ⟨trivial, (callsIn_wide.2 HC.out).mono ?_⟩
    rintro e w1 ⟨v, rfl, hv, hb1⟩
    obtain ⟨t, u, rfl⟩ : ∃ t u : Nat, v = .iface 82 (.pointer (some ⟨t, u, none⟩)) := by
      rcases hv with ⟨h, _⟩ | ⟨_, t, u, h, _⟩
      · cases h
      · exact ⟨t, 0, h⟩
    have H4' := Lib.hid (H4.out.ext hb1)
    have HB1 := Lib.hid (below_le HB.out hb1)
    clear hv hb1 HC H4 HB
    gi_wp2
    refine wpIn_goto ?_
    exact ⟨rfl, _, H4'.out, HB1.out, rfl⟩
  case pass =>
    rintro a W' ⟨v, hb4, hB, rfl⟩
    have c0 := hb4.cell 0
    have c1 := hb4.cell 1
    have f0 := hb4.frozen 0
    have f1 := hb4.frozen 1
    have h5 := (hb4.set_ 0 (.slice none 0 0)).set_ 1 (.slice none 0 0)
    have HB5 := Lib.hid ((hB.setCell (p := ⟨w.heap.size + 1, 0, none⟩) (by show w.heap.size ≤ w.heap.size + 1; omega) (.slice none 0 0)).setCell (p := ⟨w.heap.size + 1, 1, none⟩) (by show w.heap.size ≤ w.heap.size + 1; omega) (.slice none 0 0))
    have q0 := h5.cell 0
    have q1 := h5.cell 1
    simp at c0 c1 q0 q1
    clear hb4 hB h5 HC H4 HB
    gi_wp2
    refine ⟨.tuple #[.agg #[.slice none 0 0, .slice none 0 0], .int .i64 0, .bool false], by simp [results, Tryz.results25, go_sem, q0, q1], _, rfl, PoolF.none_, HB5.out⟩

theorem below_set {n : Nat} {X Y : World} (h : Below n X Y) (p : Addr) (v : Value) : Below n (X.setCell p v) (Y.setCell p v) :=
  ⟨h.os, h.tape, h.output, by simpa [World.setCell] using h.size, fun i hi => by simp [World.setCell, Array.getElem?_modify, h.block i hi]⟩

def TkI (W1 : World) (L : List Int) (pre : List (Fin L.length)) (W' : World) : Prop := W1.heap.size ≤ W'.heap.size ∧ Below W1.heap.size W1 W' ∧ pre = []
def TkX (W1 : World) (g : Nat) (L : List Int) (c : Code) (pre : List (Fin L.length)) (W' : World) : Prop := W1.heap.size ≤ W'.heap.size ∧ c = .exit 0 ∧ ∃ x, cameI L pre = [x] ∧ Below W1.heap.size (W1.setCell ⟨g, 0, none⟩ (.int .i64 x)) W'
theorem TkI.low {W1 X Y : World} {L : List Int} {pre : List (Fin L.length)} (h : TkI W1 L pre X) (hb : Below W1.heap.size X Y) : TkI W1 L pre Y := ⟨Nat.le_trans h.1 hb.size, h.2.1.trans hb, h.2.2⟩
theorem TkX.low {W1 X Y : World} {g : Nat} {L : List Int} {c : Code} {pre : List (Fin L.length)} (h : TkX W1 g L c pre X) (hb : Below W1.heap.size X Y) : TkX W1 g L c pre Y := by
  obtain ⟨h1, h2, x, h3, h4⟩ := h
  exact ⟨Nat.le_trans h1 hb.size, h2, x, h3, h4.trans hb⟩

def tkF (w : World) (p : Value) (s : Int) (K g : Nat) (b1 : Nat) (x : Int) : Act :=
  { tmps := #[p, .int .i64 s, .pointer (some ⟨w.heap.size, 0, none⟩), undef, .pointer (some ⟨w.heap.size + 1, 0, none⟩), .int .i64 0, .bool false, .pointer (some ⟨w.heap.size + 1 + 1, 0, none⟩), .pointer (some ⟨K, 0, none⟩), .nilIface, .int .i64 x, .tuple #[.pointer (some ⟨K, 0, none⟩), .nilIface], p, .tuple #[.pointer (some ⟨K, 0, none⟩), .nilIface], .pointer (some ⟨K, 0, none⟩), .nilIface, .nilIface, .bool false, .pointer (some ⟨K, 0, none⟩), .int .i64 s, .slice (some ⟨g, 0, none⟩) 1 1,
      .func (.func 70) #[] #[.pointer (some ⟨b1, 0, none⟩), .pointer (some ⟨b1 + 1, 0, none⟩)], .int .i64 x, undef, undef, undef, undef, undef, undef, undef, undef, undef, undef, undef, undef, undef, undef, undef, undef], defers := [] }

theorem run_one (x : Int) (W : World) : (Instr.buildSlice 22 1 #[(0, .int .i64 x)]).run Tryz.prog W = .ok (.slice (some ⟨W.heap.size, 0, none⟩) 1 1) (W.alloc (.cells #[.int .i64 x] 3)) := by go_simp

set_option maxRecDepth 100000 in
set_option maxHeartbeats 2000000 in
theorem take_right (S : Option Addr) (m c : Nat) (T : Option Addr) (k d : Nat) (l : List Int) (ts : List (List Int)) (s : Int) (w : World) (hS : Row w S m (l.map Iv)) (hT : Tabs w T k ts) (hm : m ≤ 1000) (hk : k ≤ 1000) (hp : pRight l ts = true) :
    Calls Tryz.prog 25 #[.agg #[.slice S m c, .slice T k d], .int .i64 s] w (GivesTake w (takeL l ts s) (takeT l ts s) (takeN l ts s : Nat) (takeOk l ts s)) := by
  have hl := hS.1
  simp at hl
  have hlm : l.length ≤ 1000 := by omega
  have hb0 : Below w.heap.size w (((w.alloc (.cells #[.slice S m c, .slice T k d] 25)).alloc (.cells #[.slice none 0 0, .slice none 0 0] 25)).alloc (.cells #[.int .i64 (-1)] 3)) := below_le (below_le (below_box _ _) (below_box _ _)) (below_box _ _)
  have h4 : Blk (((w.alloc (.cells #[.slice S m c, .slice T k d] 25)).alloc (.cells #[.slice none 0 0, .slice none 0 0] 25)).alloc (.cells #[.int .i64 (-1)] 3)) (w.heap.size + 1) 25 #[.slice none 0 0, .slice none 0 0] := Blk.alloc (heap_new (by simp) _) _
  have h7 : Blk (((w.alloc (.cells #[.slice S m c, .slice T k d] 25)).alloc (.cells #[.slice none 0 0, .slice none 0 0] 25)).alloc (.cells #[.int .i64 (-1)] 3)) (w.heap.size + 1 + 1) 3 #[.int .i64 (-1)] := heap_new (by simp) _
  have hcall := keep_ok S m c T k d l ts _ (hS.ext hb0) (hT.ext hb0) hm hk hp
  have HC := Lib.hid hcall
  have HB := Lib.hid hb0
  have H4 := Lib.hid h4
  have H7 := Lib.hid h7
  have HP := Lib.hid hp
  clear hS hT hb0 hp hcall h4 h7 hl
  refine (callsIn_wide (n := 3)).1 ?_
  refine callsIn_of_wp_marks Tryz.func25 rfl trivial ?_ rfl
  simp only [Tryz.ntmps25, List.size_toArray, List.length_cons, List.length_nil, Nat.reduceAdd, Nat.reduceSub, Array.replicate_succ, Array.replicate_zero, List.push_toArray, List.append_toArray, List.nil_append, List.cons_append]
  gi_wp2_with fail
  refine wpIn_scope_ahead 0 (fun a W' => firstOf l s = none ∧ ∃ D K g b1, Blk W' (w.heap.size + 1) 25 #[.slice none 0 0, .slice none 0 0] ∧ Below w.heap.size w W' ∧ w.heap.size + 2 ≤ D ∧ W'.heap[D]? = some (.deferred (some [])) ∧
      a = { tmps := #[.agg #[.slice S m c, .slice T k d], .int .i64 s, .pointer (some ⟨w.heap.size, 0, none⟩), undef, .pointer (some ⟨w.heap.size + 1, 0, none⟩), .int .i64 0, .bool false, .pointer (some ⟨w.heap.size + 1 + 1, 0, none⟩), .pointer (some ⟨K, 0, none⟩), .nilIface, undef, .tuple #[.pointer (some ⟨K, 0, none⟩), .nilIface], .agg #[.slice S m c, .slice T k d], .tuple #[.pointer (some ⟨K, 0, none⟩), .nilIface], .pointer (some ⟨K, 0, none⟩), .nilIface, .nilIface, .bool false, .pointer (some ⟨K, 0, none⟩), .int .i64 s, .slice (some ⟨g, 0, none⟩) 1 1,
        .func (.func 70) #[] #[.pointer (some ⟨b1, 0, none⟩), .pointer (some ⟨b1 + 1, 0, none⟩)], undef, undef, .int .i64 (-1), .bool true, undef, undef, undef, undef, undef, undef, undef, undef, undef, undef, undef, undef, undef], defers := [{ target := .collected D, args := #[] }] }) rfl ?first ?pass
  case first =>
    gi_wp2_with fail
    generalize ((w.alloc (.cells #[.slice S m c, .slice T k d] 25)).alloc (.cells #[.slice none 0 0, .slice none 0 0] 25)).alloc (.cells #[.int .i64 (-1)] 3) = W0 at *
    refine ⟨trivial, (callsIn_wide.2 HC.out).mono ?_⟩
    rintro e w1 ⟨K, SB, TB, rfl, hkp, hb1⟩
    have hs0 : w.heap.size + 3 ≤ W0.heap.size := H7.out.lt
    have hKS := hkp
    have hKl := hkp.k.lt
    have hSl := hkp.s.lt
    have hb2 : Below w1.heap.size w1 (((w1.alloc (.cells #[.int .i64 s] 3)).alloc (.cells #[.pointer (some ⟨K, 0, none⟩)] 45)).alloc (.cells #[.slice (some ⟨w1.heap.size, 0, none⟩) 1 1] 22)) := below_le (below_le (below_box _ _) (below_box _ _)) (below_box _ _)
    have HKP := Lib.hid hkp
    have HB1 := Lib.hid hb1
    have hro := run_one s
    clear hkp hb1 HC hKS
    gi_wp2_with fail
    refine wpIn_label ?_
    gi_wp2_with fail
    refine ⟨trivial, (callsIn_wide.2 (blocks_any _ _ _ _ _)).mono ?_⟩
    rintro e w' ⟨rfl, rfl⟩
    clear hro
    have hsz : (w1.alloc (.cells #[.int .i64 s] 3)).heap.size = w1.heap.size + 1 := by simp
    rw [hsz]
    have hz : (((w1.alloc (.cells #[.int .i64 s] 3)).alloc (.cells #[.pointer (some ⟨K, 0, none⟩)] 45)).alloc (.cells #[.slice (some ⟨w1.heap.size, 0, none⟩) 1 1] 22)).heap.size = w1.heap.size + 3 := by simp
    have e1 : (((w1.alloc (.cells #[.int .i64 s] 3)).alloc (.cells #[.pointer (some ⟨K, 0, none⟩)] 45)).alloc (.cells #[.slice (some ⟨w1.heap.size, 0, none⟩) 1 1] 22)).cell? ⟨w1.heap.size + 1, 0, none⟩ = some (.pointer (some ⟨K, 0, none⟩)) := by simp [go_sem]
    have e2 : (((w1.alloc (.cells #[.int .i64 s] 3)).alloc (.cells #[.pointer (some ⟨K, 0, none⟩)] 45)).alloc (.cells #[.slice (some ⟨w1.heap.size, 0, none⟩) 1 1] 22)).cell? ⟨w1.heap.size + 1 + 1, 0, none⟩ = some (.slice (some ⟨w1.heap.size, 0, none⟩) 1 1) := by simp [go_sem]
    have e3 : (((w1.alloc (.cells #[.int .i64 s] 3)).alloc (.cells #[.pointer (some ⟨K, 0, none⟩)] 45)).alloc (.cells #[.slice (some ⟨w1.heap.size, 0, none⟩) 1 1] 22)).cell? ⟨w1.heap.size, 0, none⟩ = some (.int .i64 s) := by simp [go_sem]
    generalize ((w1.alloc (.cells #[.int .i64 s] 3)).alloc (.cells #[.pointer (some ⟨K, 0, none⟩)] 45)).alloc (.cells #[.slice (some ⟨w1.heap.size, 0, none⟩) 1 1] 22) = W1 at *
    have hkp := HKP.out.ext hb2
    have hrow := row_one e3
    have hst := blocks1_stops (3 - 1) K SB (w1.heap.size + 1) (w1.heap.size + 1 + 1) l _ _ 1 1 [s] hlm (by omega) [K, SB, w1.heap.size + 1, w1.heap.size + 1 + 1, w1.heap.size] (by simp) (fun a e => by cases e; simp) W1 hkp.k hkp.s e1 e2 hrow
    have hfst := blocks_first l s
    generalize blocksL l [s] = L at *
    have hbW := below_le (below_le HB.out HB1.out) hb2
    have h4 := (H4.out.ext HB1.out).ext hb2
    have h7 := (H7.out.ext HB1.out).ext hb2
    have hs1 := HB1.out.size
    have HKW := Lib.hid hkp
    have HBW := Lib.hid hbW
    have HW4 := Lib.hid h4
    have HW7 := Lib.hid h7
    have HFST := Lib.hid hfst
    clear e1 e2 e3 hkp hrow hb2 hbW h4 h7 HKP HB1 HB H4 H7 hfst hsz
    gi_wp2_with fail
    refine wpIn_rangeFunc_ownG (F := Fence.wide) (n := 3) rfl (by omega) (gf := 70) (lb := #[.pointer (some ⟨w1.heap.size + 1, 0, none⟩), .pointer (some ⟨w1.heap.size + 1 + 1, 0, none⟩)]) rfl trivial (enters_of Tryz.func70 (by kernel_rfl) rfl)
      hst (fun h k => h.t k) (KeepB.b (by simp; omega)) (Below.refl _ _) (fun _ => rfl)
      (TkI W1 L) (TkX W1 (w.heap.size + 1 + 1) L)
      (ownFrom_low _ _ (fun _ _ h => h.1) (fun _ X Y h hb => h.low hb))
      (fun c => ownFrom_low _ _ (fun _ _ h => h.1) (fun _ X Y h hb => h.low hb))
      ⟨Nat.le_refl _, Below.refl _ _, rfl⟩
      (fun x' => tkF w (.agg #[.slice S m c, .slice T k d]) s K w1.heap.size (w1.heap.size + 1) L[x'.1]) ?assign ?body ?done ?stop
    case assign =>
      intro l x1 W' K hK
      gi_wp2
      exact hK
    case body =>
      rintro l0 pre x W' ⟨s1, s2, rfl⟩ hpre
      have hsn := cameI_snoc L [] x
      generalize L[x.1] = y at *
      have h7 := HW7.out.ext s2
      have c7 := h7.cell 0
      have f7 := h7.frozen 0
      simp at c7
      have S2 := Lib.hid s2
      have HSN := Lib.hid hsn
      clear s2 hsn hst h7
      simp only [tkF]
      gi_wp2
      exact ⟨KeepsFrom.of_grownBy (grown_set W' (w.heap.size + 1 + 1) 0 (.int .i64 y)) (fun j e => by cases e; omega), Nat.le_trans s1 (grown_set W' (w.heap.size + 1 + 1) 0 (.int .i64 y)).size, rfl, y, HSN.out, below_set S2.out _ _⟩
    case done =>
      rintro D ys W' hD rfl ⟨s1, s2, s3⟩ hK
      have hL0 : L = [] := by
        have := congrArg List.length s3
        simp at this
        exact this
      have hno : firstOf l s = none := by
        have := HFST.out
        rw [hL0] at this
        cases h : firstOf l s
        · rfl
        · rw [h] at this; simp at this
      have HNO := Lib.hid hno
      have h7 := HW7.out.ext s2
      have c7 := h7.cell 0
      simp at c7
      have S2 := Lib.hid s2
      have HK := Lib.hid hK
      clear s2 s3 hst h7 hL0 hno hK
      gi_wp2
      refine wpIn_goto ?_
      exact ⟨rfl, HNO.out, D, K, w1.heap.size, w1.heap.size + 1, HW4.out.ext S2.out, below_le HBW.out S2.out, by omega, HK.out, rfl⟩
    case stop =>
      rintro D cd pre W' hD ⟨j, hj, rfl⟩ ⟨s1, rfl, x, s2, s3⟩ hK
      obtain ⟨rest, hrest⟩ := cameI_take L j
      have hx := HFST.out
      rw [hrest, s2] at hx
      obtain ⟨i, hi, hix⟩ : ∃ i : Nat, firstOf l s = some i ∧ x = (i : Int) := by
        cases h : firstOf l s with
        | none => rw [h] at hx; simp at hx
        | some i => rw [h] at hx; simp at hx; exact ⟨i, rfl, hx⟩
      subst hix
      have hil : i < l.length := by
        have := List.mem_of_find?_eq_some hi
        simpa using this
      have hkp := (HKW.out.far (p := ⟨w.heap.size + 1 + 1, 0, none⟩) (by show w.heap.size + 1 + 1 < _; omega) (.int .i64 (i : Int))).ext (by simpa [World.setCell] using s3)
      have h4 := (HW4.out.far (p := ⟨w.heap.size + 1 + 1, 0, none⟩) (by show w.heap.size + 1 ≠ _; simp) (.int .i64 (i : Int))).below s3 (by omega)
      have h7 := (HW7.out.set_ 0 (.int .i64 (i : Int))).below s3 (by omega)
      have hbW := (HBW.out.setCell (p := ⟨w.heap.size + 1 + 1, 0, none⟩) (by show w.heap.size ≤ w.heap.size + 1 + 1; omega) (.int .i64 (i : Int))).trans (s3.mono (by omega))
      have c7 := h7.cell 0
      simp at c7
      have hok : takeOk l ts s = true := by unfold takeOk; rw [HP.out, hi]; rfl
      have hN : takeN l ts s = i := by unfold takeN; rw [hok, hi]; rfl
      have HOK := Lib.hid hok
      have HN := Lib.hid hN
      have HKP := Lib.hid hkp
      have H4 := Lib.hid h4
      have HBW' := Lib.hid hbW
      have HK := Lib.hid hK
      have k0 := hkp.k.cell 0
      simp at k0
      have sc : W'.cell? ⟨SB, i, none⟩ = some (.int .i64 l[i]) := by rw [hkp.s.cell i]; simp [hil, Iv]
      have sf := hkp.s.frozen i
      have hlt0 : decide ((i : Int) < 0) = false := by simp
      clear hkp h4 h7 hbW hok hN hi hK hx hrest s2 s3 hst HKW HW4 HW7 HBW HFST
      gi_wp2
      gi_region
      have hdr : ∀ Y : World, Below Y.heap.size Y Y.drew := fun Y => (Below.refl _ Y).drew
      have hnSB : SB ≠ w.heap.size + 1 := by have := HKP.out.bs; omega
      have hkp := (HKP.out.state i 5).ext (hdr _)
      have h4 := (H4.out.far (p := ⟨SB, i, none⟩) (by show w.heap.size + 1 ≠ SB; omega) (.int .i64 5)).ext (hdr _)
      have hbW := below_le (HBW'.out.setCell (p := ⟨SB, i, none⟩) (by show w.heap.size ≤ SB; have := HKP.out.bs; omega) (.int .i64 5)) (hdr _)
      have hK2 : (W'.setCell ⟨SB, i, none⟩ (.int .i64 5)).drew.heap[D]? = some (.deferred (some [])) := (Below.heap_setCell _ _ _ D (by show D ≠ SB; omega)).trans HK.out
      have d7 : (W'.setCell ⟨SB, i, none⟩ (.int .i64 5)).drew.cell? ⟨w.heap.size + 1 + 1, 0, none⟩ = some (.int .i64 (i : Int)) := (World.cell?_of_block (w := W') (Below.heap_setCell _ _ _ _ (by show w.heap.size + 1 + 1 ≠ SB; have := HKP.out.bs; omega))).trans c7
      clear c7 k0 sc sf HKP H4 HBW' HK
      generalize (W'.setCell ⟨SB, i, none⟩ (.int .i64 5)).drew = X at *
      have k0 := hkp.k.cell 0
      have k1 := hkp.k.cell 1
      have c0 := h4.cell 0
      have c1 := h4.cell 1
      have f0 := h4.frozen 0
      have f1 := h4.frozen 1
      simp at k0 k1 c0 c1
      have HKP := Lib.hid hkp
      have H4 := Lib.hid h4
      have HBW := Lib.hid hbW
      have HK := Lib.hid hK2
      clear hkp h4 hbW hK2
      gi_wp2
      gi_region
      have h5 := ((H4.out.set_ 0 (.slice (some ⟨SB, 0, none⟩) l.length l.length)).set_ 1 (.slice (some ⟨TB, 0, none⟩) ts.length ts.length)).ext (hdr _)
      have hkp := ((HKP.out.far (p := ⟨w.heap.size + 1, 0, none⟩) (by show w.heap.size + 1 < _; omega) (.slice (some ⟨SB, 0, none⟩) l.length l.length)).far (p := ⟨w.heap.size + 1, 1, none⟩) (by show w.heap.size + 1 < _; omega) (.slice (some ⟨TB, 0, none⟩) ts.length ts.length)).ext (hdr _)
      have hbW := below_le ((HBW.out.setCell (p := ⟨w.heap.size + 1, 0, none⟩) (by show w.heap.size ≤ w.heap.size + 1; omega) (.slice (some ⟨SB, 0, none⟩) l.length l.length)).setCell (p := ⟨w.heap.size + 1, 1, none⟩) (by show w.heap.size ≤ w.heap.size + 1; omega) (.slice (some ⟨TB, 0, none⟩) ts.length ts.length)) (hdr _)
      have hK2 : ((X.setCell ⟨w.heap.size + 1, 0, none⟩ (.slice (some ⟨SB, 0, none⟩) l.length l.length)).setCell ⟨w.heap.size + 1, 1, none⟩ (.slice (some ⟨TB, 0, none⟩) ts.length ts.length)).drew.heap[D]? = some (.deferred (some [])) :=
        (Below.heap_setCell _ _ _ D (by show D ≠ w.heap.size + 1; omega)).trans ((Below.heap_setCell _ _ _ D (by show D ≠ w.heap.size + 1; omega)).trans HK.out)
      clear c0 c1 f0 f1 k0 k1 d7 H4 HKP HBW HK
      generalize ((X.setCell ⟨w.heap.size + 1, 0, none⟩ (.slice (some ⟨SB, 0, none⟩) l.length l.length)).setCell ⟨w.heap.size + 1, 1, none⟩ (.slice (some ⟨TB, 0, none⟩) ts.length ts.length)).drew = Y at *
      have hbD := belowK_b (w := W1) (n₀ := W1.heap.size) (Nat.le_refl _) Y D _ (.deferred none) hD hK2 rfl rfl
      have hKb := hkp.k.lt
      have q5 := h5.below hbD (by omega)
      have q0 := q5.cell 0
      have q1 := q5.cell 1
      simp at q0 q1
      have HKP := Lib.hid hkp
      have HBW := Lib.hid hbW
      have HK := Lib.hid hK2
      have HBD := Lib.hid hbD
      clear h5 hkp hbW hK2 hbD q5
      gi_wp2
      simp only [Exit.jump]
      refine ⟨by simp, .inl ⟨_, _, rfl, run_takeDeferred HK.out, ?_⟩⟩
      refine ⟨.tuple #[.agg #[.slice (some ⟨SB, 0, none⟩) l.length l.length, .slice (some ⟨TB, 0, none⟩) ts.length ts.length], .int .i64 (i : Int), .bool true], by simp [results, Tryz.results25, go_sem, q0, q1], ?_⟩
      unfold takeL takeT
      rw [HOK.out, HN.out]
      refine ⟨_, rfl, ?_, HBW.out.trans (HBD.out.mono (by omega))⟩
      have hpf := (HKP.out.put (o' := .deferred none) HK.out).poolF.mono (base' := w.heap.size) (by omega)
      rw [List.length_set] at hpf
      exact hpf
  case pass =>
    rintro a W' ⟨hno, D, K, g, b1, hb4, hB, hD, hK, rfl⟩
    have c0 := hb4.cell 0
    have c1 := hb4.cell 1
    have f0 := hb4.frozen 0
    have f1 := hb4.frozen 1
    have h5 := (hb4.set_ 0 (.slice none 0 0)).set_ 1 (.slice none 0 0)
    have hb5 := (hB.setCell (p := ⟨w.heap.size + 1, 0, none⟩) (by show w.heap.size ≤ w.heap.size + 1; omega) (.slice none 0 0)).setCell (p := ⟨w.heap.size + 1, 1, none⟩) (by show w.heap.size ≤ w.heap.size + 1; omega) (.slice none 0 0)
    have hK2 : ((W'.setCell ⟨w.heap.size + 1, 0, none⟩ (.slice none 0 0)).setCell ⟨w.heap.size + 1, 1, none⟩ (.slice none 0 0)).heap[D]? = some (.deferred (some [])) :=
      (Below.heap_setCell _ _ _ D (by show D ≠ w.heap.size + 1; omega)).trans ((Below.heap_setCell _ _ _ D (by show D ≠ w.heap.size + 1; omega)).trans hK)
    have hok : takeOk l ts s = false := by unfold takeOk; rw [hno]; simp
    have hbD := belowK_b (w := w) (n₀ := w.heap.size) (Nat.le_refl _) _ D _ (.deferred none) (by omega) hK2 rfl rfl
    have q5 : Blk (((W'.setCell ⟨w.heap.size + 1, 0, none⟩ (.slice none 0 0)).setCell ⟨w.heap.size + 1, 1, none⟩ (.slice none 0 0)).putObj D (.deferred none)) (w.heap.size + 1) 25 #[.slice none 0 0, .slice none 0 0] := (World.putObj_heap_other (by omega)).trans h5
    have q0 := q5.cell 0
    have q1 := q5.cell 1
    simp at c0 c1 q0 q1
    have HB5 := Lib.hid (hb5.trans hbD)
    have HK2 := Lib.hid hK2
    have HOK := Lib.hid hok
    clear hb4 hB h5 HC H4 HB H7 hb5 hK2 hbD q5 hno hok hK
    gi_wp2
    refine ⟨by simp, .inl ⟨_, _, rfl, run_takeDeferred HK2.out, ?_⟩⟩
    refine ⟨.tuple #[.agg #[.slice none 0 0, .slice none 0 0], .int .i64 0, .bool false], by simp [results, Tryz.results25, go_sem, q0, q1], ?_⟩
    unfold takeL takeT takeN
    rw [HOK.out]
    exact ⟨_, rfl, PoolF.none_, HB5.out⟩

theorem take_any (S : Option Addr) (m c : Nat) (T : Option Addr) (k d : Nat) (l : List Int) (ts : List (List Int)) (s : Int) (w : World) (hS : Row w S m (l.map Iv)) (hT : Tabs w T k ts) (hm : m ≤ 1000) (hk : k ≤ 1000) :
    Calls Tryz.prog 25 #[.agg #[.slice S m c, .slice T k d], .int .i64 s] w (GivesTake w (takeL l ts s) (takeT l ts s) (takeN l ts s : Nat) (takeOk l ts s)) := by
  cases hp : pRight l ts
  · have h := take_wrong S m c T k d l ts s w hS hT hm hk hp
    have hok : takeOk l ts s = false := by unfold takeOk; rw [hp]; rfl
    unfold takeL takeT takeN
    rw [hok]
    exact h
  · exact take_right S m c T k d l ts s w hS hT hm hk hp

set_option maxHeartbeats 1000000 in
/-- pool.TakeFree. -/
theorem takeFree_any (S : Option Addr) (m c : Nat) (T : Option Addr) (k d : Nat) (l : List Int) (ts : List (List Int)) (w : World) (hS : Row w S m (l.map Iv)) (hT : Tabs w T k ts) (hm : m ≤ 1000) (hk : k ≤ 1000) :
    Calls Tryz.prog 7 #[.agg #[.slice S m c, .slice T k d]] w (GivesTake w (takeL l ts 0) (takeT l ts 0) (takeN l ts 0 : Nat) (takeOk l ts 0)) := by
  have hb0 : Below w.heap.size w ((w.alloc (.cells #[.slice S m c, .slice T k d] 25)).alloc (.cells #[.slice none 0 0, .slice none 0 0] 25)) := below_le (below_box _ _) (below_box _ _)
  have h2 : Blk ((w.alloc (.cells #[.slice S m c, .slice T k d] 25)).alloc (.cells #[.slice none 0 0, .slice none 0 0] 25)) (w.heap.size + 1) 25 #[.slice none 0 0, .slice none 0 0] := heap_new (by simp) _
  have hcall := take_any S m c T k d l ts 0 _ (hS.ext hb0) (hT.ext hb0) hm hk
  generalize takeL l ts 0 = L' at *
  generalize takeT l ts 0 = T' at *
  generalize takeN l ts 0 = n' at *
  generalize takeOk l ts 0 = b' at *
  have HC := Lib.hid hcall
  have HB := Lib.hid hb0
  have H2 := Lib.hid h2
  clear hS hT hb0 hcall h2
  go_enter Tryz.func7, Tryz.ntmps7
  go_wp2_with fail
  generalize (w.alloc (.cells #[.slice S m c, .slice T k d] 25)).alloc (.cells #[.slice none 0 0, .slice none 0 0] 25) = W0 at *
  refine HC.out.mono ?_
  rintro e w1 ⟨v, rfl, hpf, hb1⟩
  obtain ⟨S', m', c', T', k', d', rfl, -⟩ := hpf.read
  have h3 := H2.out.ext hb1
  have hlt := H2.out.lt
  have c0 := h3.cell 0
  have c1 := h3.cell 1
  have f0 := h3.frozen 0
  have f1 := h3.frozen 1
  have h4 := (h3.set_ 0 (.slice S' m' c')).set_ 1 (.slice T' k' d')
  have q0 := h4.cell 0
  have q1 := h4.cell 1
  simp at c0 c1 q0 q1
  have HPF := Lib.hid (((hpf.far (p := ⟨w.heap.size + 1, 0, none⟩) hlt (.slice S' m' c')).far (p := ⟨w.heap.size + 1, 1, none⟩) hlt (.slice T' k' d')).mono (base' := w.heap.size) (by omega))
  have HB1 := Lib.hid (((below_le HB.out hb1).setCell (p := ⟨w.heap.size + 1, 0, none⟩) (by show w.heap.size ≤ w.heap.size + 1; omega) (.slice S' m' c')).setCell (p := ⟨w.heap.size + 1, 1, none⟩) (by show w.heap.size ≤ w.heap.size + 1; omega) (.slice T' k' d'))
  clear hpf hb1 h3 h4 HC HB H2
  go_wp2
  exact bodyPost_ret (v := .tuple #[.agg #[.slice S' m' c', .slice T' k' d'], .int .i64 (n' : Int), .bool b']) (by simp [results, Tryz.results7, go_sem, q0, q1]) rfl ⟨_, rfl, HPF.out, HB1.out⟩

set_option maxHeartbeats 1000000 in
/-- pool.TakeHole. -/
theorem takeHole_any (S : Option Addr) (m c : Nat) (T : Option Addr) (k d : Nat) (l : List Int) (ts : List (List Int)) (w : World) (hS : Row w S m (l.map Iv)) (hT : Tabs w T k ts) (hm : m ≤ 1000) (hk : k ≤ 1000) :
    Calls Tryz.prog 9 #[.agg #[.slice S m c, .slice T k d]] w (GivesTake w (takeL l ts 1) (takeT l ts 1) (takeN l ts 1 : Nat) (takeOk l ts 1)) := by
  have hb0 : Below w.heap.size w ((w.alloc (.cells #[.slice S m c, .slice T k d] 25)).alloc (.cells #[.slice none 0 0, .slice none 0 0] 25)) := below_le (below_box _ _) (below_box _ _)
  have h2 : Blk ((w.alloc (.cells #[.slice S m c, .slice T k d] 25)).alloc (.cells #[.slice none 0 0, .slice none 0 0] 25)) (w.heap.size + 1) 25 #[.slice none 0 0, .slice none 0 0] := heap_new (by simp) _
  have hcall := take_any S m c T k d l ts 1 _ (hS.ext hb0) (hT.ext hb0) hm hk
  generalize takeL l ts 1 = L' at *
  generalize takeT l ts 1 = T' at *
  generalize takeN l ts 1 = n' at *
  generalize takeOk l ts 1 = b' at *
  have HC := Lib.hid hcall
  have HB := Lib.hid hb0
  have H2 := Lib.hid h2
  clear hS hT hb0 hcall h2
  go_enter Tryz.func9, Tryz.ntmps9
  go_wp2_with fail
  generalize (w.alloc (.cells #[.slice S m c, .slice T k d] 25)).alloc (.cells #[.slice none 0 0, .slice none 0 0] 25) = W0 at *
  refine HC.out.mono ?_
  rintro e w1 ⟨v, rfl, hpf, hb1⟩
  obtain ⟨S', m', c', T', k', d', rfl, -⟩ := hpf.read
  have h3 := H2.out.ext hb1
  have hlt := H2.out.lt
  have c0 := h3.cell 0
  have c1 := h3.cell 1
  have f0 := h3.frozen 0
  have f1 := h3.frozen 1
  have h4 := (h3.set_ 0 (.slice S' m' c')).set_ 1 (.slice T' k' d')
  have q0 := h4.cell 0
  have q1 := h4.cell 1
  simp at c0 c1 q0 q1
  have HPF := Lib.hid (((hpf.far (p := ⟨w.heap.size + 1, 0, none⟩) hlt (.slice S' m' c')).far (p := ⟨w.heap.size + 1, 1, none⟩) hlt (.slice T' k' d')).mono (base' := w.heap.size) (by omega))
  have HB1 := Lib.hid (((below_le HB.out hb1).setCell (p := ⟨w.heap.size + 1, 0, none⟩) (by show w.heap.size ≤ w.heap.size + 1; omega) (.slice S' m' c')).setCell (p := ⟨w.heap.size + 1, 1, none⟩) (by show w.heap.size ≤ w.heap.size + 1; omega) (.slice T' k' d'))
  clear hpf hb1 h3 h4 HC HB H2
  go_wp2
  exact bodyPost_ret (v := .tuple #[.agg #[.slice S' m' c', .slice T' k' d'], .int .i64 (n' : Int), .bool b']) (by simp [results, Tryz.results9, go_sem, q0, q1]) rfl ⟨_, rfl, HPF.out, HB1.out⟩

end Go.Proofs.YtllanbggjfmfhaaGreatDoor
