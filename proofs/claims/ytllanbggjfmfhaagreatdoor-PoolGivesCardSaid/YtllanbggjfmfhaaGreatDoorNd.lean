/-
  What is proved: the contract of First of package run. No condition beyond those stated.
-/
import Derived.Test.YtllanbggjfmfhaaGreatDoorNc
namespace Go.Proofs.YtllanbggjfmfhaaGreatDoor
open Go.RowKit Go.Shelf
attribute [local go_sem] Oper.semAt_some

theorem runs1_stops (n : Nat) (A : Option Addr) (m c : Nat) (l : List Int) (bb : Nat) (w : World) (hm : m ≤ 1000) (hc : w.cell? ⟨bb, 0, none⟩ = some (.slice A m c)) (hR : Row w A m (l.map Iv)) (hA : ∀ a, A = some a → a.block < w.heap.size) :
    SeqStopsK Fence.wide n Tryz.prog 72 #[.pointer (some ⟨bb, 0, none⟩)] (fun x : Fin (runsL l).length => #[holeV ((runsL l)[x.1])]) (KeepL bb A)
      (fun ys => ys = List.finRange (runsL l).length) (fun pre => ∃ k, k ≤ (runsL l).length ∧ pre = (List.finRange (runsL l).length).take k) (runsL l).length w := fun y J Jx W hW hJ _ hY h0 =>
  runs1_in n A m c l bb y hm J Jx W hJ hY (cell_ext hW hc) (hR.ext hW) (fun a e => Nat.lt_of_lt_of_le (hA a e) hW.size) h0

set_option maxHeartbeats 400000 in
theorem runs_any (S : Option Addr) (n c : Nat) (w : World) :
    Calls Tryz.prog 51 #[.slice S n c] w fun e w' => e = .returned (.func (.func 72) #[] #[.pointer (some ⟨w.heap.size, 0, none⟩)]) ∧ w.alloc (.cells #[.slice S n c] 22) = w' := by
  go_enter Tryz.func51, Tryz.ntmps51
  go_wp2
  go_ret
  exact ⟨rfl, rfl⟩

theorem runs_mem {l : List Int} {b : Nat} {r : Nat × Nat} (h : r ∈ runsFrom l b) : r.1 < r.2 ∧ r.2 ≤ l.length ∧ isStart l r.1 = true ∧ r.2 = r.1 + freeN l r.1 := by
  unfold runsFrom at h
  obtain ⟨j, _, hj⟩ := List.mem_filterMap.1 h
  unfold startAt at hj
  split at hj
  · rename_i hs
    cases hj
    have hb : j < l.length ∧ l.getD j 0 = 0 := by
      simp only [isStart, Bool.and_eq_true, decide_eq_true_eq, beq_iff_eq] at hs
      exact hs.1
    have h1 := free_succ hb.1 hb.2
    have h2 := free_le l j (by omega)
    exact ⟨by show j < j + freeN l j; omega, h2, hs, rfl⟩
  · cases hj

/-- The runs that have come. -/
def cameR (l : List Int) (pre : List (Fin (runsL l).length)) : List (Nat × Nat) := pre.map fun x => (runsL l)[x.1]
theorem cameR_snoc (l : List Int) (pre : List (Fin (runsL l).length)) (x : Fin (runsL l).length) : cameR l (pre ++ [x]) = cameR l pre ++ [(runsL l)[x.1]] := by simp [cameR]
theorem cameR_all (l : List Int) : cameR l (List.finRange (runsL l).length) = runsL l := by
  unfold cameR
  apply List.ext_getElem
  · simp
  · intro i h1 h2; simp
theorem cameR_take (l : List Int) (k : Nat) : ∃ rest, runsL l = cameR l ((List.finRange (runsL l).length).take k) ++ rest := by
  refine ⟨cameR l ((List.finRange (runsL l).length).drop k), ?_⟩
  have h : ∀ a b, cameR l (a ++ b) = cameR l a ++ cameR l b := fun a b => by simp [cameR]
  rw [← h, List.take_append_drop, cameR_all]

def longB (k : Int) (r : Nat × Nat) : Bool := decide (k ≤ (r.2 : Int) - (r.1 : Int))
def firstR (l : List Int) (k : Int) : Option (Nat × Nat) := if rightL l && decide (1 ≤ k) then (runsL l).find? (longB k) else none
def GivesFirst (w : World) (o : Option (Nat × Nat)) (e : Ending) (w' : World) : Prop := e = .returned (.tuple #[.int .i64 ((o.getD (0, 0)).1 : Nat), .bool o.isSome]) ∧ Below w.heap.size w w'

def firstW0 (w : World) (k : Int) : World := ((w.alloc (.cells #[.int .i64 k] 3)).alloc (.cells #[.int .i64 0] 3)).alloc (.cells #[.bool false] 4)
theorem firstW0_below (w : World) (k : Int) : Below w.heap.size w (firstW0 w k) := below_le (below_le (below_box _ _) (below_box _ _)) (below_box _ _)

set_option maxRecDepth 100000 in
set_option maxHeartbeats 2000000 in
theorem first_wrong (A : Option Addr) (m c : Nat) (l : List Int) (k : Int) (w : World) (hR : Row w A m (l.map Iv)) (hm : m ≤ 1000) (hr : rightL l = false ∨ k < 1) :
    Calls Tryz.prog 28 #[.slice A m c, .int .i64 k] w (GivesFirst w none) := by
  have hb0 := firstW0_below w k
  have hb2 : Blk (firstW0 w k) (w.heap.size + 1) 3 #[.int .i64 0] := Blk.alloc (heap_new (by simp) _) _
  have hb3 : Blk (firstW0 w k) (w.heap.size + 1 + 1) 4 #[.bool false] := heap_new (by simp) _
  have k0 : (firstW0 w k).cell? ⟨w.heap.size, 0, none⟩ = some (.int .i64 k) := by simp [go_sem, firstW0]
  have HR := Lib.hid (hR.ext hb0)
  have HB0 := Lib.hid hb0
  have HB2 := Lib.hid hb2
  have HB3 := Lib.hid hb3
  have Hr := Lib.hid hr
  clear hR hb0 hb2 hb3 hr
  refine (callsIn_wide (n := 3)).1 ?_
  refine callsIn_of_wp_marks Tryz.func28 rfl trivial ?_ rfl
  simp only [Tryz.ntmps28, List.size_toArray, List.length_cons, List.length_nil, Nat.reduceAdd, Nat.reduceSub, Array.replicate_succ, Array.replicate_zero, List.push_toArray, List.append_toArray, List.nil_append, List.cons_append]
  gi_wp2_with fail
  change Code.wpIn _ _ _ _ _ _ (firstW0 w k)
  refine wpIn_scope_ahead 0 (fun a W' => Below (firstW0 w k).heap.size (firstW0 w k) W' ∧ ∃ t8 t9 t10 t11 t12 t13, a = { tmps := #[.slice A m c, .int .i64 k, undef, .pointer (some ⟨w.heap.size, 0, none⟩), .pointer (some ⟨w.heap.size + 1, 0, none⟩), .pointer (some ⟨w.heap.size + 1 + 1, 0, none⟩), undef, .slice A m c, t8, t9, t10, t11, t12, t13, undef, undef, undef, undef, undef, undef, undef, undef, undef, undef, undef, undef], defers := [] }) rfl ?first ?pass
  case first =>
    gi_wp2_with fail
    refine ⟨trivial, ?_⟩
    refine (callsIn_wide.2 (right_any A m c l (firstW0 w k) HR.out hm)).mono ?_
    rintro e w1 ⟨rfl, hb1⟩
    have j0 := cell_ext hb1 k0
    have HB1 := Lib.hid hb1
    clear hb1
    cases hq : rightL l
    · clear hq
      gi_wp2
      refine wpIn_goto ?_
      exact ⟨rfl, HB1.out, _, _, _, _, _, _, rfl⟩
    · have hk : k < 1 := by
        rcases Hr.out with h | h
        · rw [hq] at h; cases h
        · exact h
      clear hq
      gi_wp2
      refine wpIn_goto ?_
      exact ⟨rfl, HB1.out, _, _, _, _, _, _, rfl⟩
  case pass =>
    rintro a W' ⟨hb, t8, t9, t10, t11, t12, t13, rfl⟩
    have h2 := HB2.out.ext hb
    have h3 := HB3.out.ext hb
    have c2 := h2.cell 0
    have c3 := h3.cell 0
    have f2 := h2.frozen 0
    have f3 := h3.frozen 0
    have H2 := Lib.hid h2
    have H3 := Lib.hid h3
    have HB := Lib.hid hb
    clear hb h2 h3
    gi_wp2
    have q2 := ((H2.out.set_ 0 (.int .i64 0)).far (p := ⟨w.heap.size + 1 + 1, 0, none⟩) (by show w.heap.size + 1 ≠ _; simp) (.bool false)).cell 0
    have q3 := ((H3.out.far (p := ⟨w.heap.size + 1, 0, none⟩) (by show w.heap.size + 1 + 1 ≠ _; simp) (.int .i64 0)).set_ 0 (.bool false)).cell 0
    simp at q2 q3
    refine ⟨.tuple #[.int .i64 0, .bool false], by simp [results, Tryz.results28, go_sem, q2, q3], rfl, ?_⟩
    have hb4 := below_le HB0.out HB.out
    exact (hb4.setCell (p := ⟨w.heap.size + 1, 0, none⟩) (by show w.heap.size ≤ w.heap.size + 1; omega) _).setCell (p := ⟨w.heap.size + 1 + 1, 0, none⟩) (by show w.heap.size ≤ w.heap.size + 1 + 1; omega) _

/-- A block of cells stays where only what is no cells is changed. -/
theorem Blk.own {W W' : World} {g : Nat} {t : TypeId} {cs : Array Value} {row : Option Nat} {B : Nat} (h : Blk W g t cs) (hg : W.grownBy W' row) (hr : ∀ r, row = some r → B ≤ r ∧ ∃ o : Obj, W.heap[r]? = some o ∧ o.isCells = false) : Blk W' g t cs := by
  refine (hg.block g h.lt fun e => ?_).trans h
  obtain ⟨_, o, ho, hc⟩ := hr g e.symm
  unfold Blk at h
  rw [h] at ho
  cases ho
  simp [Obj.isCells] at hc

def FirstI (W1 : World) (l : List Int) (k : Int) (pre : List (Fin (runsL l).length)) (W' : World) : Prop := W1.heap.size ≤ W'.heap.size ∧ Below W1.heap.size W1 W' ∧ ∀ r ∈ cameR l pre, longB k r = false
theorem FirstI.low {W1 X Y : World} {l : List Int} {k : Int} {pre : List (Fin (runsL l).length)} (h : FirstI W1 l k pre X) (hb : Below W1.heap.size X Y) : FirstI W1 l k pre Y := ⟨Nat.le_trans h.1 hb.size, h.2.1.trans hb, h.2.2⟩
def FirstX (w W1 : World) (l : List Int) (k : Int) (c : Code) (pre : List (Fin (runsL l).length)) (W' : World) : Prop :=
  W1.heap.size ≤ W'.heap.size ∧ c = .ret ∧ Below w.heap.size w W' ∧ ∃ pr r, cameR l pre = pr ++ [r] ∧ (∀ x ∈ pr, longB k x = false) ∧ longB k r = true ∧ Blk W' (w.heap.size + 1) 3 #[.int .i64 (r.1 : Int)] ∧ Blk W' (w.heap.size + 1 + 1) 4 #[.bool true]
theorem FirstX.low {w W1 X Y : World} {l : List Int} {k : Int} {c : Code} {pre : List (Fin (runsL l).length)} (h : FirstX w W1 l k c pre X) (hb : Below W1.heap.size X Y) (hw : w.heap.size + 3 ≤ W1.heap.size) : FirstX w W1 l k c pre Y := by
  obtain ⟨h1, h2, h3, pr, r, h4, h5, h6, h7, h8⟩ := h
  exact ⟨Nat.le_trans h1 hb.size, h2, h3.trans (hb.mono (by omega)), pr, r, h4, h5, h6, h7.below hb (by omega), h8.below hb (by omega)⟩
theorem ownFrom_low {β : Type} (n : Nat) (I : β → World → Prop) (hsz : ∀ s X, I s X → n ≤ X.heap.size) (hlow : ∀ s X Y, I s X → Below n X Y → I s Y) : OwnFrom n I := fun s X Y _ hs hg hr =>
  hlow s X Y hs ((Below.refl n X).grown hg (hsz s X hs) (fun k e => (hr k e).1))
theorem keepsFrom_below {B : Nat} {W W' : World} (h : Below W.heap.size W W') : KeepsFrom B W W' := KeepsFrom.of_grownBy (row := none) ⟨h.os, h.tape, h.output, h.size, fun i hi _ => h.block i hi⟩ (fun _ e => by cases e)
theorem find_prefix {α : Type} (p : α → Bool) (pre rest : List α) (x : α) (h : ∀ y ∈ pre, p y = false) (hx : p x = true) : (pre ++ [x] ++ rest).find? p = some x := by
  rw [List.append_assoc, List.find?_append, List.find?_eq_none.2 (fun y hy => by rw [h y hy]; exact Bool.false_ne_true)]
  simp [hx]

/-- The frame of a round. -/
def firstF (w : World) (A : Option Addr) (m c : Nat) (k : Int) (bb rb : Nat) (r : Nat × Nat) : Act :=
  { tmps := #[.slice A m c, .int .i64 k, undef, .pointer (some ⟨w.heap.size, 0, none⟩), .pointer (some ⟨w.heap.size + 1, 0, none⟩), .pointer (some ⟨w.heap.size + 1 + 1, 0, none⟩), .pointer (some ⟨rb, 0, none⟩), .slice A m c, .bool true, .bool false, .bool false, .int .i64 k, .bool false, .bool false, .slice A m c,
      .func (.func 72) #[] #[.pointer (some ⟨bb, 0, none⟩)], holeV r, undef, undef, undef, undef, undef, undef, undef, undef, undef], defers := [] }

set_option maxRecDepth 100000 in
set_option maxHeartbeats 2000000 in
theorem first_right (A : Option Addr) (m c : Nat) (l : List Int) (k : Int) (w : World) (hR : Row w A m (l.map Iv)) (hA : ∀ a, A = some a → a.block < w.heap.size) (hr : rightL l = true) (hk : 1 ≤ k) :
    Calls Tryz.prog 28 #[.slice A m c, .int .i64 k] w (GivesFirst w ((runsL l).find? (longB k))) := by
  have hl := hR.1
  simp at hl
  obtain ⟨hl0, hl1⟩ := right_len hr
  have hm : m ≤ 1000 := by omega
  have hb0 := firstW0_below w k
  have hb2 : Blk (firstW0 w k) (w.heap.size + 1) 3 #[.int .i64 0] := Blk.alloc (heap_new (by simp) _) _
  have hb3 : Blk (firstW0 w k) (w.heap.size + 1 + 1) 4 #[.bool false] := heap_new (by simp) _
  have k0 : (firstW0 w k).cell? ⟨w.heap.size, 0, none⟩ = some (.int .i64 k) := by simp [go_sem, firstW0]
  have hws : w.heap.size + 3 ≤ (firstW0 w k).heap.size := by simp [firstW0]
  have HR := Lib.hid (hR.ext hb0)
  have HB0 := Lib.hid hb0
  have HB2 := Lib.hid hb2
  have HB3 := Lib.hid hb3
  have Hr := Lib.hid hr
  have HL := Lib.hid hl
  have HA := Lib.hid hA
  have hkd : decide (k < 1) = false := by simp; omega
  clear hR hb0 hb2 hb3 hr hl hA hl0 hl1
  refine (callsIn_wide (n := 3)).1 ?_
  refine callsIn_of_wp_marks Tryz.func28 rfl trivial ?_ rfl
  simp only [Tryz.ntmps28, List.size_toArray, List.length_cons, List.length_nil, Nat.reduceAdd, Nat.reduceSub, Array.replicate_succ, Array.replicate_zero, List.push_toArray, List.append_toArray, List.nil_append, List.cons_append]
  gi_wp2_with fail
  change Code.wpIn _ _ _ _ _ _ (firstW0 w k)
  refine wpIn_scope_ahead 0 (fun _ _ => False) rfl ?first (fun _ _ h => h.elim)
  case first =>
    gi_wp2_with fail
    refine ⟨trivial, ?_⟩
    have h := right_any A m c l (firstW0 w k) HR.out hm
    rw [Hr.out] at h
    refine (callsIn_wide.2 h).mono ?_
    rintro e w1 ⟨rfl, hb1⟩
    have j0 := cell_ext hb1 k0
    have HB1 := Lib.hid hb1
    have HR1 := Lib.hid (HR.out.ext hb1)
    clear h hb1 k0
    gi_wp2_with fail
    refine wpIn_label ?_
    gi_wp2_with fail
    refine ⟨trivial, (callsIn_wide.2 (runs_any _ _ _ _)).mono ?_⟩
    rintro e w' ⟨rfl, rfl⟩
    have hb01 := below_le HB0.out HB1.out
    have hW1 := below_box w1 (.cells #[.slice A m c] 22)
    have hz : (w1.alloc (.cells #[.slice A m c] 22)).heap.size = w1.heap.size + 1 := by simp
    have e1 := cell_one (w := w1) (t := 22) (v := .slice A m c)
    have i0 := cell_ext hW1 j0
    have HR2 := Lib.hid (HR1.out.ext hW1)
    have b0 := Lib.hid (below_le HB1.out hW1)
    generalize w1.alloc (.cells #[.slice A m c] 22) = W1 at *
    have hhs2 := HB1.out.size
    have hs01 := HB0.out.size
    have hA1 : ∀ a, A = some a → a.block < W1.heap.size := fun a e => by have := HA.out a e; omega
    have HI0 : FirstI W1 l k ([] : List (Fin (runsL l).length)) W1 := ⟨Nat.le_refl _, Below.refl _ _, by simp [cameR]⟩
    gi_wp2_with fail
    refine wpIn_rangeFunc_ownH (F := Fence.wide) (n := 3) rfl (by omega) (gf := 72) (lb := #[.pointer (some ⟨w1.heap.size, 0, none⟩)]) rfl trivial (enters_of Tryz.func72 (by kernel_rfl) rfl)
      (runs1_stops (3 - 1) A m c l w1.heap.size W1 hm e1 HR2.out hA1) (fun h k => h.t k) (KeepL.b (by omega) hA1) (Below.refl _ _) (fun _ => rfl)
      (FirstI W1 l k) (FirstX w W1 l k)
      (ownFrom_low _ _ (fun _ _ h => h.1) (fun _ X Y h hb => h.low hb))
      (fun c => ownFrom_low _ _ (fun _ _ h => h.1) (fun _ X Y h hb => h.low hb (by omega)))
      HI0
      (fun x a' W => ∃ rb, W1.heap.size ≤ rb ∧ a' = firstF w A m c k w1.heap.size rb ((runsL l)[x.1]) ∧ Blk W rb 72 #[.int .i64 ((runsL l)[x.1]).1, .int .i64 ((runsL l)[x.1]).2])
      (fun x a' _ X Y row hs hg hr => by obtain ⟨rb, h1, h2, h3⟩ := hs; exact ⟨rb, h1, h2, h3.own hg hr⟩)
      ?assign ?body ?done ?stop
    case assign =>
      intro l0 pre x W' K hI hK
      generalize (runsL l)[x.1] = r at *
      obtain ⟨p, q⟩ := r
      dsimp only [holeV]
      have HK := Lib.hid hK
      have HI := Lib.hid hI
      clear hK hI
      gi_wp2
      have hx := below_box W' (.cells #[.int .i64 (p : Int), .int .i64 (q : Int)] 72)
      exact HK.out _ _ (keepsFrom_below hx) (KeepL.of_below (hx.mono HI.out.1) (by omega) hA1) (HI.out.low (hx.mono HI.out.1)) ⟨W'.heap.size, HI.out.1, rfl, Blk.new _ _ _⟩
    case body =>
      rintro l0 pre x a' W' - - ⟨s1, s2, s3⟩ ⟨rb, hrb, rfl, hbl⟩ -
      have hmem := runs_mem (l := l) (b := 0) (List.getElem_mem (l := runsL l) x.2)
      have hsn := cameR_snoc l pre x
      generalize (runsL l)[x.1] = r at *
      obtain ⟨p, q⟩ := r
      obtain ⟨hpq, hql, -, -⟩ := hmem
      have hqm : q ≤ 1000 := by have := HL.out; dsimp only at hql; omega
      have r1 := cell_ext s2 i0
      have c0 := hbl.cell 0
      have c1 := hbl.cell 1
      have S2 := Lib.hid s2
      have SN := Lib.hid hsn
      have H2 := Lib.hid ((HB2.out.ext b0.out).ext s2)
      have H3 := Lib.hid ((HB3.out.ext b0.out).ext s2)
      dsimp only at hpq
      clear s2 hsn hql hbl
      simp only [firstF, holeV]
      simp at c0 c1
      cases hd : longB k (p, q)
      · have hlt : decide ((q : Int) - (p : Int) < k) = true := by
          simp only [longB, decide_eq_false_iff_not] at hd
          simp; omega
        have HD := Lib.hid hd
        clear hd
        gi_wp2
        refine ⟨KeepsFrom.refl _ _, KeepL.refl _ _ _, s1, S2.out, ?_⟩
        rw [SN.out]
        intro y hy
        rcases List.mem_append.1 hy with hy | hy
        · exact s3 y hy
        · rw [List.mem_singleton.1 hy]; exact HD.out
      · have hlt : decide ((q : Int) - (p : Int) < k) = false := by
          simp only [longB, decide_eq_true_eq] at hd
          simp; omega
        have HD := Lib.hid hd
        have c2 := H2.out.cell 0
        have c3 := H3.out.cell 0
        have f2 := H2.out.frozen 0
        have f3 := H3.out.frozen 0
        clear hd
        gi_wp2
        have g2 := grown_set W' (w.heap.size + 1) 0 (.int .i64 (p : Int))
        have g3 := grown_set (W'.setCell ⟨w.heap.size + 1, 0, none⟩ (.int .i64 (p : Int))) (w.heap.size + 1 + 1) 0 (.bool true)
        refine ⟨(KeepsFrom.of_grownBy g2 (fun j e => by cases e; show w.heap.size + 1 < _; omega)).trans (KeepsFrom.of_grownBy g3 (fun j e => by cases e; show w.heap.size + 1 + 1 < _; omega)), ?_, rfl, ?_, cameR l pre, (p, q), SN.out, s3, HD.out, ?_, ?_⟩
        · exact Nat.le_trans (by omega) (Nat.le_trans g2.size g3.size)
        · have hb4 := below_le (below_le hb01 hW1) S2.out
          exact (hb4.setCell (p := ⟨w.heap.size + 1, 0, none⟩) (by show w.heap.size ≤ w.heap.size + 1; omega) _).setCell (p := ⟨w.heap.size + 1 + 1, 0, none⟩) (by show w.heap.size ≤ w.heap.size + 1 + 1; omega) _
        · exact (H2.out.set_ 0 (.int .i64 (p : Int))).far (p := ⟨w.heap.size + 1 + 1, 0, none⟩) (by show w.heap.size + 1 ≠ _; simp) (.bool true)
        · exact (H3.out.far (p := ⟨w.heap.size + 1, 0, none⟩) (by show w.heap.size + 1 + 1 ≠ _; simp) (.int .i64 (p : Int))).set_ 0 (.bool true)
    case done =>
      rintro D ys W' hD rfl ⟨s1, s2, s3⟩ hK
      rw [cameR_all] at s3
      have h2 := (HB2.out.ext b0.out).ext s2
      have h3 := (HB3.out.ext b0.out).ext s2
      have c2 := h2.cell 0
      have c3 := h3.cell 0
      have f2 := h2.frozen 0
      have f3 := h3.frozen 0
      have H2 := Lib.hid h2
      have H3 := Lib.hid h3
      have S2 := Lib.hid s2
      have S3 := Lib.hid s3
      clear h2 h3 s2 i0 s3
      gi_wp2
      refine wpIn_label ?_
      gi_wp2
      have hK2 : ((W'.setCell ⟨w.heap.size + 1, 0, none⟩ (.int .i64 0)).setCell ⟨w.heap.size + 1 + 1, 0, none⟩ (.bool false)).heap[D]? = some (.deferred (some [])) :=
        (Below.heap_setCell _ _ _ D (by show D ≠ w.heap.size + 1 + 1; omega)).trans ((Below.heap_setCell _ _ _ D (by show D ≠ w.heap.size + 1; omega)).trans hK)
      refine ⟨by simp, .inl ⟨_, _, rfl, run_takeDeferred hK2, ?_⟩⟩
      have hbD := belowK_b (w := W1) (Nat.le_refl _) _ D _ (.deferred none) hD hK2 rfl rfl
      have q2 := (((H2.out.set_ 0 (.int .i64 0)).far (p := ⟨w.heap.size + 1 + 1, 0, none⟩) (by show w.heap.size + 1 ≠ _; simp) (.bool false)).below hbD (by omega)).cell 0
      have q3 := (((H3.out.far (p := ⟨w.heap.size + 1, 0, none⟩) (by show w.heap.size + 1 + 1 ≠ _; simp) (.int .i64 0)).set_ 0 (.bool false)).below hbD (by omega)).cell 0
      simp at q2 q3
      refine ⟨.tuple #[.int .i64 0, .bool false], by simp [results, Tryz.results28, go_sem, q2, q3], ?_, ?_⟩
      · rw [List.find?_eq_none.2 (fun x hx => by rw [S3.out x hx]; exact Bool.false_ne_true)]
        rfl
      · have hb4 := below_le (below_le hb01 hW1) S2.out
        exact ((hb4.setCell (p := ⟨w.heap.size + 1, 0, none⟩) (by show w.heap.size ≤ w.heap.size + 1; omega) _).setCell (p := ⟨w.heap.size + 1 + 1, 0, none⟩) (by show w.heap.size ≤ w.heap.size + 1 + 1; omega) _).trans (hbD.mono (by omega))
    case stop =>
      rintro D c pre W' hD ⟨j, hj, rfl⟩ ⟨s1, rfl, s2, pr, r, h4, h5, h6, h7, h8⟩ hK
      have hf : (runsL l).find? (longB k) = some r := by
        obtain ⟨rest, hrest⟩ := cameR_take l j
        rw [hrest, h4]
        exact find_prefix _ _ _ _ h5 h6
      have HF := Lib.hid hf
      have H7 := Lib.hid h7
      have H8 := Lib.hid h8
      have S2 := Lib.hid s2
      clear h7 h8 s2 hf i0 h4 h5
      gi_wp2
      simp only [Exit.jump]
      gi_wp2
      refine ⟨by simp, .inl ⟨_, _, rfl, run_takeDeferred hK, ?_⟩⟩
      have hbD := belowK_b (w := W1) (Nat.le_refl _) _ D _ (.deferred none) hD hK rfl rfl
      have q2 := (H7.out.below hbD (by omega)).cell 0
      have q3 := (H8.out.below hbD (by omega)).cell 0
      simp at q2 q3
      refine ⟨.tuple #[.int .i64 (r.1 : Int), .bool true], by simp [results, Tryz.results28, go_sem, q2, q3], ?_, ?_⟩
      · rw [HF.out]
        rfl
      · exact S2.out.trans (hbD.mono (by omega))

theorem Row.block_lt {w : World} {A : Option Addr} {m : Nat} {xs : List Value} (h : Row w A m xs) (hm : 0 < m) : ∀ a, A = some a → a.block < w.heap.size := by
  intro a e
  obtain ⟨b, off, e', hc⟩ := h.at_ hm
  rw [e'] at e
  cases e
  exact lt_of_cell hc
theorem right_pos {w : World} {A : Option Addr} {m : Nat} {l : List Int} (hR : Row w A m (l.map Iv)) (hr : rightL l = true) : 0 < m := by
  have h1 := hR.1
  have h2 := right_len hr
  simp at h1
  omega

/-- run.First. -/
theorem first_any (A : Option Addr) (m c : Nat) (l : List Int) (k : Int) (w : World) (hR : Row w A m (l.map Iv)) (hm : m ≤ 1000) :
    Calls Tryz.prog 28 #[.slice A m c, .int .i64 k] w (GivesFirst w (firstR l k)) := by
  unfold firstR
  cases hr : rightL l
  · exact first_wrong A m c l k w hR hm (.inl hr)
  · by_cases hk : 1 ≤ k
    · rw [decide_eq_true hk]
      exact first_right A m c l k w hR (hR.block_lt (right_pos hR hr)) hr hk
    · rw [decide_eq_false hk]
      exact first_wrong A m c l k w hR hm (.inr (by omega))

end Go.Proofs.YtllanbggjfmfhaaGreatDoor
