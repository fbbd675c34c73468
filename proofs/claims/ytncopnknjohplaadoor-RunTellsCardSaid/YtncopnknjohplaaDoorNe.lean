/-
  What is proved: the contract of Longest of package run. No condition beyond those stated.
-/
import Derived.Test.YtncopnknjohplaaDoorNd
namespace Go.Proofs.YtncopnknjohplaaDoor
open Go.RowKit Go.Shelf
attribute [local go_sem] Oper.semAt_some

def longest (rs : List (Nat × Nat)) : Nat := rs.foldl (fun a r => max a (r.2 - r.1)) 0
theorem longest_snoc (rs : List (Nat × Nat)) (r : Nat × Nat) : longest (rs ++ [r]) = max (longest rs) (r.2 - r.1) := by simp [longest]
def longR (l : List Int) : Nat := if rightL l then longest (runsL l) else 0

def LongI (w W1 : World) (l : List Int) (pre : List (Fin (runsL l).length)) (W' : World) : Prop := W1.heap.size ≤ W'.heap.size ∧ Below w.heap.size w W' ∧ Blk W' w.heap.size 3 #[.int .i64 (longest (cameR l pre) : Nat)] ∧ longest (cameR l pre) ≤ 1000

def longF (w : World) (A : Option Addr) (m c : Nat) (bb rb : Nat) (r : Nat × Nat) : Act :=
  { tmps := #[.slice A m c, undef, .int .i64 0, .pointer (some ⟨w.heap.size, 0, none⟩), .pointer (some ⟨rb, 0, none⟩), .slice A m c, .bool true, .slice A m c,
      .func (.func 38) #[] #[.pointer (some ⟨bb, 0, none⟩)], holeV r, undef, undef, undef, undef, undef, undef, undef, undef], defers := [] }

set_option maxRecDepth 100000 in
set_option maxHeartbeats 2000000 in
theorem longest_right (A : Option Addr) (m c : Nat) (l : List Int) (w : World) (hR : Row w A m (l.map Iv)) (hA : ∀ a, A = some a → a.block < w.heap.size) (hr : rightL l = true) :
    Calls Tryd.prog 18 #[.slice A m c] w fun e w' => e = .returned (.int .i64 (longest (runsL l) : Nat)) ∧ Below w.heap.size w w' := by
  have hl := hR.1
  simp at hl
  obtain ⟨hl0, hl1⟩ := right_len hr
  have hm : m ≤ 1000 := by omega
  have hb0 := below_box w (.cells #[.int .i64 0] 3)
  have hb2 : Blk (w.alloc (.cells #[.int .i64 0] 3)) w.heap.size 3 #[.int .i64 0] := heap_new rfl _
  have hws : w.heap.size < (w.alloc (.cells #[.int .i64 0] 3)).heap.size := by simp
  have HR := Lib.hid (hR.ext hb0)
  have HB0 := Lib.hid hb0
  have HB2 := Lib.hid hb2
  have Hr := Lib.hid hr
  have HL := Lib.hid hl
  have HA := Lib.hid hA
  clear hR hb0 hb2 hr hl hA hl0 hl1
  refine (callsIn_wide (n := 3)).1 ?_
  refine callsIn_of_wp_marks Tryd.func18 rfl trivial ?_ rfl
  simp only [Tryd.ntmps18, List.size_toArray, List.length_cons, List.length_nil, Nat.reduceAdd, Nat.reduceSub, Array.replicate_succ, Array.replicate_zero, List.push_toArray, List.append_toArray, List.nil_append, List.cons_append]
  gi_wp2_with fail
  generalize w.alloc (.cells #[.int .i64 0] 3) = W0 at *
  refine ⟨trivial, ?_⟩
  have h := right_any A m c l W0 HR.out hm
  rw [Hr.out] at h
  refine (callsIn_wide.2 h).mono ?_
  rintro e w1 ⟨rfl, hb1⟩
  have HB1 := Lib.hid hb1
  have HR1 := Lib.hid (HR.out.ext hb1)
  clear h hb1
  gi_wp2_with fail
  refine ⟨trivial, (callsIn_wide.2 (runs_any _ _ _ _)).mono ?_⟩
  rintro e w' ⟨rfl, rfl⟩
  have hb01 := below_le HB0.out HB1.out
  have hW1 := below_box w1 (.cells #[.slice A m c] 22)
  have hz : (w1.alloc (.cells #[.slice A m c] 22)).heap.size = w1.heap.size + 1 := by simp
  have e1 := cell_one (w := w1) (t := 22) (v := .slice A m c)
  have HR2 := Lib.hid (HR1.out.ext hW1)
  have b0 := Lib.hid (below_le HB1.out hW1)
  generalize w1.alloc (.cells #[.slice A m c] 22) = W1 at *
  have hhs2 := HB1.out.size
  have hs01 := HB0.out.size
  have hA1 : ∀ a, A = some a → a.block < W1.heap.size := fun a e => by have := HA.out a e; omega
  have HI0 : LongI w W1 l ([] : List (Fin (runsL l).length)) W1 := ⟨Nat.le_refl _, below_le HB0.out b0.out, by simpa [cameR, longest] using HB2.out.ext b0.out, by simp [cameR, longest]⟩
  gi_wp2_with fail
  refine wpIn_rangeFunc_ownH (F := Fence.wide) (n := 3) rfl (by omega) (gf := 38) (lb := #[.pointer (some ⟨w1.heap.size, 0, none⟩)]) rfl trivial (enters_of Tryd.func38 (by kernel_rfl) rfl)
    (runs1_stops (3 - 1) A m c l w1.heap.size W1 hm e1 HR2.out hA1) (fun h k => h.t k) (KeepL.b (by omega) hA1) (Below.refl _ _) (fun _ => rfl)
    (LongI w W1 l) (fun _ _ _ => False)
    (fun pre X Y row hs hg hr => by
      obtain ⟨h1, h2, h3, h4⟩ := hs
      exact ⟨Nat.le_trans h1 hg.size, h2.trans (((Below.refl _ X).grown hg h1 (fun k e => (hr k e).1)).mono (by omega)), h3.own hg hr, h4⟩)
    (fun _ _ _ _ _ hs _ _ => hs)
    HI0
    (fun x a' W => ∃ rb, W1.heap.size ≤ rb ∧ a' = longF w A m c w1.heap.size rb ((runsL l)[x.1]) ∧ Blk W rb 42 #[.int .i64 ((runsL l)[x.1]).1, .int .i64 ((runsL l)[x.1]).2])
    (fun x a' _ X Y row hs hg hr => by obtain ⟨rb, h1, h2, h3⟩ := hs; exact ⟨rb, h1, h2, h3.own hg hr⟩)
    ?assign ?body ?done ?stop
  case assign =>
    intro l0 pre x W' K hI hK
    generalize (runsL l)[x.1] = r at *
    obtain ⟨p, q⟩ := r
    dsimp only [holeV]
    have HK := Lib.hid hK
    have HI := Lib.hid hI
    clear hK hI
    gi_wp2
    have hx := below_box W' (.cells #[.int .i64 (p : Int), .int .i64 (q : Int)] 42)
    obtain ⟨h1, h2, h3, h4⟩ := HI.out
    exact HK.out _ _ (keepsFrom_below hx) (KeepL.of_below (hx.mono h1) (by omega) hA1) ⟨Nat.le_trans h1 hx.size, h2.trans (hx.mono h2.size), h3.ext hx, h4⟩ ⟨W'.heap.size, h1, rfl, Blk.new _ _ _⟩
  case body =>
    rintro l0 pre x a' W' - - ⟨s1, s2, s3, s4⟩ ⟨rb, hrb, rfl, hbl⟩ -
    have hmem := runs_mem (l := l) (b := 0) (List.getElem_mem (l := runsL l) x.2)
    have hsn := cameR_snoc l pre x
    have hls := longest_snoc (cameR l pre) ((runsL l)[x.1])
    rw [← hsn] at hls
    generalize (runsL l)[x.1] = r at *
    obtain ⟨p, q⟩ := r
    obtain ⟨hpq, hql, -, -⟩ := hmem
    have hqm : q ≤ 1000 := by have := HL.out; dsimp only at hql; omega
    have c0 := hbl.cell 0
    have c1 := hbl.cell 1
    have c2 := s3.cell 0
    have f2 := s3.frozen 0
    dsimp only at hpq hls
    generalize longest (cameR l pre) = g at *
    have S2 := Lib.hid s2
    have S3 := Lib.hid s3
    have HLS := Lib.hid hls
    clear s2 hsn hql hbl s3 hls
    simp only [longF, holeV]
    simp at c0 c1 c2
    have hfin : ∀ v : Nat, v = max g (q - p) → ownPostG W1.heap.size (KeepL w1.heap.size A) (LongI w W1 l) (fun _ _ _ => False) (pre ++ [x]) W' .normal { tmps := #[], defers := [] } (W'.setCell ⟨w.heap.size, 0, none⟩ (.int .i64 (v : Int))) := by
      intro v hv
      have g2 := grown_set W' w.heap.size 0 (.int .i64 (v : Int))
      refine ⟨KeepsFrom.of_grownBy g2 (fun j e => by cases e; omega), KeepL.of_grown g2 (by omega) (fun a e => by have := hA1 a e; omega) (fun e => by injection e; omega) (fun a e h => ?_), Nat.le_trans s1 g2.size, ?_, ?_, ?_⟩
      · have h1 := HA.out a e
        injection h with h
        omega
      · exact S2.out.setCell (p := ⟨w.heap.size, 0, none⟩) (Nat.le_refl _) _
      · rw [HLS.out, ← hv]
        exact S3.out.set_ 0 (.int .i64 (v : Int))
      · rw [HLS.out]; omega
    have HFIN := Lib.hid hfin
    clear hfin
    by_cases hgq : (g : Int) < (q : Int) - (p : Int)
    · gi_wp2
      have h := HFIN.out (q - p) (by omega)
      rw [show ((q - p : Nat) : Int) = (q : Int) - (p : Int) by omega] at h
      exact h
    · gi_wp2
      have h := HFIN.out g (by omega)
      first
        | exact h
        | (rw [hz] at h; exact h)
  case done =>
    rintro D ys W' hD rfl ⟨s1, s2, s3, s4⟩ hK
    rw [cameR_all] at s3 s4
    have c2 := s3.cell 0
    simp at c2
    have S2 := Lib.hid s2
    clear s2 s3
    gi_wp2
    refine ⟨by simp, .inl ⟨_, _, rfl, run_takeDeferred hK, ?_⟩⟩
    have hbD := belowK_b (w := W1) (Nat.le_refl _) _ D _ (.deferred none) hD hK rfl rfl
    refine ⟨.int .i64 (longest (runsL l) : Nat), by simp [results, Tryd.results18, go_sem], rfl, ?_⟩
    exact S2.out.trans (hbD.mono (by omega))
  case stop =>
    rintro D c pre W' _ _ h _
    exact h.elim

set_option maxHeartbeats 400000 in
/-- run.Longest. -/
theorem longest_any (A : Option Addr) (m c : Nat) (l : List Int) (w : World) (hR : Row w A m (l.map Iv)) (hm : m ≤ 1000) :
    Calls Tryd.prog 18 #[.slice A m c] w fun e w' => e = .returned (.int .i64 (longR l : Nat)) ∧ Below w.heap.size w w' := by
  cases hr : rightL l
  · have HQ : Hid (longR l = 0) := Lib.hid (by simp [longR, hr])
    have hb0 := below_box w (.cells #[.int .i64 0] 3)
    have k0 := cell_one (w := w) (t := 3) (v := .int .i64 0)
    have HR := Lib.hid (hR.ext hb0)
    have HB := Lib.hid hb0
    have Hr := Lib.hid hr
    clear hR hb0 hr
    go_enter Tryd.func18, Tryd.ntmps18
    go_wp2_with fail
    generalize w.alloc (.cells #[.int .i64 0] 3) = W0 at *
    have h := right_any A m c l W0 HR.out hm
    rw [Hr.out] at h
    refine h.mono ?_
    clear h
    rintro e w1 ⟨rfl, hb1⟩
    have j0 := cell_ext hb1 k0
    have HB1 := Lib.hid (below_le HB.out hb1)
    clear hb1 k0
    go_wp2
    go_ret
    exact ⟨ret_int (by rw [HQ.out]; rfl), HB1.out⟩
  · have h := longest_right A m c l w hR (hR.block_lt (right_pos hR hr)) hr
    rwa [show longest (runsL l) = longR l by simp [longR, hr]] at h

end Go.Proofs.YtncopnknjohplaaDoor
