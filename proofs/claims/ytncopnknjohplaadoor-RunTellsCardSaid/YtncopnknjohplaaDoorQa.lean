/-
  What is proved: the contract of All of package run. No condition beyond those stated.
-/
import Derived.Test.YtncopnknjohplaaDoorOq
import Derived.Maps.OwnIn
namespace Go.Proofs.YtncopnknjohplaaDoor
open Go.RowKit Go.Shelf
attribute [local go_sem] Oper.semAt_some

theorem hole_info : (Tryd.prog.info? 42).map (fun i => (i.zero, i.size, i.bytes)) = some (some (.agg #[.int .i64 0, .int .i64 0]), 2, 16) := by kernel_rfl
/-- The cells of some runs. -/
def flatR (rs : List (Nat × Nat)) : List Value := rs.flatMap fun r => [.int .i64 (r.1 : Int), .int .i64 (r.2 : Int)]
theorem flat_snoc (rs : List (Nat × Nat)) (r : Nat × Nat) : flatR (rs ++ [r]) = flatR rs ++ [.int .i64 (r.1 : Int), .int .i64 (r.2 : Int)] := by simp [flatR]
theorem flat_len (rs : List (Nat × Nat)) : (flatR rs).length = 2 * rs.length := by
  induction rs with
  | nil => rfl
  | cons r rs ih => simp [flatR] at ih ⊢; omega
theorem flat_get (rs : List (Nat × Nat)) (j : Nat) (r : Nat × Nat) (h : rs[j]? = some r) : (flatR rs)[2 * j]? = some (.int .i64 (r.1 : Int)) ∧ (flatR rs)[2 * j + 1]? = some (.int .i64 (r.2 : Int)) := by
  induction rs generalizing j with
  | nil => simp at h
  | cons x rs ih =>
    cases j with
    | zero => simp at h; subst h; simp [flatR]
    | succ j =>
      have h' : rs[j]? = some r := by simpa using h
      have := ih j h'
      rw [show 2 * (j + 1) = 2 * j + 1 + 1 by omega]
      simpa [flatR] using this
/-- A list of runs. -/
def HRow (w : World) (A : Option Addr) (n : Nat) (rs : List (Nat × Nat)) : Prop :=
  rs.length = n ∧ (0 < n → ∃ b off, A = some ⟨b, off, none⟩ ∧ ∀ j r, rs[j]? = some r → w.cell? ⟨b, off + 2 * j, none⟩ = some (.int .i64 (r.1 : Int)) ∧ w.cell? ⟨b, off + 2 * j + 1, none⟩ = some (.int .i64 (r.2 : Int)))
theorem HRow.none_ {w : World} {A : Option Addr} : HRow w A 0 [] := ⟨rfl, fun h => absurd h (by omega)⟩
theorem HRow.ext {w w1 : World} {A : Option Addr} {n : Nat} {rs : List (Nat × Nat)} (hb : Below w.heap.size w w1) (h : HRow w A n rs) : HRow w1 A n rs :=
  ⟨h.1, fun hn => by
    obtain ⟨b, off, e, hc⟩ := h.2 hn
    exact ⟨b, off, e, fun j r hr => ⟨cell_ext hb (hc j r hr).1, cell_ext hb (hc j r hr).2⟩⟩⟩
theorem hrow_of_owns {W : World} {base : Nat} {t : TypeId} {v : Value} {n : Nat} {rs : List (Nat × Nat)} (h : W.ownsRow base t 2 v n (flatR rs)) : ∃ A c, v = .slice A n c ∧ HRow W A n rs := by
  have hlen := h.1
  rw [flat_len] at hlen
  rcases h.2 with ⟨rfl, rfl⟩ | ⟨b, cap, cur, rfl, hb, hcur, hk, hcap, hsz, htk⟩
  · exact ⟨none, 0, rfl, by omega, fun h => absurd h (by omega)⟩
  · refine ⟨_, _, rfl, by omega, fun _ => ⟨b, 0, rfl, fun j r hr => ?_⟩⟩
    have hc : ∀ i u, (flatR rs)[i]? = some u → W.cell? ⟨b, i, none⟩ = some u := fun i u hu => by
      rw [cell_of_row W b i cur t (0, 0) hcur]
      rw [← htk, List.getElem?_take] at hu
      split at hu
      · simpa using hu
      · cases hu
    have := flat_get rs j r hr
    rw [Nat.zero_add]
    exact ⟨hc _ _ this.1, hc _ _ this.2⟩

theorem own_cells {W : World} {base : Nat} {e : TypeId} {size : Nat} {v : Value} {n : Nat} {xs : List Value} (h : W.ownsRow base e size v n xs) {b : Nat} (hb : v.ownBlock = some b) : ∃ cur, W.heap[b]? = some (.cells cur e (0, 0)) := by
  rcases h.2 with ⟨rfl, _⟩ | ⟨g, cap, cur, rfl, _, h1, _⟩
  · cases hb
  · cases hb
    exact ⟨cur, h1⟩

def AllI (w W1 : World) (l : List Int) (g s : Nat) (pre : List (Fin (runsL l).length)) (W' : World) : Prop :=
  W1.heap.size ≤ W'.heap.size ∧ Below w.heap.size w W' ∧
    ∃ v, W'.ownsRow g 42 2 v (cameR l pre).length (flatR (cameR l pre)) ∧ Blk W' s 37 #[v] ∧ (v.ownBlock = some g ∨ ∃ b, W1.heap.size ≤ b ∧ v.ownBlock = some b)
theorem AllI.own (w W1 : World) (l : List Int) (g s : Nat) (hs : s < W1.heap.size) (hw : w.heap.size ≤ W1.heap.size) : OwnFrom W1.heap.size (AllI w W1 l g s) := by
  rintro pre X Y row ⟨h1, h2, v, h4, h5, h6⟩ hg hr
  have hb : Below W1.heap.size X Y := (Below.refl _ X).grown hg h1 (fun k e => (hr k e).1)
  refine ⟨Nat.le_trans h1 hg.size, h2.trans (hb.mono (by omega)), v, h4.kept hg ?_, h5.below hb hs, h6⟩
  cases hv : v.ownBlock with
  | none => exact .inl rfl
  | some b =>
    right
    intro e
    obtain ⟨_, o, ho, hc⟩ := hr b e.symm
    obtain ⟨cur, hcur⟩ := own_cells h4 hv
    rw [hcur] at ho
    cases ho
    simp [Obj.isCells] at hc

def GivesRuns (w : World) (code : Nat) (rs : List (Nat × Nat)) (e : Ending) (w' : World) : Prop :=
  ∃ A m c, e = .returned (.tuple #[.slice A m c, .int .i64 code]) ∧ HRow w' A m rs ∧ Below w.heap.size w w'

def allF (s : Nat) (A : Option Addr) (m c : Nat) (g bb rb : Nat) (r : Nat × Nat) : Act :=
  { tmps := #[.slice A m c, undef, .slice none 0 0, .int .i64 0, .pointer (some ⟨s, 0, none⟩), .pointer (some ⟨rb, 0, none⟩), .slice A m c, .bool true, .bool false, undef, undef, .slice (some ⟨g, 0, none⟩) 0 0, .slice A m c,
      .func (.func 38) #[] #[.pointer (some ⟨bb, 0, none⟩)], holeV r, undef, undef, undef, undef, undef], defers := [] }

set_option maxRecDepth 100000 in
set_option maxHeartbeats 2000000 in
theorem all_right (A : Option Addr) (m c : Nat) (l : List Int) (w : World) (hR : Row w A m (l.map Iv)) (hA : ∀ a, A = some a → a.block < w.heap.size) (hr : rightL l = true) :
    Calls Tryd.prog 20 #[.slice A m c] w (GivesRuns w 0 (runsL l)) := by
  have hl := hR.1
  simp at hl
  obtain ⟨hl0, hl1⟩ := right_len hr
  have hm : m ≤ 1000 := by omega
  obtain ⟨inf, hinf, hi0, hi1, hi2⟩ := info_parts hole_info
  have HR := Lib.hid hR
  have Hr := Lib.hid hr
  have HL := Lib.hid hl
  have HA := Lib.hid hA
  clear hR hr hl hA hl0 hl1
  refine (callsIn_wide (n := 3)).1 ?_
  refine callsIn_of_wp_marks Tryd.func20 rfl trivial ?_ rfl
  simp only [Tryd.ntmps20, List.size_toArray, List.length_cons, List.length_nil, Nat.reduceAdd, Nat.reduceSub, Array.replicate_succ, Array.replicate_zero, List.push_toArray, List.append_toArray, List.nil_append, List.cons_append]
  gi_wp2_with fail
  refine ⟨trivial, ?_⟩
  have h := right_any A m c l w HR.out hm
  rw [Hr.out] at h
  refine (callsIn_wide.2 h).mono ?_
  rintro e w1 ⟨rfl, hb1⟩
  have HB1 := Lib.hid hb1
  have HR1 := Lib.hid (HR.out.ext hb1)
  clear h hb1
  gi_wp2_with fail
  refine ⟨trivial, (callsIn_wide.2 (runs_any _ _ _ _)).mono ?_⟩
  rintro e w' ⟨rfl, rfl⟩
  simp only [World.size_alloc]
  have hbW : Below w1.heap.size w1 (((w1.alloc (.cells #[] 42)).alloc (.cells #[.slice (some ⟨w1.heap.size, 0, none⟩) 0 0] 37)).alloc (.cells #[.slice A m c] 22)) := below_le (below_le (below_box _ _) (below_box _ _)) (below_box _ _)
  have hz : (((w1.alloc (.cells #[] 42)).alloc (.cells #[.slice (some ⟨w1.heap.size, 0, none⟩) 0 0] 37)).alloc (.cells #[.slice A m c] 22)).heap.size = w1.heap.size + 3 := by simp
  have e1 : (((w1.alloc (.cells #[] 42)).alloc (.cells #[.slice (some ⟨w1.heap.size, 0, none⟩) 0 0] 37)).alloc (.cells #[.slice A m c] 22)).cell? ⟨w1.heap.size + 1 + 1, 0, none⟩ = some (.slice A m c) := by simp [go_sem]
  have hbs : Blk (((w1.alloc (.cells #[] 42)).alloc (.cells #[.slice (some ⟨w1.heap.size, 0, none⟩) 0 0] 37)).alloc (.cells #[.slice A m c] 22)) (w1.heap.size + 1) 37 #[.slice (some ⟨w1.heap.size, 0, none⟩) 0 0] := Blk.alloc (heap_new (by simp) _) _
  have hbg : Blk (((w1.alloc (.cells #[] 42)).alloc (.cells #[.slice (some ⟨w1.heap.size, 0, none⟩) 0 0] 37)).alloc (.cells #[.slice A m c] 22)) w1.heap.size 42 #[] := Blk.alloc (Blk.alloc (heap_new rfl _) _) _
  generalize ((w1.alloc (.cells #[] 42)).alloc (.cells #[.slice (some ⟨w1.heap.size, 0, none⟩) 0 0] 37)).alloc (.cells #[.slice A m c] 22) = W1 at *
  have HR2 := Lib.hid (HR1.out.ext hbW)
  have b0 := Lib.hid (below_le HB1.out hbW)
  have hs1 := HB1.out.size
  have hA1 : ∀ a, A = some a → a.block < W1.heap.size := fun a e => by have := HA.out a e; omega
  have hZ := Lib.hid hz
  have hzz : w1.heap.size + 3 ≤ W1.heap.size := by omega
  have HI0 : AllI w W1 l w1.heap.size (w1.heap.size + 1) ([] : List (Fin (runsL l).length)) W1 := ⟨Nat.le_refl _, b0.out, _, ⟨rfl, .inr ⟨w1.heap.size, 0, #[], rfl, Nat.le_refl _, hbg, Nat.le_refl _, by unfold maxLen; omega, rfl, rfl⟩⟩, hbs, .inl rfl⟩
  clear hz hbs hbg
  gi_wp2_with fail
  refine wpIn_rangeFunc_ownH (F := Fence.wide) (n := 3) rfl (by omega) (gf := 38) (lb := #[.pointer (some ⟨w1.heap.size + 1 + 1, 0, none⟩)]) rfl trivial (enters_of Tryd.func38 (by kernel_rfl) rfl)
    (runs1_stops (3 - 1) A m c l (w1.heap.size + 1 + 1) W1 hm e1 HR2.out hA1) (fun h k => h.t k) (KeepL.b (by omega) hA1) (Below.refl _ _) (fun _ => rfl)
    (AllI w W1 l w1.heap.size (w1.heap.size + 1)) (fun _ _ _ => False)
    (AllI.own w W1 l w1.heap.size (w1.heap.size + 1) (by omega) (by omega))
    (fun _ _ _ _ _ hs _ _ => hs)
    HI0
    (fun x a' W => ∃ rb, W1.heap.size ≤ rb ∧ a' = allF (w1.heap.size + 1) A m c w1.heap.size (w1.heap.size + 1 + 1) rb ((runsL l)[x.1]) ∧ Blk W rb 42 #[.int .i64 ((runsL l)[x.1]).1, .int .i64 ((runsL l)[x.1]).2])
    (fun x a' _ X Y row hs hg hr => by obtain ⟨rb, h1, h2, h3⟩ := hs; exact ⟨rb, h1, h2, h3.own hg hr⟩)
    ?assign ?body ?done ?stop
  case assign =>
    intro l0 pre x W' K hI hK
    generalize (runsL l)[x.1] = r at *
    obtain ⟨p, q⟩ := r
    dsimp only [holeV]
    have HK := Lib.hid hK
    have HI := Lib.hid hI
    clear hK hI
    gi_wp2
    have hx := below_box W' (.cells #[.int .i64 (p : Int), .int .i64 (q : Int)] 42)
    obtain ⟨h1, h2, v, h3, h4, h5⟩ := HI.out
    exact HK.out _ _ (keepsFrom_below hx) (KeepL.of_below (hx.mono h1) (by omega) hA1) ⟨Nat.le_trans h1 hx.size, h2.trans (hx.mono h2.size), v, h3.alloc _, h4.ext hx, h5⟩ ⟨W'.heap.size, h1, rfl, Blk.new _ _ _⟩
  case body =>
    rintro l0 pre x a' W' - - ⟨s1, s2, v, s4, s5, s6⟩ ⟨rb, hrb, rfl, hbl⟩ hpre
    have hsn := cameR_snoc l pre x
    have hfl := flat_snoc (cameR l pre) ((runsL l)[x.1])
    rw [← hsn] at hfl
    have hcl : (cameR l (pre ++ [x])).length = (cameR l pre).length + 1 := by rw [hsn]; simp
    have hcm : (cameR l pre).length ≤ 1000 := by
      have h1 : (cameR l pre).length = pre.length := by simp [cameR]
      have h2 : (runsL l).length ≤ l.length := by
        unfold runsL runsFrom
        have := List.length_filterMap_le (startAt l) (List.range' 0 (l.length - 0))
        simpa using this
      have := HL.out
      omega
    generalize (runsL l)[x.1] = r at *
    obtain ⟨p, q⟩ := r
    dsimp only at hfl
    generalize cameR l pre = cs at *
    have c0 := hbl.cell 0
    have c1 := hbl.cell 1
    have c5 := s5.cell 0
    have f5 := s5.frozen 0
    simp at c0 c1 c5
    have S2 := Lib.hid s2
    have S4 := Lib.hid s4
    have S5 := Lib.hid s5
    have S6 := Lib.hid s6
    have HFL := Lib.hid hfl
    have HCL := Lib.hid hcl
    clear s2 s4 s5 s6 hbl hsn hfl hcl
    simp only [allF, holeV]
    gi_wp2_with (gi_at_builtin; refine stop_here ?_)
    intro _
    refine (wpListIn_append_own_at _ rfl (.tmp 15) (.tmp 17) 37 rfl w1.heap.size 42 inf (.agg #[.int .i64 0, .int .i64 0]) 2 16 Tryd.underlying37 hinf hi0 hi1 hi2 rfl (by omega) v cs.length (flatR cs) rfl ?own ⟨W'.heap.size, 0, none⟩ 1 1 [.int .i64 (p : Int), .int .i64 (q : Int)] rfl rfl ?news ?one ?b1 ?b2 ?b3 ?_)
    case own => exact S4.out.alloc _
    case news =>
      intro k u hu
      match k with
      | 0 => simp [Addr.add, go_sem] at hu ⊢; exact hu
      | 1 => simp [Addr.add, go_sem] at hu ⊢; exact hu
      | k + 2 => simp at hu
    case one => intro u hu; simp at hu; rcases hu with rfl | rfl <;> rfl
    case b1 => unfold maxLen; omega
    case b2 => omega
    case b3 => simp; omega
    intro v' W3 hown hgr _ hat
    have hbk := below_box W' (.cells #[.int .i64 (p : Int), .int .i64 (q : Int)] 42)
    have hne : ∀ b, b < W1.heap.size → b ≠ w1.heap.size → some b ≠ v.ownBlock := by
      intro b hb hbn e
      rcases S6.out with h | ⟨b', hb', h⟩ <;> rw [h] at e <;> cases e <;> omega
    have s5' : Blk W3 (w1.heap.size + 1) 37 #[v] := (hgr.block _ (by simp; omega) (hne _ (by omega) (by omega))).trans (S5.out.ext hbk)
    have c6 := s5'.cell 0
    have f6 := s5'.frozen 0
    have S5' := Lib.hid s5'
    have HOW := Lib.hid hown
    have HGR := Lib.hid hgr
    have HAT := Lib.hid hat
    have HBK := Lib.hid hbk
    have HNE := Lib.hid hne
    obtain ⟨g', cap', rfl⟩ := ownsRow_succ hown
    clear hown hgr hat hbk hne s5' c5 f5
    simp at c6
    gi_wp2
    have g1 := grown_set W3 (w1.heap.size + 1) 0 (.slice (some ⟨g', 0, none⟩) (cs.length + 1) cap')
    have hsz : W'.heap.size ≤ W3.heap.size := Nat.le_trans HBK.out.size HGR.out.size
    have hblk : ∀ b, b < W1.heap.size → b ≠ w1.heap.size → b ≠ w1.heap.size + 1 → (W3.setCell ⟨w1.heap.size + 1, 0, none⟩ (.slice (some ⟨g', 0, none⟩) (cs.length + 1) cap')).heap[b]? = W'.heap[b]? := fun b h1 h2 h3 =>
      (g1.block b (by omega) (fun e => h3 (Option.some.inj e))).trans ((HGR.out.block b (by simp; omega) (HNE.out b h1 h2)).trans (HBK.out.block b (by omega)))
    refine ⟨?_, KeepL.of_blocks (fun b h => hblk b ?_ ?_ ?_), ?_, ?_, _, ?_, S5'.out.set_ 0 (.slice (some ⟨g', 0, none⟩) (cs.length + 1) cap'), ?_⟩
    · refine ⟨Nat.le_trans hsz g1.size, fun k o hB hk ho => ?_⟩
      have hkl : k < W'.heap.size := (Array.getElem?_eq_some_iff.1 hk).1
      refine (g1.block k (by omega) (fun e => by cases e; omega)).trans ((HGR.out.block k (by simp; omega) (fun e => ?_)).trans ((HBK.out.block k hkl).trans hk))
      obtain ⟨cur, hcur⟩ := own_cells S4.out e.symm
      rw [hcur] at hk
      cases hk
      simp [Obj.isCells] at ho
    · rcases h with rfl | ⟨a, e, rfl⟩
      · omega
      · exact hA1 a e
    · rcases h with rfl | ⟨a, e, rfl⟩
      · omega
      · have := HA.out a e; omega
    · rcases h with rfl | ⟨a, e, rfl⟩
      · omega
      · have := HA.out a e; omega
    · exact Nat.le_trans s1 (Nat.le_trans hsz g1.size)
    · have hb5 : Below w.heap.size w W3 := (below_le S2.out HBK.out).trans ((Below.refl _ _).grown HGR.out (by simp; omega) (fun k e => by
        rcases S6.out with h | ⟨b', hb', h⟩ <;> rw [h] at e <;> cases e <;> omega))
      exact hb5.setCell (p := ⟨w1.heap.size + 1, 0, none⟩) (by show w.heap.size ≤ w1.heap.size + 1; omega) _
    · rw [HCL.out, HFL.out]
      exact HOW.out.kept g1 (.inr fun e => by
        rcases HAT.out with h | h
        · exact HNE.out (w1.heap.size + 1) (by omega) (by omega) (e.symm.trans h)
        · rw [h] at e
          simp at e
          omega)
    · rcases HAT.out with h | h
      · rw [h]; exact S6.out
      · right; exact ⟨_, by simp; omega, h⟩
  case done =>
    rintro D ys W' hD rfl ⟨s1, s2, v, s4, s5, s6⟩ hK
    rw [cameR_all] at s4
    have hnD : ∀ b, v.ownBlock = some b → b ≠ D := fun b hb e => by
      obtain ⟨cur, hcur⟩ := own_cells s4 hb
      rw [e, hK] at hcur
      cases hcur
    obtain ⟨A', c', rfl, hrow⟩ := hrow_of_owns s4
    have c5 := s5.cell 0
    simp at c5
    have S2 := Lib.hid s2
    have HROW := Lib.hid hrow
    have HND := Lib.hid hnD
    clear s2 s4 s5 s6 hrow hnD
    gi_wp2
    refine ⟨by simp, .inl ⟨_, _, rfl, run_takeDeferred hK, ?_⟩⟩
    refine ⟨.tuple #[.slice A' (runsL l).length c', .int .i64 0], by simp [results, Tryd.results20, go_sem], _, _, _, rfl, ⟨HROW.out.1, fun hn => ?_⟩, ?_⟩
    · obtain ⟨b, off, e, hc⟩ := HROW.out.2 hn
      subst e
      have hb : b ≠ D := HND.out b rfl
      exact ⟨b, off, rfl, fun j r hr => ⟨(World.cell?_of_block (w := W') (World.putObj_heap_other hb)).trans (hc j r hr).1, (World.cell?_of_block (w := W') (World.putObj_heap_other hb)).trans (hc j r hr).2⟩⟩
    · exact S2.out.trans (belowK_b (w := W1) (by omega) W' D _ _ hD hK rfl rfl)
  case stop =>
    rintro D c pre W' _ _ h _
    exact h.elim

def codeA (l : List Int) : Nat := if rightL l then 0 else 90
def resA (l : List Int) : List (Nat × Nat) := if rightL l then runsL l else []
set_option maxHeartbeats 400000 in
/-- run.All. -/
theorem all_any (A : Option Addr) (m c : Nat) (l : List Int) (aS aR : Addr) (w : World) (hS : RSent w aS aR) (hR : Row w A m (l.map Iv)) (hm : m ≤ 1000) :
    Calls Tryd.prog 20 #[.slice A m c] w (GivesRuns w (codeA l) (resA l)) := by
  cases hr : rightL l
  · rw [show codeA l = 90 by simp [codeA, hr], show resA l = [] by simp [resA, hr]]
    have HR := Lib.hid hR
    have HS := Lib.hid hS
    have Hr := Lib.hid hr
    clear hR hS hr
    go_enter Tryd.func20, Tryd.ntmps20
    go_wp2_with fail
    have h := right_any A m c l w HR.out hm
    rw [Hr.out] at h
    refine h.mono ?_
    clear h
    rintro e w1 ⟨rfl, hb1⟩
    have g0 := (HS.out.ext hb1).hS.1
    have HN := Lib.hid (number_state aS aR w1 (HS.out.ext hb1))
    have HB1 := Lib.hid hb1
    clear hb1
    go_wp2_with fail
    refine HN.out.mono ?_
    rintro e w' ⟨rfl, rfl⟩
    go_wp2
    exact bodyPost_ret (v := .tuple #[.slice none 0 0, .int .i64 90]) (by simp [results, Tryd.results20, go_sem]) rfl ⟨_, _, _, rfl, HRow.none_, HB1.out⟩
  · have h := all_right A m c l w hR (hR.block_lt (right_pos hR hr)) hr
    rwa [show codeA l = 0 by simp [codeA, hr], show resA l = runsL l by simp [resA, hr]]

end Go.Proofs.YtncopnknjohplaaDoor
