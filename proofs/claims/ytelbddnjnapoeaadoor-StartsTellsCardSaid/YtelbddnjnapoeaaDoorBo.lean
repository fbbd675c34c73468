/-
  What is proved: the contract of List of package bits. No condition beyond those stated.
-/
import Derived.Test.YtelbddnjnapoeaaDoorBn
import Derived.Test.YtelbddnjnapoeaaDoorSq
import Derived.Maps.OwnIn
namespace Go.Proofs.YtelbddnjnapoeaaDoor
open Go.RowKit Go.Shelf
attribute [local go_sem] Oper.semAt_some

def I64 (x : Nat) : Value := .int .i64 (x : Int)
/-- Made since w. -/
def Fresh (w : World) (A : Option Addr) : Prop := ∀ a, A = some a → w.heap.size ≤ a.block
/-- A list of numbers. -/
def GivesInts (w : World) (l : List Nat) (e : Ending) (w' : World) : Prop := ∃ A m c, e = .returned (.slice A m c) ∧ Row w' A m (l.map I64) ∧ Fresh w A ∧ Below w.heap.size w w'

theorem stop_here {p : Prop} (h : True → p) : p := h trivial

theorem int_info : (Tryd.prog.info? 3).map (fun i => (i.zero, i.size, i.bytes)) = some (some (.int .i64 0), 1, 8) := by kernel_rfl

/-- The list so far. -/
def listed (ws : List Nat) {N : Nat} (pre : List (Fin N)) : List Nat := (came 0 pre).filter (tb ws)
theorem listed_snoc (ws : List Nat) {N : Nat} (pre : List (Fin N)) (x : Fin N) : listed ws (pre ++ [x]) = listed ws pre ++ if tb ws x.1 then [x.1] else [] := by
  unfold listed
  rw [came_snoc, List.filter_append, show ((0 : Int) + (x.1 : Int)).toNat = x.1 by omega]
  congr 1
  cases h : tb ws x.1 <;> simp [h]
theorem listed_le (ws : List Nat) {N : Nat} (pre : List (Fin N)) : (listed ws pre).length ≤ pre.length := by
  have := List.length_filter_le (tb ws) (came 0 pre)
  simpa [listed, came] using this

/-- What holds from round to round. -/
def ListI (w W1 : World) (ws : List Nat) (A : Option Addr) (m c g s : Nat) {N : Nat} (pre : List (Fin N)) (W' : World) : Prop :=
  W1.heap.size ≤ W'.heap.size ∧ Below w.heap.size w W' ∧ W'.cell? ⟨w.heap.size, 1, none⟩ = some (.slice A m c) ∧
    ∃ v, W'.ownsRow g 3 1 v (listed ws pre).length ((listed ws pre).map I64) ∧ Blk W' s 37 #[v] ∧ (v.ownBlock = some g ∨ ∃ b, W1.heap.size ≤ b ∧ v.ownBlock = some b)
theorem own_cells {W : World} {base : Nat} {e : TypeId} {size : Nat} {v : Value} {n : Nat} {xs : List Value} (h : W.ownsRow base e size v n xs) {b : Nat} (hb : v.ownBlock = some b) : ∃ cur, W.heap[b]? = some (.cells cur e (0, 0)) := by
  rcases h.2 with ⟨rfl, _⟩ | ⟨g, cap, cur, rfl, _, h1, _⟩
  · cases hb
  · cases hb
    exact ⟨cur, h1⟩
theorem ListI.own (w W1 : World) (ws : List Nat) (A : Option Addr) (m c g s : Nat) (N : Nat) (hs : s < W1.heap.size) (hw : w.heap.size < W1.heap.size) : OwnFrom W1.heap.size (ListI w W1 ws A m c g s (N := N)) := by
  rintro pre X Y row ⟨h1, h2, h3, v, h4, h5, h6⟩ hg hr
  have hb : Below W1.heap.size X Y := (Below.refl _ X).grown hg h1 (fun k e => (hr k e).1)
  refine ⟨Nat.le_trans h1 hg.size, h2.trans (hb.mono (by omega)), cell_low h3 hb (by show w.heap.size < _; omega), v, h4.kept hg ?_, h5.below hb hs, h6⟩
  cases hv : v.ownBlock with
  | none => exact .inl rfl
  | some b =>
    right
    intro e
    obtain ⟨_, o, ho, hc⟩ := hr b e.symm
    obtain ⟨cur, hcur⟩ := own_cells h4 hv
    rw [hcur] at ho
    cases ho
    simp [Obj.isCells] at hc

set_option maxRecDepth 100000 in
set_option maxHeartbeats 600000 in
theorem list_right (A : Option Addr) (m c : Nat) (n : Int) (ws : List Nat) (w : World) (hR : Row w A m (ws.map U32)) (hF : Fits ws) (hr : rightB n ws = true) :
    Calls Tryd.prog 54 #[.agg #[.int .i64 n, .slice A m c]] w (GivesInts w ((List.range n.toNat).filter (tb ws))) := by
  have hl := hR.1
  simp at hl
  obtain ⟨hn0, hn1, hn2, _⟩ := rightB_elim hr
  have hnm : n ≤ 32 * m := by omega
  obtain ⟨i, hi, hz0, hz1, hz2⟩ := info_parts int_info
  have hct := count_eq hr
  have hb0 := below_box w (.cells #[.int .i64 n, .slice A m c] 24)
  have k0 : (w.alloc (.cells #[.int .i64 n, .slice A m c] 24)).cell? ⟨w.heap.size, 0, none⟩ = some (.int .i64 n) := by simp [go_sem]
  have k1 : (w.alloc (.cells #[.int .i64 n, .slice A m c] 24)).cell? ⟨w.heap.size, 1, none⟩ = some (.slice A m c) := by simp [go_sem]
  have hR0 := Lib.hid hR
  have HR := Lib.hid (hR.ext hb0)
  have HB0 := Lib.hid hb0
  have Hr := Lib.hid hr
  have HC := Lib.hid hct
  clear hR hb0 hr hl hn2 hct
  refine (callsIn_wide (n := 3)).1 ?_
  refine callsIn_of_wp_marks Tryd.func54 rfl trivial ?_ rfl
  simp only [Tryd.ntmps54, List.size_toArray, List.length_cons, List.length_nil, Nat.reduceAdd, Nat.reduceSub, Array.replicate_succ, Array.replicate_zero, List.push_toArray, List.append_toArray, List.nil_append, List.cons_append]
  gi_wp2_with fail
  generalize w.alloc (.cells #[.int .i64 n, .slice A m c] 24) = W0 at *
  have h := right_any A m c n ws W0 HR.out hF
  rw [Hr.out] at h
  refine ⟨trivial, (callsIn_wide.2 h).mono ?_⟩
  rintro e w1 ⟨rfl, hb1⟩
  have j0 := cell_ext hb1 k0
  have j1 := cell_ext hb1 k1
  have HB1 := Lib.hid (below_le HB0.out hb1)
  have k1' := j1
  have HR1 := Lib.hid (HR.out.ext hb1)
  clear h hb1 k0 k1
  gi_wp2_with fail
  obtain ⟨x, hx⟩ : ∃ x, countN n ws = x := ⟨_, rfl⟩
  have h := count_any A m c n ws w1 HR1.out hF
  rw [hx] at h
  refine ⟨trivial, (callsIn_wide.2 h).mono ?_⟩
  rintro e w2 ⟨rfl, hb2⟩
  have k0 := cell_ext hb2 j0
  have k1 := cell_ext hb2 j1
  have HB2 := Lib.hid (below_le HB1.out hb2)
  have HBX := Lib.hid hb2
  have HR2 := Lib.hid (HR1.out.ext hb2)
  have hxn : x ≤ n.toNat := by
    rw [← hx, HC.out]; have := List.countP_le_length (p := tb ws) (l := List.range n.toNat); simpa using this
  have hxs : (x : Int) ≤ 20000 := by omega
  clear h hb2 j0 j1
  gi_wp2_with (gi_at_make; refine wpListIn_make_own _ rfl _ _ _ rfl w2.heap.size 3 i _ 1 Tryd.underlying37 hi hz0 hz1 .i64 .i64 (x : Int) x rfl rfl rfl ?mk1 ?mk2 ?mk3 ?_)
  case mk1 => rw [hz2]; omega
  case mk2 => show x ≤ maxLen; unfold maxLen; omega
  case mk3 => exact Nat.le_refl _
  intro w3 hown3 hg3
  have hb3 : Below w2.heap.size w2 w3 := ⟨hg3.os, hg3.tape, hg3.output, hg3.size, fun i hi => hg3.block i hi (by simp)⟩
  have j0 := fun o => cell_ext (below_box w3 o) (cell_ext hb3 k0)
  have HB3 := Lib.hid (below_le HB2.out hb3)
  have HR3 := Lib.hid (HR2.out.ext hb3)
  have HO3 := Lib.hid hown3
  have hs3 := (HO3.out.lt w2.heap.size rfl).2
  have j1 := cell_ext hb3 k1
  clear hg3 hb3 hown3 k0 k1
  gi_wp2_with fail
  refine ⟨trivial, (callsIn_wide.2 (places_any _ _ _)).mono ?_⟩
  rintro e w' ⟨rfl, rfl⟩
  simp only [World.size_alloc]
  have hb4 : Below w3.heap.size w3 (((w3.alloc (.cells #[.slice (some ⟨w2.heap.size, 0, none⟩) 0 x] 37)).alloc (.cells #[.int .i64 0] 3)).alloc (.cells #[.int .i64 n] 3)) := below_le (below_le (below_box _ _) (below_box _ _)) (below_box _ _)
  have hz : (((w3.alloc (.cells #[.slice (some ⟨w2.heap.size, 0, none⟩) 0 x] 37)).alloc (.cells #[.int .i64 0] 3)).alloc (.cells #[.int .i64 n] 3)).heap.size = w3.heap.size + 1 + 1 + 1 := by simp
  have hbl : Blk (((w3.alloc (.cells #[.slice (some ⟨w2.heap.size, 0, none⟩) 0 x] 37)).alloc (.cells #[.int .i64 0] 3)).alloc (.cells #[.int .i64 n] 3)) w3.heap.size 37 #[.slice (some ⟨w2.heap.size, 0, none⟩) 0 x] := Blk.alloc (Blk.alloc (heap_new rfl _) _) _
  have e1 : (((w3.alloc (.cells #[.slice (some ⟨w2.heap.size, 0, none⟩) 0 x] 37)).alloc (.cells #[.int .i64 0] 3)).alloc (.cells #[.int .i64 n] 3)).cell? ⟨w3.heap.size + 1, 0, none⟩ = some (.int .i64 0) := by simp [go_sem]
  have e2 : (((w3.alloc (.cells #[.slice (some ⟨w2.heap.size, 0, none⟩) 0 x] 37)).alloc (.cells #[.int .i64 0] 3)).alloc (.cells #[.int .i64 n] 3)).cell? ⟨w3.heap.size + 1 + 1, 0, none⟩ = some (.int .i64 n) := by simp [go_sem]
  have hown4 := ((HO3.out.alloc (.cells #[.slice (some ⟨w2.heap.size, 0, none⟩) 0 x] 37)).alloc (.cells #[.int .i64 0] 3)).alloc (.cells #[.int .i64 n] 3)
  generalize ((w3.alloc (.cells #[.slice (some ⟨w2.heap.size, 0, none⟩) 0 x] 37)).alloc (.cells #[.int .i64 0] 3)).alloc (.cells #[.int .i64 n] 3) = W1 at *
  have hw2 : w.heap.size < w2.heap.size := Nat.lt_of_lt_of_le (lt_of_cell k1') HBX.out.size
  have hI0 : ListI w W1 ws A m c w2.heap.size w3.heap.size ([] : List (Fin (n - 0).toNat)) W1 := ⟨Nat.le_refl _, below_le HB3.out hb4, cell_ext hb4 j1, _, hown4, hbl, .inl rfl⟩
  gi_wp2_with fail
  refine wpIn_rangeFunc_ownG (F := Fence.wide) (n := 3) rfl (by omega) (gf := 71) (lb := #[.pointer (some ⟨w3.heap.size + 1, 0, none⟩), .pointer (some ⟨w3.heap.size + 1 + 1, 0, none⟩)]) rfl trivial (enters_of Tryd.func71 (by kernel_rfl) rfl)
    (places1_stops (3 - 1) 0 n (w3.heap.size + 1) (w3.heap.size + 1 + 1) W1 (by omega) (by omega) e1 e2) (fun h k => h.t k) (KeepB.b (by omega)) (Below.refl _ _) (fun _ => rfl)
    (ListI w W1 ws A m c w2.heap.size w3.heap.size) (fun _ _ _ => False)
    (ListI.own w W1 ws A m c w2.heap.size w3.heap.size _ (by omega) (by omega))
    (fun _ _ _ _ _ hs _ _ => hs)
    hI0
    (fun x' => { tmps := #[.agg #[.int .i64 n, .slice A m c], .pointer (some ⟨w.heap.size, 0, none⟩), .slice none 0 0, .pointer (some ⟨w3.heap.size, 0, none⟩), .int .i64 (x'.1 : Int), .agg #[.int .i64 n, .slice A m c], .bool true, .bool false, .agg #[.int .i64 n, .slice A m c], .int .i64 x, .slice (some ⟨w2.heap.size, 0, none⟩) 0 x, .pointer (some ⟨w.heap.size, 0, none⟩), .int .i64 n,
      .func (.func 71) #[] #[.pointer (some ⟨w3.heap.size + 1, 0, none⟩), .pointer (some ⟨w3.heap.size + 1 + 1, 0, none⟩)], .int .i64 (x'.1 : Int), undef, undef, undef, undef, undef, undef, undef, undef, undef, undef, undef, undef, undef, undef], defers := [] }) ?assign ?body ?done ?stop
  case assign =>
    intro l x1 W' K hK
    gi_wp2
    exact hK
  case body =>
    rintro l pre j W' ⟨s1, s2, s3, v, s4, s5, s6⟩ hpre
    have hxb := j.2
    have hRW := hR0.out.ext s2
    have c5 := s5.cell 0
    have f5 := s5.frozen 0
    have hll := listed_le ws pre
    have hsn := listed_snoc ws pre j
    have HSN := Lib.hid hsn
    have S2 := Lib.hid s2
    have S4 := Lib.hid s4
    have S5 := Lib.hid s5
    have S6 := Lib.hid s6
    have RW := Lib.hid hRW
    clear hsn s2 s4 s5 s6 hRW hI0 hown4 e1 e2 hbl hb4 j0
    gi_wp2_with fail
    have hio := isOn_any A m c ws (j.1 : Int) W' RW.out hF (by omega) (by omega) (by omega)
    rw [Int.toNat_natCast] at hio
    refine ⟨trivial, (CallsIn.inRound l (callsIn_wide.2 hio)).mono ?_⟩
    clear hio
    rintro e W2 ⟨rfl, rfl⟩
    cases hd : tb ws j.1
    · rw [hd] at HSN
      have Hd := Lib.hid hd
      clear hd
      gi_wp2
      refine ⟨KeepsFrom.refl _ _, KeepB.refl _ _, s1, S2.out, s3, v, ?_, S5.out, S6.out⟩
      rw [HSN.out]
      simpa using S4.out
    · rw [hd] at HSN
      have Hd := Lib.hid hd
      clear hd
      gi_wp2_with (gi_at_builtin; refine stop_here ?_)
      intro _
      refine (wpListIn_append_own_at _ rfl (.tmp 19) (.tmp 21) 37 rfl w2.heap.size 3 i (.int .i64 0) 1 8 Tryd.underlying37 hi hz0 hz1 hz2 rfl (by omega) v (listed ws pre).length ((listed ws pre).map I64) rfl ?own ⟨W'.heap.size, 0, none⟩ 1 1 [.int .i64 (j.1 : Int)] rfl rfl ?news ?one ?b1 ?b2 ?b3 ?_)
      case own => exact S4.out.alloc _
      case news =>
        intro k u hu
        match k with
        | 0 => simp [Addr.add, go_sem] at hu ⊢; exact hu
        | k + 1 => simp at hu
      case one => intro u hu; rw [List.mem_singleton.1 hu]; rfl
      case b1 => unfold maxLen; omega
      case b2 => omega
      case b3 => simp; omega
      intro v' W3 hown hgr _ hat
      obtain ⟨g', cap', rfl⟩ := ownsRow_succ hown
      have hbk := below_box W' (.cells #[.int .i64 (j.1 : Int)] 3)
      have hne : ∀ b, b < W1.heap.size → b ≠ w2.heap.size → some b ≠ v.ownBlock := by
        intro b hb hbn e
        rcases S6.out with h | ⟨b', hb', h⟩ <;> rw [h] at e <;> cases e <;> omega
      have s5' : Blk W3 w3.heap.size 37 #[v] := (hgr.block _ (by simp; omega) (hne _ (by omega) (by omega))).trans (S5.out.ext hbk)
      have c6 := s5'.cell 0
      have f6 := s5'.frozen 0
      have S5' := Lib.hid s5'
      have HOW := Lib.hid hown
      have HGR := Lib.hid hgr
      have HAT := Lib.hid hat
      have HBK := Lib.hid hbk
      have HNE := Lib.hid hne
      clear hown hgr hat hbk hne s5' c5 f5
      gi_wp2
      have g1 := grown_set W3 w3.heap.size 0 (.slice (some ⟨g', 0, none⟩) ((listed ws pre).length + 1) cap')
      have hsz : W'.heap.size ≤ W3.heap.size := Nat.le_trans HBK.out.size HGR.out.size
      have hblk : ∀ b, b < W1.heap.size → b ≠ w2.heap.size → b ≠ w3.heap.size → (W3.setCell ⟨w3.heap.size, 0, none⟩ (.slice (some ⟨g', 0, none⟩) ((listed ws pre).length + 1) cap')).heap[b]? = W'.heap[b]? := fun b h1 h2 h3 =>
        (g1.block b (by omega) (fun e => h3 (Option.some.inj e))).trans ((HGR.out.block b (by simp; omega) (HNE.out b h1 h2)).trans (HBK.out.block b (by omega)))
      refine ⟨?_, hblk _ (by omega) (by omega) (by omega), ?_, ?_, ?_, _, ?_, S5'.out.set_ 0 (.slice (some ⟨g', 0, none⟩) ((listed ws pre).length + 1) cap'), ?_⟩
      · refine ⟨Nat.le_trans hsz g1.size, fun k o hB hk ho => ?_⟩
        have hkl : k < W'.heap.size := (Array.getElem?_eq_some_iff.1 hk).1
        refine (g1.block k (by omega) (fun e => by cases e; omega)).trans ((HGR.out.block k (by simp; omega) (fun e => ?_)).trans ((HBK.out.block k hkl).trans hk))
        obtain ⟨cur, hcur⟩ := own_cells S4.out e.symm
        rw [hcur] at hk
        cases hk
        simp [Obj.isCells] at ho
      · exact Nat.le_trans s1 (Nat.le_trans hsz g1.size)
      · have hb5 : Below w.heap.size w W3 := (below_le S2.out HBK.out).trans ((Below.refl _ _).grown HGR.out (by simp; omega) (fun k e => by
          rcases S6.out with h | ⟨b', hb', h⟩ <;> rw [h] at e <;> cases e <;> omega))
        exact hb5.setCell (p := ⟨w3.heap.size, 0, none⟩) (by show w.heap.size ≤ w3.heap.size; omega) _
      · exact (World.cell?_of_block (w := W') (hblk w.heap.size (by omega) (by omega) (by omega))).trans s3
      · rw [HSN.out]
        have h7 := HOW.out.kept g1 (.inr fun e => ?_)
        · simpa [I64] using h7
        · rcases HAT.out with h | h
          · exact HNE.out w3.heap.size (by omega) (by omega) (e.symm.trans h)
          · rw [h] at e
            simp at e
            omega
      · rcases HAT.out with h | h
        · rw [h]; exact S6.out
        · right; exact ⟨_, by simp; omega, h⟩
  case done =>
    rintro D ys W' hD rfl ⟨s1, s2, s3, v, s4, s5, s6⟩ hK
    have hL : listed ws (List.finRange (n - 0).toNat) = (List.range n.toNat).filter (tb ws) := by
      unfold listed
      rw [came_all 0 n (by omega)]
      unfold placesN
      rw [List.range_eq_range']
      simp
    rw [hL] at s4
    have hcell : ∀ {g}, v.ownBlock = some g → ∀ j u, (((List.range n.toNat).filter (tb ws)).map I64)[j]? = some u → W'.cell? ((⟨g, 0, none⟩ : Addr).add j) = some u := fun h => s4.cells h
    have hlen := s4.1
    rcases s4.2 with ⟨rfl, _⟩ | ⟨b, cap, cur, rfl, hb, hcur, hk, hcap, -, -⟩
    · rcases s6 with h | ⟨_, _, h⟩ <;> cases h
    have c5 := s5.cell 0
    have HC5 := Lib.hid (fun j u => hcell rfl j u)
    have S2 := Lib.hid s2
    have S5 := Lib.hid s5
    generalize hLL : (List.range n.toNat).filter (tb ws) = LL at *
    have hki : (LL.length : Int) ≤ cap := by omega
    clear hcell s2 s4 s5 hI0 hown4 e1 e2 hbl hb4 j0 hL
    gi_wp2
    refine ⟨by simp, .inl ⟨_, _, rfl, run_takeDeferred hK, ?_⟩⟩
    have hbD : b ≠ D := by
      rintro rfl
      rw [hcur] at hK
      cases hK
    refine ⟨.slice (some ⟨b, 0, none⟩) LL.length LL.length, by simp [results, Tryd.results54, go_sem], _, _, _, rfl, ⟨by simp, fun _ => ⟨b, 0, rfl, fun j u hu => ?_⟩⟩, (fun a e => by cases e; show w.heap.size ≤ b; omega), ?_⟩
    · have h8 := HC5.out j u hu
      have e : (⟨b, 0, none⟩ : Addr).add j = ⟨b, 0 + j, none⟩ := by
        unfold Addr.add
        by_cases h : j = 0 <;> simp [h]
      rw [e] at h8
      exact (World.cell?_of_block (w := W') (World.putObj_heap_other hbD)).trans h8
    · exact S2.out.trans (belowK_b (w := W1) (by omega) W' D _ _ hD hK rfl rfl)
  case stop =>
    rintro D c pre W' _ _ h _
    exact h.elim

set_option maxHeartbeats 1000000 in
theorem list_wrong (A : Option Addr) (m c : Nat) (n : Int) (ws : List Nat) (w : World) (hR : Row w A m (ws.map U32)) (hF : Fits ws) (hr : rightB n ws = false) :
    Calls Tryd.prog 54 #[.agg #[.int .i64 n, .slice A m c]] w (GivesInts w []) := by
  have hb0 := below_box w (.cells #[.int .i64 n, .slice A m c] 24)
  have HR := Lib.hid (hR.ext hb0)
  have HB0 := Lib.hid hb0
  have Hr := Lib.hid hr
  clear hR hb0 hr
  go_enter Tryd.func54, Tryd.ntmps54
  go_wp2_with fail
  generalize w.alloc (.cells #[.int .i64 n, .slice A m c] 24) = W0 at *
  refine (right_any A m c n ws W0 HR.out hF).mono ?_
  rw [Hr.out]
  rintro e w1 ⟨rfl, hb1⟩
  have HB1 := Lib.hid (below_le HB0.out hb1)
  clear hb1
  go_wp2
  go_ret
  exact ⟨none, 0, 0, rfl, Row.none_, (fun _ e => by cases e), HB1.out⟩

theorem list_any (A : Option Addr) (m c : Nat) (n : Int) (ws : List Nat) (w : World) (hR : Row w A m (ws.map U32)) (hF : Fits ws) :
    Calls Tryd.prog 54 #[.agg #[.int .i64 n, .slice A m c]] w (GivesInts w (listN n ws)) := by
  unfold listN
  cases hr : rightB n ws
  · exact list_wrong A m c n ws w hR hF hr
  · exact list_right A m c n ws w hR hF hr

end Go.Proofs.YtelbddnjnapoeaaDoor
