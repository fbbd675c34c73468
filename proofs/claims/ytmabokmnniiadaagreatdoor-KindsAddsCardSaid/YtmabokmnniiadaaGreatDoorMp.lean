/-
  What is proved: contracts of places of package kinds, and of Same. No condition beyond those stated.
-/
import Derived.Test.YtmabokmnniiadaaGreatDoorMo
import Derived.Test.YtmabokmnniiadaaGreatDoorIn
import Derived.Laws.CopyOwn
import Derived.Laws.IdiomCopy
namespace Go.Proofs.YtmabokmnniiadaaGreatDoor
open Go.RowKit Go.Shelf
attribute [local go_sem] Oper.semAt_some

def zerosI (k : Nat) : Array Value := Array.replicate k (.int .i64 0)
theorem int_infoP : (Tryz.prog.info? 3).map (fun i => (i.zero, i.size, i.bytes)) = some (some (.int .i64 0), 1, 8) := by kernel_rfl
set_option maxRecDepth 100000 in
theorem run_make_ints (z : Int) (h0 : 0 ≤ z) (h1 : z ≤ 100000) (W : World) :
    (Instr.makeSlice 33 (.int .i64 z) (.int .i64 z)).run Tryz.prog W = .ok (.slice (some ⟨W.heap.size, 0, none⟩) z.toNat z.toNat) (W.alloc (.cells (zerosI z.toNat) 3)) := by
  obtain ⟨i, hi, hz0, hz1, hz2⟩ := info_parts int_infoP
  have hr := run_make (P := Tryz.prog) W 33 3 i _ Tryz.underlying33 hi hz0 .i64 .i64 z z h0 (by omega) (by rw [hz2]; omega) (by omega)
  rw [hr]
  congr 3
  rw [hz1]
  apply Array.ext
  · simp [zerosI, madeCells]
  · intro j h1 h2
    simp [zerosI, madeCells, Value.cells, Nat.mod_one]
theorem splice_all (z cs : List Value) (h : z.length = cs.length) : splice z 0 cs = cs := by
  simp [splice, h]

/-- A new list in a block of its own. -/
def GivesBlk (w : World) (l : List Int) (e : Ending) (w' : World) : Prop := ∃ B, e = .returned (.slice (some ⟨B, 0, none⟩) l.length l.length) ∧ w.heap.size ≤ B ∧ Blk w' B 3 (l.map Iv).toArray ∧ Below w.heap.size w w'

set_option maxHeartbeats 1000000 in
theorem places_any (A : Option Addr) (m c : Nat) (l : List Int) (w : World) (hR : Row w A m (l.map Iv)) (hm : m ≤ 1000) :
    Calls Tryz.prog 61 #[.slice A m c] w (GivesBlk w l) := by
  have hl := hR.1
  simp at hl
  have hmk := run_make_ints (m : Int) (by omega) (by omega)
  simp only [Int.toNat_natCast] at hmk
  have HR := Lib.hid hR
  have HL := Lib.hid hl
  clear hR hl
  go_enter Tryz.func61, Tryz.ntmps61
  go_wp2_with (with_reducible refine wpList_copy_splice rfl (.tmp 7) (.tmp 8) 33 33 rfl 3 Tryz.underlying33 ?hsz (some ⟨w.heap.size, 0, none⟩) A m m m c rfl rfl w.heap.size 0 (zerosI m).toList 3 ?hg (l.map Iv) ?hn ?hpos ?hfit ?h1 w.heap.size _ (Below.refl _ _) (Nat.le_refl _) ?hrest)
  case hsz => kernel_rfl
  case hg => exact heap_new rfl _
  case hn => have := HL.out; simp; omega
  case hpos =>
    intro hp
    obtain ⟨b, off, e, hc⟩ := HR.out.2 (by have := HL.out; omega)
    refine ⟨_, e, fun j u hu => ?_⟩
    have h1 := hc j (Iv u) (by simp [hu])
    rw [addr_add]
    exact cell_ext (below_box _ _) h1
  case hfit => have := HL.out; simp [zerosI]; omega
  case h1 => intro v hv; obtain ⟨x, _, rfl⟩ := List.mem_map.1 hv; rfl
  case hrest =>
    intro w1 hG hB
    have hG1 : Blk w1 w.heap.size 3 (l.map Iv).toArray := by
      have h := hG.out
      rwa [splice_all _ _ (by have := HL.out; simp [zerosI]; omega)] at h
    have hb : Below w.heap.size w w1 := (below_box w (.cells (zerosI m) 3)).trans hB
    have HG := Lib.hid hG1
    have HB := Lib.hid hb
    clear hG hG1 hB hb hmk
    go_wp2
    go_ret
    exact ⟨w.heap.size, by rw [HL.out]; rfl, Nat.le_refl _, HG.out, HB.out⟩


/-! ### Same -/
/-- All alike till now. -/
def SameI (W1 : World) (ds es : List DscK) {N : Nat} (pre : List (Fin N)) (W' : World) : Prop := W1.heap.size ≤ W'.heap.size ∧ Below W1.heap.size W1 W' ∧ ∀ x ∈ pre, ds[x.1]? = es[x.1]?
/-- Two differ. -/
def SameX (W1 : World) (fb : Nat) (ds es : List DscK) (c : Code) {N : Nat} (_ : List (Fin N)) (W' : World) : Prop :=
  W1.heap.size ≤ W'.heap.size ∧ c = .exit 0 ∧ (∃ k : Nat, ds[k]? ≠ es[k]?) ∧ Below W1.heap.size (W1.setCell ⟨fb, 0, none⟩ (.bool false)) W'
theorem SameI.low {W1 X Y : World} {ds es : List DscK} {N : Nat} {pre : List (Fin N)} (h : SameI W1 ds es pre X) (hb : Below W1.heap.size X Y) : SameI W1 ds es pre Y := ⟨Nat.le_trans h.1 hb.size, h.2.1.trans hb, h.2.2⟩
theorem SameX.low {W1 X Y : World} {fb : Nat} {ds es : List DscK} {c : Code} {N : Nat} {pre : List (Fin N)} (h : SameX W1 fb ds es c pre X) (hb : Below W1.heap.size X Y) : SameX W1 fb ds es c pre Y := by
  obtain ⟨h1, h2, h3, h6⟩ := h
  exact ⟨Nat.le_trans h1 hb.size, h2, h3, h6.trans hb⟩

def sameF (w : World) (A : Option Addr) (n c : Nat) (B : Option Addr) (c2 : Nat) (bb rb k : Nat) (d : MD) : Act :=
  { tmps := #[.slice A n c, .slice B n c2, undef, .pointer (some ⟨w.heap.size, 0, none⟩), .bool false, .pointer (some ⟨w.heap.size + 1, 0, none⟩), .int .i64 ((k : Int) + 1), .pointer (some ⟨rb, 0, none⟩), .slice A n c, .int .i64 n, .slice B n c2, .int .i64 n, .bool false, .slice A n c, .func (.func 53) #[] #[.pointer (some ⟨bb, 0, none⟩)], .int .i64 ((k : Int) + 1), mdV d, undef, undef, undef, undef, undef, undef, undef, undef, undef], defers := [] }

set_option maxRecDepth 100000 in
set_option maxHeartbeats 4000000 in
/-- Same. -/
theorem ksame_any (A B : Option Addr) (n c n2 c2 : Nat) (ds es : List DscK) (w : World) (hR : RowD w A n ds) (hR2 : RowD w B n2 es) (hs : Sm ds) (hs2 : Sm es) (hn : n ≤ 1000) (hn2 : n2 ≤ 1000) :
    Calls Tryz.prog 28 #[.slice A n c, .slice B n2 c2] w fun x w' => x = .returned (.bool (decide (ds = es))) ∧ Below w.heap.size w w' := by
  by_cases hne : n = n2
  case neg =>
    have hde : decide (ds = es) = false := decide_eq_false fun e => hne (by rw [← hR.1, ← hR2.1, e])
    have HDE := Lib.hid hde
    have hni : ((n : Int) != (n2 : Int)) = true := bne_iff_ne.2 (by omega)
    have hni2 : ¬ (n : Int) = (n2 : Int) := by omega
    have HB := Lib.hid (below_box w (.cells #[.slice B n2 c2] 22))
    clear hde hR hR2 hs hs2
    refine (callsIn_wide (n := 3)).1 ?_
    refine callsIn_of_wp Tryz.func28 rfl trivial ?_ rfl
    simp only [Tryz.ntmps28, List.size_toArray, List.length_cons, List.length_nil, Nat.reduceAdd, Nat.reduceSub, Array.replicate_succ, Array.replicate_zero, List.push_toArray, List.append_toArray, List.nil_append, List.cons_append]
    gi_wp2_with fail
    refine wpIn_scope_ahead 0 (fun _ _ => False) rfl ?_ (fun _ _ h => h.elim)
    gi_wp2
    simp only [Exit.jump]
    go_ret
    exact ⟨ret_bool HDE.out.symm, HB.out⟩
  subst hne
  have hb0 := below_le (below_box w (.cells #[.slice B n c2] 22)) (below_box _ (.cells #[.bool true] 4))
  have h3 : Blk ((w.alloc (.cells #[.slice B n c2] 22)).alloc (.cells #[.bool true] 4)) w.heap.size 22 #[.slice B n c2] := Blk.alloc (Blk.new _ _ _) _
  have h6 : Blk ((w.alloc (.cells #[.slice B n c2] 22)).alloc (.cells #[.bool true] 4)) (w.heap.size + 1) 4 #[.bool true] := heap_new (by simp) _
  have hz : ((w.alloc (.cells #[.slice B n c2] 22)).alloc (.cells #[.bool true] 4)).heap.size = w.heap.size + 2 := by simp
  obtain ⟨ms, hM⟩ := (hR.ext hb0).ms
  have hmn := hM.2.1
  have hdn := hR.1
  have hen := hR2.1
  have hf0 : (∀ x : Fin ms.length, ds[x.1]? = es[x.1]?) → decide (ds = es) = true := fun h => decide_eq_true (List.ext_getElem? fun k => by
    by_cases hk : k < ms.length
    · exact h ⟨k, hk⟩
    · rw [List.getElem?_eq_none (by omega), List.getElem?_eq_none (by omega)])
  have hf1 : (∃ k : Nat, ds[k]? ≠ es[k]?) → decide (ds = es) = false := fun ⟨k, h⟩ => decide_eq_false fun e => h (by rw [e])
  generalize decide (ds = es) = kf at *
  have HF0 := Lib.hid hf0
  have HF1 := Lib.hid hf1
  have HM := Lib.hid hM
  have HB := Lib.hid hb0
  have H3 := Lib.hid h3
  have H6 := Lib.hid h6
  have HZ := Lib.hid hz
  have HE := Lib.hid (hR2.ext hb0)
  have HMN := Lib.hid hmn
  have HS := Lib.hid hs
  have HS2 := Lib.hid hs2
  clear hf0 hf1 hM hb0 h3 h6 hz hR hR2 hmn hdn hen hs hs2
  have hni : ((n : Int) != (n : Int)) = false := by simp
  refine (callsIn_wide (n := 3)).1 ?_
  refine callsIn_of_wp_marks Tryz.func28 rfl trivial ?_ rfl
  simp only [Tryz.ntmps28, List.size_toArray, List.length_cons, List.length_nil, Nat.reduceAdd, Nat.reduceSub, Array.replicate_succ, Array.replicate_zero, List.push_toArray, List.append_toArray, List.nil_append, List.cons_append]
  gi_wp2_with fail
  refine wpIn_scope_ahead 0 (fun _ _ => False) rfl ?_ (fun _ _ h => h.elim)
  gi_wp2_with fail
  generalize (w.alloc (.cells #[.slice B n c2] 22)).alloc (.cells #[.bool true] 4) = W0 at *
  refine wpIn_label ?_
  gi_wp2_with fail
  refine ⟨trivial, (callsIn_wide.2 (numbered_any _ _ _ _)).mono ?_⟩
  rintro x w' ⟨rfl, rfl⟩
  have hb1 := below_box W0 (.cells #[.slice A n c] 22)
  have hz : (W0.alloc (.cells #[.slice A n c] 22)).heap.size = w.heap.size + 3 := by simp [HZ.out]
  have e1 := cell_one (w := W0) (t := 22) (v := .slice A n c)
  have hM1 := HM.out.ext hb1
  have HH3 := Lib.hid (H3.out.ext hb1)
  have HH6 := Lib.hid (H6.out.ext hb1)
  have HHE := Lib.hid (HE.out.ext hb1)
  have HHB := Lib.hid (below_le HB.out hb1)
  rw [HZ.out] at e1 ⊢
  generalize W0.alloc (.cells #[.slice A n c] 22) = W1 at *
  have hst := numbered1_stops (3 - 1) A n c ms ds (w.heap.size + 2) hn W1 e1 hM1
  have hlt := hM1.lt
  have HZ1 := Lib.hid (show w.heap.size + 3 ≤ W1.heap.size by omega)
  have HM1 := Lib.hid hM1
  have HLT := Lib.hid hlt
  clear HM HE HB H3 H6 HZ hb1 e1 hM1 hz
  gi_wp2_with fail
  refine wpIn_rangeFunc_ownH (F := Fence.wide) (n := 3) rfl (by omega) (gf := 53) (lb := #[.pointer (some ⟨w.heap.size + 2, 0, none⟩)]) rfl trivial (enters_of Tryz.func53 (by kernel_rfl) rfl)
    hst (fun h k => h.t k) (KeepB.b hlt) (Below.refl _ _) (fun _ => rfl)
    (SameI W1 ds es) (fun c => SameX W1 (w.heap.size + 1) ds es c)
    (ownFrom_low _ _ (fun _ _ h => h.1) (fun _ X Y h hb => h.low hb))
    (fun c => ownFrom_low _ _ (fun _ _ h => h.1) (fun _ X Y h hb => h.low hb))
    ⟨Nat.le_refl _, Below.refl _ _, fun _ h => by cases h⟩
    (fun x a' W => ∃ rb d, W1.heap.size ≤ rb ∧ ms[x.1]? = some d ∧ a' = sameF w A n c B c2 (w.heap.size + 2) rb x.1 d ∧ Blk W rb 35 (cells4 d).toArray)
    (fun x a' _ X Y row hs hg hr => by obtain ⟨rb, d, h1, h2, h3, h4⟩ := hs; exact ⟨rb, d, h1, h2, h3, h4.own hg hr⟩)
    ?assign ?body ?done ?stop
  case assign =>
    intro l0 pre x W' K hI hK
    have hk : ms[x.1]? = some (ms[x.1]) := List.getElem?_eq_getElem x.2
    dsimp only [numD]
    rw [getD_of hk]
    have HKX := Lib.hid hk
    generalize ms[x.1] = d at *
    obtain ⟨z1, ⟨P1, m1, c1⟩, y1, Q1, q1, f1⟩ := d
    have HK := Lib.hid hK
    have HI := Lib.hid hI
    clear hK hI hk hst
    dsimp only [mdV]
    gi_wp2
    have hx := below_box W' (descO z1 P1 m1 c1 y1 Q1 q1 f1)
    exact HK.out _ _ (keepsFrom_below hx) (KeepB.of_below (hx.mono HI.out.1) HLT.out) (HI.out.low (hx.mono HI.out.1)) ⟨W'.heap.size, _, HI.out.1, HKX.out, rfl, Blk.new _ _ _⟩
  case body =>
    rintro l0 pre x a' W' - - ⟨s1, s2, s3⟩ ⟨rb, d, hrb, hk, rfl, hbl⟩ -
    have hxn : x.1 < n := by have := x.2; have := HMN.out; omega
    obtain ⟨b1, o1, z1, P1, m1, c1, y1, Q1, q1, f1, ps1, es1, -, hk2, hd1, r1, r2, -, -, -, -⟩ := HM1.out.get hxn
    rw [hk] at hk2
    cases hk2
    obtain ⟨b3, o3, z, P, m, c', e, Q, q, f, ps, es', rfl, hd3, r3, r4, d0, d1, d2, d3⟩ := (HHE.out.ext s2).get hxn
    have hsm := HS.out _ (List.mem_of_getElem? hd1)
    have hl1 := r1.1
    have hl2 := r2.1
    simp at hl1 hl2
    have hm1 : m1 ≤ 1000 := by have := hsm.1; dsimp only at this; omega
    have hq1 : q1 ≤ 1000 := by have := hsm.2; dsimp only at this; omega
    have hsm2 := HS2.out _ (List.mem_of_getElem? hd3)
    have hl3 := r3.1
    have hl4 := r4.1
    simp at hl3 hl4
    have hm3 : m ≤ 1000 := by have := hsm2.1; dsimp only at this; omega
    have hq3 : q ≤ 1000 := by have := hsm2.2; dsimp only at this; omega
    have hbl : Blk W' rb 35 #[.int .i64 z1, .slice P1 m1 c1, .int .i64 y1, .slice Q1 q1 f1] := hbl
    have a0 := fun y : Ext W' => ext_cell (hbl.at_ (i := 0) rfl) y
    have a1 := fun y : Ext W' => ext_cell (hbl.at_ (i := 1) rfl) y
    have a2 := fun y : Ext W' => ext_cell (hbl.at_ (i := 2) rfl) y
    have a3 := fun y : Ext W' => ext_cell (hbl.at_ (i := 3) rfl) y
    have b0 := fun y : Ext W' => ext_cell ((HH3.out.ext s2).at_ (i := 0) rfl) y
    have t0 := fun y : Ext W' => ext_cell d0 y
    have t1 := fun y : Ext W' => ext_cell d1 y
    have t2 := fun y : Ext W' => ext_cell d2 y
    have t3 := fun y : Ext W' => ext_cell d3 y
    have hcall := fun y : Ext W' => dsame_any z1 y1 P1 Q1 m1 c1 q1 f1 ps1 es1 z e P Q m c' q f ps es' y.val ((r1.ext s2).ext y.below) ((r2.ext s2).ext y.below) (r3.ext y.below) (r4.ext y.below) hm1 hq1 hm3 hq3
    obtain ⟨r, hr, hX⟩ : ∃ r, dSame z1 y1 ps1 es1 z e ps es' = r ∧ (r = true ↔ ds[x.1]? = es[x.1]?) := ⟨_, rfl, by
      rw [show dSame z1 y1 ps1 es1 z e ps es' = decide ((z1, ps1, y1, es1) = (z, ps, e, es')) from dSame_iff (z1, ps1, y1, es1) (z, ps, e, es'), decide_eq_true_iff, hd1, hd3]
      exact ⟨fun h => by rw [h], fun h => Option.some.inj h⟩⟩
    rw [hr] at hcall
    have HX := Lib.hid hX
    clear hX hr
    have HC := Lib.hid hcall
    have S1 := Lib.hid s1
    have S2 := Lib.hid s2
    have S3 := Lib.hid s3
    have H6 := Lib.hid (HH6.out.ext s2)
    have hw1 : IntKind.i64.wrap (x.1 : Int) = (x.1 : Int) := IntWalk.i64_in _ (by omega)
    have hxi : ((x.1 : Nat) : Int) < (n : Int) := by omega
    clear hcall hd1 hd3 s1 s2 s3 r1 r2 r3 r4 hsm hl1 hl2 hl3 hl4 hsm2 hbl hk hst d0 d1 d2 d3
    simp only [sameF, mdV]
    gi_wp2_with fail
    refine wpIn_region_plan [(0, true), (1, true), (2, true), (3, true), (4, true), (5, true), (6, true), (7, true)] (by kernel_rfl) (by kernel_rfl) ?_
    repeat (first | (refine plan_skip rfl rfl ?_; go_frame) | (refine plan_soft rfl rfl (fun K hK => ?_); go_simp; first | (refine hK _ ?_; clear hK K) | (apply Exists.intro; refine ⟨fun x => ?_, hK _ ?_⟩; (· (exact HC.out x)); clear hK K; try go_frame)))
    refine plan_nil ?_; intro w4 h0b; have Hb4 := Lib.hid h0b; clear h0b
    have hk4 : KeepsFrom W1.heap.size W' w4 := keepsFrom_below Hb4.out
    have hkb : KeepB (blksD A n ms) W' w4 := KeepB.of_below (Hb4.out.mono S1.out) HLT.out
    have HK4 := Lib.hid hk4
    have HKB := Lib.hid hkb
    have h6 := H6.out.ext Hb4.out
    have f6 := h6.frozen 0
    have c6 := h6.at_ (i := 0) rfl
    have HS4 := Lib.hid (Nat.le_trans S1.out Hb4.out.size)
    have HB4 := Lib.hid (S2.out.trans (Hb4.out.mono S1.out))
    clear hk4 hkb h6 Hb4 S1 S2 H6 HC a0 a1 a2 a3 b0 t0 t1 t2 t3 hw1
    cases r
    · have hx := fun h => Bool.false_ne_true (HX.out.2 h)
      have HX2 := Lib.hid hx
      clear hx HX
      gi_wp2
      exact ⟨HK4.out.trans (KeepsFrom.of_grownBy (grown_set w4 (w.heap.size + 1) 0 (.bool false)) (fun j e => by cases e; have := HZ1.out; omega)), Nat.le_trans HS4.out (grown_set w4 (w.heap.size + 1) 0 (.bool false)).size, rfl, ⟨x.1, HX2.out⟩, below_set HB4.out _ _⟩
    · have hx := HX.out.1 rfl
      have HX2 := Lib.hid hx
      clear hx HX
      gi_wp2
      exact ⟨HK4.out, HKB.out, HS4.out, HB4.out, fun y hy => by
        rcases List.mem_append.1 hy with hy | hy
        · exact S3.out y hy
        · rw [List.mem_singleton.1 hy]; exact HX2.out⟩
  case done =>
    rintro D ys W' hD rfl ⟨s1, s2, s3⟩ hK
    have hkf : kf = true := HF0.out fun x => s3 x (List.mem_finRange _)
    subst hkf
    have h6 := HH6.out.ext s2
    have c6 := h6.at_ (i := 0) rfl
    have HBB := Lib.hid (below_le HHB.out s2)
    have HK := Lib.hid hK
    clear s2 s3 hK h6 hst
    gi_wp2
    have hK5 := HK.out
    refine ⟨by simp, .inl ⟨_, _, rfl, run_takeDeferred hK5, ?_⟩⟩
    have hbD := belowK_b (w := W1) (n₀ := W1.heap.size) (Nat.le_refl _) W' D _ (.deferred none) hD hK5 rfl rfl
    refine ⟨.bool true, by simp [results, Tryz.results28, go_sem], by simp, ?_⟩
    exact HBB.out.trans (hbD.mono (by have := HZ1.out; omega))
  case stop =>
    rintro D cd pre W' hD ⟨j, hj, rfl⟩ ⟨s1, rfl, s4, s5⟩ hK
    have hkf : kf = false := HF1.out s4
    subst hkf
    have h6 := (HH6.out.set_ 0 (.bool false)).below s5 (by have := HZ1.out; omega)
    have c6 := h6.cell 0
    simp at c6
    have HBB := Lib.hid ((HHB.out.setCell (p := ⟨w.heap.size + 1, 0, none⟩) (by show w.heap.size ≤ w.heap.size + 1; omega) (.bool false)).trans (s5.mono (by have := HZ1.out; omega)))
    have HK := Lib.hid hK
    clear s5 s4 hK h6 hst
    gi_wp2
    have hK5 := HK.out
    refine ⟨by simp, .inl ⟨_, _, rfl, run_takeDeferred hK5, ?_⟩⟩
    have hbD := belowK_b (w := W1) (n₀ := W1.heap.size) (Nat.le_refl _) W' D _ (.deferred none) hD hK5 rfl rfl
    refine ⟨.bool false, by simp [results, Tryz.results28, go_sem], by simp, ?_⟩
    exact HBB.out.trans (hbD.mono (by have := HZ1.out; omega))
end Go.Proofs.YtmabokmnniiadaaGreatDoor
