/-
  What is proved: contracts of places of package kinds, and of Same. No condition beyond those stated. a region that draws its order; those operations that are walked softly come ahead of one operation z; behind that the rest is walked where its order is forced. No condition beyond those stated. the contract of join of package kinds. No condition beyond those stated. contracts of Add and Of of package kinds. No condition beyond those stated. the contract of lines of package kinds, as an iterator. No condition beyond those stated. the contract of read of package kinds. No condition beyond those stated. the contract of Parse of package kinds. No condition beyond those stated. the contract of String of strings.Builder; what is no cells stays. No condition beyond those stated. the contract of Print of package kinds. No condition beyond those stated. contracts of those functions that this program has, and plain facts beside them. No condition beyond those stated. the contract of shown of the laws of layer 5. No condition beyond those stated. the contract of Few of the laws of layer 5. No condition beyond those stated. KindsAll returns true. No condition beyond those stated. contracts of Find, Right and Same of the reference of kinds. No condition beyond those stated. contracts of clone and own of the reference of kinds. No condition beyond those stated. contracts of Add and Of of the reference of kinds. No condition beyond those stated. the contract of Print of the reference of kinds; plain laws of its Parse. No condition beyond those stated. the contract of Parse of the reference of kinds. No condition beyond those stated. KindsTexts returns true. No condition beyond those stated. the frame that all rows of layer 5 share: what the list of variables gives, how descriptors and texts are opened, and the row's last step. No condition beyond those stated. the row of KindsTexts, and its tied card: whatever the input, true; the input reads as it did. No condition beyond the statement's own.
-/
import Derived.Test.YtmabokmnniiadaaGreatDoorMo
import Derived.Test.YtmabokmnniiadaaGreatDoorIn
import Derived.Laws.CopyOwn
import Derived.Laws.IdiomCopy
import Derived.Test.YtmabokmnniiadaaGreatDoorMixd
import Derived.Test.YtmabokmnniiadaaGreatDoorCg
import Derived.Test.YtmabokmnniiadaaGreatDoorCp
import Derived.Test.YtmabokmnniiadaaGreatDoorBw
import Derived.Test.YtmabokmnniiadaaGreatDoorMix
import Derived.Test.YtmabokmnniiadaaGreatDoorTail
import Derived.Lib.UnsafeStr
import Derived.Test.YtmabokmnniiadaaGreatDoorCj
import Derived.Test.YtmabokmnniiadaaGreatDoorCz
import Derived.Test.YtmabokmnniiadaaGreatDoorBz
import Derived.Test.YtmabokmnniiadaaGreatDoorCards
import Derived.Test.YtmabokmnniiadaaGreatDoorTie
import Derived.ProofKit
import Derived.OpenShut
import Derived.Below
import Derived.ChangeSame
import Derived.WideKeyArgs
import Derived.LaidMore
import Derived.LaidHandle
import Derived.MakeChecks
import Derived.Lay
import Derived.Stop.Joined
import Derived.Stop.LaidErr
import Derived.Stop.LaidTwo
import Derived.Lib.SmallJoins
import Derived.Deep.DeepHandedRow
import Derived.Deep.DeepWitnessRowRef
import Derived.Lib.LaidTab
import Derived.ChangeArms
import Derived.Deep.Slices
namespace Go.Proofs.YtmabokmnniiadaaGreatDoor
open Go.RowKit Go.Shelf
attribute [local go_sem] Oper.semAt_some

def zerosI (k : Nat) : Array Value := Array.replicate k (.int .i64 0)
theorem int_infoP : (Tryz.prog.info? 3).map (fun i => (i.zero, i.size, i.bytes)) = some (some (.int .i64 0), 1, 8) := by kernel_rfl
set_option maxRecDepth 100000 in
theorem run_make_ints (z : Int) (h0 : 0 ≤ z) (h1 : z ≤ 100000) (W : World) :
    (Instr.makeSlice 33 (.int .i64 z) (.int .i64 z)).run Tryz.prog W = .ok (.slice (some ⟨W.heap.size, 0, none⟩) z.toNat z.toNat) (W.alloc (.cells (zerosI z.toNat) 3)) := by
  obtain ⟨i, hi, hz0, hz1, hz2⟩ := info_parts int_infoP
  have hr := run_make (P := Tryz.prog) W 33 3 i _ Tryz.underlying33 hi hz0 .i64 .i64 z z h0 (by omega) (by rw [hz2]; omega) (by omega)
  rw [hr]
  congr 3
  rw [hz1]
  apply Array.ext
  · simp [zerosI, madeCells]
  · intro j h1 h2
    simp [zerosI, madeCells, Value.cells, Nat.mod_one]
theorem splice_all (z cs : List Value) (h : z.length = cs.length) : splice z 0 cs = cs := by
  simp [splice, h]

/-- A new list in a block of its own. -/
def GivesBlk (w : World) (l : List Int) (e : Ending) (w' : World) : Prop := ∃ B, e = .returned (.slice (some ⟨B, 0, none⟩) l.length l.length) ∧ w.heap.size ≤ B ∧ Blk w' B 3 (l.map Iv).toArray ∧ Below w.heap.size w w'

set_option maxHeartbeats 1000000 in
theorem places_any (A : Option Addr) (m c : Nat) (l : List Int) (w : World) (hR : Row w A m (l.map Iv)) (hm : m ≤ 1000) :
    Calls Tryz.prog 61 #[.slice A m c] w (GivesBlk w l) := by
  have hl := hR.1
  simp at hl
  have hmk := run_make_ints (m : Int) (by omega) (by omega)
  simp only [Int.toNat_natCast] at hmk
  have HR := Lib.hid hR
  have HL := Lib.hid hl
  clear hR hl
  go_enter Tryz.func61, Tryz.ntmps61
  go_wp2_with (with_reducible refine wpList_copy_splice rfl (.tmp 7) (.tmp 8) 33 33 rfl 3 Tryz.underlying33 ?hsz (some ⟨w.heap.size, 0, none⟩) A m m m c rfl rfl w.heap.size 0 (zerosI m).toList 3 ?hg (l.map Iv) ?hn ?hpos ?hfit ?h1 w.heap.size _ (Below.refl _ _) (Nat.le_refl _) ?hrest)
  case hsz => kernel_rfl
  case hg => exact heap_new rfl _
  case hn => have := HL.out; simp; omega
  case hpos =>
    intro hp
    obtain ⟨b, off, e, hc⟩ := HR.out.2 (by have := HL.out; omega)
    refine ⟨_, e, fun j u hu => ?_⟩
    have h1 := hc j (Iv u) (by simp [hu])
    rw [addr_add]
    exact cell_ext (below_box _ _) h1
  case hfit => have := HL.out; simp [zerosI]; omega
  case h1 => intro v hv; obtain ⟨x, _, rfl⟩ := List.mem_map.1 hv; rfl
  case hrest =>
    intro w1 hG hB
    have hG1 : Blk w1 w.heap.size 3 (l.map Iv).toArray := by
      have h := hG.out
      rwa [splice_all _ _ (by have := HL.out; simp [zerosI]; omega)] at h
    have hb : Below w.heap.size w w1 := (below_box w (.cells (zerosI m) 3)).trans hB
    have HG := Lib.hid hG1
    have HB := Lib.hid hb
    clear hG hG1 hB hb hmk
    go_wp2
    go_ret
    exact ⟨w.heap.size, by rw [HL.out]; rfl, Nat.le_refl _, HG.out, HB.out⟩


/-! ### Same -/
/-- All alike till now. -/
def SameI (W1 : World) (ds es : List DscK) {N : Nat} (pre : List (Fin N)) (W' : World) : Prop := W1.heap.size ≤ W'.heap.size ∧ Below W1.heap.size W1 W' ∧ ∀ x ∈ pre, ds[x.1]? = es[x.1]?
/-- Two differ. -/
def SameX (W1 : World) (fb : Nat) (ds es : List DscK) (c : Code) {N : Nat} (_ : List (Fin N)) (W' : World) : Prop :=
  W1.heap.size ≤ W'.heap.size ∧ c = .exit 0 ∧ (∃ k : Nat, ds[k]? ≠ es[k]?) ∧ Below W1.heap.size (W1.setCell ⟨fb, 0, none⟩ (.bool false)) W'
theorem SameI.low {W1 X Y : World} {ds es : List DscK} {N : Nat} {pre : List (Fin N)} (h : SameI W1 ds es pre X) (hb : Below W1.heap.size X Y) : SameI W1 ds es pre Y := ⟨Nat.le_trans h.1 hb.size, h.2.1.trans hb, h.2.2⟩
theorem SameX.low {W1 X Y : World} {fb : Nat} {ds es : List DscK} {c : Code} {N : Nat} {pre : List (Fin N)} (h : SameX W1 fb ds es c pre X) (hb : Below W1.heap.size X Y) : SameX W1 fb ds es c pre Y := by
  obtain ⟨h1, h2, h3, h6⟩ := h
  exact ⟨Nat.le_trans h1 hb.size, h2, h3, h6.trans hb⟩

def sameF (w : World) (A : Option Addr) (n c : Nat) (B : Option Addr) (c2 : Nat) (bb rb k : Nat) (d : MD) : Act :=
  { tmps := #[.slice A n c, .slice B n c2, undef, .pointer (some ⟨w.heap.size, 0, none⟩), .bool false, .pointer (some ⟨w.heap.size + 1, 0, none⟩), .int .i64 ((k : Int) + 1), .pointer (some ⟨rb, 0, none⟩), .slice A n c, .int .i64 n, .slice B n c2, .int .i64 n, .bool false, .slice A n c, .func (.func 53) #[] #[.pointer (some ⟨bb, 0, none⟩)], .int .i64 ((k : Int) + 1), mdV d, undef, undef, undef, undef, undef, undef, undef, undef, undef], defers := [] }

set_option maxRecDepth 100000 in
set_option maxHeartbeats 4000000 in
/-- Same. -/
theorem ksame_any (A B : Option Addr) (n c n2 c2 : Nat) (ds es : List DscK) (w : World) (hR : RowD w A n ds) (hR2 : RowD w B n2 es) (hs : Sm ds) (hs2 : Sm es) (hn : n ≤ 1000) (hn2 : n2 ≤ 1000) :
    Calls Tryz.prog 28 #[.slice A n c, .slice B n2 c2] w fun x w' => x = .returned (.bool (decide (ds = es))) ∧ Below w.heap.size w w' := by
  by_cases hne : n = n2
  case neg =>
    have hde : decide (ds = es) = false := decide_eq_false fun e => hne (by rw [← hR.1, ← hR2.1, e])
    have HDE := Lib.hid hde
    have hni : ((n : Int) != (n2 : Int)) = true := bne_iff_ne.2 (by omega)
    have hni2 : ¬ (n : Int) = (n2 : Int) := by omega
    have HB := Lib.hid (below_box w (.cells #[.slice B n2 c2] 22))
    clear hde hR hR2 hs hs2
    refine (callsIn_wide (n := 3)).1 ?_
    refine callsIn_of_wp Tryz.func28 rfl trivial ?_ rfl
    simp only [Tryz.ntmps28, List.size_toArray, List.length_cons, List.length_nil, Nat.reduceAdd, Nat.reduceSub, Array.replicate_succ, Array.replicate_zero, List.push_toArray, List.append_toArray, List.nil_append, List.cons_append]
    gi_wp2_with fail
    refine wpIn_scope_ahead 0 (fun _ _ => False) rfl ?_ (fun _ _ h => h.elim)
    gi_wp2
    simp only [Exit.jump]
    go_ret
    exact ⟨ret_bool HDE.out.symm, HB.out⟩
  subst hne
  have hb0 := below_le (below_box w (.cells #[.slice B n c2] 22)) (below_box _ (.cells #[.bool true] 4))
  have h3 : Blk ((w.alloc (.cells #[.slice B n c2] 22)).alloc (.cells #[.bool true] 4)) w.heap.size 22 #[.slice B n c2] := Blk.alloc (Blk.new _ _ _) _
  have h6 : Blk ((w.alloc (.cells #[.slice B n c2] 22)).alloc (.cells #[.bool true] 4)) (w.heap.size + 1) 4 #[.bool true] := heap_new (by simp) _
  have hz : ((w.alloc (.cells #[.slice B n c2] 22)).alloc (.cells #[.bool true] 4)).heap.size = w.heap.size + 2 := by simp
  obtain ⟨ms, hM⟩ := (hR.ext hb0).ms
  have hmn := hM.2.1
  have hdn := hR.1
  have hen := hR2.1
  have hf0 : (∀ x : Fin ms.length, ds[x.1]? = es[x.1]?) → decide (ds = es) = true := fun h => decide_eq_true (List.ext_getElem? fun k => by
    by_cases hk : k < ms.length
    · exact h ⟨k, hk⟩
    · rw [List.getElem?_eq_none (by omega), List.getElem?_eq_none (by omega)])
  have hf1 : (∃ k : Nat, ds[k]? ≠ es[k]?) → decide (ds = es) = false := fun ⟨k, h⟩ => decide_eq_false fun e => h (by rw [e])
  generalize decide (ds = es) = kf at *
  have HF0 := Lib.hid hf0
  have HF1 := Lib.hid hf1
  have HM := Lib.hid hM
  have HB := Lib.hid hb0
  have H3 := Lib.hid h3
  have H6 := Lib.hid h6
  have HZ := Lib.hid hz
  have HE := Lib.hid (hR2.ext hb0)
  have HMN := Lib.hid hmn
  have HS := Lib.hid hs
  have HS2 := Lib.hid hs2
  clear hf0 hf1 hM hb0 h3 h6 hz hR hR2 hmn hdn hen hs hs2
  have hni : ((n : Int) != (n : Int)) = false := by simp
  refine (callsIn_wide (n := 3)).1 ?_
  refine callsIn_of_wp_marks Tryz.func28 rfl trivial ?_ rfl
  simp only [Tryz.ntmps28, List.size_toArray, List.length_cons, List.length_nil, Nat.reduceAdd, Nat.reduceSub, Array.replicate_succ, Array.replicate_zero, List.push_toArray, List.append_toArray, List.nil_append, List.cons_append]
  gi_wp2_with fail
  refine wpIn_scope_ahead 0 (fun _ _ => False) rfl ?_ (fun _ _ h => h.elim)
  gi_wp2_with fail
  generalize (w.alloc (.cells #[.slice B n c2] 22)).alloc (.cells #[.bool true] 4) = W0 at *
  refine wpIn_label ?_
  gi_wp2_with fail
  refine ⟨trivial, (callsIn_wide.2 (numbered_any _ _ _ _)).mono ?_⟩
  rintro x w' ⟨rfl, rfl⟩
  have hb1 := below_box W0 (.cells #[.slice A n c] 22)
  have hz : (W0.alloc (.cells #[.slice A n c] 22)).heap.size = w.heap.size + 3 := by simp [HZ.out]
  have e1 := cell_one (w := W0) (t := 22) (v := .slice A n c)
  have hM1 := HM.out.ext hb1
  have HH3 := Lib.hid (H3.out.ext hb1)
  have HH6 := Lib.hid (H6.out.ext hb1)
  have HHE := Lib.hid (HE.out.ext hb1)
  have HHB := Lib.hid (below_le HB.out hb1)
  rw [HZ.out] at e1 ⊢
  generalize W0.alloc (.cells #[.slice A n c] 22) = W1 at *
  have hst := numbered1_stops (3 - 1) A n c ms ds (w.heap.size + 2) hn W1 e1 hM1
  have hlt := hM1.lt
  have HZ1 := Lib.hid (show w.heap.size + 3 ≤ W1.heap.size by omega)
  have HM1 := Lib.hid hM1
  have HLT := Lib.hid hlt
  clear HM HE HB H3 H6 HZ hb1 e1 hM1 hz
  gi_wp2_with fail
  refine wpIn_rangeFunc_ownH (F := Fence.wide) (n := 3) rfl (by omega) (gf := 53) (lb := #[.pointer (some ⟨w.heap.size + 2, 0, none⟩)]) rfl trivial (enters_of Tryz.func53 (by kernel_rfl) rfl)
    hst (fun h k => h.t k) (KeepB.b hlt) (Below.refl _ _) (fun _ => rfl)
    (SameI W1 ds es) (fun c => SameX W1 (w.heap.size + 1) ds es c)
    (ownFrom_low _ _ (fun _ _ h => h.1) (fun _ X Y h hb => h.low hb))
    (fun c => ownFrom_low _ _ (fun _ _ h => h.1) (fun _ X Y h hb => h.low hb))
    ⟨Nat.le_refl _, Below.refl _ _, fun _ h => by cases h⟩
    (fun x a' W => ∃ rb d, W1.heap.size ≤ rb ∧ ms[x.1]? = some d ∧ a' = sameF w A n c B c2 (w.heap.size + 2) rb x.1 d ∧ Blk W rb 35 (cells4 d).toArray)
    (fun x a' _ X Y row hs hg hr => by obtain ⟨rb, d, h1, h2, h3, h4⟩ := hs; exact ⟨rb, d, h1, h2, h3, h4.own hg hr⟩)
    ?assign ?body ?done ?stop
  case assign =>
    intro l0 pre x W' K hI hK
    have hk : ms[x.1]? = some (ms[x.1]) := List.getElem?_eq_getElem x.2
    dsimp only [numD]
    rw [getD_of hk]
    have HKX := Lib.hid hk
    generalize ms[x.1] = d at *
    obtain ⟨z1, ⟨P1, m1, c1⟩, y1, Q1, q1, f1⟩ := d
    have HK := Lib.hid hK
    have HI := Lib.hid hI
    clear hK hI hk hst
    dsimp only [mdV]
    gi_wp2
    have hx := below_box W' (descO z1 P1 m1 c1 y1 Q1 q1 f1)
    exact HK.out _ _ (keepsFrom_below hx) (KeepB.of_below (hx.mono HI.out.1) HLT.out) (HI.out.low (hx.mono HI.out.1)) ⟨W'.heap.size, _, HI.out.1, HKX.out, rfl, Blk.new _ _ _⟩
  case body =>
    rintro l0 pre x a' W' - - ⟨s1, s2, s3⟩ ⟨rb, d, hrb, hk, rfl, hbl⟩ -
    have hxn : x.1 < n := by have := x.2; have := HMN.out; omega
    obtain ⟨b1, o1, z1, P1, m1, c1, y1, Q1, q1, f1, ps1, es1, -, hk2, hd1, r1, r2, -, -, -, -⟩ := HM1.out.get hxn
    rw [hk] at hk2
    cases hk2
    obtain ⟨b3, o3, z, P, m, c', e, Q, q, f, ps, es', rfl, hd3, r3, r4, d0, d1, d2, d3⟩ := (HHE.out.ext s2).get hxn
    have hsm := HS.out _ (List.mem_of_getElem? hd1)
    have hl1 := r1.1
    have hl2 := r2.1
    simp at hl1 hl2
    have hm1 : m1 ≤ 1000 := by have := hsm.1; dsimp only at this; omega
    have hq1 : q1 ≤ 1000 := by have := hsm.2; dsimp only at this; omega
    have hsm2 := HS2.out _ (List.mem_of_getElem? hd3)
    have hl3 := r3.1
    have hl4 := r4.1
    simp at hl3 hl4
    have hm3 : m ≤ 1000 := by have := hsm2.1; dsimp only at this; omega
    have hq3 : q ≤ 1000 := by have := hsm2.2; dsimp only at this; omega
    have hbl : Blk W' rb 35 #[.int .i64 z1, .slice P1 m1 c1, .int .i64 y1, .slice Q1 q1 f1] := hbl
    have a0 := fun y : Ext W' => ext_cell (hbl.at_ (i := 0) rfl) y
    have a1 := fun y : Ext W' => ext_cell (hbl.at_ (i := 1) rfl) y
    have a2 := fun y : Ext W' => ext_cell (hbl.at_ (i := 2) rfl) y
    have a3 := fun y : Ext W' => ext_cell (hbl.at_ (i := 3) rfl) y
    have b0 := fun y : Ext W' => ext_cell ((HH3.out.ext s2).at_ (i := 0) rfl) y
    have t0 := fun y : Ext W' => ext_cell d0 y
    have t1 := fun y : Ext W' => ext_cell d1 y
    have t2 := fun y : Ext W' => ext_cell d2 y
    have t3 := fun y : Ext W' => ext_cell d3 y
    have hcall := fun y : Ext W' => dsame_any z1 y1 P1 Q1 m1 c1 q1 f1 ps1 es1 z e P Q m c' q f ps es' y.val ((r1.ext s2).ext y.below) ((r2.ext s2).ext y.below) (r3.ext y.below) (r4.ext y.below) hm1 hq1 hm3 hq3
    obtain ⟨r, hr, hX⟩ : ∃ r, dSame z1 y1 ps1 es1 z e ps es' = r ∧ (r = true ↔ ds[x.1]? = es[x.1]?) := ⟨_, rfl, by
      rw [show dSame z1 y1 ps1 es1 z e ps es' = decide ((z1, ps1, y1, es1) = (z, ps, e, es')) from dSame_iff (z1, ps1, y1, es1) (z, ps, e, es'), decide_eq_true_iff, hd1, hd3]
      exact ⟨fun h => by rw [h], fun h => Option.some.inj h⟩⟩
    rw [hr] at hcall
    have HX := Lib.hid hX
    clear hX hr
    have HC := Lib.hid hcall
    have S1 := Lib.hid s1
    have S2 := Lib.hid s2
    have S3 := Lib.hid s3
    have H6 := Lib.hid (HH6.out.ext s2)
    have hw1 : IntKind.i64.wrap (x.1 : Int) = (x.1 : Int) := IntWalk.i64_in _ (by omega)
    have hxi : ((x.1 : Nat) : Int) < (n : Int) := by omega
    clear hcall hd1 hd3 s1 s2 s3 r1 r2 r3 r4 hsm hl1 hl2 hl3 hl4 hsm2 hbl hk hst d0 d1 d2 d3
    simp only [sameF, mdV]
    gi_wp2_with fail
    refine wpIn_region_plan [(0, true), (1, true), (2, true), (3, true), (4, true), (5, true), (6, true), (7, true)] (by kernel_rfl) (by kernel_rfl) ?_
    repeat (first | (refine plan_skip rfl rfl ?_; go_frame) | (refine plan_soft rfl rfl (fun K hK => ?_); go_simp; first | (refine hK _ ?_; clear hK K) | (apply Exists.intro; refine ⟨fun x => ?_, hK _ ?_⟩; (· (exact HC.out x)); clear hK K; try go_frame)))
    refine plan_nil ?_; intro w4 h0b; have Hb4 := Lib.hid h0b; clear h0b
    have hk4 : KeepsFrom W1.heap.size W' w4 := keepsFrom_below Hb4.out
    have hkb : KeepB (blksD A n ms) W' w4 := KeepB.of_below (Hb4.out.mono S1.out) HLT.out
    have HK4 := Lib.hid hk4
    have HKB := Lib.hid hkb
    have h6 := H6.out.ext Hb4.out
    have f6 := h6.frozen 0
    have c6 := h6.at_ (i := 0) rfl
    have HS4 := Lib.hid (Nat.le_trans S1.out Hb4.out.size)
    have HB4 := Lib.hid (S2.out.trans (Hb4.out.mono S1.out))
    clear hk4 hkb h6 Hb4 S1 S2 H6 HC a0 a1 a2 a3 b0 t0 t1 t2 t3 hw1
    cases r
    · have hx := fun h => Bool.false_ne_true (HX.out.2 h)
      have HX2 := Lib.hid hx
      clear hx HX
      gi_wp2
      exact ⟨HK4.out.trans (KeepsFrom.of_grownBy (grown_set w4 (w.heap.size + 1) 0 (.bool false)) (fun j e => by cases e; have := HZ1.out; omega)), Nat.le_trans HS4.out (grown_set w4 (w.heap.size + 1) 0 (.bool false)).size, rfl, ⟨x.1, HX2.out⟩, below_set HB4.out _ _⟩
    · have hx := HX.out.1 rfl
      have HX2 := Lib.hid hx
      clear hx HX
      gi_wp2
      exact ⟨HK4.out, HKB.out, HS4.out, HB4.out, fun y hy => by
        rcases List.mem_append.1 hy with hy | hy
        · exact S3.out y hy
        · rw [List.mem_singleton.1 hy]; exact HX2.out⟩
  case done =>
    rintro D ys W' hD rfl ⟨s1, s2, s3⟩ hK
    have hkf : kf = true := HF0.out fun x => s3 x (List.mem_finRange _)
    subst hkf
    have h6 := HH6.out.ext s2
    have c6 := h6.at_ (i := 0) rfl
    have HBB := Lib.hid (below_le HHB.out s2)
    have HK := Lib.hid hK
    clear s2 s3 hK h6 hst
    gi_wp2
    have hK5 := HK.out
    refine ⟨by simp, .inl ⟨_, _, rfl, run_takeDeferred hK5, ?_⟩⟩
    have hbD := belowK_b (w := W1) (n₀ := W1.heap.size) (Nat.le_refl _) W' D _ (.deferred none) hD hK5 rfl rfl
    refine ⟨.bool true, by simp [results, Tryz.results28, go_sem], by simp, ?_⟩
    exact HBB.out.trans (hbD.mono (by have := HZ1.out; omega))
  case stop =>
    rintro D cd pre W' hD ⟨j, hj, rfl⟩ ⟨s1, rfl, s4, s5⟩ hK
    have hkf : kf = false := HF1.out s4
    subst hkf
    have h6 := (HH6.out.set_ 0 (.bool false)).below s5 (by have := HZ1.out; omega)
    have c6 := h6.cell 0
    simp at c6
    have HBB := Lib.hid ((HHB.out.setCell (p := ⟨w.heap.size + 1, 0, none⟩) (by show w.heap.size ≤ w.heap.size + 1; omega) (.bool false)).trans (s5.mono (by have := HZ1.out; omega)))
    have HK := Lib.hid hK
    clear s5 s4 hK h6 hst
    gi_wp2
    have hK5 := HK.out
    refine ⟨by simp, .inl ⟨_, _, rfl, run_takeDeferred hK5, ?_⟩⟩
    have hbD := belowK_b (w := W1) (n₀ := W1.heap.size) (Nat.le_refl _) W' D _ (.deferred none) hD hK5 rfl rfl
    refine ⟨.bool false, by simp [results, Tryz.results28, go_sem], by simp, ?_⟩
    exact HBB.out.trans (hbD.mono (by have := HZ1.out; omega))
end Go.Proofs.YtmabokmnniiadaaGreatDoor
namespace Go.Proofs.YtmabokmnniiadaaGreatDoor
open Go.RowKit

instance : Nonempty (Of fun _ : World => True) := ⟨⟨default, trivial⟩⟩
section
variable {P : Program} {ops : Array Oper} {md : Region.Mode} {Q : Exit → Act → World → Prop} {C : World → Prop} {z : Nat}
/-- Whatever order is picked from here on, in whatever world that has all that this one has. -/
def wpRest (P : Program) (md : Region.Mode) (ops : Array Oper) (Q : Exit → Act → World → Prop) : Nat → Array Bool → Act → World → Prop
  | 0, listed, a, w => Region.ready md ops listed = [] ∧ ∀ x : Ext w, Q .normal a x.val
  | f + 1, listed, a, w => (Region.ready md ops listed = [] → ∀ x : Ext w, Q .normal a x.val) ∧ ∀ i ∈ Region.ready md ops listed, ∀ x : Ext w, wpOp P ops noExit i (fun a' w' => wpRest P md ops Q f (listed.setIfInBounds i true) a' w') a x.val
theorem wpRest_ext : ∀ (f : Nat) (listed : Array Bool) (a : Act) (w : World) (x : Ext w), wpRest P md ops Q f listed a w → wpRest P md ops Q f listed a x.val
  | 0, _, _, _, x, h => ⟨h.1, fun y => h.2 (x.more y)⟩
  | _ + 1, _, _, _, x, h => ⟨fun hr y => h.1 hr (x.more y), fun i hi y => h.2 i hi (x.more y)⟩
theorem wpAny_of_Rest : ∀ (f : Nat) (listed : Array Bool) (a : Act) (w : World), wpRest P md ops Q f listed a w → wpAny P md ops Q f listed a w
  | 0, _, _, w, h => ⟨h.1, h.2 (Ext.self w)⟩
  | f + 1, _, _, w, h => ⟨fun hr => h.1 hr (Ext.self w), fun i hi => wpOp_mono (fun a' w' h' => wpAny_of_Rest f _ a' w' h') (wpOp_out (h.2 i hi (Ext.self w)))⟩
theorem wpRest_first {i : Nat} {oi : Oper} {v : Value} (hi : ops[i]? = some oi) (hsel : ∀ (j : Nat) (o : Oper) cs b, ops[j]? = some o → o.op ≠ .select cs b) :
    ∀ (fuel : Nat) (listed : Array Bool) (a : Act) (w : World),
      (∀ j oj, ops[j]? = some oj → j ≠ i → listed.getD j true = false → (∀ e ∈ oj.after, Region.binds md e = true → e.on ≠ i) → oi.apart ops oj = true) →
      i ∈ Region.ready md ops listed → SoftC P ops (fun _ => True) oi v a →
      wpRest P md ops Q fuel (listed.setIfInBounds i true) (a.put oi.dst v) w → wpRest P md ops Q (fuel + 1) listed a w := by
  intro fuel
  induction fuel with
  | zero =>
    intro listed a w _ hr hy H
    refine ⟨fun h => (by rw [h] at hr; cases hr), fun j hj x => ?_⟩
    by_cases hji : j = i
    · subst hji
      exact hy.wpOp hi trivial fun w' hb => wpRest_ext 0 _ _ _ ⟨w', below_le x.below hb⟩ H
    · have := ready_mono hj hji
      rw [H.1] at this
      cases this
  | succ fuel ih =>
    intro listed a w hfree hr hy H
    refine ⟨fun h => (by rw [h] at hr; cases hr), fun j hj x => ?_⟩
    by_cases hji : j = i
    · subst hji
      exact hy.wpOp hi trivial fun w' hb => wpRest_ext (fuel + 1) _ _ _ ⟨w', below_le x.below hb⟩ H
    · have h1 := H.2 j (ready_mono hj hji) x
      obtain ⟨hjun, oj, hoj, hall⟩ := mem_ready.1 hj
      have hnot : ∀ e ∈ oj.after, Region.binds md e = true → e.on ≠ i := fun e he hb heq => by
        have h1 := hall e he hb
        have h0 := (mem_ready.1 hr).1
        rw [heq] at h1
        rcases Nat.lt_or_ge i listed.size with h' | h'
        · simp [h'] at h0 h1; rw [h0] at h1; cases h1
        · simp [Array.getElem?_eq_none h'] at h1
      have h2 := wpOp_put_softC hoj (hfree j oj hoj hji hjun hnot) (fun cs b => hsel i oi cs b hi) (fun cs b => hsel j oj cs b hoj) hy h1
      have hfree' : ∀ k ok, ops[k]? = some ok → k ≠ i → (listed.setIfInBounds j true).getD k true = false →
          (∀ e ∈ ok.after, Region.binds md e = true → e.on ≠ i) → oi.apart ops ok = true := fun k ok hk hki hun hno => by
        refine hfree k ok hk hki ?_ hno
        by_cases hjk : j = k
        · subst hjk; exact hjun
        · rw [getD_set_ne true hjk] at hun; exact hun
      refine wpOp_mono (fun a' w' h3 => ih (listed.setIfInBounds j true) a' w' hfree' (ready_mono hr (Ne.symm hji)) h3.1 ?_) h2
      rw [Array.setIfInBounds_comm _ _ hji]
      exact h3.2

/-- Whatever order is picked from here on; till the last one, the world stays of its kind. -/
def wpMixF (P : Program) (md : Region.Mode) (ops : Array Oper) (Q : Exit → Act → World → Prop) (C : World → Prop) (z : Nat) : Nat → Array Bool → Act → World → Prop
  | 0, _, _, _ => False
  | f + 1, listed, a, w => Region.ready md ops listed ≠ [] ∧
    ∀ i ∈ Region.ready md ops listed, ∀ x : Ext w, C x.val → wpOp P ops noExit i (fun a' w' => (i = z → wpRest P md ops Q f (listed.setIfInBounds i true) a' w') ∧ (i ≠ z → C w' ∧ wpMixF P md ops Q C z f (listed.setIfInBounds i true) a' w')) a x.val

theorem wpMixF_ext : ∀ (f : Nat) (listed : Array Bool) (a : Act) (w : World) (x : Ext w), wpMixF P md ops Q C z f listed a w → wpMixF P md ops Q C z f listed a x.val
  | 0, _, _, _, _, h => h
  | _ + 1, _, _, _, x, h => ⟨h.1, fun i hi y => h.2 i hi (x.more y)⟩

theorem wpAny_of_MixF : ∀ (f : Nat) (listed : Array Bool) (a : Act) (w : World), C w → wpMixF P md ops Q C z f listed a w → wpAny P md ops Q f listed a w
  | 0, _, _, _, _, h => h.elim
  | f + 1, listed, _, w, hb, h => ⟨fun hr => absurd hr h.1, fun i hi => wpOp_mono (fun a' w' h' => by
      by_cases hz : i = z
      · exact wpAny_of_Rest _ _ _ _ (h'.1 hz)
      · obtain ⟨h0, h1⟩ := h'.2 hz
        exact wpAny_of_MixF f _ a' w' h0 h1) (wpOp_out (h.2 i hi (Ext.self w) hb))⟩

theorem wpMixF_first (hC : Stays C) {i : Nat} {oi : Oper} {v : Value} (hi : ops[i]? = some oi) (hiz : i ≠ z) (hl : lastI md ops z i = true) (hsel : ∀ (j : Nat) (o : Oper) cs b, ops[j]? = some o → o.op ≠ .select cs b) :
    ∀ (fuel : Nat) (listed : Array Bool) (a : Act) (w : World),
      (∀ j oj, ops[j]? = some oj → j ≠ i → listed.getD j true = false → (∀ e ∈ oj.after, Region.binds md e = true → e.on ≠ i) → oi.apart ops oj = true) →
      i ∈ Region.ready md ops listed → SoftC P ops C oi v a →
      wpMixF P md ops Q C z fuel (listed.setIfInBounds i true) (a.put oi.dst v) w → wpMixF P md ops Q C z (fuel + 1) listed a w := by
  intro fuel
  induction fuel with
  | zero => intro listed a w _ hr hy H; exact H.elim
  | succ fuel ih =>
    intro listed a w hfree hr hy H
    refine ⟨fun h => (by rw [h] at hr; cases hr), fun j hj x hx => ?_⟩
    by_cases hji : j = i
    · subst hji
      exact hy.wpOp hi hx fun w' hb => ⟨fun e => absurd e hiz, fun _ => ⟨hC _ _ hx hb, wpMixF_ext (fuel + 1) _ _ _ ⟨w', below_le x.below hb⟩ H⟩⟩
    · have hjz : j ≠ z := fun e => by
        subst e
        have h1 := lastI_spec hl hj
        have h0 := (mem_ready.1 hr).1
        rw [h1] at h0
        cases h0
      have h1 := H.2 j (ready_mono hj hji) x hx
      obtain ⟨hjun, oj, hoj, hall⟩ := mem_ready.1 hj
      have hnot : ∀ e ∈ oj.after, Region.binds md e = true → e.on ≠ i := fun e he hb heq => by
        have h1 := hall e he hb
        have h0 := (mem_ready.1 hr).1
        rw [heq] at h1
        rcases Nat.lt_or_ge i listed.size with h' | h'
        · simp [h'] at h0 h1; rw [h0] at h1; cases h1
        · simp [Array.getElem?_eq_none h'] at h1
      have h2 := wpOp_put_softC hoj (hfree j oj hoj hji hjun hnot) (fun cs b => hsel i oi cs b hi) (fun cs b => hsel j oj cs b hoj) hy h1
      have hfree' : ∀ k ok, ops[k]? = some ok → k ≠ i → (listed.setIfInBounds j true).getD k true = false →
          (∀ e ∈ ok.after, Region.binds md e = true → e.on ≠ i) → oi.apart ops ok = true := fun k ok hk hki hun hno => by
        refine hfree k ok hk hki ?_ hno
        by_cases hjk : j = k
        · subst hjk; exact hjun
        · rw [getD_set_ne true hjk] at hun; exact hun
      refine wpOp_mono (fun a' w' h3 => ⟨fun e => absurd e hjz, fun _ => ⟨(h3.2.2 hjz).1, ih (listed.setIfInBounds j true) a' w' hfree' (ready_mono hr (Ne.symm hji)) h3.1 ?_⟩⟩) h2
      rw [Array.setIfInBounds_comm _ _ hji]
      exact (h3.2.2 hjz).2

/-- An operation whose value no world turns may be taken first, wherever z stands. -/
theorem wpMixF_pure (hC : Stays C) {i : Nat} {oi : Oper} {v : Value} (hi : ops[i]? = some oi) (hiz : i ≠ z) (hsel : ∀ (j : Nat) (o : Oper) cs b, ops[j]? = some o → o.op ≠ .select cs b) :
    ∀ (fuel : Nat) (listed : Array Bool) (a : Act) (w : World),
      (∀ j oj, ops[j]? = some oj → j ≠ i → listed.getD j true = false → (∀ e ∈ oj.after, Region.binds md e = true → e.on ≠ i) → oi.apart ops oj = true) →
      i ∈ Region.ready md ops listed → SoftC P ops (fun _ => True) oi v a →
      wpMixF P md ops Q C z fuel (listed.setIfInBounds i true) (a.put oi.dst v) w → wpMixF P md ops Q C z (fuel + 1) listed a w := by
  intro fuel
  induction fuel with
  | zero => intro listed a w _ hr hy H; exact H.elim
  | succ fuel ih =>
    intro listed a w hfree hr hy H
    refine ⟨fun h => (by rw [h] at hr; cases hr), fun j hj x hx => ?_⟩
    by_cases hji : j = i
    · subst hji
      exact hy.wpOp hi trivial fun w' hb => ⟨fun e => absurd e hiz, fun _ => ⟨hC _ _ hx hb, wpMixF_ext (fuel + 1) _ _ _ ⟨w', below_le x.below hb⟩ H⟩⟩
    · have h1 := H.2 j (ready_mono hj hji) x hx
      obtain ⟨hjun, oj, hoj, hall⟩ := mem_ready.1 hj
      have hnot : ∀ e ∈ oj.after, Region.binds md e = true → e.on ≠ i := fun e he hb heq => by
        have h1 := hall e he hb
        have h0 := (mem_ready.1 hr).1
        rw [heq] at h1
        rcases Nat.lt_or_ge i listed.size with h' | h'
        · simp [h'] at h0 h1; rw [h0] at h1; cases h1
        · simp [Array.getElem?_eq_none h'] at h1
      have h2 := wpOp_put_softC hoj (hfree j oj hoj hji hjun hnot) (fun cs b => hsel i oi cs b hi) (fun cs b => hsel j oj cs b hoj) hy h1
      have hfree' : ∀ k ok, ops[k]? = some ok → k ≠ i → (listed.setIfInBounds j true).getD k true = false →
          (∀ e ∈ ok.after, Region.binds md e = true → e.on ≠ i) → oi.apart ops ok = true := fun k ok hk hki hun hno => by
        refine hfree k ok hk hki ?_ hno
        by_cases hjk : j = k
        · subst hjk; exact hjun
        · rw [getD_set_ne true hjk] at hun; exact hun
      refine wpOp_mono (fun a' w' h3 => ⟨fun e => wpRest_first hi hsel fuel _ a' w' hfree' (ready_mono hr (Ne.symm hji)) h3.1 ?_, fun e => ⟨(h3.2.2 e).1, ih (listed.setIfInBounds j true) a' w' hfree' (ready_mono hr (Ne.symm hji)) h3.1 ?_⟩⟩) h2
      · rw [Array.setIfInBounds_comm _ _ hji]
        exact h3.2.1 e
      · rw [Array.setIfInBounds_comm _ _ hji]
        exact (h3.2.2 e).2

/-- A region that draws its order, walked step by step. -/
theorem wp_region_mixf {id : Nat} {l : List Oper} {a : Act} {w : World} (z : Nat) (hC : Stays C) (hw : C w) (hm : P.follows .mixedOrders = true)
    (h : wpMixF P .any l.toArray Q C z l.toArray.size (mark l.toArray.size []) a w) : (Code.region id l.toArray true).wp P Q a w :=
  wp_region_any hm (wpAny_of_MixF _ _ _ _ (hC _ _ hw (Below.refl _ w).drew) (wpMixF_ext _ _ _ _ ⟨{ w with drawn := w.drawn + 1 }, (Below.refl _ w).drew⟩ h))

variable {l : List Oper} {f i : Nat} {done : List Nat} {a : Act} {w : World} {o : Oper}

theorem mixf_soft (i : Nat) (hC : Stays C) (ho : l[i]? = some o) (hB : softD md l.toArray z done i = true) (hw : Region.wanted o (yielded l.toArray a.tmps) = true)
    (h : ∀ K : Act → Prop, (∀ a', wpMixF P md l.toArray Q C z f (mark l.toArray.size (i :: done)) a' w → K a') → softOpC P C o a K) :
    wpMixF P md l.toArray Q C z (f + 1) (mark l.toArray.size done) a w := by
  simp only [softD, softB, Bool.and_eq_true, bne_iff_ne] at hB
  obtain ⟨⟨hl, hz⟩, ⟨hs, hr⟩, hf⟩ := hB
  have ho' : l.toArray[i]? = some o := by simpa using ho
  obtain ⟨v, h1, h2⟩ := h _ fun _ h => h
  exact wpMixF_first hC ho' hz hl (Region.noSelect_spec hs) f _ a w (Region.free_spec ho' hf) (by simpa using hr) (.inl ⟨hw, h1⟩) h2
theorem mixf_skip (i : Nat) (hC : Stays C) (ho : l[i]? = some o) (hB : softD md l.toArray z done i = true) (hw : Region.wanted o (yielded l.toArray a.tmps) = false)
    (h : wpMixF P md l.toArray Q C z f (mark l.toArray.size (i :: done)) (a.put o.dst undef) w) :
    wpMixF P md l.toArray Q C z (f + 1) (mark l.toArray.size done) a w := by
  simp only [softD, softB, Bool.and_eq_true, bne_iff_ne] at hB
  obtain ⟨⟨hl, hz⟩, ⟨hs, hr⟩, hf⟩ := hB
  have ho' : l.toArray[i]? = some o := by simpa using ho
  exact wpMixF_first hC ho' hz hl (Region.noSelect_spec hs) f _ a w (Region.free_spec ho' hf) (by simpa using hr) (.inr ⟨hw, rfl⟩) h
theorem mixf_pure (i : Nat) (hC : Stays C) (ho : l[i]? = some o) (hB : ((i != z) && softB md l.toArray done i) = true) (hw : Region.wanted o (yielded l.toArray a.tmps) = true)
    (h : ∀ K : Act → Prop, (∀ a', wpMixF P md l.toArray Q C z f (mark l.toArray.size (i :: done)) a' w → K a') → softOpC P (fun _ => True) o a K) :
    wpMixF P md l.toArray Q C z (f + 1) (mark l.toArray.size done) a w := by
  simp only [softB, Bool.and_eq_true, bne_iff_ne] at hB
  obtain ⟨hz, ⟨hs, hr⟩, hf⟩ := hB
  have ho' : l.toArray[i]? = some o := by simpa using ho
  obtain ⟨v, h1, h2⟩ := h _ fun _ h => h
  exact wpMixF_pure hC ho' hz (Region.noSelect_spec hs) f _ a w (Region.free_spec ho' hf) (by simpa using hr) (.inl ⟨hw, h1⟩) h2
/-- The only one that is ready. -/
theorem mixf_one (i : Nat) (hz : i ≠ z) (hr : Region.ready md l.toArray (mark l.toArray.size done) = [i]) (ho : l[i]? = some o) (hw : Region.wanted o (yielded l.toArray a.tmps) = true)
    (h : ∀ w1 : World, Below w.heap.size w w1 → C w1 → ∀ K : Act → World → Prop, (∀ a' w', C w' → wpMixF P md l.toArray Q C z f (mark l.toArray.size (i :: done)) a' w' → K a' w') → o.wp P a w1 K noExit) :
    wpMixF P md l.toArray Q C z (f + 1) (mark l.toArray.size done) a w := by
  refine ⟨by rw [hr]; exact List.cons_ne_nil _ _, fun k hk x hx => ?_⟩
  rw [hr] at hk
  obtain rfl : k = i := by simpa using hk
  unfold wpOp
  simp only [show l.toArray[k]? = some o by simpa using ho, hw, if_true]
  exact .inl (h x.val x.below hx _ fun a' w' hb hm => ⟨fun e => absurd e hz, fun _ => ⟨hb, hm⟩⟩)
/-- Operation z. -/
theorem mixf_z (z : Nat) (hr : Region.ready md l.toArray (mark l.toArray.size done) = [z]) (ho : l[z]? = some o) (hw : Region.wanted o (yielded l.toArray a.tmps) = true)
    (h : ∀ w1 : World, Below w.heap.size w w1 → C w1 → ∀ K : Act → World → Prop, (∀ a' w', wpRest P md l.toArray Q f (mark l.toArray.size (z :: done)) a' w' → K a' w') → o.wp P a w1 K noExit) :
    wpMixF P md l.toArray Q C z (f + 1) (mark l.toArray.size done) a w := by
  refine ⟨by rw [hr]; exact List.cons_ne_nil _ _, fun k hk x hx => ?_⟩
  rw [hr] at hk
  obtain rfl : k = z := by simpa using hk
  unfold wpOp
  simp only [show l.toArray[k]? = some o by simpa using ho, hw, if_true]
  exact .inl (h x.val x.below hx _ fun a' w' hm => ⟨fun _ => hm, fun e => absurd rfl e⟩)
/-- Behind it. -/
theorem rest_one (i : Nat) (hr : Region.ready md l.toArray (mark l.toArray.size done) = [i]) (ho : l[i]? = some o) (hw : Region.wanted o (yielded l.toArray a.tmps) = true)
    (h : ∀ w1 : World, Below w.heap.size w w1 → ∀ K : Act → World → Prop, (∀ a' w', wpRest P md l.toArray Q f (mark l.toArray.size (i :: done)) a' w' → K a' w') → o.wp P a w1 K noExit) :
    wpRest P md l.toArray Q (f + 1) (mark l.toArray.size done) a w := by
  refine ⟨fun h0 => (by rw [hr] at h0; cases h0), fun k hk x => ?_⟩
  rw [hr] at hk
  obtain rfl : k = i := by simpa using hk
  unfold wpOp
  simp only [show l.toArray[k]? = some o by simpa using ho, hw, if_true]
  exact .inl (h x.val x.below _ fun _ _ h => h)
theorem rest_nil (hr : Region.ready md l.toArray (mark l.toArray.size done) = []) (h : ∀ w1 : World, Below w.heap.size w w1 → Q .normal a w1) : wpRest P md l.toArray Q f (mark l.toArray.size done) a w := by
  cases f with
  | zero => exact ⟨hr, fun x => h x.val x.below⟩
  | succ f => exact ⟨fun _ x => h x.val x.below, fun i hi => by rw [hr] at hi; cases hi⟩

/-- Two operations that make new memory, in either order. -/
theorem mixf_both (i j : Nat) {oi oj : Oper} (hC : Stays C) (hoi : l[i]? = some oi) (hoj : l[j]? = some oj) (hne : i ≠ j) (hiz : i ≠ z) (hjz : j ≠ z) (hgi : oi.guard = none) (hgj : oj.guard = none)
    (hr : Region.ready md l.toArray (mark l.toArray.size done) = [i, j]) (hri : Region.ready md l.toArray (mark l.toArray.size (i :: done)) = [j]) (hrj : Region.ready md l.toArray (mark l.toArray.size (j :: done)) = [i])
    (hd : ∀ (v u : Value), (a.put oj.dst u).put oi.dst v = (a.put oi.dst v).put oj.dst u)
    (Pi Pj : Value → World → Prop) (Si : ∀ v X Y, Below X.heap.size X Y → Pi v X → Pi v Y) (Sj : ∀ v X Y, Below X.heap.size X Y → Pj v X → Pj v Y)
    (Hi : ∀ (b : Act), (b = a ∨ ∃ u, b = a.put oj.dst u) → ∀ w1 : World, Below w.heap.size w w1 → ∀ K : Act → World → Prop, (∀ v w', Pi v w' → Below w1.heap.size w1 w' → K (b.put oi.dst v) w') → oi.wp P b w1 K noExit)
    (Hj : ∀ (b : Act), (b = a ∨ ∃ u, b = a.put oi.dst u) → ∀ w1 : World, Below w.heap.size w w1 → ∀ K : Act → World → Prop, (∀ v w', Pj v w' → Below w1.heap.size w1 w' → K (b.put oj.dst v) w') → oj.wp P b w1 K noExit)
    (h : ∀ vi vj w', Below w.heap.size w w' → C w' → Pi vi w' → Pj vj w' → wpMixF P md l.toArray Q C z f (mark l.toArray.size (j :: i :: done)) ((a.put oi.dst vi).put oj.dst vj) w') :
    wpMixF P md l.toArray Q C z (f + 2) (mark l.toArray.size done) a w := by
  have hw : ∀ (o : Oper) (b : Act), o.guard = none → Region.wanted o (yielded l.toArray b.tmps) = true := fun o b hg => by simp [Region.wanted, hg]
  refine ⟨by rw [hr]; exact List.cons_ne_nil _ _, fun k hk x hx => ?_⟩
  rw [hr] at hk
  simp only [List.mem_cons, List.not_mem_nil, or_false] at hk
  rcases hk with rfl | rfl
  · unfold wpOp
    simp only [show l.toArray[k]? = some oi by simpa using hoi, hw _ _ hgi, if_true]
    refine .inl (Hi a (.inl rfl) x.val x.below _ fun v w2 hv hb2 => ⟨fun e => absurd e hiz, fun _ => ⟨hC _ _ hx hb2, ?_⟩⟩)
    refine mixf_one (done := k :: done) j hjz hri hoj (hw _ _ hgj) fun w3 h3 h03 K hK => Hj _ (.inr ⟨v, rfl⟩) w3 (below_le (below_le x.below hb2) h3) K fun u w4 hu hb4 => hK _ _ (hC _ _ h03 hb4) ?_
    exact h v u w4 (below_le (below_le (below_le x.below hb2) h3) hb4) (hC _ _ h03 hb4) (Si _ _ _ (below_le h3 hb4) hv) hu
  · unfold wpOp
    simp only [show l.toArray[k]? = some oj by simpa using hoj, hw _ _ hgj, if_true]
    refine .inl (Hj a (.inl rfl) x.val x.below _ fun u w2 hu hb2 => ⟨fun e => absurd e hjz, fun _ => ⟨hC _ _ hx hb2, ?_⟩⟩)
    refine mixf_one (done := k :: done) i hiz hrj hoi (hw _ _ hgi) fun w3 h3 h03 K hK => Hi _ (.inr ⟨u, rfl⟩) w3 (below_le (below_le x.below hb2) h3) K fun v w4 hv hb4 => hK _ _ (hC _ _ h03 hb4) ?_
    have := h v u w4 (below_le (below_le (below_le x.below hb2) h3) hb4) (hC _ _ h03 hb4) hv (Sj _ _ _ (below_le h3 hb4) hu)
    rw [← hd] at this
    have e : mark l.toArray.size (i :: k :: done) = mark l.toArray.size (k :: i :: done) := by
      simp only [mark]
      exact Array.setIfInBounds_comm _ _ (Ne.symm hne)
    rw [e]
    exact this
end
end Go.Proofs.YtmabokmnniiadaaGreatDoor
namespace Go.Proofs.YtmabokmnniiadaaGreatDoor
open Go.RowKit

/-- The cells lead to this descriptor, its lists in blocks of their own. -/
def FitsB (w : World) (d : MD) (x : DscK) : Prop := Fits w d x ∧ ∀ b ∈ blkM d, ∃ cs, Blk w b 3 cs
theorem FitsB.ext {w w' : World} {d : MD} {x : DscK} (hb : Below w.heap.size w w') (h : FitsB w d x) : FitsB w' d x := ⟨h.1.ext hb, fun b hm => (h.2 b hm).imp fun _ hc => hc.ext hb⟩
theorem FitsB.grown {w w' : World} {d : MD} {x : DscK} {row : Option Nat} (h : FitsB w d x) (hg : w.grownBy w' row) (hne : ∀ b ∈ blkM d, some b ≠ row) : FitsB w' d x :=
  ⟨h.1.grown hg hne, fun b hm => (h.2 b hm).imp fun _ hc => hc.grown hg (hne b hm)⟩

/-- A list of descriptors that the call owns, in a block. -/
def JList (w : World) (base : Nat) (v : Value) (k : Nat) (L : List DscK) : Prop :=
  ∃ ms, w.ownsRow base 35 4 v k (cellsD ms) ∧ ms.length = k ∧ (∃ g c, v = .slice (some ⟨g, 0, none⟩) k c ∧ k ≤ c ∧ c ≤ maxLen) ∧ ∀ (j : Nat) (d : MD) (x : DscK), ms[j]? = some d → L[j]? = some x → FitsB w d x
theorem JList.ext {w w' : World} {base k : Nat} {v : Value} {L : List DscK} (hb : Below w.heap.size w w') (h : JList w base v k L) : JList w' base v k L := by
  obtain ⟨ms, h1, h2, h3, h4⟩ := h
  exact ⟨ms, own_extD hb h1, h2, h3, fun j d x a b => (h4 j d x a b).ext hb⟩
theorem owns_some {w : World} {base k : Nat} {v : Value} {t : TypeId} {xs : List Value} (h : w.ownsRow base t 4 v (k + 1) xs) : ∃ g c, v = .slice (some ⟨g, 0, none⟩) (k + 1) c ∧ k + 1 ≤ c ∧ c ≤ maxLen := by
  rcases h.2 with ⟨_, h0⟩ | ⟨g, cap, cur, rfl, _, _, h1, h2, _⟩
  · omega
  · exact ⟨g, cap, rfl, h1, h2⟩

theorem FitsB.same {w w' : World} {d : MD} {x : DscK} (h : FitsB w d x) (hk : ∀ b ∈ blkM d, w'.heap[b]? = w.heap[b]?) : FitsB w' d x :=
  ⟨h.1.keep (S := blkM d) hk fun _ hb => hb, fun b hm => (h.2 b hm).imp fun _ hc => (hk b hm).trans hc⟩
theorem fitsB_new {w : World} {z e : Int} {ps es : List Int} {g1 g2 : Nat} (h1 : Blk w g1 3 (ps.map Iv).toArray) (h2 : Blk w g2 3 (es.map Iv).toArray) : FitsB w (z, (some ⟨g1, 0, none⟩, ps.length, ps.length), e, (some ⟨g2, 0, none⟩, es.length, es.length)) (z, ps, e, es) := by
  refine ⟨⟨rfl, rfl, by simpa using h1.row, by simpa using h2.row⟩, fun b hb => ?_⟩
  rcases List.mem_append.1 hb with hb | hb
  · unfold blkR at hb
    split at hb
    · simp [blkA] at hb; subst hb; exact ⟨_, h1⟩
    · simp at hb
  · unfold blkR at hb
    split at hb
    · simp [blkA] at hb; subst hb; exact ⟨_, h2⟩
    · simp at hb
theorem JList.push {w w' : World} {base k : Nat} {v v' : Value} {L : List DscK} {ms : List MD} {d : MD} {x : DscK} (hown : w.ownsRow base 35 4 v k (cellsD ms)) (hml : ms.length = k) (hf : ∀ (j : Nat) (d : MD) (x : DscK), ms[j]? = some d → L[j]? = some x → FitsB w d x) (hlt : k < L.length)
    (hx : L[k]? = some x) (hd : FitsB w d x) (hown' : w'.ownsRow base 35 4 v' (k + 1) (cellsD (ms ++ [d]))) (hk : ∀ b, b < w.heap.size → some b ≠ v.ownBlock → w'.heap[b]? = w.heap[b]?) : JList w' base v' (k + 1) L := by
  have hs : ∀ {d x}, FitsB w d x → FitsB w' d x := fun {d x} h => h.same fun b hb => hk b (h.1.lt b hb) (by obtain ⟨cs, hc⟩ := h.2 b hb; exact own_neD hown hc (by decide))
  refine ⟨_, hown', by simp [hml], owns_some hown', fun j d' x' h1 h2 => ?_⟩
  by_cases hj : j < ms.length
  · rw [List.getElem?_append_left hj] at h1
    exact hs (hf j d' x' h1 h2)
  · rw [List.getElem?_append_right (by omega)] at h1
    have hj0 : j - ms.length = 0 := by
      have := (List.getElem?_eq_some_iff.1 h1).1
      simp at this
      omega
    rw [hj0] at h1
    simp at h1
    subst h1
    have : j = k := by omega
    subst this
    rw [hx] at h2
    cases h2
    exact hs hd
/-- A list of descriptors of the call's own. -/
def GivesD (w : World) (L : List DscK) (x : Ending) (w' : World) : Prop := ∃ A n c, x = .returned (.slice A n c) ∧ RowD w' A n L ∧ (∀ a, A = some a → w.heap.size ≤ a.block) ∧ Below w.heap.size w w' ∧ ∃ ms, RowM w' A n ms L ∧ ∀ d ∈ ms, ∀ b ∈ blkM d, ∃ cs, Blk w' b 3 cs

theorem rowM_of_owns {w : World} {base n c : Nat} {t : TypeId} {A : Option Addr} {ms : List MD} {ds : List DscK} (h : w.ownsRow base t 4 (.slice A n c) n (cellsD ms)) (hl : ms.length = ds.length) (hf : ∀ (k : Nat) (d : MD) (x : DscK), ms[k]? = some d → ds[k]? = some x → Fits w d x) : RowM w A n ms ds := by
  have hlen := h.1
  rw [cellsD_length] at hlen
  have hn : ds.length = n := by omega
  refine ⟨hn, by omega, hf, fun h0 => ?_⟩
  rcases h.2 with ⟨_, rfl⟩ | ⟨g, cap, cur, he, hg, hb, h1, h2, h3, h4⟩
  · omega
  · injection he with e1 e2 e3
    subst e1
    refine ⟨g, 0, rfl, fun k d hd j u hu => ?_⟩
    have hB : Blk w g t cur := hb
    have hj : j < 4 := (List.getElem?_eq_some_iff.1 hu).1
    have hk : k < ms.length := (List.getElem?_eq_some_iff.1 hd).1
    rw [Nat.zero_add, hB.cell, ← Array.getElem?_toList]
    have := cellsD_get hd hj
    rw [hu, ← h4, List.getElem?_take, if_pos (by omega)] at this
    exact this

def JoiC (b : Nat) (ds : Array Value) (x : World) : Prop := Blk x b 35 ds
theorem joiC_stays (b : Nat) (ds : Array Value) : Stays (JoiC b ds) := fun _ _ h hb => Blk.ext h hb

set_option maxRecDepth 100000 in
set_option maxHeartbeats 8000000 in
/-- join. -/
theorem join_any (A B : Option Addr) (n c m d : Nat) (ls bs : List DscK) (w : World) (hA : RowD w A n ls) (hB : RowD w B m bs) (hsa : Sm ls) (hsb : Sm bs) (hn : n ≤ 1000) (hm : m ≤ 1000) :
    Calls Tryz.prog 43 #[.slice A n c, .slice B m d] w (GivesD w (ls ++ bs)) := by
  obtain ⟨inf, hi, hi0, hi1, hi2⟩ := info_parts desc_info
  have hla := hA.1
  have hlb := hB.1
  have hpart : ∀ p : Nat, p < 2 → ∃ X xn xc xs o, (∀ W : World, (Instr.index 98 (.agg #[.slice A n c, .slice B m d]) (.int .i64 (p : Int))).run Tryz.prog W = .ok (.slice X xn xc) W) ∧ RowD w X xn xs ∧ Sm xs ∧ xn ≤ 1000 ∧
      (∀ j, j < xn → (ls ++ bs)[o + j]? = xs[j]?) ∧ o = (if p = 0 then 0 else n) ∧ o + xn = (if p = 0 then n else n + m) := fun p hp => by
    rcases (show p = 0 ∨ p = 1 by omega) with rfl | rfl
    · exact ⟨A, n, c, ls, 0, fun W => by simp [Instr.index, go_sem], hA, hsa, hn, fun j hj => by rw [Nat.zero_add, List.getElem?_append_left (by omega)], rfl, by simp⟩
    · exact ⟨B, m, d, bs, n, fun W => by simp [Instr.index, go_sem], hB, hsb, hm, fun j hj => by rw [List.getElem?_append_right (by omega)]; congr 1; omega, rfl, by simp⟩
  have HP := Lib.hid hpart
  have hlen : (ls ++ bs).length = n + m := by rw [List.length_append, hla, hlb]
  generalize ls ++ bs = L at *
  have HLEN := Lib.hid hlen
  clear hlen
  have HLL := Lib.hid (And.intro hla hlb)
  clear hA hB hsa hsb hpart hla hlb
  go_enter Tryz.func43, Tryz.ntmps43
  go_wp2_with (at_make; refine wpList_make_own _ rfl _ _ _ rfl w.heap.size 35 inf _ 4 Tryz.underlying22 hi hi0 hi1 .i64 .i64 _ (n + m) rfl rfl ?mk0 ?mk1 ?mk2 ?mk3 ?_)
  case mk0 => simp
  case mk1 => rw [hi2]; omega
  case mk2 => unfold maxLen; omega
  case mk3 => exact Nat.le_refl _
  intro w1 hown1 hg1
  have hb1 : Below w.heap.size w w1 := ⟨hg1.os, hg1.tape, hg1.output, hg1.size, fun i hi => hg1.block i hi (by simp)⟩
  have hj1 : JList w1 w.heap.size (.slice (some ⟨w.heap.size, 0, none⟩) 0 (n + m)) 0 L := ⟨[], hown1, rfl, ⟨_, _, rfl, Nat.zero_le _, by unfold maxLen; omega⟩, fun j d x h => by simp at h⟩
  have HJ1 := Lib.hid hj1
  have HB1 := Lib.hid hb1
  clear hown1 hg1 hb1 hj1
  go_wp2
  go_loopw [5, 19] (fun v i wr => ∃ p : Nat, p ≤ 2 ∧ i = .int .i64 p ∧ JList wr w.heap.size v (if p = 0 then 0 else if p = 1 then n else n + m) L ∧ Below w.heap.size w wr) (fun _ i _ => 2 - (intOf i).toNat)
  case atStart => exact ⟨0, by omega, rfl, HJ1.out, HB1.out⟩
  case round =>
    clear HJ1 HB1
    obtain ⟨p, hp, rfl, hj, hb⟩ := hrel
    by_cases hlt : p < 2
    · obtain ⟨X, xn, xc, xs, o, hidx, hX, hsx, hxn, hat, ho, hox⟩ := HP.out p hlt
      have hpn : (if p = 0 then 0 else if p = 1 then n else n + m) = o := by
        rw [ho]
        split
        · rfl
        · rw [if_pos (by omega)]
      rw [hpn] at hj
      have hpn2 : (if p + 1 = 0 then 0 else if p + 1 = 1 then n else n + m) = o + xn := by
        rw [hox, if_neg (by omega)]
        by_cases h0 : p = 0
        · rw [if_pos h0, if_pos (by omega)]
        · rw [if_neg h0, if_neg (by omega)]
      have hon : o ≤ 1000 := by rw [ho]; split <;> omega
      have HJ := Lib.hid hj
      have HB := Lib.hid hb
      have HX := Lib.hid hX
      have HSX := Lib.hid hsx
      have HAT := Lib.hid hat
      have HPN2 := Lib.hid hpn2
      clear hj hb hX hsx hat hpn hpn2 ho hox
      have hlt2 : (p : Int) < 2 := by omega
      go_wp2
      clear hidx
      go_loopw [5, 24] (fun v i wr => ∃ j : Nat, j ≤ xn ∧ i = .int .i64 j ∧ JList wr w.heap.size v (o + j) L ∧ Below w.heap.size w wr) (fun _ i _ => xn - (intOf i).toNat)
      case atStart => exact ⟨0, Nat.zero_le _, rfl, HJ.out, HB.out⟩
      case round =>
        clear HJ HB
        obtain ⟨j, hjx, rfl, hj, hb⟩ := hrel
        have HJ := Lib.hid hj
        have HB := Lib.hid hb
        clear hj hb
        by_cases hlj : j < xn
        · obtain ⟨b, off, z, P, pm, pc, e, Q, q, f, ps, es, rfl, hd, r1, r2, d0, d1, d2, d3⟩ := (HX.out.ext HB.out).get hlj
          have hsm := HSX.out _ (List.mem_of_getElem? hd)
          have hl1 := r1.1
          have hl2 := r2.1
          simp at hl1 hl2
          subst hl1
          subst hl2
          have hpm : ps.length ≤ 1000 := hsm.1
          have hqm : es.length ≤ 1000 := hsm.2
          have hx := below_box wr (descO z P ps.length pc e Q es.length f)
          have hbx : JoiC wr.heap.size #[.int .i64 z, .slice P ps.length pc, .int .i64 e, .slice Q es.length f] (wr.alloc (descO z P ps.length pc e Q es.length f)) := Blk.new _ _ _
          have HR1 := Lib.hid (r1.ext hx)
          have HR2 := Lib.hid (r2.ext hx)
          have HLX := Lib.hid (show L[o + j]? = some (z, ps, e, es) by rw [HAT.out j hlj, hd])
          have HJB := Lib.hid (HJ.out.ext hx)
          have HBB := Lib.hid (below_le HB.out hx)
          have hxb : Below wr.heap.size wr (wr.alloc (descO z P ps.length pc e Q es.length f)) := hx
          have hzz : (wr.alloc (descO z P ps.length pc e Q es.length f)).heap.size = wr.heap.size + 1 := by simp
          clear hx r1 r2 hd hsm
          go_wp2
          generalize wr.alloc (descO z P ps.length pc e Q es.length f) = W2 at *
          have hCst := joiC_stays wr.heap.size #[.int .i64 z, .slice P ps.length pc, .int .i64 e, .slice Q es.length f]
          have hNE : Nonempty (Of (JoiC wr.heap.size #[.int .i64 z, .slice P ps.length pc, .int .i64 e, .slice Q es.length f])) := ⟨⟨W2, hbx⟩⟩
          have t1 := fun x : Of (JoiC wr.heap.size #[.int .i64 z, .slice P ps.length pc, .int .i64 e, .slice Q es.length f]) => Blk.at_ (i := 1) x.ok rfl
          have t3 := fun x : Of (JoiC wr.heap.size #[.int .i64 z, .slice P ps.length pc, .int .i64 e, .slice Q es.length f]) => Blk.at_ (i := 3) x.ok rfl
          refine wp_region_mixf (C := JoiC wr.heap.size #[.int .i64 z, .slice P ps.length pc, .int .i64 e, .slice Q es.length f]) 7 hCst hbx (by kernel_rfl) ?_
          first | (refine mixf_skip 0 hCst rfl (by kernel_rfl) rfl ?_; go_frame) | (refine mixf_soft 0 hCst rfl (by kernel_rfl) rfl (fun K hK => ?_); go_simp; first | (refine hK _ ?_; clear hK K) | (apply Exists.intro; refine ⟨fun x => ?_, hK _ ?_⟩; (· (fail)); clear hK K; try go_frame))
          first | (refine mixf_skip 1 hCst rfl (by kernel_rfl) rfl ?_; go_frame) | (refine mixf_soft 1 hCst rfl (by kernel_rfl) rfl (fun K hK => ?_); go_simp; first | (refine hK _ ?_; clear hK K) | (apply Exists.intro; refine ⟨fun x => ?_, hK _ ?_⟩; (· (fail)); clear hK K; try go_frame))
          first | (refine mixf_skip 3 hCst rfl (by kernel_rfl) rfl ?_; go_frame) | (refine mixf_soft 3 hCst rfl (by kernel_rfl) rfl (fun K hK => ?_); go_simp; first | (refine hK _ ?_; clear hK K) | (apply Exists.intro; refine ⟨fun x => ?_, hK _ ?_⟩; (· (fail)); clear hK K; try go_frame))
          first | (refine mixf_skip 4 hCst rfl (by kernel_rfl) rfl ?_; go_frame) | (refine mixf_soft 4 hCst rfl (by kernel_rfl) rfl (fun K hK => ?_); go_simp; first | (refine hK _ ?_; clear hK K) | (apply Exists.intro; refine ⟨fun x => ?_, hK _ ?_⟩; (· (fail)); clear hK K; try go_frame))
          clear t1 t3
          refine mixf_one 2 (by decide) (by kernel_rfl) rfl rfl ?_
          intro w2 hb2 hC2 K hK
          go_simp
          refine (places_any P ps.length pc ps w2 (HR1.out.ext hb2) hpm).mono ?_
          rintro e' w3 ⟨g1, rfl, h1, h2, h3⟩
          refine hK _ _ (hCst _ _ hC2 h3) ?_
          have HG1 := Lib.hid (Nat.le_trans hb2.size h1)
          have HK1 := Lib.hid h2
          have HB3 := Lib.hid (below_le hb2 h3)
          clear hK K hb2 hC2 h1 h2 h3
          try go_frame
          refine mixf_pure 6 hCst rfl (by kernel_rfl) rfl (fun K hK => ?_)
          go_simp
          refine hK _ ?_
          clear hK K
          try go_frame
          refine mixf_one 5 (by decide) (by kernel_rfl) rfl rfl ?_
          intro w4 hb4 hC4 K hK
          go_simp
          refine (places_any Q es.length f es w4 (HR2.out.ext (below_le HB3.out hb4)) hqm).mono ?_
          rintro e' w5 ⟨g2, rfl, h1, h2, h3⟩
          refine hK _ _ (hCst _ _ hC4 h3) ?_
          have HG2 := Lib.hid (Nat.le_trans (below_le HB3.out hb4).size h1)
          replace HK1 := Lib.hid ((HK1.out.ext hb4).ext h3)
          have HK2 := Lib.hid h2
          replace HB3 := Lib.hid (below_le (below_le HB3.out hb4) h3)
          clear hK K hb4 hC4 h1 h2 h3
          try go_frame
          refine mixf_z 7 (by kernel_rfl) rfl rfl ?_
          intro w6 hb6 hC6 K hK
          have k1 := Blk.at_ (i := 1) hC6 rfl
          have f1 := Blk.frozen hC6 1
          have b6 : Blk (w6.setCell ⟨wr.heap.size, 1, none⟩ (.slice (some ⟨g1, 0, none⟩) ps.length ps.length)) wr.heap.size 35 #[.int .i64 z, .slice (some ⟨g1, 0, none⟩) ps.length ps.length, .int .i64 e, .slice Q es.length f] := by simpa using Blk.set_ hC6 1 (.slice (some ⟨g1, 0, none⟩) ps.length ps.length)
          have hwr : wr.heap.size ≤ W2.heap.size := by rw [hzz]; exact Nat.le_succ _
          have hk1 := (HK1.out.ext hb6).far (p := ⟨wr.heap.size, 1, none⟩) (by show g1 ≠ wr.heap.size; have := HG1.out; omega) (.slice (some ⟨g1, 0, none⟩) ps.length ps.length)
          have hk2 := (HK2.out.ext hb6).far (p := ⟨wr.heap.size, 1, none⟩) (by show g2 ≠ wr.heap.size; have := HG2.out; omega) (.slice (some ⟨g1, 0, none⟩) ps.length ps.length)
          have hb7 : Below wr.heap.size W2 (w6.setCell ⟨wr.heap.size, 1, none⟩ (.slice (some ⟨g1, 0, none⟩) ps.length ps.length)) := ((below_le HB3.out hb6).mono hwr).setCell (p := ⟨wr.heap.size, 1, none⟩) (Nat.le_refl _) _
          go_simp
          refine hK _ _ ?_
          clear hK K k1 f1 hb6 hC6
          have B6 := Lib.hid b6
          have HK1 := Lib.hid hk1
          have HK2 := Lib.hid hk2
          have HB7 := Lib.hid hb7
          clear b6 hk1 hk2 hb7
          try go_frame
          generalize w6.setCell ⟨wr.heap.size, 1, none⟩ (.slice (some ⟨g1, 0, none⟩) ps.length ps.length) = W6 at *
          refine rest_one 8 (by kernel_rfl) rfl rfl ?_
          intro w61 hb61 K hK
          go_simp
          refine hK _ _ ?_
          clear hK K
          try go_frame
          refine rest_one 9 (by kernel_rfl) rfl rfl ?_
          intro w7 hb8 K hK
          replace hb8 := below_le hb61 hb8
          clear hb61
          have b7 := B6.out.ext hb8
          have k3 := b7.at_ (i := 3) rfl
          have f3 := b7.frozen 3
          have b8 : Blk (w7.setCell ⟨wr.heap.size, 3, none⟩ (.slice (some ⟨g2, 0, none⟩) es.length es.length)) wr.heap.size 35 #[.int .i64 z, .slice (some ⟨g1, 0, none⟩) ps.length ps.length, .int .i64 e, .slice (some ⟨g2, 0, none⟩) es.length es.length] := by simpa using b7.set_ 3 (.slice (some ⟨g2, 0, none⟩) es.length es.length)
          have hk1 := (HK1.out.ext hb8).far (p := ⟨wr.heap.size, 3, none⟩) (by show g1 ≠ wr.heap.size; have := HG1.out; omega) (.slice (some ⟨g2, 0, none⟩) es.length es.length)
          have hk2 := (HK2.out.ext hb8).far (p := ⟨wr.heap.size, 3, none⟩) (by show g2 ≠ wr.heap.size; have := HG2.out; omega) (.slice (some ⟨g2, 0, none⟩) es.length es.length)
          have hb9 : Below wr.heap.size W2 (w7.setCell ⟨wr.heap.size, 3, none⟩ (.slice (some ⟨g2, 0, none⟩) es.length es.length)) := (HB7.out.trans (hb8.mono (by have := HB7.out.size; omega))).setCell (p := ⟨wr.heap.size, 3, none⟩) (Nat.le_refl _) _
          go_simp
          refine hK _ _ ?_
          clear hK K k3 f3 hb8 b7
          have B8 := Lib.hid b8
          replace HK1 := Lib.hid hk1
          replace HK2 := Lib.hid hk2
          replace HB7 := Lib.hid hb9
          clear b8 hk1 hk2 hb9 B6
          try go_frame
          generalize w7.setCell ⟨wr.heap.size, 3, none⟩ (.slice (some ⟨g2, 0, none⟩) es.length es.length) = W8 at *
          refine rest_nil (by kernel_rfl) fun w9 hb9 => ?_
          have b9 := B8.out.ext hb9
          have c0 := b9.at_ (i := 0) rfl
          have c1 := b9.at_ (i := 1) rfl
          have c2 := b9.at_ (i := 2) rfl
          have c3 := b9.at_ (i := 3) rfl
          have hkk1 := HK1.out.ext hb9
          have hkk2 := HK2.out.ext hb9
          have hB29 : Below wr.heap.size wr w9 := (hxb.trans (HB7.out.trans (hb9.mono (by have := HB7.out.size; omega))))
          obtain ⟨ms, hown, hml, ⟨gv, cv, rfl, hkv, hcv⟩, hfv⟩ := (HJ.out.ext hB29)
          have HO9 := Lib.hid hown
          have HML := Lib.hid hml
          have HFV := Lib.hid hfv
          have HNW := Lib.hid (fitsB_new (z := z) (e := e) hkk1 hkk2)
          have HB9 := Lib.hid (below_le HB.out hB29)
          clear hown hml hfv hkk1 hkk2 hB29 b9 hb9 HK1 HK2 HB7 B8 HJ HJB HBB HG1 HG2 HB3 HR1 HR2 hxb hzz hwr
          have hlL : o + j < L.length := (List.getElem?_eq_some_iff.1 HLX.out).1
          go_wp2_with (at_builtin; refine stop_hereK ?_)
          intro _
          refine wpList_pushD (w0 := w) w9 rfl (.tmp 36) (.tmp 38) 22 rfl w.heap.size 35 inf (.agg #[.int .i64 0, .slice none 0 0, .int .i64 0, .slice none 0 0]) 64 Tryz.underlying22 hi hi0 hi1 hi2 rfl (.slice (some ⟨gv, 0, none⟩) (o + j) cv) (o + j) ms rfl HO9.out
            (z, (some ⟨g1, 0, none⟩, ps.length, ps.length), e, (some ⟨g2, 0, none⟩, es.length, es.length)) rfl (by unfold maxLen; omega) (by omega) (Nat.le_refl _) HB9.out.size HB9.out (fun k e => own_baseD HO9.out e) ?_
          intro v' w10 hown10 hb10 hk10
          have HJN := Lib.hid (JList.push HO9.out HML.out HFV.out hlL HLX.out HNW.out hown10 hk10)
          have HB10 := Lib.hid hb10
          clear hown10 hb10 hk10 HO9 HML HFV HNW HB9
          go_wp2
          go_roundw
          case rel => exact ⟨j + 1, by omega, by go_num, HJN.out, HB10.out⟩
          case measure => simp [intOf]; omega
        · have hjn : j = xn := by omega
          have HJF := Lib.hid (show JList wr w.heap.size _ (o + xn) L from hjn ▸ HJ.out)
          clear hjn
          go_wp2
          go_roundw
          case rel => exact ⟨p + 1, by omega, by go_num, by rw [HPN2.out]; exact HJF.out, HB.out⟩
          case measure => simp [intOf]; omega
    · obtain rfl : p = 2 := by omega
      obtain ⟨ms, hown, hml, ⟨g, cp, rfl, hk, hk2⟩, hf⟩ := hj
      simp only [show ¬ (2 : Nat) = 0 by omega, show ¬ (2 : Nat) = 1 by omega, if_false] at hown hml hk
      have HOF := Lib.hid hown
      have HMF := Lib.hid hml
      have HFF := Lib.hid hf
      have HB := Lib.hid hb
      clear hown hml hf hb
      have hki : (n : Int) + (m : Int) ≤ (cp : Int) := by omega
      go_wp2
      go_ret
      have hM := rowM_of_owns (ds := L) HOF.out (by rw [HMF.out, HLEN.out]) (fun k d x h1 h2 => (HFF.out k d x h1 h2).1)
      refine ⟨some ⟨g, 0, none⟩, n + m, n + m, rfl, hM.rowD, fun a e => ?_, HB.out, ms, hM, fun d hd => ?_⟩
      · cases e
        exact own_baseD HOF.out rfl
      · obtain ⟨k, hk, e⟩ := List.getElem_of_mem hd
        have hkL : k < L.length := by have := HMF.out; have := HLEN.out; omega
        exact (HFF.out k d _ (by rw [← e]; exact List.getElem?_eq_getElem hk) (List.getElem?_eq_getElem hkL)).2
end Go.Proofs.YtmabokmnniiadaaGreatDoor
namespace Go.Proofs.YtmabokmnniiadaaGreatDoor
open Go.RowKit

/-- Kinds, a number, and what is told. -/
def GivesK (w : World) (r : List DscK × Nat × Nat) (x : Ending) (w' : World) : Prop :=
  ∃ A n c, x = .returned (.tuple #[.slice A n c, .int .i64 (r.2.1 : Nat), .int .i64 (r.2.2 : Nat)]) ∧ RowD w' A n r.1 ∧ (∀ a, A = some a → w.heap.size ≤ a.block) ∧ Below w.heap.size w w'
theorem GivesK.none_ {w w' : World} (k c : Nat) (hb : Below w.heap.size w w') : GivesK w ([], k, c) (.returned (.tuple #[.slice none 0 0, .int .i64 (k : Nat), .int .i64 (c : Nat)])) w' :=
  ⟨none, 0, 0, rfl, RowD.none_, (fun _ h => by cases h), hb⟩

theorem kNo_iff (ds : List DscK) : (kNo ds = 0 ∧ kRight ds = true) ∨ (kNo ds = 50 ∧ kRight ds = false) := by
  unfold kNo
  cases kRight ds
  · exact .inr ⟨rfl, rfl⟩
  · exact .inl ⟨rfl, rfl⟩
theorem rowD_one (w : World) (z : Int) (P : Option Addr) (m c : Nat) (e : Int) (Q : Option Addr) (q f : Nat) (ps es : List Int) (hP : Row w P m (ps.map Iv)) (hQ : Row w Q q (es.map Iv)) :
    RowD (w.alloc (descO z P m c e Q q f)) (some ⟨w.heap.size, 0, none⟩) 1 [(z, ps, e, es)] := by
  have hx := below_box w (descO z P m c e Q q f)
  have h1 : Blk (w.alloc (descO z P m c e Q q f)) w.heap.size 35 #[.int .i64 z, .slice P m c, .int .i64 e, .slice Q q f] := Blk.new _ _ _
  refine ⟨rfl, fun _ => ⟨w.heap.size, 0, rfl, fun k d hd => ?_⟩⟩
  have hk : k = 0 := by
    have := (List.getElem?_eq_some_iff.1 hd).1
    simp at this
    omega
  subst hk
  simp at hd
  subst hd
  exact ⟨P, m, c, Q, q, f, h1.at_ (i := 0) rfl, h1.at_ (i := 1) rfl, h1.at_ (i := 2) rfl, h1.at_ (i := 3) rfl, hP.ext hx, hQ.ext hx⟩

set_option maxRecDepth 100000 in
set_option maxHeartbeats 4000000 in
/-- Add. -/
theorem add_any (A : Option Addr) (n c : Nat) (ds : List DscK) (d : DscK) (P Q : Option Addr) (m c' q f : Nat) (w : World) (hR : RowD w A n ds) (hs : Sm ds) (hn : n ≤ 1000) (hP : Row w P m (d.2.1.map Iv)) (hQ : Row w Q q (d.2.2.2.map Iv)) (hd : sm1 d) (ht : Tab w) (hE : EType w) :
    Calls Tryz.prog 22 #[.slice A n c, descV d.1 P m c' d.2.2.1 Q q f] w (GivesK w (kAdd ds d)) := by
  obtain ⟨z, ps, e, es⟩ := d
  dsimp only at hP hQ ⊢
  have hlen := hR.1
  have hl1 := hP.1
  have hl2 := hQ.1
  simp at hl1 hl2
  have hm : m ≤ 1000 := by have := hd.1; dsimp only at this; omega
  have hq : q ≤ 1000 := by have := hd.2; dsimp only at this; omega
  have hx := below_box w (descO z P m c' e Q q f)
  have h1 : Blk (w.alloc (descO z P m c' e Q q f)) w.heap.size 35 #[.int .i64 z, .slice P m c', .int .i64 e, .slice Q q f] := Blk.new _ _ _
  have r1 : kRight ds = false → kAdd ds (z, ps, e, es) = ([], 0, 50) := fun h => by unfold kAdd; rw [if_pos h]
  have r2 : kRight ds = true → dRight z ps e es = false → kAdd ds (z, ps, e, es) = ([], 0, 40) := fun h h2 => by unfold kAdd; rw [if_neg (by rw [h]; simp), if_pos (show dR (z, ps, e, es) = false from h2)]
  have r3 : kRight ds = true → dRight z ps e es = true → 0 < kFind ds (z, ps, e, es) → kAdd ds (z, ps, e, es) = (ds, kFind ds (z, ps, e, es), 0) := fun h h2 h3 => by unfold kAdd; rw [if_neg (by rw [h]; simp), if_neg (by rw [show dR (z, ps, e, es) = true from h2]; simp), if_pos (by omega)]
  have r4 : kRight ds = true → dRight z ps e es = true → ¬ 0 < kFind ds (z, ps, e, es) → 60 ≤ n → kAdd ds (z, ps, e, es) = ([], 0, 53) := fun h h2 h3 h4 => by unfold kAdd; rw [if_neg (by rw [h]; simp), if_neg (by rw [show dR (z, ps, e, es) = true from h2]; simp), if_neg (by omega), if_pos (by omega)]
  have r5 : kRight ds = true → dRight z ps e es = true → ¬ 0 < kFind ds (z, ps, e, es) → ¬ 60 ≤ n → kAdd ds (z, ps, e, es) = (ds ++ [(z, ps, e, es)], n + 1, 0) := fun h h2 h3 h4 => by unfold kAdd; rw [if_neg (by rw [h]; simp), if_neg (by rw [show dR (z, ps, e, es) = true from h2]; simp), if_neg (by omega), if_neg (by omega), hlen]
  have hno := kNo_iff ds
  have hchk := check_any A n c ds (w.alloc (descO z P m c' e Q q f)) (hR.ext hx) hs hn (tab_ext ht hx)
  have hright := fun w1 h1 h2 => dright_any z e P Q m c' q f ps es w1 h1 h2 hm hq
  have hfind := fun w1 h0 h1 h2 => kfind_any A n c ds (z, ps, e, es) P Q m c' q f w1 h0 hs hn h1 h2 hd
  have hj0 := fun w1 h0 => join_any A none n c 0 0 ds [] w1 h0 RowD.none_ hs Sm.nil hn (by omega)
  have hj1 := fun B w1 h0 h1 => join_any A B n c 1 1 ds [(z, ps, e, es)] w1 h0 h1 hs (fun x hx => by rw [List.mem_singleton.1 hx]; exact hd) hn (by omega)
  rw [List.append_nil] at hj0
  have hro := rowD_one
  generalize kAdd ds (z, ps, e, es) = r at *
  generalize kFind ds (z, ps, e, es) = kf at *
  generalize dRight z ps e es = rt at *
  have R1 := Lib.hid r1
  have R2 := Lib.hid r2
  have R3 := Lib.hid r3
  have R4 := Lib.hid r4
  have R5 := Lib.hid r5
  have NO := Lib.hid hno
  have HCH := Lib.hid hchk
  have HRI := Lib.hid hright
  have HFI := Lib.hid hfind
  have HJ0 := Lib.hid hj0
  have HJ1 := Lib.hid hj1
  have HT := Lib.hid (tab_ext ht hx)
  have HE := Lib.hid (hE.ext hx)
  have HR := Lib.hid (hR.ext hx)
  have HP := Lib.hid (hP.ext hx)
  have HQ := Lib.hid (hQ.ext hx)
  have HB := Lib.hid hx
  have H1 := Lib.hid h1
  clear r1 r2 r3 r4 r5 hno hchk hright hfind hj0 hj1 ht hE hR hP hQ hx h1 hlen hl1 hl2 hd hs
  go_enter Tryz.func22, Tryz.ntmps22
  go_wp2_with fail
  generalize w.alloc (descO z P m c' e Q q f) = W0 at *
  refine HCH.out.mono ?_
  rintro x w1 ⟨v, rfl, hv, hb1⟩
  replace HE := Lib.hid (HE.out.ext hb1)
  replace HR := Lib.hid (HR.out.ext hb1)
  replace HP := Lib.hid (HP.out.ext hb1)
  replace HQ := Lib.hid (HQ.out.ext hb1)
  replace H1 := Lib.hid (H1.out.ext hb1)
  replace HB := Lib.hid (below_le HB.out hb1)
  clear hb1 HCH HT
  rcases NO.out with ⟨hk, hkr⟩ | ⟨hk, hkr⟩
  case inr =>
    rw [hk] at hv
    obtain rfl := R1.out hkr
    clear hk hkr
    have HV := Lib.hid (number_kinds 50 v w1 hv HE.out)
    rcases hv with ⟨h0, -⟩ | ⟨-, t, u, rfl, -, -⟩
    · cases h0
    · go_wp2_with fail
      refine HV.out.mono ?_
      rintro x w2 ⟨rfl, hb2⟩
      replace HB := Lib.hid (below_le HB.out hb2)
      clear hb2 HV
      go_wp2
      go_ret3
      exact GivesK.none_ 0 50 HB.out
  case inl =>
    rw [hk] at hv
    rcases hv with ⟨-, rfl⟩ | ⟨h0, -⟩
    case inr => exact absurd rfl h0
    have HKR := Lib.hid hkr
    clear hk hkr
    have a0 := H1.out.at_ (i := 0) rfl
    have a1 := H1.out.at_ (i := 1) rfl
    have a2 := H1.out.at_ (i := 2) rfl
    have a3 := H1.out.at_ (i := 3) rfl
    go_wp2_with fail
    refine (HRI.out w1 HP.out HQ.out).mono ?_
    rintro x w2 ⟨rfl, hb2⟩
    replace a0 := cell_ext hb2 a0; replace a1 := cell_ext hb2 a1; replace a2 := cell_ext hb2 a2; replace a3 := cell_ext hb2 a3; replace HR := Lib.hid (HR.out.ext hb2); replace HP := Lib.hid (HP.out.ext hb2); replace HQ := Lib.hid (HQ.out.ext hb2)
    replace HE := Lib.hid (HE.out.ext hb2)
    replace HB := Lib.hid (below_le HB.out hb2)
    clear hb2 HRI H1
    cases rt
    · obtain rfl := R2.out HKR.out rfl
      clear R1 R2 R3 R4 R5 HJ0 HJ1 HFI
      go_wp2_with fail
      refine (refuse_kinds _ 40 (by decide) w2).mono ?_
      rintro x w3 ⟨v, rfl, hv, hb3⟩
      have HV := Lib.hid (number_kinds 40 v w3 hv (HE.out.ext hb3))
      replace HB := Lib.hid (below_le HB.out hb3)
      clear hb3 hv
      go_wp2_with fail
      refine HV.out.mono ?_
      rintro x w4 ⟨rfl, hb4⟩
      replace HB := Lib.hid (below_le HB.out hb4)
      clear hb4 HV
      go_wp2
      go_ret3
      exact GivesK.none_ 0 40 HB.out
    · go_wp2_with fail
      refine (HFI.out w2 HR.out HP.out HQ.out).mono ?_
      rintro x w3 ⟨rfl, hb3⟩
      replace a0 := cell_ext hb3 a0; replace a1 := cell_ext hb3 a1; replace a2 := cell_ext hb3 a2; replace a3 := cell_ext hb3 a3; replace HR := Lib.hid (HR.out.ext hb3); replace HP := Lib.hid (HP.out.ext hb3); replace HQ := Lib.hid (HQ.out.ext hb3)
      replace HE := Lib.hid (HE.out.ext hb3)
      replace HB := Lib.hid (below_le HB.out hb3)
      clear hb3 HFI
      by_cases hf : 0 < kf
      · obtain rfl := R3.out HKR.out trivial hf
        rw [decide_eq_true hf]
        clear R1 R2 R3 R4 R5 HJ1 hf
        go_wp2_with fail
        refine (HJ0.out w3 HR.out).mono ?_
        rintro x w4 ⟨B, k, d, rfl, hB, hfar, hb4, -⟩
        have HF := Lib.hid (show ∀ a, B = some a → w.heap.size ≤ a.block from fun a e => Nat.le_trans HB.out.size (hfar a e))
        have HBR := Lib.hid hB
        replace HB := Lib.hid (below_le HB.out hb4)
        clear hb4 hB hfar HJ0
        go_wp2
        go_ret3
        exact ⟨B, k, d, rfl, HBR.out, HF.out, HB.out⟩
      · rw [decide_eq_false hf]
        by_cases h60 : 60 ≤ n
        · obtain rfl := R4.out HKR.out trivial hf h60
          clear R1 R2 R3 R4 R5 HJ0 HJ1 hf
          go_wp2_with fail
          refine (refuse_kinds _ 53 (by decide) w3).mono ?_
          rintro x w4 ⟨v, rfl, hv, hb4⟩
          have HV := Lib.hid (number_kinds 53 v w4 hv (HE.out.ext hb4))
          replace HB := Lib.hid (below_le HB.out hb4)
          clear hb4 hv
          go_wp2_with fail
          refine HV.out.mono ?_
          rintro x w5 ⟨rfl, hb5⟩
          replace HB := Lib.hid (below_le HB.out hb5)
          clear hb5 HV
          go_wp2
          go_ret3
          exact GivesK.none_ 0 53 HB.out
        · obtain rfl := R5.out HKR.out trivial hf h60
          clear R1 R2 R3 R4 R5 HJ0 hf
          go_wp2_with fail
          have hy := below_box w3 (descO z P m c' e Q q f)
          have hro1 := hro w3 z P m c' e Q q f ps es HP.out HQ.out
          have HRO := Lib.hid hro1
          replace HR := Lib.hid (HR.out.ext hy)
          replace HB := Lib.hid (below_le HB.out hy)
          clear hy hro1 hro
          refine (HJ1.out _ _ HR.out HRO.out).mono ?_
          rintro x w4 ⟨B, k, d, rfl, hB, hfar, hb4, -⟩
          have HF := Lib.hid (show ∀ a, B = some a → w.heap.size ≤ a.block from fun a e => Nat.le_trans HB.out.size (hfar a e))
          have HBR := Lib.hid hB
          replace HB := Lib.hid (below_le HB.out hb4)
          clear hb4 hB hfar HJ1 HRO HR HP HQ
          go_wp2
          go_ret3
          exact ⟨B, k, d, by simp, HBR.out, HF.out, HB.out⟩

/-- A descriptor, and what is told. -/
def GivesOf (w : World) (r : DscK × Nat) (x : Ending) (w' : World) : Prop :=
  ∃ v, x = .returned (.tuple #[v, .int .i64 (r.2 : Nat)]) ∧ DescIs 0 w' v r.1.1 r.1.2.1 r.1.2.2.1 r.1.2.2.2 ∧ Below w.heap.size w w'

set_option maxRecDepth 100000 in
set_option maxHeartbeats 4000000 in
/-- Of. -/
theorem of_any (A : Option Addr) (n c : Nat) (ds : List DscK) (kind : Int) (w : World) (hR : RowD w A n ds) (hs : Sm ds) (hn : n ≤ 1000) (ht : Tab w) (hE : EType w) :
    Calls Tryz.prog 17 #[.slice A n c, .int .i64 kind] w (GivesOf w (kOf ds kind)) := by
  have hlen := hR.1
  have hx := below_box w (descO 0 none 0 0 0 none 0 0)
  have h1 : Blk (w.alloc (descO 0 none 0 0 0 none 0 0)) w.heap.size 35 #[.int .i64 0, .slice none 0 0, .int .i64 0, .slice none 0 0] := Blk.new _ _ _
  have r1 : kRight ds = false → kOf ds kind = (dsc0K, 50) := fun h => by unfold kOf; rw [if_pos h]
  have r2 : kRight ds = true → (kind < 1 ∨ (n : Int) < kind) → kOf ds kind = (dsc0K, 51) := fun h h2 => by unfold kOf; rw [if_neg (by rw [h]; simp), if_pos (by rw [hlen]; exact h2)]
  have r3 : kRight ds = true → ∀ (k : Nat) (d : DscK), kind = (k : Int) + 1 → ds[k]? = some d → kOf ds kind = (d, 0) := fun h k d h2 h3 => by
    rw [h2]
    exact kOf_at (n := k + 1) h (by omega) h3
  have hno := kNo_iff ds
  have hchk := check_any A n c ds (w.alloc (descO 0 none 0 0 0 none 0 0)) (hR.ext hx) hs hn (tab_ext ht hx)
  generalize kOf ds kind = r at *
  have R1 := Lib.hid r1
  have R2 := Lib.hid r2
  have R3 := Lib.hid r3
  have NO := Lib.hid hno
  have HCH := Lib.hid hchk
  have HE := Lib.hid (hE.ext hx)
  have HR := Lib.hid (hR.ext hx)
  have HS := Lib.hid hs
  have HB := Lib.hid hx
  have H1 := Lib.hid h1
  clear r1 r2 r3 hno hchk ht hE hR hx h1 hlen hs
  go_enter Tryz.func17, Tryz.ntmps17
  go_wp2_with fail
  generalize w.alloc (descO 0 none 0 0 0 none 0 0) = W0 at *
  refine HCH.out.mono ?_
  rintro x w1 ⟨v, rfl, hv, hb1⟩
  replace HE := Lib.hid (HE.out.ext hb1)
  replace HR := Lib.hid (HR.out.ext hb1)
  replace H1 := Lib.hid (H1.out.ext hb1)
  replace HB := Lib.hid (below_le HB.out hb1)
  clear hb1 HCH
  rcases NO.out with ⟨hk, hkr⟩ | ⟨hk, hkr⟩
  case inr =>
    rw [hk] at hv
    obtain rfl := R1.out hkr
    clear hk hkr
    have HV := Lib.hid (number_kinds 50 v w1 hv HE.out)
    rcases hv with ⟨h0, -⟩ | ⟨-, t, u, rfl, -, -⟩
    · cases h0
    · go_wp2_with fail
      refine HV.out.mono ?_
      rintro x w2 ⟨rfl, hb2⟩
      have h2 := H1.out.ext hb2
      have HB2 := Lib.hid (below_le HB.out hb2)
      clear hb2 HV HB H1
      have c0 := h2.at_ (i := 0) rfl
      have c1 := h2.at_ (i := 1) rfl
      have c2 := h2.at_ (i := 2) rfl
      have c3 := h2.at_ (i := 3) rfl
      have f0 := h2.frozen 0
      have f1 := h2.frozen 1
      have f2 := h2.frozen 2
      have f3 := h2.frozen 3
      have H9 := Lib.hid (h2.set4 (.int .i64 0) (.slice none 0 0) (.int .i64 0) (.slice none 0 0))
      have HB9 := Lib.hid (below_set4 HB2.out (Nat.le_refl _) (.int .i64 0) (.slice none 0 0) (.int .i64 0) (.slice none 0 0))
      clear h2
      go_wp2
      have q0 := H9.out.at_ (i := 0) rfl
      have q1 := H9.out.at_ (i := 1) rfl
      have q2 := H9.out.at_ (i := 2) rfl
      have q3 := H9.out.at_ (i := 3) rfl
      exact bodyPost_ret (v := .tuple #[descV 0 none 0 0 0 none 0 0, .int .i64 50]) (by simp [results, Tryz.results17, go_sem, q0, q1, q2, q3]) rfl ⟨_, rfl, DescIs.none_ _ _, HB9.out⟩
  case inl =>
    rw [hk] at hv
    rcases hv with ⟨-, rfl⟩ | ⟨h0, -⟩
    case inr => exact absurd rfl h0
    have HKR := Lib.hid hkr
    clear hk hkr
    by_cases hbad : kind < 1 ∨ (n : Int) < kind
    · obtain rfl := R2.out HKR.out hbad
      have hgt : (decide (kind < 1) = true) ∨ (decide (kind < 1) = false ∧ (n : Int) < kind) := by
        by_cases h : kind < 1
        · exact .inl (decide_eq_true h)
        · exact .inr ⟨decide_eq_false h, by omega⟩
      clear hbad
      rcases hgt with hlt | ⟨hlt, hgt⟩
      · go_wp2_with fail
        refine (refuse_kinds _ 51 (by decide) w1).mono ?_
        rintro x w2 ⟨v, rfl, hv, hb2⟩
        have HV := Lib.hid (number_kinds 51 v w2 hv (HE.out.ext hb2))
        have H2 := Lib.hid (H1.out.ext hb2)
        replace HB := Lib.hid (below_le HB.out hb2)
        clear hb2 hv H1
        go_wp2_with fail
        refine HV.out.mono ?_
        rintro x w3 ⟨rfl, hb3⟩
        have h2 := H2.out.ext hb3
        have HB2 := Lib.hid (below_le HB.out hb3)
        clear hb3 HV HB H2
        have c0 := h2.at_ (i := 0) rfl
        have c1 := h2.at_ (i := 1) rfl
        have c2 := h2.at_ (i := 2) rfl
        have c3 := h2.at_ (i := 3) rfl
        have f0 := h2.frozen 0
        have f1 := h2.frozen 1
        have f2 := h2.frozen 2
        have f3 := h2.frozen 3
        have H9 := Lib.hid (h2.set4 (.int .i64 0) (.slice none 0 0) (.int .i64 0) (.slice none 0 0))
        have HB9 := Lib.hid (below_set4 HB2.out (Nat.le_refl _) (.int .i64 0) (.slice none 0 0) (.int .i64 0) (.slice none 0 0))
        clear h2
        go_wp2
        have q0 := H9.out.at_ (i := 0) rfl
        have q1 := H9.out.at_ (i := 1) rfl
        have q2 := H9.out.at_ (i := 2) rfl
        have q3 := H9.out.at_ (i := 3) rfl
        exact bodyPost_ret (v := .tuple #[descV 0 none 0 0 0 none 0 0, .int .i64 51]) (by simp [results, Tryz.results17, go_sem, q0, q1, q2, q3]) rfl ⟨_, rfl, DescIs.none_ _ _, HB9.out⟩
      · go_wp2_with fail
        refine (refuse_kinds _ 51 (by decide) w1).mono ?_
        rintro x w2 ⟨v, rfl, hv, hb2⟩
        have HV := Lib.hid (number_kinds 51 v w2 hv (HE.out.ext hb2))
        have H2 := Lib.hid (H1.out.ext hb2)
        replace HB := Lib.hid (below_le HB.out hb2)
        clear hb2 hv H1
        go_wp2_with fail
        refine HV.out.mono ?_
        rintro x w3 ⟨rfl, hb3⟩
        have h2 := H2.out.ext hb3
        have HB2 := Lib.hid (below_le HB.out hb3)
        clear hb3 HV HB H2
        have c0 := h2.at_ (i := 0) rfl
        have c1 := h2.at_ (i := 1) rfl
        have c2 := h2.at_ (i := 2) rfl
        have c3 := h2.at_ (i := 3) rfl
        have f0 := h2.frozen 0
        have f1 := h2.frozen 1
        have f2 := h2.frozen 2
        have f3 := h2.frozen 3
        have H9 := Lib.hid (h2.set4 (.int .i64 0) (.slice none 0 0) (.int .i64 0) (.slice none 0 0))
        have HB9 := Lib.hid (below_set4 HB2.out (Nat.le_refl _) (.int .i64 0) (.slice none 0 0) (.int .i64 0) (.slice none 0 0))
        clear h2
        go_wp2
        have q0 := H9.out.at_ (i := 0) rfl
        have q1 := H9.out.at_ (i := 1) rfl
        have q2 := H9.out.at_ (i := 2) rfl
        have q3 := H9.out.at_ (i := 3) rfl
        exact bodyPost_ret (v := .tuple #[descV 0 none 0 0 0 none 0 0, .int .i64 51]) (by simp [results, Tryz.results17, go_sem, q0, q1, q2, q3]) rfl ⟨_, rfl, DescIs.none_ _ _, HB9.out⟩
    · obtain ⟨k, rfl⟩ : ∃ k : Nat, kind = (k : Int) + 1 := ⟨(kind - 1).toNat, by omega⟩
      have hkn : k < n := by omega
      obtain ⟨b, off, z, P, m, c', e, Q, q, f, ps, es, rfl, hd, p1, p2, d0, d1, d2, d3⟩ := HR.out.get hkn
      obtain rfl := R3.out HKR.out k _ rfl hd
      have hsm := HS.out _ (List.mem_of_getElem? hd)
      have e1 : (k : Int) + 1 - 1 = (k : Int) := by omega
      have g1 : decide ((k : Int) + 1 < 1) = false := decide_eq_false (by omega)
      have g2 : decide ((n : Int) < (k : Int) + 1) = false := decide_eq_false (by omega)
      have hjn := fun B W h => join_any none B 0 0 1 1 [] [(z, ps, e, es)] W RowD.none_ h Sm.nil (fun x hx => by rw [List.mem_singleton.1 hx]; exact hsm) (by omega) (by omega)
      have HJN := Lib.hid hjn
      have HRO := Lib.hid (rowD_one w1 z P m c' e Q q f ps es p1 p2)
      have HY := Lib.hid (below_box w1 (descO z P m c' e Q q f))
      clear hbad R1 R2 R3 hjn hsm hd p1 p2 HR NO
      go_wp2_with fail
      clear d0 d1 d2 d3
      refine (HJN.out _ _ HRO.out).mono ?_
      rintro x w2 ⟨B, kk, dd, rfl, -, hfar, hb2, ms, hB, hint⟩
      have hk1 : kk = 1 := hB.1.symm
      subst hk1
      rw [List.nil_append] at hB
      obtain ⟨b2, off2, z2, P2, m2, cP, y2, Q2, qq, fQ, ps2, es2, rfl, hms, hd, p1, p2, d0, d1, d2, d3⟩ := hB.get (k := 0) (by omega)
      simp only [List.getElem?_cons_zero, Option.some.injEq, Prod.mk.injEq] at hd
      obtain ⟨rfl, rfl, rfl, rfl⟩ := hd
      have hint2 := hint _ (List.mem_of_getElem? hms)
      simp only [Nat.zero_mul, Nat.add_zero] at d0 d1 d2 d3
      have hne : b2 ≠ w.heap.size := by
        have h1 := hfar _ rfl
        have h2 := HY.out.size
        have h3 := (H1.out.lt : w.heap.size < w1.heap.size)
        dsimp only at h1
        omega
      have h2 := (H1.out.ext (below_le HY.out hb2))
      have HB2 := Lib.hid (below_le HB.out (below_le HY.out hb2))
      have HP1 := Lib.hid p1
      have HP2 := Lib.hid p2
      have HI := Lib.hid (show ∀ b ∈ blkR P2 m2 ++ blkR Q2 qq, b ≠ w.heap.size from fun b hb e => by
        obtain ⟨cs, hcs⟩ := hint2 b hb
        subst e
        unfold Blk at hcs
        have h2' : w2.heap[w.heap.size]? = _ := h2
        rw [hcs] at h2'
        injection h2' with h2'
        injection h2' with _ h2'
        exact absurd h2' (by decide))
      clear hb2 hfar hB HRO HJN HY HB H1 p1 p2 hint hint2 hms
      have c0 := h2.at_ (i := 0) rfl
      have c1 := h2.at_ (i := 1) rfl
      have c2 := h2.at_ (i := 2) rfl
      have c3 := h2.at_ (i := 3) rfl
      have f0 := h2.frozen 0
      have f1 := h2.frozen 1
      have f2 := h2.frozen 2
      have f3 := h2.frozen 3
      have H9 := Lib.hid (h2.set4 (.int .i64 z) (.slice P2 m2 cP) (.int .i64 e) (.slice Q2 qq fQ))
      have HB9 := Lib.hid (below_set4 HB2.out (Nat.le_refl _) (.int .i64 z) (.slice P2 m2 cP) (.int .i64 e) (.slice Q2 qq fQ))
      clear h2
      go_wp2
      have q0 := H9.out.at_ (i := 0) rfl
      have q1 := H9.out.at_ (i := 1) rfl
      have q2 := H9.out.at_ (i := 2) rfl
      have q3 := H9.out.at_ (i := 3) rfl
      have hk : KeepB (blkR P2 m2 ++ blkR Q2 qq) w2 ((((w2.setCell ⟨w.heap.size, 0, none⟩ (.int .i64 z)).setCell ⟨w.heap.size, 1, none⟩ (.slice P2 m2 cP)).setCell ⟨w.heap.size, 2, none⟩ (.int .i64 e)).setCell ⟨w.heap.size, 3, none⟩ (.slice Q2 qq fQ)) := fun b hb => heap_set4 w2 (HI.out b hb) _ _ _ _
      exact bodyPost_ret (v := .tuple #[descV z P2 m2 cP e Q2 qq fQ, .int .i64 0]) (by simp [results, Tryz.results17, go_sem, q0, q1, q2, q3]) rfl ⟨_, rfl, ⟨P2, m2, cP, Q2, qq, fQ, rfl, hk.rowR HP1.out (fun b hb => List.mem_append_left _ hb), hk.rowR HP2.out (fun b hb => List.mem_append_right _ hb), fun _ _ => Nat.zero_le _, fun _ _ => Nat.zero_le _⟩, HB9.out⟩
end Go.Proofs.YtmabokmnniiadaaGreatDoor
namespace Go.Proofs.YtmabokmnniiadaaGreatDoor
open Go.RowKit Go.Shelf
attribute [local go_sem] Oper.semAt_some

/-- A line, and whether it has an end. -/
def lineV (L : List (List UInt8 × Bool)) (i : Nat) : Array Value := #[.string ⟨(L.getD i ([], false)).1.toArray⟩, .bool (L.getD i ([], false)).2]
abbrev StopsL (n f : Nat) (lb : Array Value) (L : List (List UInt8 × Bool)) (w : World) : Prop :=
  SeqStopsK Fence.wide n Tryz.prog f lb (fun x : Fin L.length => lineV L x.1) (KeepB [1]) (fun ys => ys = List.finRange L.length) (fun pre => ∃ k, k ≤ L.length ∧ pre = (List.finRange L.length).take k) L.length w
theorem KeepB.mlen {X Y : World} (h : KeepB [1] X Y) (hM : MLen X) : MLen Y := by
  obtain ⟨m, hm⟩ := hM
  exact ⟨m, h.cell (by simp) hm⟩
def strSize : Value → Nat
  | .string s => s.size
  | _ => 0
/-- A round's line. -/
theorem lines_step {f : Nat} {r : List UInt8} {L : List (List UInt8 × Bool)} {k : Nat} (h : L.drop k = linesOf f r) (hf : r.length < f) (hr : r ≠ []) :
    k < L.length ∧ L.getD k ([], false) = ((Lib.cut r [10]).1, (Lib.cut r [10]).2.2) ∧ (∃ f', (Lib.cut r [10]).2.1.length < f' ∧ L.drop (k + 1) = linesOf f' (Lib.cut r [10]).2.1) ∧ (Lib.cut r [10]).2.1.length < r.length := by
  obtain ⟨f, rfl⟩ : ∃ g, f = g + 1 := ⟨f - 1, by omega⟩
  have hp : 0 < r.length := List.length_pos_iff.2 hr
  have hlt : (Lib.cut r [10]).2.1.length < r.length := by
    obtain ⟨a, b, e, hc⟩ : ∃ a b e, Lib.cut r [10] = (a, b, e) := ⟨_, _, _, rfl⟩
    rw [hc]
    cases e with
    | true =>
      have := congrArg List.length (cut_some hc)
      simp at this ⊢
      omega
    | false =>
      rw [(cut_noneK hc).2]
      simpa using hp
  rw [linesOf, if_neg hr] at h
  have hk : k < L.length := by
    have := congrArg List.length h
    simp at this
    omega
  rw [List.drop_eq_getElem_cons hk] at h
  injection h with h1 h2
  refine ⟨hk, ?_, ⟨f, by omega, h2⟩, hlt⟩
  rw [List.getD_eq_getElem?_getD, List.getElem?_eq_getElem hk, h1]
  rfl
theorem lines_end {f : Nat} {L : List (List UInt8 × Bool)} {k : Nat} (h : L.drop k = linesOf f []) (hk : k ≤ L.length) : k = L.length := by
  have : (linesOf f []).length = 0 := by cases f <;> simp [linesOf]
  have h2 := congrArg List.length h
  rw [this] at h2
  simp at h2
  omega

set_option maxRecDepth 100000 in
set_option maxHeartbeats 2000000 in
theorem lines1_in (n : Nat) (s : ByteArray) (L : List (List UInt8 × Bool)) (bb y : Nat) (hs : s.size ≤ 1000000) (hL : L = linesOf (s.data.toList.length + 1) s.data.toList) (J Jx : List (Fin L.length) → World → Prop) (W : World) (hJ : AbidesFrom W.heap.size J)
    (hY : ∀ pre x W, J pre W → pre.length < L.length → YieldAt Fence.wide (n - 1) Tryz.prog y (lineV L x.1) W fun e W' =>
      (e = .returned (.bool true) ∧ J (pre ++ [x]) W' ∧ KeepB [1] W W') ∨ (e = .returned (.bool false) ∧ Jx (pre ++ [x]) W'))
    (hc : W.cell? ⟨bb, 0, none⟩ = some (.string s)) (hM : MLen W) (h0 : J [] W) :
    CallsIn Fence.wide n Tryz.prog 57 #[.func (.yield y) #[] #[], .pointer (some ⟨bb, 0, none⟩)] W (SeqEnd (fun ys => ys = List.finRange L.length) (fun pre => ∃ k, k ≤ L.length ∧ pre = (List.finRange L.length).take k) J Jx) := by
  have HM := Lib.hid hM
  have HJ := Lib.hid hJ
  have HL := Lib.hid hL
  clear hM hJ hL
  refine callsIn_of_wp Tryz.func57 rfl trivial ?_ rfl
  simp only [Tryz.ntmps57, List.size_toArray, List.length_cons, List.length_nil, Nat.reduceAdd, Nat.reduceSub, Array.replicate_succ, Array.replicate_zero, List.push_toArray, List.append_toArray, List.nil_append, List.cons_append]
  gi_wp2
  gi_loopw [3] (fun rv wr => ∃ (k f : Nat) (r : ByteArray), k ≤ L.length ∧ rv = .string r ∧ r.size ≤ s.size ∧ r.data.toList.length < f ∧ L.drop k = linesOf f r.data.toList ∧ J ((List.finRange L.length).take k) wr ∧ KeepB [1] W wr)
    (fun rv _ => strSize rv)
  case atStart => exact ⟨0, _, s, Nat.zero_le _, rfl, Nat.le_refl _, Nat.lt_succ_self _, HL.out, h0, KeepB.refl _ _⟩
  case round =>
    obtain ⟨k, f, r, hk, rfl, hrs, hrf, hdr, hJs, hkp⟩ := hrel
    have HK := Lib.hid hkp
    have HJs := Lib.hid hJs
    by_cases hr : r = ⟨#[]⟩
    · subst hr
      have HKL := Lib.hid (lines_end hdr hk)
      clear hkp hJs hdr hrf hrs
      gi_wp2
      go_end0
      refine ⟨⟨_, rfl⟩, .inl ⟨_, rfl, ?_⟩⟩
      have := HJs.out
      rwa [HKL.out, fin_take_all] at this
    · have hrn : r.data.toList ≠ [] := fun e => hr (by
        apply ByteArray.ext
        simpa using e)
      obtain ⟨hkN, hg, ⟨f', hf', hdr'⟩, hlt⟩ := lines_step hdr hrf hrn
      obtain ⟨ml, hml⟩ := hkp.mlen HM.out
      have hcall := Tryz.strings_Cut r ⟨#[10]⟩ ml wr (by omega) hml
      obtain ⟨a, b, e, hcu⟩ : ∃ a b e, Lib.cut r.data.toList [10] = (a, b, e) := ⟨_, _, _, rfl⟩
      change Calls _ _ _ _ (fun e w' => e = .returned (.tuple #[.string ⟨(Lib.cut r.data.toList [10]).1.toArray⟩, .string ⟨(Lib.cut r.data.toList [10]).2.1.toArray⟩, .bool (Lib.cut r.data.toList [10]).2.2]) ∧ ∃ n, w' = wr.drewN n) at hcall
      rw [hcu] at hcall hg hf' hdr' hlt
      dsimp only at hcall hg hf' hdr' hlt
      have hrl : r.data.toList.length = r.size := by simp
      have HC := Lib.hid hcall
      have HDR := Lib.hid hdr'
      have HFF := Lib.hid hf'
      have HLT := Lib.hid (show b.length < r.size by omega)
      have HRS := Lib.hid hrs
      have HG := Lib.hid hg
      have hne : r.toList.isEmpty = false := by
        rw [empty_bytes]
        cases h : r.data.toList with
        | nil => exact absurd h hrn
        | cons _ _ => rfl
      clear hkp hcall hdr' hf' hlt hdr hrf hrn hr hg hcu hrl hml hrs
      gi_wp2_with fail
      refine ⟨trivial, fun h => by simp [Fence.wide] at h, (callsIn_wide.2 HC.out).mono ?_⟩
      rintro x w' ⟨rfl, nd, rfl⟩
      have hx := below_drewN (Below.refl wr.heap.size wr) nd
      have hJ2 := HJ.out _ _ (wr.drewN nd) none HJs.out ⟨hx.os, hx.tape, hx.output, hx.size, fun i hi _ => hx.block i hi⟩ (fun r e => by cases e)
      have hk2 := HK.out.t (show KeepB [1] wr (wr.drewN nd) from fun b hb => rfl)
      have HK2 := Lib.hid hk2
      obtain ⟨fn, tmps, assign, body, hy, hRy⟩ := hY _ ⟨k, hkN⟩ _ hJ2 (by simp; omega)
      dsimp only [lineV] at hy hRy
      rw [HG.out] at hy
      dsimp only at hy
      have HRy := Lib.hid hRy
      clear hRy hJs hx hJ2 hk2 HC hne
      generalize wr.drewN nd = W2 at *
      gi_wp2
      refine ⟨fun h => by simp [Fence.wide] at h, HRy.out.mono ?_⟩
      rintro e' W3 (⟨rfl, hJ4, hk4⟩ | ⟨rfl, hJx4⟩)
      · have HJ4 := Lib.hid hJ4
        have HK4 := Lib.hid hk4
        clear hJ4 hk4
        gi_wp2
        go_roundw
        case rel => exact ⟨k + 1, f', ⟨b.toArray⟩, hkN, rfl, by rw [size_list]; have := HLT.out; have := HRS.out; omega, HFF.out, HDR.out, by rw [fin_take_succ _ _ hkN]; exact HJ4.out, HK2.out.t HK4.out⟩
        case measure =>
          show (⟨b.toArray⟩ : ByteArray).size < r.size
          rw [size_list]
          exact HLT.out
      · have HJx4 := Lib.hid hJx4
        clear hJx4
        gi_wp2
        refine bodyPost_ret (results_none rfl _ _ _) rfl ?_
        exact ⟨⟨_, rfl⟩, .inr ⟨_, ⟨k + 1, by omega, rfl⟩, by rw [fin_take_succ _ _ hkN]; exact HJx4.out⟩⟩

theorem lines1_stops (n : Nat) (s : ByteArray) (L : List (List UInt8 × Bool)) (bb : Nat) (hs : s.size ≤ 1000000) (hL : L = linesOf (s.data.toList.length + 1) s.data.toList) (w : World) (hc : w.cell? ⟨bb, 0, none⟩ = some (.string s)) (hM : MLen w) :
    StopsL n 57 #[.pointer (some ⟨bb, 0, none⟩)] L w := fun y J Jx W hW hJ _ hY h0 =>
  lines1_in n s L bb y hs hL J Jx W hJ hY (cell_ext hW hc) (hM.ext hW) h0

set_option maxHeartbeats 400000 in
theorem lines_any (s : ByteArray) (w : World) :
    Calls Tryz.prog 39 #[.string s] w fun e w' => e = .returned (.func (.func 57) #[] #[.pointer (some ⟨w.heap.size, 0, none⟩)]) ∧ w.alloc (.cells #[.string s] 9) = w' := by
  go_enter Tryz.func39, Tryz.ntmps39
  go_wp2
  go_ret
  exact ⟨rfl, rfl⟩
end Go.Proofs.YtmabokmnniiadaaGreatDoor
namespace Go.Proofs.YtmabokmnniiadaaGreatDoor
open Go.RowKit

theorem TabAt.line_ {w : World} {base mt top g : Nat} {line : Int} {ds : List DscK} (h : TabAt w base mt top g line ds) (l' : Int) : TabAt (w.setCell ⟨g, 2, none⟩ (.int .i64 l')) base mt top g l' ds := by
  obtain ⟨lv, M, ms, D, h1, h2, h3, h4, h5, h6, h7, h8⟩ := h
  have hs := grown_set w g 2 (.int .i64 l')
  exact ⟨lv, M, ms, D, by simpa using h1.set_ 2 (.int .i64 l'), own_grown h2 hs (own_neD h2 h1 (by decide)), h3, fun k d x a b => (h4 k d x a b).grown hs (fun b' hb' e => (h5 d (List.mem_of_getElem? a) b' hb').1 (Option.some.inj e)), h5, h6.kept hs (by intro e; injection e with e; exact map_ne h6 h1 e.symm), h7, h8⟩
theorem TabAt.own_ {w : World} {base mt top g : Nat} {line : Int} {ds : List DscK} (h : TabAt w base mt top g line ds) : ∃ lv M, Blk w g 68 #[lv, .map (some M), .int .i64 line] ∧ base ≤ g ∧ g < mt := by
  obtain ⟨lv, M, ms, D, h1, h2, h3, h4, h5, h6, h7, h8, h9, h10, h11⟩ := h
  exact ⟨lv, M, h1, h8, h10⟩
theorem readK_take {ds : List DscK} {s : List UInt8} {d : DscK} (h : readT s = some d) : readK ds (s, true) = (if takeC ds d = 0 then ds ++ [d] else ds, takeC ds d) := by
  unfold readK takeC
  simp only [Bool.true_eq_false, if_false, h]
  by_cases h1 : d ∈ ds
  · simp [h1]
  · by_cases h2 : 60 ≤ ds.length
    · simp [h1, h2]
    · simp [h1, h2]

/-- A line was read. -/
def GivesRd (base mt g : Nat) (line : Int) (r : List DscK × Nat) (w : World) (y : Ending) (w' : World) : Prop :=
  ∃ v, y = .returned v ∧ ErrV_kinds w' r.2 v ∧ TabAt w' base mt w'.heap.size g (line + 1) r.1 ∧ Below base w w' ∧ KeepsT mt w w'

set_option maxRecDepth 100000 in
set_option maxHeartbeats 4000000 in
/-- read. -/
theorem kread_any {base mt top g : Nat} {line : Int} {ds : List DscK} (x : List UInt8 × Bool) (s : ByteArray) (w : World) (hT : TabAt w base mt top g line ds) (hmt : mt ≤ top) (htop : top ≤ w.heap.size) (hs : s.data.toList = x.1) (hsl : s.size ≤ 1000) (ha : ∀ d ∈ ds, dR d = true) (hn : ds.length ≤ 60)
    (hl0 : 0 ≤ line) (hl1 : line ≤ 10000000) (hM : ∀ W, Below base w W → MLen W) (hE : ∀ W, Below base w W → EType W) :
    Calls Tryz.prog 40 #[.pointer (some ⟨g, 0, none⟩), .string s, .bool x.2] w (GivesRd base mt g line (readK ds x) w) := by
  obtain ⟨xs, en⟩ := x
  dsimp only at hs ⊢
  subst hs
  obtain ⟨lv, M, h1, hg, hgm⟩ := hT.own_
  have c2 := h1.at_ (i := 2) rfl
  have f2 := h1.frozen 2
  have hT1 := hT.line_ (line + 1)
  have hb1 : Below base w (w.setCell ⟨g, 2, none⟩ (.int .i64 (line + 1))) := (Below.refl _ _).setCell (p := ⟨g, 2, none⟩) hg _
  have hk1 : KeepsT mt w (w.setCell ⟨g, 2, none⟩ (.int .i64 (line + 1))) := keepsT_set h1
  have hsz : w.heap.size ≤ (w.setCell ⟨g, 2, none⟩ (.int .i64 (line + 1))).heap.size := hb1.size
  have e0 : en = false → readK ds (s.data.toList, en) = (ds, 40) := fun e => by rw [e]; rfl
  have e1 : en = true → readT s.data.toList = none → readK ds (s.data.toList, en) = (ds, 40) := fun e h => by rw [e]; unfold readK; simp [h]
  have e2 : en = true → ∀ d, readT s.data.toList = some d → readK ds (s.data.toList, en) = (if takeC ds d = 0 then ds ++ [d] else ds, takeC ds d) ∧ dR d = true ∧ s.data.toList = dP d := fun e d h => by
    rw [e]
    exact ⟨readK_take h, (read_dR h).2, (read_dR h).1⟩
  have hpar := fun W h1 h2 => parse_any s W hsl h1 h2
  have hlw : s.data.toList.length = s.size := by simp
  generalize readK ds (s.data.toList, en) = r at *
  generalize readT s.data.toList = o at *
  have HT1 := Lib.hid hT1
  have HB1 := Lib.hid hb1
  have HK1 := Lib.hid hk1
  have E0 := Lib.hid e0
  have E1 := Lib.hid e1
  have E2 := Lib.hid e2
  have HP := Lib.hid hpar
  have HM := Lib.hid hM
  have HE := Lib.hid hE
  have HA := Lib.hid ha
  clear hT hT1 hb1 hk1 e0 e1 e2 hpar hM hE ha h1
  go_enter Tryz.func40, Tryz.ntmps40
  cases en with
  | false =>
    obtain rfl := E0.out rfl
    go_wp2_with fail
    clear c2 f2
    generalize w.setCell ⟨g, 2, none⟩ (.int .i64 (line + 1)) = W1 at *
    refine (refuse_kinds _ 40 (by decide) W1).mono ?_
    rintro y w2 ⟨v, rfl, hv, hb2⟩
    have HR : Hid (GivesRd base mt g line (ds, 40) w (.returned v) w2) := Lib.hid ⟨v, rfl, hv, (HT1.out.ext hb2).up (by have := hb2.size; omega), HB1.out.trans (hb2.mono (by omega)), HK1.out.trans (keepsT_below hb2)⟩
    clear hv hb2
    go_wp2
    go_ret
    exact HR.out
  | true =>
    go_wp2_with fail
    clear c2 f2
    generalize w.setCell ⟨g, 2, none⟩ (.int .i64 (line + 1)) = W1 at *
    refine (HP.out W1 (HM.out _ HB1.out) (HE.out _ HB1.out)).mono ?_
    rintro y w2 ⟨dv, rfl, ⟨P, m, c, Q, q, f, rfl, hP, hQ, hPf, hQf⟩, hb2⟩
    cases o with
    | none =>
      obtain rfl := E1.out trivial rfl
      have hx := below_box w2 (descO 0 P m c 0 Q q f)
      have HB2 := Lib.hid (below_le hb2 hx)
      clear hP hQ hPf hQf hb2 hx
      simp only [dsc0, Option.getD_none, Option.isSome_none, Bool.false_eq_true, if_false]
      go_wp2_with fail
      generalize w2.alloc (descO 0 P m c 0 Q q f) = W2 at *
      refine (refuse_kinds _ 40 (by decide) W2).mono ?_
      rintro y w3 ⟨v, rfl, hv, hb3⟩
      have hb := below_le HB2.out hb3
      have HR : Hid (GivesRd base mt g line (ds, 40) w (.returned v) w3) := Lib.hid ⟨v, rfl, hv, (HT1.out.ext hb).up (by have := hb.size; omega), HB1.out.trans (hb.mono (by omega)), HK1.out.trans (keepsT_below hb)⟩
      clear hv hb3 hb
      go_wp2
      go_ret
      exact HR.out
    | some d =>
      obtain ⟨hr, hdr, hsd⟩ := E2.out trivial d rfl
      clear E0 E1 E2
      obtain ⟨z, ps, e, es⟩ := d
      have hx := below_box w2 (descO z P m c e Q q f)
      have hbl : Blk (w2.alloc (descO z P m c e Q q f)) w2.heap.size 35 #[.int .i64 z, .slice P m c, .int .i64 e, .slice Q q f] := Blk.new _ _ _
      have hfar : ∀ b ∈ blkR P m ++ blkR Q q, b < base ∨ W1.heap.size ≤ b := fun b hb => .inr (by
        rcases List.mem_append.1 hb with hb | hb
        · unfold blkR at hb
          split at hb
          · cases P with
            | none => simp [blkA] at hb
            | some a => simp [blkA] at hb; subst hb; exact hPf a rfl
          · simp at hb
        · unfold blkR at hb
          split at hb
          · cases Q with
            | none => simp [blkA] at hb
            | some a => simp [blkA] at hb; subst hb; exact hQf a rfl
          · simp at hb)
      have hb22 := below_le hb2 hx
      have hcall := fun W (hb : Below (w2.alloc (descO z P m c e Q q f)).heap.size (w2.alloc (descO z P m c e Q q f)) W) => take_any (base := base) (mt := mt) (top := W1.heap.size) (g := g) (line := line + 1) (ds := ds) (z, ps, e, es) P Q m c q f s W (((HT1.out.ext hb22).ext hb).up (by omega)) (by omega) (by have := hb22.size; have := hb.size; omega) hsd (by omega) ((hP.ext hx).ext hb) ((hQ.ext hx).ext hb) hfar hdr HA.out (by omega)
      generalize takeC ds (z, ps, e, es) = tc at *
      generalize (if tc = 0 then ds ++ [(z, ps, e, es)] else ds) = L2 at *
      subst hr
      have HC := Lib.hid hcall
      have HB2 := Lib.hid hb22
      have t0 := fun x : Ext (w2.alloc (descO z P m c e Q q f)) => ext_cell (hbl.at_ (i := 0) rfl) x
      have t1 := fun x : Ext (w2.alloc (descO z P m c e Q q f)) => ext_cell (hbl.at_ (i := 1) rfl) x
      have t2 := fun x : Ext (w2.alloc (descO z P m c e Q q f)) => ext_cell (hbl.at_ (i := 2) rfl) x
      have t3 := fun x : Ext (w2.alloc (descO z P m c e Q q f)) => ext_cell (hbl.at_ (i := 3) rfl) x
      clear hP hQ hPf hQf hb2 hx hbl hfar hb22 hcall hsd hdr
      simp only [dsc0, Option.getD_some, Option.isSome_some, if_true]
      go_wp2_with fail
      generalize w2.alloc (descO z P m c e Q q f) = W2 at *
      refine wp_region_tail 5 (by kernel_rfl) (by kernel_rfl) ?_; simp only [List.take_succ_cons, List.take_zero, List.drop_succ_cons, List.drop_zero]
      repeat (first | (refine head_skip rfl ?_; go_frame) | (refine head_soft rfl (fun K hK => ?_); go_simp; first | (refine hK _ ?_; clear hK K) | (apply Exists.intro; refine ⟨fun x => ?_, hK _ ?_⟩; (· (fail)); clear hK K; try go_frame)))
      refine head_nil fun w3 hb3 => ?_
      clear t0 t1 t2 t3
      have hc3 := HC.out w3 hb3
      have HC3 := Lib.hid hc3
      have HB3 := Lib.hid (below_le HB2.out hb3)
      clear hc3 hb3 HC
      go_wp2_with fail
      refine HC3.out.mono ?_
      rintro y w4 ⟨v, rfl, hv, hT4, hb4, hk4⟩
      have HR : Hid (GivesRd base mt g line (L2, tc) w (.returned v) w4) := Lib.hid ⟨v, rfl, hv, hT4, (HB1.out.trans (HB3.out.mono (by omega))).trans hb4, (HK1.out.trans (keepsT_below HB3.out)).trans hk4⟩
      clear hv hT4 hb4 hk4 HC3
      go_wp2
      go_ret
      exact HR.out
end Go.Proofs.YtmabokmnniiadaaGreatDoor
namespace Go.Proofs.YtmabokmnniiadaaGreatDoor
open Go.RowKit Go.Shelf
attribute [local go_sem] Oper.semAt_some

/-! ### Lines that were met -/
def lnsK (L : List (List UInt8 × Bool)) (pre : List (Fin L.length)) : List (List UInt8 × Bool) := pre.map fun x => L.getD x.1 ([], false)
theorem lnsK_snoc (L : List (List UInt8 × Bool)) (pre : List (Fin L.length)) (x : Fin L.length) : lnsK L (pre ++ [x]) = lnsK L pre ++ [L.getD x.1 ([], false)] := by simp [lnsK]
theorem lnsK_take (L : List (List UInt8 × Bool)) (k : Nat) : lnsK L ((List.finRange L.length).take k) = L.take k := by
  unfold lnsK
  rw [List.map_take]
  congr 1
  refine List.ext_getElem (by simp) fun i h1 h2 => ?_
  simp [List.getD_eq_getElem?_getD]
theorem lnsK_all (L : List (List UInt8 × Bool)) : lnsK L (List.finRange L.length) = L := by
  have h := lnsK_take L L.length
  rwa [List.take_of_length_le (by simp), List.take_of_length_le (Nat.le_refl _)] at h
theorem readK_all {acc : List DscK} (x : List UInt8 × Bool) (ha : ∀ d ∈ acc, dR d = true) (hl : acc.length ≤ 60) : (∀ d ∈ (readK acc x).1, dR d = true) ∧ (readK acc x).1.length ≤ 60 := by
  unfold readK
  split
  · exact ⟨ha, hl⟩
  · cases hr : readT x.1 with
    | none => exact ⟨ha, hl⟩
    | some d =>
      simp only
      split
      · exact ⟨ha, hl⟩
      · split
        · exact ⟨ha, hl⟩
        · refine ⟨fun y hy => ?_, by simp; omega⟩
          rcases List.mem_append.1 hy with hy | hy
          · exact ha y hy
          · rw [List.mem_singleton.1 hy]
            exact (read_dR hr).2
theorem goK_all : ∀ (L : List (List UInt8 × Bool)) {acc : List DscK}, (∀ d ∈ acc, dR d = true) → acc.length ≤ 60 → (∀ d ∈ (goK acc L).1, dR d = true) ∧ (goK acc L).1.length ≤ 60
  | [], acc, ha, hl => ⟨ha, hl⟩
  | x :: L, acc, ha, hl => by
    have h := readK_all x ha hl
    rw [goK]
    split
    · exact goK_all L h.1 h.2
    · exact h
theorem goK_more {L : List (List UInt8 × Bool)} {x : List UInt8 × Bool} (h : (goK [] L).2 = 0) : goK [] (L ++ [x]) = readK (goK [] L).1 x := by rw [goK_snoc, if_pos h]
/-- All lines were read. -/
theorem parse_whole {s : List UInt8} {L : List (List UInt8 × Bool)} (hL : L = linesOf (s.length + 1) s) (h : (goK [] L).2 = 0) : kParse s = ((goK [] L).1, 0, 0) := by
  have e : goK [] L = ((goK [] L).1, 0) := by rw [← h]
  have h1 := parseL_go L [] [] _ 0 e
  rw [List.append_nil] at h1
  unfold kParse
  rw [← hL, h1]
  rfl
/-- A line was refused. -/
theorem parse_stop {s : List UInt8} {L : List (List UInt8 × Bool)} (hL : L = linesOf (s.length + 1) s) {k : Nat} (hk : k < L.length) (h : (goK [] (L.take k)).2 = 0) (hc : (readK (goK [] (L.take k)).1 (L.getD k ([], false))).2 ≠ 0) :
    kParse s = ([], k + 1, (readK (goK [] (L.take k)).1 (L.getD k ([], false))).2) := by
  have e : goK [] (L.take k) = ((goK [] (L.take k)).1, 0) := by rw [← h]
  have hg : L.getD k ([], false) = L[k] := by rw [List.getD_eq_getElem?_getD, List.getElem?_eq_getElem hk]; rfl
  have hs : L.take k ++ L[k] :: L.drop (k + 1) = L := by rw [← List.drop_eq_getElem_cons hk, List.take_append_drop]
  have h1 := parseL_go (L.take k) (L[k] :: L.drop (k + 1)) [] _ 0 e
  rw [hs] at h1
  rw [hg] at hc ⊢
  unfold kParse
  rw [← hL, h1, parseL, if_neg hc, List.length_take]
  simp
  omega

/-! ### What a table is beside -/
theorem cell_own {w w' : World} {a : Addr} {v : Value} {row : Option Nat} {n : Nat} (h : w.cell? a = some v) (hg : w.grownBy w' row) (hr : ∀ r, row = some r → n ≤ r ∧ ∃ o : Obj, w.heap[r]? = some o ∧ o.isCells = false) : w'.cell? a = some v := by
  have hlt := lt_of_cell h
  refine (World.cell?_of_block (w := w) (hg.block a.block hlt fun e2 => ?_)).trans h
  obtain ⟨_, o, ho, hcs⟩ := hr a.block e2.symm
  cases o <;> simp [World.cell?, ho, Obj.isCells] at h hcs
theorem RowD.own {w w' : World} {A : Option Addr} {m : Nat} {ds : List DscK} {row : Option Nat} {n : Nat} (h : RowD w A m ds) (hg : w.grownBy w' row) (hr : ∀ r, row = some r → n ≤ r ∧ ∃ o : Obj, w.heap[r]? = some o ∧ o.isCells = false) : RowD w' A m ds :=
  ⟨h.1, fun hm => by
    obtain ⟨g, off, e, hc⟩ := h.2 hm
    refine ⟨g, off, e, fun k d hk => ?_⟩
    obtain ⟨P, m, c, Q, q, f, h1, h2, h3, h4, h5, h6⟩ := hc k d hk
    exact ⟨P, m, c, Q, q, f, cell_own h1 hg hr, cell_own h2 hg hr, cell_own h3 hg hr, cell_own h4 hg hr, h5.own hg hr, h6.own hg hr⟩⟩
theorem ErrV_kinds.own {w w' : World} {no : Nat} {v : Value} {row : Option Nat} {n : Nat} (h : ErrV_kinds w no v) (hg : w.grownBy w' row) (hr : ∀ r, row = some r → n ≤ r ∧ ∃ o : Obj, w.heap[r]? = some o ∧ o.isCells = false) : ErrV_kinds w' no v := by
  rcases h with h | ⟨h0, t, u, h1, h2, h3⟩
  · exact .inl h
  · exact .inr ⟨h0, t, u, h1, cell_own h2 hg hr, cell_own h3 hg hr⟩
theorem TabAt.own {w w' : World} {base mt top g n : Nat} {line : Int} {ds : List DscK} {row : Option Nat} (h : TabAt w base mt top g line ds) (hg : w.grownBy w' row) (hr : ∀ r, row = some r → n ≤ r ∧ ∃ o : Obj, w.heap[r]? = some o ∧ o.isCells = false) (hn : mt ≤ n) : TabAt w' base mt top g line ds := by
  obtain ⟨lv, M, ms, D, h1, h2, h3, h4, h5, h6, h7, h8, h9, h10, h11, h12⟩ := h
  refine ⟨lv, M, ms, D, h1.own hg hr, h2.kept hg ?_, h3, fun k d x a b => ?_, h5, h6.kept hg (fun e => by have := (hr M e.symm).1; omega), h7, h8, h9, h10, h11, h12⟩
  · cases hv : lv.ownBlock with
    | none => exact .inl rfl
    | some b =>
      refine .inr fun e => ?_
      obtain ⟨_, o, ho, hc⟩ := hr b e.symm
      rcases h2.2 with ⟨rfl, _⟩ | ⟨g', cap, cur, rfl, _, h1, _⟩
      · cases hv
      · injection hv with hv
        simp at hv
        subst hv
        rw [h1] at ho
        cases ho
        simp [Obj.isCells] at hc
  · obtain ⟨f1, f2, f3, f4⟩ := h4 k d x a b
    exact ⟨f1, f2, f3.own hg hr, f4.own hg hr⟩
/-- A list of numbers lies in no block of one cell that holds none. -/
theorem row_ne {w : World} {A : Option Addr} {m eb : Nat} {l : List Int} {t : TypeId} {v : Value} (hR : Row w A m (l.map Iv)) (hb : Blk w eb t #[v]) (hv : ∀ z, v ≠ .int .i64 z) : ∀ b ∈ blkR A m, b ≠ eb := by
  intro b hm e
  unfold blkR at hm
  split at hm
  · rename_i hp
    obtain ⟨b0, off, rfl, hc⟩ := hR.2 hp
    simp [blkA] at hm
    subst hm
    have hl := hR.1
    simp at hl
    have h1 := hc 0 (Iv (l[0]'(by omega))) (by simp [show 0 < l.length by omega])
    rw [Nat.add_zero, e, hb.cell] at h1
    cases off with
    | zero => simp at h1; exact hv _ h1
    | succ o => simp at h1
  · simp at hm
/-- The error's own variable is set. -/
theorem TabAt.err {w : World} {base mt top g eb : Nat} {line : Int} {ds : List DscK} {v : Value} (h : TabAt w base mt top g line ds) (hb : Blk w eb 49 #[v]) (hv : ∀ z, v ≠ .int .i64 z) (v' : Value) : TabAt (w.setCell ⟨eb, 0, none⟩ v') base mt top g line ds := by
  obtain ⟨lv, M, ms, D, h1, h2, h3, h4, h5, h6, h7, h8⟩ := h
  have hs := grown_set w eb 0 v'
  have hge : g ≠ eb := by
    rintro rfl
    unfold Blk at h1 hb
    rw [h1] at hb
    cases hb
  refine ⟨lv, M, ms, D, h1.far (p := ⟨eb, 0, none⟩) hge v', own_grown h2 hs (own_neD h2 hb (by decide)), h3, fun k d x a b => (h4 k d x a b).grown hs (fun b' hb' e => ?_), h5, h6.kept hs (by intro e; injection e with e; exact map_ne h6 hb e.symm), h7, h8⟩
  have e' := Option.some.inj e
  rcases List.mem_append.1 hb' with hb' | hb'
  · exact row_ne (h4 k d x a b).2.2.1 hb hv b' hb' e'
  · exact row_ne (h4 k d x a b).2.2.2 hb hv b' hb' e'
theorem ErrV_kinds.far {w : World} {no eb : Nat} {v u : Value} (h : ErrV_kinds w no v) (hb : Blk w eb 49 #[u]) (hu : ∀ z, u ≠ .int .i64 z) (v' : Value) : ErrV_kinds (w.setCell ⟨eb, 0, none⟩ v') no v := by
  have hs := grown_set w eb 0 v'
  rcases h with h | ⟨h0, t, f, h1, h2, h3⟩
  · exact .inl h
  · have ht : t ≠ eb := by
      rintro rfl
      rw [hb.cell] at h2
      simp at h2
    have hf : f ≠ eb := by
      rintro rfl
      rw [hb.cell] at h3
      simp at h3
      exact hu _ h3
    exact .inr ⟨h0, t, f, h1, (World.cell?_of_block (w := w) (hs.block t (lt_of_cell h2) (fun e => ht (Option.some.inj e)))).trans h2, (World.cell?_of_block (w := w) (hs.block f (lt_of_cell h3) (fun e => hf (Option.some.inj e)))).trans h3⟩
theorem ErrV_kinds.no {w : World} {no : Nat} {v : Value} (h : ErrV_kinds w no v) : ∀ z, v ≠ .int .i64 z := by
  rcases h with ⟨_, rfl⟩ | ⟨_, _, _, rfl, _⟩
  · intro z e; cases e
  · intro z e; cases e

/-- All read till now. -/
def PaI (W1 : World) (base mt g eb : Nat) (L : List (List UInt8 × Bool)) (pre : List (Fin L.length)) (W' : World) : Prop :=
  W1.heap.size ≤ W'.heap.size ∧ Below base W1 W' ∧ Blk W' eb 49 #[.nilIface] ∧ (goK [] (lnsK L pre)).2 = 0 ∧ TabAt W' base mt W'.heap.size g pre.length (goK [] (lnsK L pre)).1
/-- A line was refused. -/
def PaX (W1 : World) (base g eb : Nat) (L : List (List UInt8 × Bool)) (c : Code) (pre : List (Fin L.length)) (W' : World) : Prop :=
  W1.heap.size ≤ W'.heap.size ∧ c = .exit 0 ∧ Below base W1 W' ∧ (∃ lv mv, Blk W' g 68 #[lv, mv, .int .i64 (pre.length : Nat)]) ∧ ∃ v cc, Blk W' eb 49 #[v] ∧ cc ≠ 0 ∧ ErrV_kinds W' cc v ∧
    ∃ pre' x, pre = pre' ++ [x] ∧ (goK [] (lnsK L pre')).2 = 0 ∧ (readK (goK [] (lnsK L pre')).1 (L.getD x.1 ([], false))).2 = cc
theorem PaI.own {W1 X Y : World} {base mt g eb : Nat} {L : List (List UInt8 × Bool)} {pre : List (Fin L.length)} {row : Option Nat} (hb : base ≤ W1.heap.size) (hm : mt ≤ W1.heap.size) (h : PaI W1 base mt g eb L pre X) (hg : X.grownBy Y row) (hr : ∀ r, row = some r → W1.heap.size ≤ r ∧ ∃ o : Obj, X.heap[r]? = some o ∧ o.isCells = false) : PaI W1 base mt g eb L pre Y := by
  obtain ⟨h1, h2, h3, h4, h5⟩ := h
  exact ⟨Nat.le_trans h1 hg.size, h2.grown hg (Nat.le_trans hb h1) (fun k e => Nat.le_trans hb (hr k e).1), h3.own hg hr, h4, (h5.own hg hr hm).up hg.size⟩
theorem PaX.own {W1 X Y : World} {base g eb : Nat} {L : List (List UInt8 × Bool)} {c : Code} {pre : List (Fin L.length)} {row : Option Nat} (hb : base ≤ W1.heap.size) (h : PaX W1 base g eb L c pre X) (hg : X.grownBy Y row) (hr : ∀ r, row = some r → W1.heap.size ≤ r ∧ ∃ o : Obj, X.heap[r]? = some o ∧ o.isCells = false) : PaX W1 base g eb L c pre Y := by
  obtain ⟨h1, h2, h3, ⟨lv, mv, h4⟩, v, cc, h5, h6, h7, h8⟩ := h
  exact ⟨Nat.le_trans h1 hg.size, h2, h3.grown hg (Nat.le_trans hb h1) (fun k e => Nat.le_trans hb (hr k e).1), ⟨lv, mv, h4.own hg hr⟩, v, cc, h5.own hg hr, h6, h7.own hg hr, h8⟩

def parF (s : ByteArray) (w1 : World) (M : Nat) (a : List UInt8) (b : Bool) : Act :=
  { tmps := #[.string s, undef, .slice none 0 0, .int .i64 0, .int .i64 0, .pointer (some ⟨w1.heap.size, 0, none⟩), .pointer (some ⟨w1.heap.size + 1, 0, none⟩), .string ⟨a.toArray⟩, .bool b, .agg #[.slice none 0 0, .map (some M), .int .i64 0], .string s,
      .func (.func 57) #[] #[.pointer (some ⟨w1.heap.size + 2, 0, none⟩)], .string ⟨a.toArray⟩, .bool b, undef, undef, undef, undef, undef, undef, undef, undef, undef, undef, undef, undef, undef, undef, undef, undef, undef, undef, undef, undef, undef, undef, undef], defers := [] }

set_option maxRecDepth 100000 in
set_option maxHeartbeats 4000000 in
/-- Parse. -/
theorem kparse_any (s : ByteArray) (w : World) (hs : s.size ≤ 1000000) (hsh : shortL (linesOf (s.data.toList.length + 1) s.data.toList)) (hM : MLen w) (hE : EType w) :
    Calls Tryz.prog 13 #[.string s] w (GivesK w (kParse s.data.toList)) := by
  obtain ⟨L, hL⟩ : ∃ L, L = linesOf (s.data.toList.length + 1) s.data.toList := ⟨_, rfl⟩
  rw [← hL] at hsh
  have hLl : L.length ≤ 1000000 := by
    rw [hL]
    have := linesOf_len (s.data.toList.length + 1) s.data.toList
    simp at this ⊢
    omega
  have p1 : (goK [] L).2 = 0 → kParse s.data.toList = ((goK [] L).1, 0, 0) := parse_whole hL
  have p2 : ∀ k, k < L.length → (goK [] (L.take k)).2 = 0 → (readK (goK [] (L.take k)).1 (L.getD k ([], false))).2 ≠ 0 → kParse s.data.toList = ([], k + 1, (readK (goK [] (L.take k)).1 (L.getD k ([], false))).2) := fun k h1 h2 h3 => parse_stop hL h1 h2 h3
  generalize kParse s.data.toList = r at *
  have HL := Lib.hid hL
  have HSH := Lib.hid hsh
  have P1 := Lib.hid p1
  have P2 := Lib.hid p2
  have HM := Lib.hid hM
  have HE := Lib.hid hE
  clear hL hsh p1 p2 hM hE
  refine (callsIn_wide (n := 3)).1 ?_
  refine callsIn_of_wp_marks Tryz.func13 rfl trivial ?_ rfl
  simp only [Tryz.ntmps13, List.size_toArray, List.length_cons, List.length_nil, Nat.reduceAdd, Nat.reduceSub, Array.replicate_succ, Array.replicate_zero, List.push_toArray, List.append_toArray, List.nil_append, List.cons_append]
  gi_wp2_with fail
  refine wpIn_scope_ahead 0 (fun _ _ => False) rfl ?_ (fun _ _ h => h.elim)
  gi_wp2_with fail
  refine ⟨trivial, (callsIn_wide.2 (start_any w)).mono ?_⟩
  rintro x w1 ⟨M, rfl, hb1, hM1, hM2, hM3⟩
  have hx := below_box w1 (.cells #[.slice none 0 0, .map (some M), .int .i64 0] 68)
  have hg : Blk (w1.alloc (.cells #[.slice none 0 0, .map (some M), .int .i64 0] 68)) w1.heap.size 68 #[.slice none 0 0, .map (some M), .int .i64 0] := Blk.new _ _ _
  have hT := tab_new (base := w.heap.size) (mt := w1.heap.size + 1) (top := w1.heap.size + 1) hg ((hx.block M hM2).trans hM3) hb1.size hM1 (by omega) (by omega)
  have hy := below_box (w1.alloc (.cells #[.slice none 0 0, .map (some M), .int .i64 0] 68)) (.cells #[.nilIface] 49)
  have heb : Blk ((w1.alloc (.cells #[.slice none 0 0, .map (some M), .int .i64 0] 68)).alloc (.cells #[.nilIface] 49)) (w1.heap.size + 1) 49 #[.nilIface] := heap_new (by simp) _
  have hz : ((w1.alloc (.cells #[.slice none 0 0, .map (some M), .int .i64 0] 68)).alloc (.cells #[.nilIface] 49)).heap.size = w1.heap.size + 2 := by simp
  have HT := Lib.hid (hT.ext hy)
  have HEB := Lib.hid heb
  have HB := Lib.hid (below_le (below_le hb1 hx) hy)
  have HZ := Lib.hid hz
  have HW1 := Lib.hid hb1.size
  clear hx hg hT hy heb hz hb1 hM1 hM2 hM3
  gi_wp2_with fail
  generalize (w1.alloc (.cells #[.slice none 0 0, .map (some M), .int .i64 0] 68)).alloc (.cells #[.nilIface] 49) = W0 at *
  refine wpIn_label ?_
  gi_wp2_with fail
  refine ⟨trivial, (callsIn_wide.2 (lines_any _ _)).mono ?_⟩
  rintro x w' ⟨rfl, rfl⟩
  have hb1 := below_box W0 (.cells #[.string s] 9)
  have hz : (W0.alloc (.cells #[.string s] 9)).heap.size = w1.heap.size + 3 := by simp [HZ.out]
  have e1 := cell_one (w := W0) (t := 9) (v := .string s)
  have HT1 := Lib.hid (HT.out.ext hb1)
  have HEB1 := Lib.hid (HEB.out.ext hb1)
  have HHB := Lib.hid (below_le HB.out hb1)
  rw [HZ.out] at e1 ⊢
  generalize W0.alloc (.cells #[.string s] 9) = W1 at *
  have hst := lines1_stops (3 - 1) s L (w1.heap.size + 2) hs HL.out W1 e1 (HM.out.ext HHB.out)
  have HZ1 := Lib.hid (show w1.heap.size + 3 ≤ W1.heap.size by omega)
  have hlt : ∀ b ∈ [1], b < w.heap.size := fun b hb => by
    obtain ⟨m, hm⟩ := HM.out
    rw [List.mem_singleton.1 hb]
    exact lt_of_cell hm
  have HLT := Lib.hid hlt
  clear HT HEB HB HZ hb1 e1 hz
  gi_wp2_with fail
  refine wpIn_rangeFunc_ownH (F := Fence.wide) (n := 3) rfl (by omega) (gf := 57) (lb := #[.pointer (some ⟨w1.heap.size + 2, 0, none⟩)]) rfl trivial (enters_of Tryz.func57 (by kernel_rfl) rfl)
    hst (fun h k => h.t k) (KeepB.b (fun b hb => by have := HLT.out b hb; have := HW1.out; have := HZ1.out; omega)) (Below.refl _ _) (fun _ => rfl)
    (PaI W1 w.heap.size (w1.heap.size + 1) w1.heap.size (w1.heap.size + 1) L) (fun c => PaX W1 w.heap.size w1.heap.size (w1.heap.size + 1) L c)
    (fun s X Y row hs hg hr => PaI.own (by have := HW1.out; have := HZ1.out; omega) (by have := HZ1.out; omega) hs hg hr)
    (fun c s X Y row hs hg hr => PaX.own (by have := HW1.out; have := HZ1.out; omega) hs hg hr)
    ⟨Nat.le_refl _, Below.refl _ _, HEB1.out, rfl, HT1.out.up (by have := HZ1.out; omega)⟩
    (fun x a' _ => a' = parF s w1 M (L.getD x.1 ([], false)).1 (L.getD x.1 ([], false)).2)
    (fun x a' _ X Y row hs hg hr => hs)
    ?assign ?body ?done ?stop
  case assign =>
    intro l0 pre x W' K hI hK
    dsimp only [lineV]
    generalize (L.getD x.1 ([], false)).1 = la at *
    generalize (L.getD x.1 ([], false)).2 = lb at *
    have HK := Lib.hid hK
    have HI := Lib.hid hI
    clear hK hI hst
    gi_wp2
    exact HK.out _ _ (KeepsFrom.refl _ _) (KeepB.refl _ _) HI.out rfl
  case body =>
    rintro l0 pre x a' W' - - ⟨s1, s2, s3, s4, s5⟩ rfl hpl
    have hln : (L.getD x.1 ([], false)).1.length ≤ 1000 := by
      have hx : L[x.1]? = some (L[x.1]) := List.getElem?_eq_getElem x.2
      rw [List.getD_eq_getElem?_getD, hx]
      exact HSH.out _ (List.mem_of_getElem? hx)
    have hga := goK_all (lnsK L pre) (acc := []) (fun d h => by simp at h) (by simp)
    have hmo := goK_more (x := L.getD x.1 ([], false)) s4
    have hsn := lnsK_snoc L pre x
    have hbw : Below w.heap.size w W' := HHB.out.trans (s2.mono (Nat.le_refl _))
    have hcall := kread_any (base := w.heap.size) (mt := w1.heap.size + 1) (top := W'.heap.size) (g := w1.heap.size) (line := (pre.length : Nat)) (ds := (goK [] (lnsK L pre)).1) (L.getD x.1 ([], false)) ⟨(L.getD x.1 ([], false)).1.toArray⟩ W' s5 (by have := HZ1.out; omega) (Nat.le_refl _) (by simp) (by rw [size_list]; exact hln) hga.1 hga.2 (by omega) (by omega) (fun W hb => HM.out.ext (hbw.trans hb)) (fun W hb => HE.out.ext (hbw.trans hb))
    have hrx : ∀ cc, (readK (goK [] (lnsK L pre)).1 (L.getD x.1 ([], false))).2 = cc → ∃ pre' x', pre ++ [x] = pre' ++ [x'] ∧ (goK [] (lnsK L pre')).2 = 0 ∧ (readK (goK [] (lnsK L pre')).1 (L.getD x'.1 ([], false))).2 = cc := fun cc h => ⟨pre, x, rfl, s4, h⟩
    rw [← hsn] at hmo
    rw [← hmo] at hcall hrx
    have HRX := Lib.hid hrx
    have HC := Lib.hid hcall
    have S1 := Lib.hid s1
    have S2 := Lib.hid s2
    have S3 := Lib.hid s3
    have HPL := Lib.hid (show (pre ++ [x]).length = pre.length + 1 by simp)
    clear hcall s1 s2 s3 s4 s5 hga hmo hsn hbw hrx hln hst
    simp only [parF]
    generalize (L.getD x.1 ([], false)).1 = la at *
    generalize (L.getD x.1 ([], false)).2 = lb at *
    gi_wp2_with fail
    refine ⟨trivial, (CallsIn.inRound _ (callsIn_wide.2 HC.out)).mono ?_⟩
    rintro y w4 ⟨v, rfl, hv, hT4, hb4, hk4⟩
    have h3 := hk4.blk S3.out (by decide) (by decide)
    have c6 := h3.at_ (i := 0) rfl
    have f6 := h3.frozen 0
    have q6 := (h3.set_ 0 v).at_ (i := 0) rfl
    have hvn := hv.no
    have hT5 := hT4.err h3 (fun z e => by cases e) v
    have hv5 := hv.far h3 (fun z e => by cases e) v
    have hb5 := (S2.out.trans hb4).setCell (p := ⟨w1.heap.size + 1, 0, none⟩) (by show w.heap.size ≤ w1.heap.size + 1; have := HW1.out; omega) v
    have h5 : Blk (w4.setCell ⟨w1.heap.size + 1, 0, none⟩ v) (w1.heap.size + 1) 49 #[v] := by simpa using h3.set_ 0 v
    have hkf : KeepsFrom W1.heap.size W' (w4.setCell ⟨w1.heap.size + 1, 0, none⟩ v) := (hk4.from (by have := HZ1.out; omega)).trans ((KeepsOthers.setCell w4 ⟨w1.heap.size + 1, 0, none⟩ v).from _)
    have hsz5 : W1.heap.size ≤ (w4.setCell ⟨w1.heap.size + 1, 0, none⟩ v).heap.size := Nat.le_trans S1.out hkf.size
    have hkb : KeepB [1] W' (w4.setCell ⟨w1.heap.size + 1, 0, none⟩ v) := KeepB.of_below (hb4.setCell (p := ⟨w1.heap.size + 1, 0, none⟩) (by show w.heap.size ≤ w1.heap.size + 1; have := HW1.out; omega) v) HLT.out
    have hs5 : w4.heap.size ≤ (w4.setCell ⟨w1.heap.size + 1, 0, none⟩ v).heap.size := (KeepsOthers.setCell w4 _ v).size
    have HKF := Lib.hid hkf
    have HKB := Lib.hid hkb
    have HT5 := Lib.hid (hT5.up hs5)
    have HV5 := Lib.hid hv5
    have HB5 := Lib.hid hb5
    have H5 := Lib.hid h5
    have HS5 := Lib.hid hsz5
    clear hv5 hT5 hb5 h5 hkf hsz5 hkb hs5 hT4 hb4 hk4 h3 HC hvn
    rcases hv with ⟨hc0, rfl⟩ | ⟨hc0, t, u, rfl, -, -⟩
    · have HC0 := Lib.hid hc0
      clear hc0
      gi_wp2
      exact ⟨HKF.out, HKB.out, HS5.out, HB5.out, H5.out, HC0.out, by rw [HPL.out]; exact HT5.out⟩
    · have HC0 := Lib.hid hc0
      clear hc0
      obtain ⟨lv, mv, hrd, -, -⟩ := HT5.out.own_
      have HRD := Lib.hid hrd
      clear hrd
      gi_wp2
      exact ⟨HKF.out, HS5.out, rfl, HB5.out, ⟨lv, _, by rw [HPL.out]; exact HRD.out⟩, _, _, H5.out, HC0.out, HV5.out, HRX.out _ rfl⟩
  case done =>
    rintro D ys W' hD rfl ⟨s1, s2, s3, s4, s5⟩ hK
    rw [lnsK_all] at s4 s5
    have hr := P1.out s4
    subst hr
    obtain ⟨ds, hds⟩ : ∃ ds, (goK [] L).1 = ds := ⟨_, rfl⟩
    have HDS := Lib.hid hds
    rw [hds] at s5
    clear hds
    have c6 := s3.at_ (i := 0) rfl
    obtain ⟨lv, M', ms, DD, h1, h2, h3, h4, h5, h6, h7, h8, h9, h10, h11, h12⟩ := s5
    obtain ⟨A, c, he, hR, hnc, hbA⟩ := rowD_of_owns h2 h3 h4
    subst he
    have d0 := h1.at_ (i := 0) rfl
    have d1 := h1.at_ (i := 1) rfl
    have d2 := h1.at_ (i := 2) rfl
    have HR := Lib.hid hR
    have HBA := Lib.hid hbA
    have HBB := Lib.hid (HHB.out.trans (s2.mono (Nat.le_refl _)))
    have HK := Lib.hid hK
    clear s1 s2 s3 s4 h1 h2 h3 h4 h5 h6 h7 h12 hR hbA hK hst P1 P2
    generalize ds.length = n at *
    gi_wp2
    simp only [Exit.jump]
    refine ⟨by simp, .inl ⟨_, _, rfl, run_takeDeferred HK.out, ?_⟩⟩
    have hbD := belowK_b (w := W1) (n₀ := W1.heap.size) (Nat.le_refl _) W' D _ (.deferred none) hD HK.out rfl rfl
    refine ⟨.tuple #[.slice A n n, .int .i64 0, .int .i64 0], by simp [results, Tryz.results13, go_sem], A, n, n, rfl, ?_, HBA.out, HBB.out.trans (hbD.mono (by have := HW1.out; have := HZ1.out; omega))⟩
    rw [HDS.out]
    exact HR.out.own (n := W1.heap.size) (grownBy_putObj' W' D _) (fun r e => by cases e; exact ⟨hD, _, HK.out, rfl⟩)
  case stop =>
    rintro D cd pre W' hD ⟨j, hj, rfl⟩ ⟨s1, rfl, s2, ⟨lv, mv, s3⟩, v, cc, s4, s5, s6, pre', x, hpre, s7, s8⟩ hK
    have hk0 : j ≠ 0 := by rintro rfl; simp at hpre
    obtain ⟨k, rfl⟩ : ∃ k, j = k + 1 := ⟨j - 1, by omega⟩
    rw [fin_take_succ _ _ (by omega)] at hpre
    obtain ⟨e1, e2⟩ := List.append_inj' hpre rfl
    have hx : x.1 = k := by
      injection e2 with e2
      rw [← e2]
    rw [← e1, lnsK_take] at s7 s8
    rw [hx] at s8
    have hlk : ((List.finRange L.length).take (k + 1)).length = k + 1 := by simp; omega
    rw [hlk] at s3
    have hr := P2.out k (by omega) s7 (by rw [s8]; exact s5)
    rw [s8] at hr
    subst hr
    have hbb := HHB.out.trans (s2.mono (Nat.le_refl _))
    have HV := Lib.hid (fun x : Ext W' => number_kinds cc v x.val (s6.ext x.below) ((HE.out.ext hbb).ext x.below))
    have t2 := fun x : Ext W' => ext_cell (s3.at_ (i := 2) rfl) x
    have t6 := fun x : Ext W' => ext_cell (s4.at_ (i := 0) rfl) x
    have c6 := s4.at_ (i := 0) rfl
    have HBB := Lib.hid hbb
    have HK := Lib.hid hK
    rcases s6 with ⟨h0, -⟩ | ⟨-, t, u, rfl, -, -⟩
    · exact absurd h0 s5
    clear s1 s2 s3 s4 s5 s7 s8 hbb hK hst hpre e1 e2 P1 P2 hlk
    gi_wp2_with fail
    refine wpIn_wide.2 ?_
    clear c6
    refine wp_region_plan [(0, true), (1, true), (2, true), (3, true), (4, true), (5, true), (6, true)] (by kernel_rfl) (by kernel_rfl) ?_
    repeat (first | (refine plan_skip rfl rfl ?_; go_frame) | (refine plan_soft rfl rfl (fun K hK => ?_); go_simp; first | (refine hK _ ?_; clear hK K) | (apply Exists.intro; refine ⟨fun x => ?_, hK _ ?_⟩; (· (exact HV.out x)); clear hK K; try go_frame)))
    refine plan_nil ?_; intro w5 h0b; have Hb5 := Lib.hid h0b; clear h0b
    have hK5 := (Hb5.out.block D (Array.getElem?_eq_some_iff.1 HK.out).1).trans HK.out
    clear t2 t6
    gi_wp2
    simp only [Exit.jump]
    refine ⟨by simp, .inl ⟨_, _, rfl, run_takeDeferred hK5, ?_⟩⟩
    have hbD := belowK_b (w := W1) (n₀ := W1.heap.size) (Nat.le_refl _) w5 D _ (.deferred none) hD hK5 rfl rfl
    refine ⟨.tuple #[.slice none 0 0, .int .i64 ((k : Int) + 1), .int .i64 cc], by simp [results, Tryz.results13, go_sem], none, 0, 0, by simp, RowD.none_, (fun _ h => by cases h), (below_le HBB.out Hb5.out).trans (hbD.mono (by have := HW1.out; have := HZ1.out; omega))⟩
end Go.Proofs.YtmabokmnniiadaaGreatDoor
namespace Go.Proofs.YtmabokmnniiadaaGreatDoor
open Go.RowKit

theorem keepsO_drew (w : World) : KeepsOthers w w.drew := ⟨Nat.le_refl _, fun _ _ h _ => h⟩
theorem keepsO_freeze (w : World) (p : Addr) (n : Nat) : KeepsOthers w (w.freeze p n) := by
  unfold World.freeze
  split
  · exact KeepsOthers.refl w
  · refine ⟨by simp, fun k o hk hc => ?_⟩
    simp only [Array.getElem?_modify]
    split
    · rw [hk]
      cases o <;> simp [Obj.isCells] at hc ⊢
    · exact hk
theorem byte_cells : Tryz.prog.cellsOf 5 = 1 := by kernel_rfl
theorem str_none (W : World) (q : Option Addr) : (Builtin.unsafeString_ #[88, 3] 9 #[.pointer q, .int .i64 0]).run Tryz.prog W = .ok (.string .empty) W := Lib.run_unsafeString_none W _ _ _ q

/-- What String hands back. -/
def StrIs (B : Nat) (l : List UInt8) (w : World) (e : Ending) (w' : World) : Prop := e = .returned (.string ⟨l.toArray⟩) ∧ Below B w w' ∧ KeepsOthers w w'

set_option maxRecDepth 100000 in
set_option maxHeartbeats 2000000 in
theorem bString_at (B b : Nat) (l : List UInt8) (A : Option Addr) (n c : Nat) (q : Option Addr) (w : World) (Z : World → World) (c1 : w.cell? ⟨b, 1, none⟩ = some (.slice A n c))
    (hSD : ∀ W : World, (Builtin.unsafeSliceData_ #[53] 88 #[.slice A n c]).run Tryz.prog W = .ok (.pointer q) W)
    (hUS : ∀ W : World, Below w.heap.size w W → (Builtin.unsafeString_ #[88, 3] 9 #[.pointer q, .int .i64 n]).run Tryz.prog W = .ok (.string ⟨l.toArray⟩) (Z W))
    (hE : ∀ W : World, Below w.heap.size w W → StrIs B l w (.returned (.string ⟨l.toArray⟩)) (Z W)) :
    Calls Tryz.prog 36 #[.pointer (some ⟨b, 0, none⟩)] w (StrIs B l w) := by
  have HU := Lib.hid hUS
  have HE := Lib.hid hE
  have t1 := ext_cell c1
  clear hUS hE
  go_enter Tryz.func36, Tryz.ntmps36
  go_wp2
  refine wp_region_tail 10 (by kernel_rfl) (by kernel_rfl) ?_; simp only [List.take_succ_cons, List.take_zero, List.drop_succ_cons, List.drop_zero]
  repeat (first | (refine head_skip rfl ?_; go_frame) | (refine head_soft rfl (fun K hK => ?_); go_simp; first | (refine hK _ ?_; clear hK K) | (apply Exists.intro; refine ⟨fun x => ?_, hK _ ?_⟩; (· (fail)); clear hK K; try go_frame)))
  refine head_nil fun w1 hb1 => ?_
  have hu := HU.out w1 hb1
  have HE1 := Lib.hid (HE.out w1 hb1)
  clear t1 c1 hSD HU HE hb1
  generalize Z w1 = W9 at *
  go_wp2
  go_ret
  exact HE1.out

set_option maxRecDepth 100000 in
set_option maxHeartbeats 2000000 in
/-- Of a buffer without room. -/
theorem bString_noroom (B b g : Nat) (w : World) (c1 : w.cell? ⟨b, 1, none⟩ = some (.slice (some ⟨g, 0, none⟩) 0 0)) (hg : ∃ cur, w.heap[g]? = some (.cells cur 5 (0, 0))) (hBw : B ≤ w.heap.size) :
    Calls Tryz.prog 36 #[.pointer (some ⟨b, 0, none⟩)] w (StrIs B [] w) := by
  have hSD : ∀ W : World, Below w.heap.size w W → (Builtin.unsafeSliceData_ #[53] 88 #[.slice (some ⟨g, 0, none⟩) 0 0]).run Tryz.prog W = .ok (.pointer (some ⟨W.heap.size, 0, none⟩)) (W.alloc (.view ⟨g, 0, none⟩ 5)) := fun W hb => by
    obtain ⟨cur, hg⟩ := hg
    have hg' : W.heap[g]? = some (.cells cur 5 (0, 0)) := (hb.block g (Array.getElem?_eq_some_iff.1 hg).1).trans hg
    exact Lib.run_unsafeSliceData_zero W _ _ 5 Tryz.underlying88 ⟨g, 0, none⟩ 0 (5, cur.size) (by simp [World.shape?, hg'])
  have HS := Lib.hid hSD
  have hUS := str_none
  have hend : ∀ W W' : World, Below w.heap.size w W → Below W.heap.size W W' → StrIs B [] w (.returned (.string ⟨#[]⟩)) W' := fun W W' h h' => ⟨rfl, (below_le h h').mono hBw, keepsO_below (below_le h h')⟩
  have HE := Lib.hid hend
  have t1 := ext_cell c1
  clear hend hSD hg
  go_enter Tryz.func36, Tryz.ntmps36
  go_wp2
  refine wp_region_mix (by kernel_rfl) ?_
  first | (refine mix_skip 0 rfl (by kernel_rfl) rfl ?_; go_frame) | (refine mix_soft 0 rfl (by kernel_rfl) rfl (fun K hK => ?_); go_simp; first | (refine hK _ ?_; clear hK K) | (apply Exists.intro; refine ⟨fun x => ?_, hK _ ?_⟩; (· (fail)); clear hK K; try go_frame))
  first | (refine mix_skip 1 rfl (by kernel_rfl) rfl ?_; go_frame) | (refine mix_soft 1 rfl (by kernel_rfl) rfl (fun K hK => ?_); go_simp; first | (refine hK _ ?_; clear hK K) | (apply Exists.intro; refine ⟨fun x => ?_, hK _ ?_⟩; (· (fail)); clear hK K; try go_frame))
  first | (refine mix_skip 2 rfl (by kernel_rfl) rfl ?_; go_frame) | (refine mix_soft 2 rfl (by kernel_rfl) rfl (fun K hK => ?_); go_simp; first | (refine hK _ ?_; clear hK K) | (apply Exists.intro; refine ⟨fun x => ?_, hK _ ?_⟩; (· (fail)); clear hK K; try go_frame))
  first | (refine mix_skip 3 rfl (by kernel_rfl) rfl ?_; go_frame) | (refine mix_soft 3 rfl (by kernel_rfl) rfl (fun K hK => ?_); go_simp; first | (refine hK _ ?_; clear hK K) | (apply Exists.intro; refine ⟨fun x => ?_, hK _ ?_⟩; (· (fail)); clear hK K; try go_frame))
  first | (refine mix_skip 5 rfl (by kernel_rfl) rfl ?_; go_frame) | (refine mix_soft 5 rfl (by kernel_rfl) rfl (fun K hK => ?_); go_simp; first | (refine hK _ ?_; clear hK K) | (apply Exists.intro; refine ⟨fun x => ?_, hK _ ?_⟩; (· (fail)); clear hK K; try go_frame))
  first | (refine mix_skip 6 rfl (by kernel_rfl) rfl ?_; go_frame) | (refine mix_soft 6 rfl (by kernel_rfl) rfl (fun K hK => ?_); go_simp; first | (refine hK _ ?_; clear hK K) | (apply Exists.intro; refine ⟨fun x => ?_, hK _ ?_⟩; (· (fail)); clear hK K; try go_frame))
  first | (refine mix_skip 7 rfl (by kernel_rfl) rfl ?_; go_frame) | (refine mix_soft 7 rfl (by kernel_rfl) rfl (fun K hK => ?_); go_simp; first | (refine hK _ ?_; clear hK K) | (apply Exists.intro; refine ⟨fun x => ?_, hK _ ?_⟩; (· (fail)); clear hK K; try go_frame))
  first | (refine mix_skip 8 rfl (by kernel_rfl) rfl ?_; go_frame) | (refine mix_soft 8 rfl (by kernel_rfl) rfl (fun K hK => ?_); go_simp; first | (refine hK _ ?_; clear hK K) | (apply Exists.intro; refine ⟨fun x => ?_, hK _ ?_⟩; (· (fail)); clear hK K; try go_frame))
  first | (refine mix_skip 9 rfl (by kernel_rfl) rfl ?_; go_frame) | (refine mix_soft 9 rfl (by kernel_rfl) rfl (fun K hK => ?_); go_simp; first | (refine hK _ ?_; clear hK K) | (apply Exists.intro; refine ⟨fun x => ?_, hK _ ?_⟩; (· (fail)); clear hK K; try go_frame))
  clear t1 c1
  refine mix_one 4 (by kernel_rfl) ?_
  refine mix_now rfl rfl ?_; intro w1 hb_ hB_ K hK
  have hs := HS.out w1 hB_
  go_simp
  refine hK _ _ (below_le hB_ (below_box w1 (.view ⟨g, 0, none⟩ 5))) ?_
  clear hK K hb_ hB_ hs HS
  refine mix_one 10 (by kernel_rfl) ?_
  refine mix_now rfl rfl ?_; intro w2 hb_ hB_ K hK
  have hs := hUS w2 (some ⟨w1.heap.size, 0, none⟩)
  go_simp
  refine hK _ _ hB_ ?_
  clear hK K hb_ hB_ hs hUS
  refine mix_one 11 (by kernel_rfl) ?_
  refine mix_now rfl rfl ?_; intro w3 hb_ hB_ K hK; go_simp
  refine hK _ _ hB_ ?_
  clear hK K hb_ hB_
  refine mix_nil (by kernel_rfl) fun w4 hb4 hB4 => ?_
  have HE1 := Lib.hid (HE.out w w4 (Below.refl _ _) hB4)
  clear HE hb4 hB4
  go_wp2
  go_ret
  exact HE1.out

/-- String. -/
theorem bString_all (B b : Nat) (l : List UInt8) (w : World) (h : IsB B b (Lib.byteCells l) w) (hBw : B ≤ w.heap.size) :
    Calls Tryz.prog 36 #[.pointer (some ⟨b, 0, none⟩)] w (StrIs B l w) := by
  cases l with
  | cons x r =>
    have h0 : x :: r ≠ [] := by simp
    generalize x :: r = l at *
    obtain ⟨p, hB, v, hbk, hown, hne⟩ : ∃ p, IsBAt B b p (Lib.byteCells l) w := by
      rcases h with h | h
      · exact ⟨_, h⟩
      · exact ⟨_, h⟩
    have hl0 : l.length ≠ 0 := by simpa using h0
    rw [Lib.byteCells_length] at hown
    obtain ⟨g, cap, cur, rfl, hbg, hg, hnc, hcm, hcs, htake⟩ : ∃ g cap cur, v = .slice (some ⟨g, 0, none⟩) l.length cap ∧ B ≤ g ∧ w.heap[g]? = some (.cells cur 5 (0, 0)) ∧ l.length ≤ cap ∧ cap ≤ maxLen ∧ cur.size = cap * 1 ∧ cur.toList.take (l.length * 1) = Lib.byteCells l := by
      rcases hown.2 with ⟨_, hz⟩ | ⟨g, cap, cur, hv, r⟩
      · exact absurd hz hl0
      · exact ⟨g, cap, cur, hv, r⟩
    have c1 : w.cell? ⟨b, 1, none⟩ = some (.slice (some ⟨g, 0, none⟩) l.length cap) := by rw [Lib.cell_of_heap hbk]; rfl
    refine bString_at B b l (some ⟨g, 0, none⟩) l.length cap (some ⟨g, 0, none⟩) w (fun W => W.freeze ⟨g, 0, none⟩ l.length) c1 (fun W => Lib.run_unsafeSliceData_row _ _ _ _ _ _ (by omega)) (fun W hb => ?_) (fun W hb => ?_)
    · have hg' : W.heap[g]? = some (.cells cur 5 (0, 0)) := (hb.block g (Array.getElem?_eq_some_iff.1 hg).1).trans hg
      refine Lib.run_unsafeString_row W 88 3 9 5 Tryz.underlying88 byte_cells g cur.size (by simp [World.shape?, hg']) l h0 (by omega) (by unfold maxLen at hcm; omega) ?_
      intro j x hx
      exact cell_ext hb (hown.cells (g := g) rfl j (.int .u8 x.toNat) (by simp [Lib.byteCells, hx]))
    · exact ⟨rfl, Lib.below_freeze (hb.mono hBw) (p := ⟨g, 0, none⟩) hbg _, (keepsO_below hb).trans (keepsO_freeze _ _ _)⟩
  | nil =>
    obtain ⟨p, hB, v, hbk, hown, hne⟩ : ∃ p, IsBAt B b p [] w := by
      rcases h with h | h
      · exact ⟨_, h⟩
      · exact ⟨_, h⟩
    have hlt : b < w.heap.size := by
      rcases Nat.lt_or_ge b w.heap.size with h' | h'
      · exact h'
      · simp [Array.getElem?_eq_none h'] at hbk
    have hend : ∀ W : World, Below w.heap.size w W → StrIs B [] w (.returned (.string ⟨#[]⟩)) W := fun W h => ⟨rfl, h.mono hBw, keepsO_below h⟩
    rcases hown.2 with ⟨rfl, _⟩ | ⟨g, cap, cur, rfl, hbg, hg, _, _, _, _⟩
    · have c1 : w.cell? ⟨b, 1, none⟩ = some (.slice none 0 0) := by rw [Lib.cell_of_heap hbk]; rfl
      exact bString_at B b [] none 0 0 none w id c1 (fun W => rfl) (fun W _ => str_none W none) hend
    · by_cases hc0 : cap = 0
      · subst hc0
        have c1 : w.cell? ⟨b, 1, none⟩ = some (.slice (some ⟨g, 0, none⟩) 0 0) := by rw [Lib.cell_of_heap hbk]; rfl
        exact bString_noroom B b g w c1 ⟨_, hg⟩ hBw
      · have c1 : w.cell? ⟨b, 1, none⟩ = some (.slice (some ⟨g, 0, none⟩) 0 cap) := by rw [Lib.cell_of_heap hbk]; rfl
        exact bString_at B b [] (some ⟨g, 0, none⟩) 0 cap (some ⟨g, 0, none⟩) w id c1 (fun W => Lib.run_unsafeSliceData_row _ _ _ _ _ _ hc0) (fun W _ => str_none W _) hend
end Go.Proofs.YtmabokmnniiadaaGreatDoor
namespace Go.Proofs.YtmabokmnniiadaaGreatDoor
open Go.RowKit Go.Shelf
attribute [local go_sem] Oper.semAt_some

/-- Kinds' text, and what is told. -/
def GivesT (w : World) (t : List UInt8) (c : Nat) (x : Ending) (w' : World) : Prop := x = .returned (.tuple #[.string ⟨t.toArray⟩, .int .i64 (c : Nat)]) ∧ Below w.heap.size w w'

/-- The text of those that were met. -/
def txtK (ds : List DscK) {N : Nat} (pre : List (Fin N)) : List UInt8 := pre.flatMap fun x => dP (ds.getD x.1 dsc0K) ++ [10]
theorem txtK_snoc (ds : List DscK) {N : Nat} (pre : List (Fin N)) (x : Fin N) {d : DscK} (h : ds[x.1]? = some d) : txtK ds (pre ++ [x]) = (txtK ds pre ++ dP d) ++ [10] := by
  simp [txtK, List.getD_eq_getElem?_getD, h]
theorem txtK_all {ds : List DscK} {N : Nat} (h : ds.length = N) : txtK ds (List.finRange N) = linesT ds := by
  have e : (List.finRange N).map (fun x => ds.getD x.1 dsc0K) = ds := by
    refine List.ext_getElem (by simp [h]) fun i h1 h2 => ?_
    simp [List.getD_eq_getElem?_getD, List.getElem?_eq_getElem h2]
  have e2 : linesT ds = ((List.finRange N).map (fun x => ds.getD x.1 dsc0K)).flatMap fun d => dP d ++ [10] := by rw [e]; rfl
  rw [e2, List.flatMap_map]
  rfl
theorem txtK_len {ds : List DscK} {N : Nat} (hl : ds.length = N) (hd : ∀ d ∈ ds, dR d = true) : ∀ pre : List (Fin N), (txtK ds pre).length ≤ pre.length * 100001
  | [] => by simp [txtK]
  | x :: pre => by
    have h1 := txtK_len hl hd pre
    have hx : ds[x.1]? = some (ds[x.1]'(by have := x.2; omega)) := List.getElem?_eq_getElem (by have := x.2; omega)
    have h2 := dP_len (hd _ (List.mem_of_getElem? hx))
    have e : txtK ds (x :: pre) = dP (ds.getD x.1 dsc0K) ++ [10] ++ txtK ds pre := rfl
    rw [e, List.getD_eq_getElem?_getD, hx]
    simp only [Option.getD_some, List.length_append, List.length_cons, List.length_nil]
    omega

/-- What is printed till now, in the builder b. -/
def PrI (W1 : World) (b : Nat) (ds : List DscK) {N : Nat} (pre : List (Fin N)) (W' : World) : Prop :=
  W1.heap.size ≤ W'.heap.size ∧ Below b W1 W' ∧ IsB b b (Lib.byteCells (txtK ds pre)) W'
theorem PrI.own {W1 X Y : World} {b : Nat} {ds : List DscK} {N : Nat} {pre : List (Fin N)} {row : Option Nat} (hbn : b ≤ W1.heap.size) (h : PrI W1 b ds pre X) (hg : X.grownBy Y row) (hr : ∀ r, row = some r → W1.heap.size ≤ r ∧ ∃ o : Obj, X.heap[r]? = some o ∧ o.isCells = false) : PrI W1 b ds pre Y :=
  ⟨Nat.le_trans h.1 hg.size, h.2.1.grown hg (Nat.le_trans hbn h.1) (fun k e => Nat.le_trans hbn (hr k e).1), isB_own hg hr h.2.2⟩

def printF (w w1 : World) (A : Option Addr) (n c rb k : Nat) (d : MD) : Act :=
  { tmps := #[.slice A n c, undef, .pointer (some ⟨w.heap.size, 0, none⟩), .pointer (some ⟨w.heap.size + 1, 0, none⟩), .nilIface, .pointer (some ⟨w1.heap.size, 0, none⟩), undef, .pointer (some ⟨rb, 0, none⟩), undef, undef, .slice A n c, .nilIface, .nilIface, .bool false, undef, undef, .slice A n c,
      .func (.func 53) #[] #[.pointer (some ⟨w1.heap.size + 1, 0, none⟩)], .int .i64 ((k : Int) + 1), mdV d, undef, undef, undef, undef, undef, undef, undef, undef, undef, undef, undef], defers := [] }

set_option maxRecDepth 100000 in
set_option maxHeartbeats 4000000 in
/-- Print. -/
theorem kprint_any (A : Option Addr) (n c : Nat) (ds : List DscK) (w : World) (hR : RowD w A n ds) (hs : Sm ds) (hn : n ≤ 1000) (ht : Tab w) (hE : EType w) :
    Calls Tryz.prog 11 #[.slice A n c] w (GivesT w (kText ds) (kNo ds)) := by
  have hlen := hR.1
  have hx := below_le (below_box w (.cells #[.string ⟨#[]⟩] 9)) (below_box _ (.cells #[.int .i64 0] 25))
  have g2 : Blk ((w.alloc (.cells #[.string ⟨#[]⟩] 9)).alloc (.cells #[.int .i64 0] 25)) w.heap.size 9 #[.string ⟨#[]⟩] := Blk.alloc (Blk.new _ _ _) _
  have g3 : Blk ((w.alloc (.cells #[.string ⟨#[]⟩] 9)).alloc (.cells #[.int .i64 0] 25)) (w.heap.size + 1) 25 #[.int .i64 0] := heap_new (by simp) _
  have hz : ((w.alloc (.cells #[.string ⟨#[]⟩] 9)).alloc (.cells #[.int .i64 0] 25)).heap.size = w.heap.size + 2 := by simp
  have hchk := check_any A n c ds _ (hR.ext hx) hs hn (tab_ext ht hx)
  obtain ⟨ms, hM⟩ := (hR).ms
  have hno := kNo_iff ds
  have r1 : kRight ds = false → kText ds = [] := fun h => by unfold kText; rw [h]; rfl
  have r2 : kRight ds = true → kText ds = linesT ds ∧ (∀ d ∈ ds, dR d = true) := fun h => ⟨by unfold kText; rw [if_pos h], (kRight_iff.1 h).2.1⟩
  generalize kText ds = kt at *
  generalize kNo ds = no at *
  have R1 := Lib.hid r1
  have R2 := Lib.hid r2
  have NO := Lib.hid hno
  have HCH := Lib.hid hchk
  have HLT := Lib.hid hM.lt
  have HT0 := Lib.hid ht
  have HE := Lib.hid (hE.ext hx)
  have HT := Lib.hid (tab_ext ht hx)
  have HM := Lib.hid (hM.ext hx)
  have HLEN := Lib.hid hlen
  have HMN := Lib.hid hM.2.1
  have HS := Lib.hid hs
  have HB := Lib.hid hx
  have G2 := Lib.hid g2
  have G3 := Lib.hid g3
  have HZ := Lib.hid hz
  clear r1 r2 hno hchk ht hE hR hx g2 g3 hlen hs hM hz
  refine (callsIn_wide (n := 3)).1 ?_
  refine callsIn_of_wp_marks Tryz.func11 rfl trivial ?_ rfl
  simp only [Tryz.ntmps11, List.size_toArray, List.length_cons, List.length_nil, Nat.reduceAdd, Nat.reduceSub, Array.replicate_succ, Array.replicate_zero, List.push_toArray, List.append_toArray, List.nil_append, List.cons_append]
  gi_wp2_with fail
  generalize (w.alloc (.cells #[.string ⟨#[]⟩] 9)).alloc (.cells #[.int .i64 0] 25) = W0 at *
  refine ⟨trivial, (callsIn_wide.2 HCH.out).mono ?_⟩
  rintro x w1 ⟨v, rfl, hv, hb1⟩
  have HE1 := Lib.hid (HE.out.ext hb1)
  have HT1 := Lib.hid (tab_ext HT.out hb1)
  have HM1 := Lib.hid (HM.out.ext hb1)
  replace G2 := Lib.hid (G2.out.ext hb1)
  replace G3 := Lib.hid (G3.out.ext hb1)
  replace HZ := Lib.hid (show w.heap.size + 2 ≤ w1.heap.size from HZ.out ▸ hb1.size)
  replace HB := Lib.hid (below_le HB.out hb1)
  clear hb1 HCH HE HT HM
  rcases NO.out with ⟨hk, hkr⟩ | ⟨hk, hkr⟩
  case inr =>
    rw [hk] at hv
    have hkt := R1.out hkr
    subst hkt
    obtain rfl := hk
    clear hkr R1 R2 NO
    have HV := Lib.hid (number_kinds 50 v w1 hv HE1.out)
    rcases hv with ⟨h0, -⟩ | ⟨-, t, u, rfl, -, -⟩
    · cases h0
    · gi_wp2_with fail
      refine ⟨trivial, (callsIn_wide.2 HV.out).mono ?_⟩
      rintro x w2 ⟨rfl, hb2⟩
      have g2 := G2.out.ext hb2
      have g3 := G3.out.ext hb2
      replace HB := Lib.hid (below_le HB.out hb2)
      have c2 := g2.at_ (i := 0) rfl
      have c3 := g3.at_ (i := 0) rfl
      have f2 := g2.frozen 0
      have f3 := g3.frozen 0
      clear hb2 HV
      have q2 := ((g2.set_ 0 (.string ⟨#[]⟩)).far (p := ⟨w.heap.size + 1, 0, none⟩) (by show w.heap.size ≠ w.heap.size + 1; omega) (.int .i64 50)).at_ (i := 0) rfl
      have q3 := ((g3.far (p := ⟨w.heap.size, 0, none⟩) (by show w.heap.size + 1 ≠ w.heap.size; omega) (.string ⟨#[]⟩)).set_ 0 (.int .i64 50)).at_ (i := 0) rfl
      have HB9 := Lib.hid ((HB.out.setCell (p := ⟨w.heap.size, 0, none⟩) (Nat.le_refl _) (.string ⟨#[]⟩)).setCell (p := ⟨w.heap.size + 1, 0, none⟩) (Nat.le_succ _) (.int .i64 50))
      gi_wp2
      exact ⟨.tuple #[.string ⟨#[]⟩, .int .i64 50], by simp [results, Tryz.results11, go_sem, q2, q3], by simp, HB9.out⟩
  case inl =>
    rw [hk] at hv
    rcases hv with ⟨-, rfl⟩ | ⟨h0, -⟩
    case inr => exact absurd rfl h0
    obtain ⟨hkt, hdr⟩ := R2.out hkr
    subst hkt
    obtain rfl := hk
    have HDR := Lib.hid hdr
    clear hkr R1 R2 NO hdr
    gi_wp2_with fail
    have hx := below_box w1 (.cells #[.pointer none, .slice none 0 0] 55)
    have hfr := Lib.fresh_isBuilder 55 5 w1
    replace HE1 := Lib.hid (HE1.out.ext hx)
    replace HT1 := Lib.hid (tab_ext HT1.out hx)
    replace HM1 := Lib.hid (HM1.out.ext hx)
    replace G2 := Lib.hid (G2.out.ext hx)
    replace G3 := Lib.hid (G3.out.ext hx)
    replace HB := Lib.hid (below_le HB.out hx)
    have HI := Lib.hid hfr
    have hz2 : (w1.alloc (.cells #[.pointer none, .slice none 0 0] 55)).heap.size = w1.heap.size + 1 := by simp
    have HZ2 := Lib.hid hz2
    clear hx hfr hz2
    generalize w1.alloc (.cells #[.pointer none, .slice none 0 0] 55) = W2 at *
    refine ⟨trivial, (callsIn_wide.2 (numbered_any _ _ _ _)).mono ?_⟩
    rintro x w' ⟨rfl, rfl⟩
    have hb1 := below_box W2 (.cells #[.slice A n c] 22)
    have hz : (W2.alloc (.cells #[.slice A n c] 22)).heap.size = w1.heap.size + 2 := by simp [HZ2.out]
    have e1 := cell_one (w := W2) (t := 22) (v := .slice A n c)
    have hM1 := HM1.out.ext hb1
    have HG2 := Lib.hid (G2.out.ext hb1)
    have HG3 := Lib.hid (G3.out.ext hb1)
    have HHB := Lib.hid (below_le HB.out hb1)
    have HII := Lib.hid (isB_ext hb1 HI.out)
    have HET := Lib.hid (HE1.out.ext hb1)
    have HTT := Lib.hid (tab_ext HT1.out hb1)
    rw [HZ2.out] at e1 ⊢
    generalize W2.alloc (.cells #[.slice A n c] 22) = W1 at *
    have hst := numbered1_stops (3 - 1) A n c ms ds (w1.heap.size + 1) hn W1 e1 hM1
    have hlt := hM1.lt
    have HZ1 := Lib.hid (show w1.heap.size + 2 ≤ W1.heap.size by omega)
    have HMM := Lib.hid hM1
    have HLT1 := Lib.hid hlt
    clear HM1 HE1 HT1 HB HI G2 G3 HZ2 hb1 e1 hM1 hz
    gi_wp2_with fail
    refine wpIn_rangeFunc_ownH (F := Fence.wide) (n := 3) rfl (by omega) (gf := 53) (lb := #[.pointer (some ⟨w1.heap.size + 1, 0, none⟩)]) rfl trivial (enters_of Tryz.func53 (by kernel_rfl) rfl)
      hst (fun h k => h.t k) (KeepB.b hlt) (Below.refl _ _) (fun _ => rfl)
      (PrI W1 w1.heap.size ds) (fun _ _ _ => False)
      (fun s X Y row hs hg hr => PrI.own (by have := HZ1.out; omega) hs hg hr)
      (fun c s X Y row hs hg hr => hs)
      ⟨Nat.le_refl _, Below.refl _ _, HII.out⟩
      (fun x a' W => ∃ rb d, W1.heap.size ≤ rb ∧ ms[x.1]? = some d ∧ a' = printF w w1 A n c rb x.1 d ∧ Blk W rb 35 (cells4 d).toArray)
      (fun x a' _ X Y row hs hg hr => by obtain ⟨rb, d, h1, h2, h3, h4⟩ := hs; exact ⟨rb, d, h1, h2, h3, h4.own hg hr⟩)
      ?assign ?body ?done ?stop
    case stop => rintro D cd pre W' hD _ h hK; exact h.elim
    case assign =>
      intro l0 pre x W' K hI hK
      have hk : ms[x.1]? = some (ms[x.1]) := List.getElem?_eq_getElem x.2
      dsimp only [numD]
      rw [getD_of hk]
      have HKX := Lib.hid hk
      generalize ms[x.1] = d at *
      obtain ⟨z1, ⟨P1, m1, c1⟩, y1, Q1, q1, f1⟩ := d
      have HK := Lib.hid hK
      have HI := Lib.hid hI
      clear hK hI hk hst
      dsimp only [mdV]
      gi_wp2
      have hx := below_box W' (descO z1 P1 m1 c1 y1 Q1 q1 f1)
      exact HK.out _ _ (keepsFrom_below hx) (KeepB.of_below (hx.mono HI.out.1) HLT1.out) ⟨Nat.le_trans HI.out.1 hx.size, HI.out.2.1.trans (hx.mono (by have := HI.out.1; have := HZ1.out; omega)), isB_ext hx HI.out.2.2⟩ ⟨W'.heap.size, _, HI.out.1, HKX.out, rfl, Blk.new _ _ _⟩
    case body =>
      rintro l0 pre x a' W' - - ⟨s1, s2, s3⟩ ⟨rb, d, hrb, hk, rfl, hbl⟩ hpl
      have hxn : x.1 < n := by have := x.2; have := HMN.out; omega
      have hkb : KeepB (blksD A n ms) W1 W' := KeepB.of_below s2 (fun b hb => by have := HLT.out b hb; have := HZ.out; omega)
      obtain ⟨b1, o1, z1, P1, m1, c1, y1, Q1, q1, f1, ps1, es1, -, hk2, hd1, r1, r2, -, -, -, -⟩ := (HMM.out.keep hkb (fun _ h => h)).get hxn
      rw [hk] at hk2
      cases hk2
      have hdr := HDR.out _ (List.mem_of_getElem? hd1)
      have hsm := HS.out _ (List.mem_of_getElem? hd1)
      have hl1 := r1.1
      have hl2 := r2.1
      simp at hl1 hl2
      have hm1 : m1 ≤ 1000 := by have := hsm.1; dsimp only at this; omega
      have hq1 : q1 ≤ 1000 := by have := hsm.2; dsimp only at this; omega
      have a0 := hbl.at_ (i := 0) rfl
      have a1 := hbl.at_ (i := 1) rfl
      have a2 := hbl.at_ (i := 2) rfl
      have a3 := hbl.at_ (i := 3) rfl
      have hcall := print_any z1 y1 P1 Q1 m1 c1 q1 f1 ps1 es1 W' r1 r2 hm1 hq1 (tab_ext HT0.out (HHB.out.trans (s2.mono (by have := HZ.out; omega))))
      unfold GivesPr prText prNo at hcall
      simp only [show dRight z1 ps1 y1 es1 = true from hdr, if_true] at hcall
      have hsn := txtK_snoc ds pre x hd1
      have hlt1 := txtK_len (by rw [HLEN.out, HMN.out]) HDR.out pre
      have hlp := dP_len hdr
      rw [show dP (z1, ps1, y1, es1) = printT z1 ps1 y1 es1 from rfl] at hsn hlp
      generalize printT z1 ps1 y1 es1 = t at *
      have hl2 : (Lib.byteCells (txtK ds pre)).length + (⟨t.toArray⟩ : ByteArray).size ≤ 140737488355328 := by rw [Lib.byteCells_length, size_list]; have := HMN.out; omega
      have hl3 : (Lib.byteCells (txtK ds pre ++ t)).length + 1 ≤ 140737488355328 := by rw [Lib.byteCells_length]; simp; have := HMN.out; omega
      have HC := Lib.hid hcall
      have HSN := Lib.hid hsn
      have S1 := Lib.hid s1
      have S2 := Lib.hid s2
      have S3 := Lib.hid s3
      have HL2 := Lib.hid hl2
      have HL3 := Lib.hid hl3
      have hbl : Blk W' rb 35 #[.int .i64 z1, .slice P1 m1 c1, .int .i64 y1, .slice Q1 q1 f1] := hbl
      clear hcall hsn s1 s2 s3 hl2 hl3 hlt1 hlp hdr hsm hl1 r1 r2 hd1 hk hkb hst a0 a1 a2 a3
      have a0 := hbl.at_ (i := 0) rfl
      have a1 := hbl.at_ (i := 1) rfl
      have a2 := hbl.at_ (i := 2) rfl
      have a3 := hbl.at_ (i := 3) rfl
      clear hbl
      simp only [printF, mdV]
      gi_wp2_with fail
      refine ⟨trivial, (CallsIn.inRound _ (callsIn_wide.2 HC.out)).mono ?_⟩
      rintro x2 w4 ⟨rfl, hb4⟩
      clear a0 a1 a2 a3 HC
      replace S3 := Lib.hid (isB_ext hb4 S3.out)
      replace S2 := Lib.hid (S2.out.trans (hb4.mono (by have := S1.out; have := HZ1.out; omega)))
      have HKO := Lib.hid (keepsO_below hb4)
      have HKB := Lib.hid (KeepB.of_below (S := blksD A n ms) hb4 (fun b hb => by have := HLT1.out b hb; have := S1.out; omega))
      replace S1 := Lib.hid (Nat.le_trans S1.out hb4.size)
      clear hb4
      gi_wp2_with fail
      refine ⟨trivial, (CallsIn.inRound _ (callsIn_wide.2 (writeString_all w1.heap.size w1.heap.size _ ⟨t.toArray⟩ w4 S3.out HL2.out (by have := S1.out; have := HZ1.out; omega)))).mono ?_⟩
      rintro x2 w5 ⟨rfl, hi5, hb5, hk5⟩
      rw [cells_text] at hi5
      replace S3 := Lib.hid hi5
      replace S2 := Lib.hid (S2.out.trans hb5)
      replace HKO := Lib.hid (HKO.out.trans hk5)
      replace HKB := Lib.hid (HKB.out.t (KeepB.of_below (S := blksD A n ms) hb5 (fun b hb => by have := HLT.out b hb; have := HZ.out; omega)))
      replace S1 := Lib.hid (Nat.le_trans S1.out hb5.size)
      clear hb5 hi5 hk5
      gi_wp2_with fail
      refine ⟨trivial, (CallsIn.inRound _ (callsIn_wide.2 (writeByte_all w1.heap.size w1.heap.size _ 10 w5 S3.out HL3.out (by have := S1.out; have := HZ1.out; omega)))).mono ?_⟩
      rintro x2 w6 ⟨rfl, hi6, hb6, hk6⟩
      have hi6' : IsB w1.heap.size w1.heap.size (Lib.byteCells (txtK ds (pre ++ [x]))) w6 := by
        rw [HSN.out, ← cells_snoc]
        exact hi6
      replace S3 := Lib.hid hi6'
      replace S2 := Lib.hid (S2.out.trans hb6)
      replace HKO := Lib.hid (HKO.out.trans hk6)
      replace HKB := Lib.hid (HKB.out.t (KeepB.of_below (S := blksD A n ms) hb6 (fun b hb => by have := HLT.out b hb; have := HZ.out; omega)))
      replace S1 := Lib.hid (Nat.le_trans S1.out hb6.size)
      clear hb6 hi6 hk6 hi6'
      gi_wp2
      exact ⟨HKO.out.from _, HKB.out, S1.out, S2.out, S3.out⟩
    case done =>
      rintro D ys W' hD rfl ⟨s1, s2, s3⟩ hK
      rw [txtK_all (by rw [HLEN.out, HMN.out])] at s3
      have S1 := Lib.hid s1
      have S2 := Lib.hid s2
      have S3 := Lib.hid s3
      have HK := Lib.hid hK
      clear s1 s2 s3 hK hst
      gi_wp2_with fail
      refine ⟨trivial, (callsIn_wide.2 (bString_all w1.heap.size w1.heap.size _ W' S3.out (by have := S1.out; have := HZ1.out; omega))).mono ?_⟩
      rintro x w4 ⟨rfl, hb4, hk4⟩
      have hK4 := hk4.same D _ HK.out rfl
      have hb5 := S2.out.trans hb4
      have hbb : Below w.heap.size w w4 := HHB.out.trans (hb5.mono (by have := HZ.out; omega))
      have g2 : Blk w4 w.heap.size 9 #[.string ⟨#[]⟩] := (hb5.block _ (by have := HZ.out; omega)).trans HG2.out
      have g3 : Blk w4 (w.heap.size + 1) 25 #[.int .i64 0] := (hb5.block _ (by have := HZ.out; omega)).trans HG3.out
      have c2 := g2.at_ (i := 0) rfl
      have c3 := g3.at_ (i := 0) rfl
      have f2 := g2.frozen 0
      have f3 := g3.frozen 0
      obtain ⟨t, ht⟩ : ∃ t : ByteArray, (⟨(linesT ds).toArray⟩ : ByteArray) = t := ⟨_, rfl⟩
      have HTE := Lib.hid ht
      rw [ht]
      have q2 := ((g2.set_ 0 (.string t)).far (p := ⟨w.heap.size + 1, 0, none⟩) (by show w.heap.size ≠ w.heap.size + 1; omega) (.int .i64 0)).at_ (i := 0) rfl
      have q3 := ((g3.far (p := ⟨w.heap.size, 0, none⟩) (by show w.heap.size + 1 ≠ w.heap.size; omega) (.string t)).set_ 0 (.int .i64 0)).at_ (i := 0) rfl
      have HB9 := Lib.hid ((hbb.setCell (p := ⟨w.heap.size, 0, none⟩) (Nat.le_refl _) (.string t)).setCell (p := ⟨w.heap.size + 1, 0, none⟩) (Nat.le_succ _) (.int .i64 0))
      have HK9 := Lib.hid (((KeepsOthers.setCell w4 ⟨w.heap.size, 0, none⟩ (.string t)).trans (KeepsOthers.setCell _ ⟨w.heap.size + 1, 0, none⟩ (.int .i64 0))).same D _ hK4 rfl)
      clear hb4 hk4 hK4 hb5 hbb ht
      gi_wp2
      generalize (w4.setCell ⟨w.heap.size, 0, none⟩ (.string t)).setCell ⟨w.heap.size + 1, 0, none⟩ (.int .i64 0) = w9 at *
      refine ⟨by simp, .inl ⟨_, _, rfl, run_takeDeferred HK9.out, ?_⟩⟩
      have hbD := belowK_b (w := W1) (n₀ := W1.heap.size) (Nat.le_refl _) w9 D _ (.deferred none) hD HK9.out rfl rfl
      have q2' := (World.cell?_of_block (w := w9) (a := ⟨w.heap.size, 0, none⟩) (hbD.block w.heap.size (by have := HZ.out; have := HZ1.out; omega))).trans q2
      have q3' := (World.cell?_of_block (w := w9) (a := ⟨w.heap.size + 1, 0, none⟩) (hbD.block (w.heap.size + 1) (by have := HZ.out; have := HZ1.out; omega))).trans q3
      refine ⟨.tuple #[.string t, .int .i64 0], by simp [results, Tryz.results11, go_sem, q2', q3'], by rw [HTE.out]; rfl, ?_⟩
      exact HB9.out.trans (hbD.mono (by have := HZ.out; have := HZ1.out; omega))
end Go.Proofs.YtmabokmnniiadaaGreatDoor
namespace Go.Proofs.YtmabokmnniiadaaGreatDoor
open Go.RowKit Go.Stop

theorem Row.cut {w : World} {A : Option Addr} {m : Nat} {xs : List Value} (h : Row w A m xs) (k : Nat) (hk : k ≤ m) : Row w A k (xs.take k) := by
  refine ⟨by have := h.1; simp; omega, fun h0 => ?_⟩
  obtain ⟨b, off, e, hc⟩ := h.2 (by omega)
  exact ⟨b, off, e, fun j u hu => hc j u (by rw [List.getElem?_take] at hu; split at hu <;> simp_all)⟩
theorem row_cut {w : World} {A : Option Addr} {m : Nat} {l : List Int} (h : Row w A m (l.map Iv)) : Row w A (min m 20) ((l.take 20).map Iv) := by
  have h1 := h.cut (min m 20) (Nat.min_le_left _ _)
  have hl := h.1
  simp at hl
  rw [← List.map_take, Nat.min_comm, ← List.take_take, List.take_of_length_le (l := l) (by omega), Nat.min_comm] at h1
  exact h1

set_option maxRecDepth 100000 in
set_option maxHeartbeats 4000000 in
/-- Cut. -/
theorem dcut_any (z e : Int) (P Q : Option Addr) (m c q f : Nat) (w : World) (hm : m ≤ c) (hq : q ≤ f) :
    Calls Tryz.prog 21 #[descV z P m c e Q q f] w fun x w' => x = .returned (descV z P (min m 20) c e Q (min q 20) f) ∧ Below w.heap.size w w' := by
  have hb1 := below_le (below_box w (descO z P m c e Q q f)) (below_box _ (descO 0 none 0 0 0 none 0 0))
  have h1 : Blk ((w.alloc (descO z P m c e Q q f)).alloc (descO 0 none 0 0 0 none 0 0)) w.heap.size 35 #[.int .i64 z, .slice P m c, .int .i64 e, .slice Q q f] := Blk.alloc (Blk.new _ _ _) _
  have h2 : Blk ((w.alloc (descO z P m c e Q q f)).alloc (descO 0 none 0 0 0 none 0 0)) (w.heap.size + 1) 35 #[.int .i64 0, .slice none 0 0, .int .i64 0, .slice none 0 0] := heap_new (by simp) _
  have HB := Lib.hid hb1
  have H2 := Lib.hid h2
  have k0 := h1.at_ (i := 0) rfl
  have k1 := h1.at_ (i := 1) rfl
  have k2 := h1.at_ (i := 2) rfl
  have k3 := h1.at_ (i := 3) rfl
  have HMC := Lib.hid hm
  have HQF := Lib.hid hq
  clear hb1 h2 h1 hm hq
  go_enter Tryz.func21, Tryz.ntmps21
  go_wp2
  generalize (w.alloc (descO z P m c e Q q f)).alloc (descO 0 none 0 0 0 none 0 0) = W0 at *
  have t0 := ext_cell k0
  have t1 := ext_cell k1
  have t2 := ext_cell k2
  have t3 := ext_cell k3
  refine wp_region_tail 19 (by kernel_rfl) (by kernel_rfl) ?_; simp only [List.take_succ_cons, List.take_zero, List.drop_succ_cons, List.drop_zero]
  repeat (first | (refine head_skip rfl ?_; go_frame) | (refine head_soft rfl (fun K hK => ?_); go_simp; first | (refine hK _ ?_; clear hK K) | (apply Exists.intro; refine ⟨fun x => ?_, hK _ ?_⟩; (· (fail)); clear hK K; try go_frame)))
  obtain ⟨x, hx⟩ : ∃ x : Int, min (m : Int) 20 = x := ⟨_, rfl⟩
  rw [hx]
  have hxe : x = (min m 20 : Nat) := by omega
  have hx0 : 0 ≤ x := by omega
  have hx1 : x ≤ c := by have := HMC.out; omega
  have HX : Hid (x.toNat = min m 20) := Lib.hid (by omega)
  clear hx hxe
  repeat (first | (refine head_skip rfl ?_; go_frame) | (refine head_soft rfl (fun K hK => ?_); go_simp; first | (refine hK _ ?_; clear hK K) | (apply Exists.intro; refine ⟨fun x => ?_, hK _ ?_⟩; (· (fail)); clear hK K; try go_frame)))
  obtain ⟨y, hy⟩ : ∃ y : Int, min (q : Int) 20 = y := ⟨_, rfl⟩
  rw [hy]
  have hye : y = (min q 20 : Nat) := by omega
  have hy0 : 0 ≤ y := by omega
  have hy1 : y ≤ f := by have := HQF.out; omega
  have HY : Hid (y.toNat = min q 20) := Lib.hid (by omega)
  clear hy hye
  repeat (first | (refine head_skip rfl ?_; go_frame) | (refine head_soft rfl (fun K hK => ?_); go_simp; first | (refine hK _ ?_; clear hK K) | (apply Exists.intro; refine ⟨fun x => ?_, hK _ ?_⟩; (· (fail)); clear hK K; try go_frame)))
  refine head_nil fun w2 hb2 => ?_
  have h2 := H2.out.ext hb2
  have f0 := h2.frozen 0
  have f1 := h2.frozen 1
  have f2 := h2.frozen 2
  have f3 := h2.frozen 3
  have c0 := h2.at_ (i := 0) rfl
  have c1 := h2.at_ (i := 1) rfl
  have c2 := h2.at_ (i := 2) rfl
  have c3 := h2.at_ (i := 3) rfl
  have H9 := Lib.hid (h2.set4 (.int .i64 z) (.slice P x.toNat c) (.int .i64 e) (.slice Q y.toNat f))
  have HB9 := Lib.hid (below_set4 (below_le HB.out hb2) (show w.heap.size ≤ w.heap.size + 1 by omega) (.int .i64 z) (.slice P x.toNat c) (.int .i64 e) (.slice Q y.toNat f))
  clear h2 hb2 t0 t1 t2 t3 k0 k1 k2 k3
  go_wp2
  have q0 := H9.out.at_ (i := 0) rfl
  have q1 := H9.out.at_ (i := 1) rfl
  have q2 := H9.out.at_ (i := 2) rfl
  have q3 := H9.out.at_ (i := 3) rfl
  refine bodyPost_ret (v := descV z P x.toNat c e Q y.toNat f) (by simp [results, Tryz.results21, go_sem, q0, q1, q2, q3]) rfl ⟨?_, HB9.out⟩
  rw [HX.out, HY.out]

/-! ### What shown comes by -/
theorem read_any_print {z e : Int} {ps es : List Int} (hz : 0 ≤ z ∧ z ≤ 1024) (hp : smallB ps) (he : 0 ≤ e ∧ e ≤ 1024) (hq : smallB es) : readT (printT z ps e es) = joinT (some (z, ps)) (some (e, es)) := by
  have hc : Lib.cut (printT z ps e es) [59, 32] = (halfT z ps, halfT e es, true) := cut_at (half_no hz.1 hp)
  rw [read_join hc, half_read hz hp, half_read he hq]
  rfl

end Go.Proofs.YtmabokmnniiadaaGreatDoor
namespace Go.Proofs.YtmabokmnniiadaaGreatDoor
open Go.RowKit

/-- What a law's walk has of the world. -/
def DK (w : World) : Prop := EType w ∧ MLen w ∧ Tab w
theorem DK.ext {w w' : World} (h : DK w) (hb : Below w.heap.size w w') : DK w' := ⟨h.1.ext hb, h.2.1.ext hb, tab_ext h.2.2 hb⟩
/-- The law returned true, and what was there stays. -/
def Holds (w : World) (e : Ending) (w' : World) : Prop := e = .returned (.bool true) ∧ Below w.heap.size w w'
/-- No list of places is longer than what it may grow to. -/
def CapsOk (w : World) (A : Option Addr) (n : Nat) : Prop :=
  0 < n → ∃ g off, A = some ⟨g, off, none⟩ ∧ ∀ k, k < n → ∃ P m c Q q f, w.cell? ⟨g, off + 4 * k + 1, none⟩ = some (.slice P m c) ∧ m ≤ c ∧ w.cell? ⟨g, off + 4 * k + 3, none⟩ = some (.slice Q q f) ∧ q ≤ f

instance (d : DscK) : Decidable (sm1 d) := by unfold sm1; infer_instance
/-! ### What shown comes by -/
def shA : DscK := (8, [4], 0, [])
def shB : DscK := (8, [], 0, [])
theorem sh_add1 : kAdd [] shA = ([shA], 1, 0) := by decide
theorem sh_add2 : kAdd [shA] shB = ([shA, shB], 2, 0) := by decide
theorem sh_add3 : kAdd [shA, shB] shA = ([shA, shB], 1, 0) := by decide
theorem sh_no : kNo [shA, shB] = 0 := by decide
theorem sh_of : kOf [shA, shB] 1 = (shA, 0) := by decide
theorem sh_p1 : ([56, 58, 32, 52, 59, 32, 48, 58] : List UInt8) = printT 8 [4] 0 [] := by
  simp [printT, halfT, wordsT, Lib.itoa, Lib.decDigits]
theorem sh_p2 : ([56, 58, 59, 32, 48, 58] : List UInt8) = printT 8 [] 0 [] := by
  simp [printT, halfT, wordsT, Lib.itoa, Lib.decDigits]
theorem sh_text : kText [shA, shB] = [56, 58, 32, 52, 59, 32, 48, 58, 10, 56, 58, 59, 32, 48, 58, 10] := by
  rw [show kText [shA, shB] = linesT [shA, shB] by unfold kText; rw [if_pos (by decide)]]
  rw [linesT_cons, linesT_cons, show dP shA = printT 8 [4] 0 [] from rfl, show dP shB = printT 8 [] 0 [] from rfl, ← sh_p1, ← sh_p2]
  rfl
theorem sh_twice : ([56, 58, 32, 52, 59, 32, 48, 58, 10, 56, 58, 32, 52, 59, 32, 48, 58, 10] : List UInt8) = linesT [shA, shA] := by
  rw [linesT_cons, linesT_cons, show dP shA = printT 8 [4] 0 [] from rfl, ← sh_p1]
  rfl
theorem sh_parse : kParse [56, 58, 32, 52, 59, 32, 48, 58, 10, 56, 58, 32, 52, 59, 32, 48, 58, 10] = ([], 2, 52) := by
  have hr : dR shA = true := by decide
  rw [sh_twice]
  unfold kParse
  rw [linesOf_lines _ _ (by simp [hr])]
  have hl := linesT_len [shA, shA]
  rw [List.take_of_length_le (by simp at hl ⊢; omega)]
  simp [parseL, readK, read_dP hr]

/-- Kinds, a number and a code, as a walk wants them. -/
theorem GivesK.int {w : World} {r : List DscK × Nat × Nat} {x : Ending} {w' : World} (h : GivesK w r x w') : ∃ A n c, x = .returned (.tuple #[.slice A n c, .int .i64 (r.2.1 : Nat), .int .i64 (r.2.2 : Nat)]) ∧ RowD w' A n r.1 ∧ Below w.heap.size w w' := by
  obtain ⟨A, n, c, h1, h2, -, h4⟩ := h
  exact ⟨A, n, c, h1, h2, h4⟩
theorem run_one (x : Int) (W : World) : (Instr.buildSlice 33 1 #[(0, .int .i64 x)]).run Tryz.prog W = .ok (.slice (some ⟨W.heap.size, 0, none⟩) 1 1) (W.alloc (.cells #[.int .i64 x] 3)) := by go_simp
theorem Sm.of_len {ds : List DscK} (h : ∀ d ∈ ds, d.2.1.length ≤ 20 ∧ d.2.2.2.length ≤ 20) : Sm ds := fun d hd => ⟨by have := (h d hd).1; omega, by have := (h d hd).2; omega⟩

set_option maxRecDepth 100000 in
set_option maxHeartbeats 4000000 in
/-- shown. -/
theorem kshown_any (w : World) (hD : DK w) : Calls Tryz.prog 9 #[] w fun e w' => e = .returned (.bool true) ∧ Below w.heap.size w w' := by
  have hro := run_one 4
  have hb0 := below_le (below_box w (.cells #[.int .i64 4] 3)) (below_box _ (descO 8 (some ⟨w.heap.size, 0, none⟩) 1 1 0 none 0 0))
  have h0 : Blk ((w.alloc (.cells #[.int .i64 4] 3)).alloc (descO 8 (some ⟨w.heap.size, 0, none⟩) 1 1 0 none 0 0)) w.heap.size 3 #[.int .i64 4] := Blk.alloc (Blk.new _ _ _) _
  have h1 : Blk ((w.alloc (.cells #[.int .i64 4] 3)).alloc (descO 8 (some ⟨w.heap.size, 0, none⟩) 1 1 0 none 0 0)) (w.heap.size + 1) 35 #[.int .i64 8, .slice (some ⟨w.heap.size, 0, none⟩) 1 1, .int .i64 0, .slice none 0 0] := heap_new (by simp) _
  have HD := Lib.hid hD
  have HB := Lib.hid hb0
  have HP : Hid (Row _ _ _ (([4] : List Int).map Iv)) := Lib.hid h0.row
  have a0 := h1.at_ (i := 0) rfl
  have a1 := h1.at_ (i := 1) rfl
  have a2 := h1.at_ (i := 2) rfl
  have a3 := h1.at_ (i := 3) rfl
  clear hD hb0 h0 h1
  go_enter Tryz.func9, Tryz.ntmps9
  go_wp2_with fail
  generalize (w.alloc (.cells #[.int .i64 4] 3)).alloc (descO 8 (some ⟨w.heap.size, 0, none⟩) 1 1 0 none 0 0) = W0 at *
  clear hro
  have h := add_any none 0 0 [] shA (some ⟨w.heap.size, 0, none⟩) none 1 1 0 0 W0 RowD.none_ Sm.nil (by omega) HP.out Row.none_ (by decide) (tab_ext HD.out.2.2 HB.out) (HD.out.1.ext HB.out)
  rw [sh_add1] at h
  refine h.mono ?_
  clear h
  intro x w1 h
  obtain ⟨A1, n1, c1, rfl, hR1, hb1⟩ := h.int
  dsimp only at hR1 ⊢
  replace a0 := cell_ext hb1 a0; replace a1 := cell_ext hb1 a1; replace a2 := cell_ext hb1 a2; replace a3 := cell_ext hb1 a3; replace HP := Lib.hid (HP.out.ext hb1)
  replace HB := Lib.hid (below_le HB.out hb1)
  have HR1 := Lib.hid hR1
  clear h hb1 hR1
  go_wp2_with fail
  have h := add_any A1 n1 c1 [shA] shB none none 0 0 0 0 w1 HR1.out (by intro d hd; rw [List.mem_singleton.1 hd]; decide) (by have := HR1.out.1; simp at this; omega) Row.none_ Row.none_ (by decide) (tab_ext HD.out.2.2 HB.out) (HD.out.1.ext HB.out)
  rw [sh_add2] at h
  refine h.mono ?_
  clear h
  intro x w2 h
  obtain ⟨A2, n2, c2, rfl, hR2, hb2⟩ := h.int
  dsimp only at hR2 ⊢
  replace a0 := cell_ext hb2 a0; replace a1 := cell_ext hb2 a1; replace a2 := cell_ext hb2 a2; replace a3 := cell_ext hb2 a3; replace HP := Lib.hid (HP.out.ext hb2)
  replace HB := Lib.hid (below_le HB.out hb2)
  have HR2 := Lib.hid hR2
  have hn2 : n2 ≤ 1000 := by have := hR2.1; simp at this; omega
  have hs2 : Sm [shA, shB] := by
    intro d hd
    rcases List.mem_cons.1 hd with rfl | hd
    · decide
    · rw [List.mem_singleton.1 hd]; decide
  have HS2 := Lib.hid hs2
  clear h hb2 hR2 HR1 hs2
  go_wp2_with fail
  have h := add_any A2 n2 c2 [shA, shB] shA (some ⟨w.heap.size, 0, none⟩) none 1 1 0 0 w2 HR2.out HS2.out hn2 HP.out Row.none_ (by decide) (tab_ext HD.out.2.2 HB.out) (HD.out.1.ext HB.out)
  rw [sh_add3] at h
  refine h.mono ?_
  clear h
  intro x w3 h
  obtain ⟨A3, n3, c3, rfl, hR3, hb3⟩ := h.int
  dsimp only
  replace a0 := cell_ext hb3 a0; replace a1 := cell_ext hb3 a1; replace a2 := cell_ext hb3 a2; replace a3 := cell_ext hb3 a3; replace HP := Lib.hid (HP.out.ext hb3); replace HR2 := Lib.hid (HR2.out.ext hb3)
  replace HB := Lib.hid (below_le HB.out hb3)
  clear h hb3 hR3
  go_wp2_with fail
  have h := kprint_any A2 n2 c2 [shA, shB] w3 HR2.out HS2.out hn2 (tab_ext HD.out.2.2 HB.out) (HD.out.1.ext HB.out)
  rw [sh_text, sh_no] at h
  refine h.mono ?_
  clear h
  rintro x w4 ⟨rfl, hb4⟩
  replace a0 := cell_ext hb4 a0; replace a1 := cell_ext hb4 a1; replace a2 := cell_ext hb4 a2; replace a3 := cell_ext hb4 a3; replace HP := Lib.hid (HP.out.ext hb4); replace HR2 := Lib.hid (HR2.out.ext hb4)
  replace HB := Lib.hid (below_le HB.out hb4)
  clear hb4
  go_wp2_with fail
  have h := kparse_any ⟨#[56, 58, 32, 52, 59, 32, 48, 58, 10, 56, 58, 32, 52, 59, 32, 48, 58, 10]⟩ w4 (by decide) (shortL_of _ _ (by decide)) (HD.out.2.1.ext HB.out) (HD.out.1.ext HB.out)
  rw [show kParse (⟨#[56, 58, 32, 52, 59, 32, 48, 58, 10, 56, 58, 32, 52, 59, 32, 48, 58, 10]⟩ : ByteArray).data.toList = ([], 2, 52) from sh_parse] at h
  refine h.mono ?_
  clear h
  intro x w5 h
  obtain ⟨A5, n5, c5, rfl, -, hb5⟩ := h.int
  dsimp only
  replace a0 := cell_ext hb5 a0; replace a1 := cell_ext hb5 a1; replace a2 := cell_ext hb5 a2; replace a3 := cell_ext hb5 a3; replace HP := Lib.hid (HP.out.ext hb5); replace HR2 := Lib.hid (HR2.out.ext hb5)
  replace HB := Lib.hid (below_le HB.out hb5)
  clear h hb5
  go_wp2_with fail
  have h := of_any A2 n2 c2 [shA, shB] 1 w5 HR2.out HS2.out hn2 (tab_ext HD.out.2.2 HB.out) (HD.out.1.ext HB.out)
  rw [sh_of] at h
  refine h.mono ?_
  clear h
  rintro x w6 ⟨v, rfl, ⟨P, m, c, Q, q, f, rfl, hP, hQ, -, -⟩, hb6⟩
  have hP : Row w6 P m (([4] : List Int).map Iv) := hP
  have hQ : Row w6 Q q (([] : List Int).map Iv) := hQ
  obtain rfl : m = 1 := hP.1.symm
  obtain rfl : q = 0 := hQ.1.symm
  have hx := below_box w6 (descO 8 P 1 c 0 Q 0 f)
  have h1 : Blk (w6.alloc (descO 8 P 1 c 0 Q 0 f)) w6.heap.size 35 #[.int .i64 8, .slice P 1 c, .int .i64 0, .slice Q 0 f] := Blk.new _ _ _
  replace a0 := cell_ext hb6 a0; replace a1 := cell_ext hb6 a1; replace a2 := cell_ext hb6 a2; replace a3 := cell_ext hb6 a3; replace HP := Lib.hid (HP.out.ext hb6)
  replace a0 := cell_ext hx a0; replace a1 := cell_ext hx a1; replace a2 := cell_ext hx a2; replace a3 := cell_ext hx a3; replace HP := Lib.hid (HP.out.ext hx)
  have HP2 := Lib.hid (hP.ext hx)
  have HQ2 := Lib.hid (hQ.ext hx)
  have b0 := h1.at_ (i := 0) rfl
  have b1 := h1.at_ (i := 1) rfl
  have b2 := h1.at_ (i := 2) rfl
  have b3 := h1.at_ (i := 3) rfl
  replace HB := Lib.hid (below_le (below_le HB.out hb6) hx)
  clear hP hQ hx hb6 h1 HR2
  dsimp only [shA]
  go_wp2_with fail
  generalize w6.alloc (descO 8 P 1 c 0 Q 0 f) = W6 at *
  have h := dsame_any 8 0 P Q 1 c 0 f [4] [] 8 0 (some ⟨w.heap.size, 0, none⟩) none 1 1 0 0 [4] [] W6 HP2.out HQ2.out HP.out Row.none_ (by omega) (by omega) (by omega) (by omega)
  rw [show dSame 8 0 [4] [] 8 0 [4] [] = true by decide] at h
  refine h.mono ?_
  clear h
  rintro x w7 ⟨rfl, hb7⟩
  replace HB := Lib.hid (below_le HB.out hb7)
  clear hb7
  go_wp2
  go_ret
  exact ⟨rfl, HB.out⟩
end Go.Proofs.YtmabokmnniiadaaGreatDoor
namespace Go.Proofs.YtmabokmnniiadaaGreatDoor
open Go.RowKit

def cutK (d : DscK) : DscK := (d.1, d.2.1.take 20, d.2.2.1, d.2.2.2.take 20)
def kFew (ds : List DscK) : List DscK := (ds.take 62).map cutK
theorem kFew_len (ds : List DscK) : (kFew ds).length ≤ 62 := by simp [kFew]; omega
theorem kFew_sm (ds : List DscK) : Sm (kFew ds) := Sm.of_len fun d hd => by
  obtain ⟨x, -, rfl⟩ := List.mem_map.1 hd
  simp [cutK]
  omega
theorem kFew_places (ds : List DscK) : ∀ d ∈ kFew ds, d.2.1.length ≤ 20 ∧ d.2.2.2.length ≤ 20 := fun d hd => by
  obtain ⟨x, -, rfl⟩ := List.mem_map.1 hd
  simp [cutK]
  omega
theorem kFew_get {ds : List DscK} {k : Nat} {d : DscK} (h : ds[k]? = some d) (hk : k < 62) : (kFew ds)[k]? = some (cutK d) := by
  simp [kFew, List.getElem?_map, hk, h]
theorem kFew_all {ds : List DscK} : (kFew ds).length = min ds.length 62 := by simp [kFew, Nat.min_comm]
theorem get_caps {w : World} {A : Option Addr} {n k : Nat} {ms : List MD} {ds : List DscK} (h : RowM w A n ms ds) (hC : CapsOk w A n) (hk : k < n) : ∃ b off z P m c e Q q f ps es, A = some ⟨b, off, none⟩ ∧ ms[k]? = some (z, (P, m, c), e, (Q, q, f)) ∧ ds[k]? = some (z, ps, e, es) ∧ Row w P m (ps.map Iv) ∧ Row w Q q (es.map Iv) ∧ m ≤ c ∧ q ≤ f ∧
    w.cell? ⟨b, off + k * 4, none⟩ = some (.int .i64 z) ∧ w.cell? ⟨b, off + k * 4 + 1, none⟩ = some (.slice P m c) ∧ w.cell? ⟨b, off + k * 4 + 2, none⟩ = some (.int .i64 e) ∧ w.cell? ⟨b, off + k * 4 + 3, none⟩ = some (.slice Q q f) := by
  obtain ⟨b, off, z, P, m, c, e, Q, q, f, ps, es, rfl, hms, hd, r1, r2, d0, d1, d2, d3⟩ := h.get hk
  obtain ⟨g, o, hA, hc⟩ := hC (by omega)
  obtain ⟨P', m', c', Q', q', f', e1, l1, e3, l3⟩ := hc k hk
  simp only [Option.some.injEq, Addr.mk.injEq, and_true] at hA
  obtain ⟨rfl, rfl⟩ := hA
  rw [Nat.mul_comm 4 k] at e1 e3
  rw [d1] at e1
  rw [d3] at e3
  injection e1 with e1
  injection e3 with e3
  injection e1 with _ e1 e2
  injection e3 with _ e3 e4
  subst e1 e2 e3 e4
  exact ⟨b, off, z, P, m, c, e, Q, q, f, ps, es, rfl, hms, hd, r1, r2, l1, l3, d0, d1, d2, d3⟩

/-- The blocks of the lists of some are among those of others. -/
def Among (ms ms0 : List MD) : Prop := ∀ d ∈ ms, ∀ b ∈ blkM d, ∃ d0 ∈ ms0, b ∈ blkM d0
theorem blkM_cut {z e : Int} {P Q : Option Addr} {m c q f : Nat} : ∀ b ∈ blkM (z, (P, min m 20, c), e, (Q, min q 20, f)), b ∈ blkM (z, (P, m, c), e, (Q, q, f)) := by
  intro b hb
  have h1 : ∀ (A : Option Addr) (k : Nat), b ∈ blkR A (min k 20) → b ∈ blkR A k := fun A k h => by
    unfold blkR at h ⊢
    split at h
    · rw [if_pos (by omega)]; exact h
    · simp at h
  exact List.mem_append.2 ((List.mem_append.1 hb).imp (h1 P m) (h1 Q q))
/-- A list that the call owns, as far as it is made. -/
def FList (w0 w : World) (ms0 : List MD) (v : Value) (k : Nat) (L : List DscK) : Prop :=
  ∃ ms, w.ownsRow w0.heap.size 35 4 v k (cellsD ms) ∧ ms.length = k ∧ (∀ (j : Nat) (d : MD) (x : DscK), ms[j]? = some d → L[j]? = some x → Fits w0 d x) ∧ Among ms ms0

set_option maxRecDepth 100000 in
set_option maxHeartbeats 4000000 in
/-- Few. -/
theorem few_full (A : Option Addr) (n c : Nat) (ms0 : List MD) (ds : List DscK) (w : World) (hR : RowM w A n ms0 ds) (hC : CapsOk w A n) :
    Calls Tryz.prog 10 #[.slice A n c] w fun x w' => ∃ B m d ms, x = .returned (.slice B m d) ∧ m ≤ 62 ∧ RowM w' B m ms (kFew ds) ∧ Among ms ms0 ∧ (∀ a, B = some a → w.heap.size ≤ a.block) ∧ m ≤ d ∧ Below w.heap.size w w' := by
  obtain ⟨inf, hi, hi0, hi1, hi2⟩ := info_parts desc_info
  have hlen := hR.1
  have HR := Lib.hid hR
  have HC := Lib.hid hC
  have HLEN := Lib.hid hlen
  have h0 : FList w w ms0 (.slice none 0 0) 0 (kFew ds) := ⟨[], ⟨rfl, .inl ⟨rfl, rfl⟩⟩, rfl, fun j d x h => by simp at h, fun d h => by simp at h⟩
  have H0 := Lib.hid h0
  clear hR hC hlen h0
  go_enter Tryz.func10, Tryz.ntmps10
  go_wp2
  go_loopw [3, 4] (fun v i wr => ∃ k : Nat, k ≤ n ∧ k ≤ 62 ∧ i = .int .i64 k ∧ FList w wr ms0 v k (kFew ds) ∧ Below w.heap.size w wr) (fun _ i _ => 62 - (intOf i).toNat)
  case atStart => exact ⟨0, Nat.zero_le _, Nat.zero_le _, rfl, H0.out, Below.refl _ _⟩
  case round =>
    clear H0
    obtain ⟨k, hkn, hk62, rfl, hF, hb⟩ := hrel
    obtain ⟨ms, hown, hml, hfit, ham⟩ := hF
    obtain ⟨av, cv, rfl⟩ := own_shape hown
    by_cases hlt : k < n ∧ k < 62
    · obtain ⟨hl1, hl2⟩ := hlt
      obtain ⟨b, off, z, P, m, c', e, Q, q, f, ps, es, rfl, hms, hd, r1, r2, hmc, hqf, d0, d1, d2, d3⟩ := get_caps HR.out HC.out hl1
      have ham2 : Among (ms ++ [(z, (P, min m 20, c'), e, (Q, min q 20, f))]) ms0 := fun d hd b hb => by
        rcases List.mem_append.1 hd with hd | hd
        · exact ham d hd b hb
        · rw [List.mem_singleton.1 hd] at hb
          exact ⟨_, List.mem_of_getElem? hms, blkM_cut b hb⟩
      have e0 := cell_ext hb d0
      have e1 := cell_ext hb d1
      have e2 := cell_ext hb d2
      have e3 := cell_ext hb d3
      have hcut := dcut_any z e P Q m c' q f wr hmc hqf
      have r1' := row_cut r1
      have r2' := row_cut r2
      have hnew := kFew_get hd hl2
      unfold cutK at hnew
      dsimp only at hnew
      generalize min m 20 = m' at *
      generalize min q 20 = q' at *
      have HAM := Lib.hid ham2
      have HN := Lib.hid hnew
      have HR1 := Lib.hid r1'
      have HR2 := Lib.hid r2'
      have HCUT := Lib.hid hcut
      have HB := Lib.hid hb
      have HO := Lib.hid hown
      have HML := Lib.hid hml
      have HF := Lib.hid hfit
      have hki : ((k : Nat) : Int) < 62 := by omega
      have hkj : ((k : Nat) : Int) < (n : Int) := by omega
      clear ham ham2 hms hnew r1 r2 r1' r2' hcut hb hown hml hfit d0 d1 d2 d3 hd
      go_wp2_with fail
      refine HCUT.out.mono ?_
      rintro x w2 ⟨rfl, hb2⟩
      have hown2 := own_extD hb2 HO.out
      have HO2 := Lib.hid hown2
      have HB2 := Lib.hid (below_le HB.out hb2)
      clear hown2 hb2 HCUT e0 e1 e2 e3 HO
      go_wp2_with (at_builtin; refine stop_hereK ?_)
      intro _
      refine wpList_pushD (w0 := w) w2 rfl (.tmp 15) (.tmp 21) 22 rfl w.heap.size 35 inf (.agg #[.int .i64 0, .slice none 0 0, .int .i64 0, .slice none 0 0]) 64 Tryz.underlying22 hi hi0 hi1 hi2 rfl (.slice av k cv) k ms rfl HO2.out
        (z, (P, m', c'), e, (Q, q', f)) rfl (by unfold maxLen; omega) (by omega) (Nat.le_refl _) HB2.out.size HB2.out (fun k e => own_baseD HO2.out e) ?_
      intro v' w3 hown3 hb3 hk3
      have HF3 : Hid (FList w w3 ms0 v' (k + 1) (kFew ds)) := Lib.hid ⟨_, hown3, by simp [HML.out], fun j d x h1 h2 => (show Fits w d x by
        have hml := HML.out
        by_cases hj : j < ms.length
        · rw [List.getElem?_append_left hj] at h1
          exact HF.out j d x h1 h2
        · rw [List.getElem?_append_right (by omega)] at h1
          have hj0 : j - ms.length = 0 := by
            have := (List.getElem?_eq_some_iff.1 h1).1
            simp at this
            omega
          rw [hj0] at h1
          simp at h1
          subst h1
          have : j = k := by omega
          subst this
          rw [HN.out] at h2
          cases h2
          exact ⟨rfl, rfl, HR1.out, HR2.out⟩), HAM.out⟩
      have HB3 := Lib.hid hb3
      clear hown3 hb3 hk3 HO2 HB2 HB HF HML HN
      go_wp2
      go_roundw
      case rel => exact ⟨k + 1, by omega, by omega, by go_num, HF3.out, HB3.out⟩
      case measure => simp [intOf]; omega
    · have hkf : (kFew ds).length = k := by
        rw [kFew_all, HLEN.out]
        omega
      have hres := rowM_of_owns (ds := kFew ds) hown (by rw [hml, hkf]) (fun j d x h1 h2 => (hfit j d x h1 h2).ext hb)
      have HFR := Lib.hid (show ∀ a, av = some a → w.heap.size ≤ a.block from fun a e => by
        subst e
        rcases hown.2 with ⟨he, _⟩ | ⟨g, cap, cur, he, hg, _⟩
        · cases he
        · injection he with he
          injection he with he
          rw [he]
          exact hg)
      have HAM := Lib.hid ham
      have hkc : k ≤ cv := by
        rcases hown.2 with ⟨he, h0⟩ | ⟨g, cap, cur, he, _, _, hc, _⟩
        · omega
        · injection he with _ _ he
          omega
      have HRES := Lib.hid hres
      have HB := Lib.hid hb
      clear hres hb hown hml hfit hkf ham
      by_cases h : k < n
      · obtain rfl : k = 62 := by omega
        have h1 : (62 : Int) < (n : Int) := by omega
        clear hlt h
        go_wp2
        go_ret
        exact ⟨_, _, _, ms, rfl, hk62, HRES.out, HAM.out, HFR.out, hkc, HB.out⟩
      · obtain rfl : k = n := by omega
        clear hlt h
        go_wp2
        go_ret
        exact ⟨_, _, _, ms, rfl, hk62, HRES.out, HAM.out, HFR.out, hkc, HB.out⟩

theorem few_all (A : Option Addr) (n c : Nat) (ms0 : List MD) (ds : List DscK) (w : World) (hR : RowM w A n ms0 ds) (hC : CapsOk w A n) :
    Calls Tryz.prog 10 #[.slice A n c] w fun x w' => ∃ B m d ms, x = .returned (.slice B m d) ∧ m ≤ 62 ∧ RowM w' B m ms (kFew ds) ∧ Among ms ms0 ∧ (∀ a, B = some a → w.heap.size ≤ a.block) ∧ Below w.heap.size w w' :=
  (few_full A n c ms0 ds w hR hC).mono fun _ _ ⟨B, m, d, ms2, h1, h2, h3, h4, h5, _, h6⟩ => ⟨B, m, d, ms2, h1, h2, h3, h4, h5, h6⟩
theorem few_any (A : Option Addr) (n c : Nat) (ds : List DscK) (w : World) (hR : RowD w A n ds) (hC : CapsOk w A n) :
    Calls Tryz.prog 10 #[.slice A n c] w fun x w' => ∃ B m d, x = .returned (.slice B m d) ∧ m ≤ 62 ∧ RowD w' B m (kFew ds) ∧ Below w.heap.size w w' := by
  obtain ⟨ms, hM⟩ := hR.ms
  exact (few_all A n c ms ds w hM hC).mono fun x w' ⟨B, m, d, ms2, h1, h2, h3, _, _, h4⟩ => ⟨B, m, d, h1, h2, h3.rowD, h4⟩
end Go.Proofs.YtmabokmnniiadaaGreatDoor
namespace Go.Proofs.YtmabokmnniiadaaGreatDoor
open Go.RowKit

theorem CapsOk.ext {w w' : World} {A : Option Addr} {n : Nat} (h : CapsOk w A n) (hb : Below w.heap.size w w') : CapsOk w' A n := fun hn => by
  obtain ⟨g, off, e, hc⟩ := h hn
  refine ⟨g, off, e, fun k hk => ?_⟩
  obtain ⟨P, m, c, Q, q, f, h1, h2, h3, h4⟩ := hc k hk
  exact ⟨P, m, c, Q, q, f, cell_ext hb h1, h2, cell_ext hb h3, h4⟩
theorem kOf_cases (l : List DscK) (n : Int) : ((kOf l n).2 = 50 ∧ kRight l = false) ∨ ((kOf l n).2 = 51 ∧ kRight l = true) ∨ ((kOf l n).2 = 0 ∧ kRight l = true ∧ 1 ≤ n ∧ n ≤ l.length ∧ (kOf l n).1 ∈ l ∧ dR (kOf l n).1 = true ∧ (kFind l (kOf l n).1 : Int) = n) := by
  cases hr : kRight l
  · exact .inl ⟨by unfold kOf; rw [if_pos hr], rfl⟩
  · by_cases hn : n < 1 ∨ (l.length : Int) < n
    · exact .inr (.inl ⟨by unfold kOf; rw [if_neg (by rw [hr]; simp), if_pos hn], rfl⟩)
    · have h0 : (kOf l n).2 = 0 := by unfold kOf; rw [if_neg (by rw [hr]; simp), if_neg hn]
      obtain ⟨h1, h2, h3, h4, h5⟩ := kOf_ok h0
      have hk := kRight_iff.1 h1
      refine .inr (.inr ⟨h0, rfl, h2, h3, h5, hk.2.1 _ h5, ?_⟩)
      rw [kFind_of hk.2.2 h4]
      omega

set_option maxRecDepth 100000 in
set_option maxHeartbeats 4000000 in
theorem kindsAll_any (A : Option Addr) (n c : Nat) (ds : List DscK) (nn : Int) (w : World) (hD : DK w) (hR : RowD w A n ds) (hC : CapsOk w A n) :
    Calls Tryz.prog 4 #[.slice A n c, .int .i64 nn] w (Holds w) := by
  have HD := Lib.hid hD
  have HR0 := Lib.hid hR
  have HC0 := Lib.hid hC
  clear hD hR hC
  go_enter Tryz.func4, Tryz.ntmps4
  go_wp2_with fail
  refine (kshown_any w HD.out).mono ?_
  rintro x w1 ⟨rfl, hb1⟩
  have HB := Lib.hid hb1
  have HR1 := Lib.hid (HR0.out.ext hb1)
  have HC1 := Lib.hid (HC0.out.ext hb1)
  clear hb1 HR0 HC0
  go_wp2_with fail
  refine (few_any A n c ds w1 HR1.out HC1.out).mono ?_
  rintro x w2 ⟨A2, m, c2, rfl, hm, hR2, hb2⟩
  have HR := Lib.hid hR2
  have HS := Lib.hid (kFew_sm ds)
  have HPL := Lib.hid (kFew_places ds)
  have hlen := hR2.1
  replace HB := Lib.hid (below_le HB.out hb2)
  clear hR2 hb2 HR1 HC1
  generalize kFew ds = l at *
  have HLEN := Lib.hid hlen
  clear hlen
  go_wp2_with fail
  have h := of_any A2 m c2 l nn w2 HR.out HS.out (by omega) (tab_ext HD.out.2.2 HB.out) (HD.out.1.ext HB.out)
  have hcs := kOf_cases l nn
  unfold GivesOf at h
  generalize kOf l nn = r at *
  obtain ⟨⟨z, ps, e, es⟩, cc⟩ := r
  dsimp only at h hcs
  refine h.mono ?_
  clear h
  rintro x w3 ⟨v, rfl, ⟨P, p, cp, Q, q, f, rfl, hP, hQ, -, -⟩, hb3⟩
  have hx := below_box w3 (descO z P p cp e Q q f)
  have h1 : Blk (w3.alloc (descO z P p cp e Q q f)) w3.heap.size 35 #[.int .i64 z, .slice P p cp, .int .i64 e, .slice Q q f] := Blk.new _ _ _
  have HP := Lib.hid (hP.ext hx)
  have HQ := Lib.hid (hQ.ext hx)
  replace HR := Lib.hid ((HR.out.ext hb3).ext hx)
  replace HB := Lib.hid (below_le (below_le HB.out hb3) hx)
  have a0 := h1.at_ (i := 0) rfl
  have a1 := h1.at_ (i := 1) rfl
  have a2 := h1.at_ (i := 2) rfl
  have a3 := h1.at_ (i := 3) rfl
  clear hP hQ hx hb3 h1
  rcases hcs with ⟨rfl, hr⟩ | ⟨rfl, hr⟩ | ⟨rfl, hr, hn1, hn2, hmem, hdr, hfd⟩
  · go_wp2_with fail
    generalize w3.alloc (descO z P p cp e Q q f) = W3 at *
    have h := kright_any A2 m c2 l W3 HR.out HS.out (by omega) (tab_ext HD.out.2.2 HB.out)
    rw [hr] at h
    refine h.mono ?_
    clear h
    rintro x w4 ⟨rfl, hb4⟩
    replace HB := Lib.hid (below_le HB.out hb4)
    clear hb4
    go_wp2
    go_ret
    exact ⟨rfl, HB.out⟩
  · go_wp2_with fail
    generalize w3.alloc (descO z P p cp e Q q f) = W3 at *
    have h := kright_any A2 m c2 l W3 HR.out HS.out (by omega) (tab_ext HD.out.2.2 HB.out)
    rw [hr] at h
    refine h.mono ?_
    clear h
    rintro x w4 ⟨rfl, hb4⟩
    replace HB := Lib.hid (below_le HB.out hb4)
    clear hb4
    go_wp2
    go_ret
    exact ⟨rfl, HB.out⟩
  · go_wp2_with fail
    generalize w3.alloc (descO z P p cp e Q q f) = W3 at *
    have hsm := HS.out _ hmem
    have hpl := HP.out.1
    have hql := HQ.out.1
    simp at hpl hql
    have hp : p ≤ 1000 := by have := hsm.1; dsimp only at this; omega
    have hq : q ≤ 1000 := by have := hsm.2; dsimp only at this; omega
    have h := kfind_any A2 m c2 l (z, ps, e, es) P Q p cp q f W3 HR.out HS.out (by omega) HP.out HQ.out hsm
    have hpos : 0 < kFind l (z, ps, e, es) := by omega
    rw [decide_eq_true hpos, hfd] at h
    refine h.mono ?_
    clear h
    rintro x w4 ⟨rfl, hb4⟩
    replace a0 := cell_ext hb4 a0; replace a1 := cell_ext hb4 a1; replace a2 := cell_ext hb4 a2; replace a3 := cell_ext hb4 a3; replace HP := Lib.hid (HP.out.ext hb4); replace HQ := Lib.hid (HQ.out.ext hb4)
    replace HB := Lib.hid (below_le HB.out hb4)
    have hml : nn ≤ (m : Int) := by have := HLEN.out; omega
    clear hb4 hpos hfd hmem hsm hpl hql
    go_wp2_with fail
    have h := dright_any z e P Q p cp q f ps es w4 HP.out HQ.out hp hq
    rw [show dRight z ps e es = true from hdr] at h
    refine h.mono ?_
    clear h
    rintro x w5 ⟨rfl, hb5⟩
    replace HB := Lib.hid (below_le HB.out hb5)
    clear hb5
    go_wp2
    go_ret
    exact ⟨rfl, HB.out⟩
end Go.Proofs.YtmabokmnniiadaaGreatDoor
namespace Go.Proofs.YtmabokmnniiadaaGreatDoor
open Go.RowKit

set_option maxRecDepth 100000 in
set_option maxHeartbeats 4000000 in
/-- Find. -/
theorem rkfind_any (A : Option Addr) (n c : Nat) (ds : List DscK) (d : DscK) (P Q : Option Addr) (m c' q f : Nat) (w : World) (hR : RowD w A n ds) (hs : Sm ds) (hn : n ≤ 1000) (hP : Row w P m (d.2.1.map Iv)) (hQ : Row w Q q (d.2.2.2.map Iv)) (hd : sm1 d) :
    Calls Tryz.prog 25 #[.slice A n c, descV d.1 P m c' d.2.2.1 Q q f] w fun x w' => x = .returned (.tuple #[.int .i64 (kFind ds d : Nat), .bool (decide (0 < kFind ds d))]) ∧ Below w.heap.size w w' := by
  obtain ⟨z, ps, e, es⟩ := d
  dsimp only at hP hQ ⊢
  have hl1 := hP.1
  have hl2 := hQ.1
  simp at hl1 hl2
  have hm : m ≤ 1000 := by have := hd.1; dsimp only at this; omega
  have hq : q ≤ 1000 := by have := hd.2; dsimp only at this; omega
  have hx := below_box w (descO z P m c' e Q q f)
  have h1 : Blk (w.alloc (descO z P m c' e Q q f)) w.heap.size 35 #[.int .i64 z, .slice P m c', .int .i64 e, .slice Q q f] := Blk.new _ _ _
  have hf0 : (∀ j, j < n → ds[j]? ≠ some (z, ps, e, es)) → kFind ds (z, ps, e, es) = 0 := fun h => kFind_zero.2 fun hm => by
    obtain ⟨k, hk, e'⟩ := List.getElem_of_mem hm
    exact h k (by rw [← hR.1]; exact hk) (by rw [← e']; exact List.getElem?_eq_getElem hk)
  have hf1 : ∀ k : Nat, (∀ j, j < k → ds[j]? ≠ some (z, ps, e, es)) → ds[k]? = some (z, ps, e, es) → kFind ds (z, ps, e, es) = k + 1 := fun k h1 h2 => kFind_first h2 h1
  generalize kFind ds (z, ps, e, es) = kf at *
  have HF0 := Lib.hid hf0
  have HF1 := Lib.hid hf1
  have HR := Lib.hid (hR.ext hx)
  have HS := Lib.hid hs
  have HP := Lib.hid (hP.ext hx)
  have HQ := Lib.hid (hQ.ext hx)
  have HB := Lib.hid hx
  have H1 := Lib.hid h1
  clear hf0 hf1 hR hs hP hQ hx h1 hl1 hl2 hd
  go_enter Tryz.func25, Tryz.ntmps25
  go_wp2
  generalize w.alloc (descO z P m c' e Q q f) = W0 at *
  go_loopw [6] (fun i wr => ∃ k : Nat, k ≤ n ∧ i = .int .i64 k ∧ (∀ j, j < k → ds[j]? ≠ some (z, ps, e, es)) ∧ Below W0.heap.size W0 wr) (fun i _ => n - (intOf i).toNat)
  case atStart => exact ⟨0, Nat.zero_le _, rfl, fun j h => absurd h (by omega), Below.refl _ _⟩
  case round =>
    obtain ⟨k, hk, rfl, hno, hb⟩ := hrel
    have HNO := Lib.hid hno
    have HW := Lib.hid hb
    clear hno hb
    by_cases hlt : k < n
    · obtain ⟨b1, o1, z1, P1, m1, c1, y1, Q1, q1, f1, ps1, es1, rfl, hd1, r1, r2, d0, d1, d2, d3⟩ := (HR.out.ext HW.out).get hlt
      have hsm := HS.out _ (List.mem_of_getElem? hd1)
      have l1 := r1.1
      have l2 := r2.1
      simp at l1 l2
      have hm1 : m1 ≤ 1000 := by have := hsm.1; dsimp only at this; omega
      have hq1 : q1 ≤ 1000 := by have := hsm.2; dsimp only at this; omega
      have h1 := H1.out.ext HW.out
      have t0 := fun y : Ext wr => ext_cell d0 y
      have t1 := fun y : Ext wr => ext_cell d1 y
      have t2 := fun y : Ext wr => ext_cell d2 y
      have t3 := fun y : Ext wr => ext_cell d3 y
      have u0 := fun y : Ext wr => ext_cell (h1.at_ (i := 0) rfl) y
      have u1 := fun y : Ext wr => ext_cell (h1.at_ (i := 1) rfl) y
      have u2 := fun y : Ext wr => ext_cell (h1.at_ (i := 2) rfl) y
      have u3 := fun y : Ext wr => ext_cell (h1.at_ (i := 3) rfl) y
      have hcall := fun y : Ext wr => rsame_any z1 y1 P1 Q1 m1 c1 q1 f1 ps1 es1 z e P Q m c' q f ps es y.val (r1.ext y.below) (r2.ext y.below) ((HP.out.ext HW.out).ext y.below) ((HQ.out.ext HW.out).ext y.below) hm1 hq1 hm hq
      obtain ⟨r, hr, hX⟩ : ∃ r, dSame z1 y1 ps1 es1 z e ps es = r ∧ (r = true ↔ ds[k]? = some (z, ps, e, es)) := ⟨_, rfl, by
        rw [show dSame z1 y1 ps1 es1 z e ps es = decide ((z1, ps1, y1, es1) = (z, ps, e, es)) from dSame_iff (z1, ps1, y1, es1) (z, ps, e, es), decide_eq_true_iff, hd1]
        exact ⟨fun h => by rw [h], fun h => Option.some.inj h⟩⟩
      rw [hr] at hcall
      have HC := Lib.hid hcall
      have HX := Lib.hid hX
      clear hcall hX hr r1 r2 hd1 hsm l1 l2 h1 d0 d1 d2 d3
      go_wp2
      refine wp_region_plan [(0, true), (1, true), (2, true), (3, true), (4, true), (5, true)] (by kernel_rfl) (by kernel_rfl) ?_
      repeat (first | (refine plan_skip rfl rfl ?_; go_frame) | (refine plan_soft rfl rfl (fun K hK => ?_); go_simp; first | (refine hK _ ?_; clear hK K) | (apply Exists.intro; refine ⟨fun x => ?_, hK _ ?_⟩; (· (exact HC.out x)); clear hK K; try go_frame)))
      refine plan_nil ?_; intro w1 h0b; have Hb1 := Lib.hid h0b; clear h0b
      clear t0 t1 t2 t3 u0 u1 u2 u3 HC
      cases r
      · have hno' : ds[k]? ≠ some (z, ps, e, es) := fun h => Bool.false_ne_true (HX.out.2 h)
        have HN2 := Lib.hid (show ∀ j, j < k + 1 → ds[j]? ≠ some (z, ps, e, es) from fun j hj => by
          by_cases ej : j = k
          · rw [ej]; exact hno'
          · exact HNO.out j (by omega))
        clear hno' HX
        go_wp2
        go_roundw
        case rel => exact ⟨k + 1, by omega, by go_num, HN2.out, below_le HW.out Hb1.out⟩
        case measure => simp [intOf]; omega
      · have hkf : kf = k + 1 := HF1.out k HNO.out (HX.out.1 rfl)
        subst hkf
        clear HX
        go_wp2
        go_ret2
        exact ⟨by simp, below_le (below_le HB.out HW.out) Hb1.out⟩
    · have hkf : kf = 0 := HF0.out fun j hj => HNO.out j (by omega)
      subst hkf
      go_wp2
      go_ret2
      exact ⟨by simp, below_le HB.out HW.out⟩

/-- Right till now. -/
def okK (l : List DscK) : Prop := (∀ d ∈ l, dR d = true) ∧ l.Nodup
theorem okK_snoc {l : List DscK} {d : DscK} : okK (l ++ [d]) ↔ okK l ∧ dR d = true ∧ d ∉ l := by
  constructor
  · rintro ⟨h1, h2⟩
    rw [List.nodup_append] at h2
    exact ⟨⟨fun x hx => h1 x (by simp [hx]), h2.1⟩, h1 d (by simp), fun hm => h2.2.2 d hm d (by simp) rfl⟩
  · rintro ⟨⟨h1, h2⟩, h3, h4⟩
    refine ⟨fun x hx => ?_, List.nodup_append.2 ⟨h2, by simp, fun x hx y hy e => ?_⟩⟩
    · rcases List.mem_append.1 hx with hx | hx
      · exact h1 x hx
      · rw [List.mem_singleton.1 hx]; exact h3
    · rw [List.mem_singleton.1 hy] at e
      exact h4 (e ▸ hx)
theorem okK_take {l : List DscK} (h : okK l) (k : Nat) : okK (l.take k) := ⟨fun d hd => h.1 d (List.mem_of_mem_take hd), h.2.sublist (List.take_sublist _ _)⟩

set_option maxRecDepth 100000 in
set_option maxHeartbeats 4000000 in
/-- Right. -/
theorem rkright_any (A : Option Addr) (n c : Nat) (ds : List DscK) (w : World) (hR : RowD w A n ds) (hs : Sm ds) (hn : n ≤ 1000) (hnc : n ≤ c) :
    Calls Tryz.prog 26 #[.slice A n c] w fun x w' => x = .returned (.bool (kRight ds)) ∧ Below w.heap.size w w' := by
  have hlen := hR.1
  have r0 : ∀ k d, ds[k]? = some d → ¬ (d ∉ ds.take k ∧ dR d = true) → kRight ds = false := fun k d h hb => by
    cases hk : kRight ds
    · rfl
    · have h1 := okK_take (l := ds) ⟨(kRight_iff.1 hk).2.1, (kRight_iff.1 hk).2.2⟩ (k + 1)
      rw [take_snoc h] at h1
      have h2 := okK_snoc.1 h1
      exact absurd ⟨h2.2.2, h2.2.1⟩ hb
  have r1 : okK ds → kRight ds = decide (n ≤ 60) := fun h => by
    unfold kRight
    rw [hlen, decide_eq_true h.2, List.all_eq_true.2 h.1]
    simp
  generalize kRight ds = r at *
  have HR := Lib.hid hR
  have HS := Lib.hid hs
  have R0 := Lib.hid r0
  have R1 := Lib.hid r1
  have HLEN := Lib.hid hlen
  clear hR hs r0 r1 hlen
  go_enter Tryz.func26, Tryz.ntmps26
  go_wp2
  go_loopw [3] (fun i wr => ∃ k : Nat, k ≤ n ∧ i = .int .i64 k ∧ okK (ds.take k) ∧ Below w.heap.size w wr) (fun i _ => n - (intOf i).toNat)
  case atStart => exact ⟨0, Nat.zero_le _, rfl, ⟨fun d h => by simp at h, by simp⟩, Below.refl _ _⟩
  case round =>
    obtain ⟨k, hk, rfl, hok, hb⟩ := hrel
    have HOK := Lib.hid hok
    have HW := Lib.hid hb
    clear hok hb
    by_cases hlt : k < n
    · obtain ⟨b1, o1, z1, P1, m1, c1, y1, Q1, q1, f1, ps1, es1, rfl, hd1, r1, r2, d0, d1, d2, d3⟩ := (HR.out.ext HW.out).get hlt
      have hsm := HS.out _ (List.mem_of_getElem? hd1)
      have l1 := r1.1
      have l2 := r2.1
      simp at l1 l2
      have hm1 : m1 ≤ 1000 := by have := hsm.1; dsimp only at this; omega
      have hq1 : q1 ≤ 1000 := by have := hsm.2; dsimp only at this; omega
      have t0 := fun y : Ext wr => ext_cell d0 y
      have t1 := fun y : Ext wr => ext_cell d1 y
      have t2 := fun y : Ext wr => ext_cell d2 y
      have t3 := fun y : Ext wr => ext_cell d3 y
      have hcall := fun y : Ext wr => rkfind_any (some ⟨b1, o1, none⟩) k c (ds.take k) (z1, ps1, y1, es1) P1 Q1 m1 c1 q1 f1 y.val (((HR.out.ext HW.out).ext y.below).take k (by omega)) (HS.out.take k) (by omega) (r1.ext y.below) (r2.ext y.below) hsm
      have hfz : kFind (ds.take k) (z1, ps1, y1, es1) = 0 ↔ (z1, ps1, y1, es1) ∉ ds.take k := kFind_zero
      have hright := fun W hb => rright_any z1 y1 P1 Q1 m1 c1 q1 f1 ps1 es1 W (r1.ext hb) (r2.ext hb) hm1 hq1
      have hno := fun h => R0.out k _ hd1 h
      have hyes : (z1, ps1, y1, es1) ∉ ds.take k → dRight z1 ps1 y1 es1 = true → okK (ds.take (k + 1)) := fun h1 h2 => by
        rw [take_snoc hd1]
        exact okK_snoc.2 ⟨HOK.out, h2, h1⟩
      rw [show dR (z1, ps1, y1, es1) = dRight z1 ps1 y1 es1 from rfl] at hno
      generalize kFind (ds.take k) (z1, ps1, y1, es1) = kf at *
      generalize dRight z1 ps1 y1 es1 = dr at *
      have HC := Lib.hid hcall
      have HFZ := Lib.hid hfz
      have HRI := Lib.hid hright
      have HNO := Lib.hid hno
      have HYES := Lib.hid hyes
      have hkc : k ≤ c := by omega
      clear hcall hfz hright hno hyes r1 r2 hd1 hsm l1 l2
      go_wp2
      refine wp_region_plan [(0, true), (1, true), (2, true), (3, true), (4, true), (5, true), (6, true), (7, true), (8, true), (9, true), (10, true), (11, true), (12, true)] (by kernel_rfl) (by kernel_rfl) ?_
      repeat (first | (refine plan_skip rfl rfl ?_; go_frame) | (refine plan_soft rfl rfl (fun K hK => ?_); go_simp; first | (refine hK _ ?_; clear hK K) | (apply Exists.intro; refine ⟨fun x => ?_, hK _ ?_⟩; (· (exact HC.out x)); clear hK K; try go_frame)))
      refine plan_nil ?_; intro w1 h0b; have Hb1 := Lib.hid h0b; clear h0b
      clear t0 t1 t2 t3 HC
      replace d0 := cell_ext Hb1.out d0
      replace d1 := cell_ext Hb1.out d1
      replace d2 := cell_ext Hb1.out d2
      replace d3 := cell_ext Hb1.out d3
      by_cases hf : 0 < kf
      · have hr : r = false := HNO.out fun h => by have := HFZ.out.2 h.1; omega
        subst hr
        rw [decide_eq_true hf]
        clear hf
        go_wp2
        go_ret
        exact ⟨rfl, below_le HW.out Hb1.out⟩
      · have hnm := HFZ.out.1 (by omega)
        rw [decide_eq_false hf]
        have HNM := Lib.hid hnm
        clear hf hnm
        go_wp2_with fail
        refine (HRI.out w1 Hb1.out).mono ?_
        rintro x w2 ⟨rfl, hb2⟩
        have HB2 := Lib.hid (below_le (below_le HW.out Hb1.out) hb2)
        clear hb2 d0 d1 d2 d3 HRI
        cases dr
        · have hr : r = false := HNO.out fun h => by cases h.2
          subst hr
          go_wp2
          go_ret
          exact ⟨rfl, HB2.out⟩
        · have HY := Lib.hid (HYES.out HNM.out rfl)
          clear HYES HNO
          go_wp2
          go_roundw
          case rel => exact ⟨k + 1, by omega, by go_num, HY.out, HB2.out⟩
          case measure => simp [intOf]; omega
    · have hr := R1.out (by have := HOK.out; rwa [List.take_of_length_le (by have := HLEN.out; omega)] at this)
      obtain rfl : k = n := by omega
      by_cases h60 : k ≤ 60
      · rw [decide_eq_true h60] at hr
        subst hr
        go_wp2
        go_ret
        exact ⟨by simp; omega, HW.out⟩
      · rw [decide_eq_false h60] at hr
        subst hr
        go_wp2
        go_ret
        exact ⟨by simp; omega, HW.out⟩

set_option maxRecDepth 100000 in
set_option maxHeartbeats 4000000 in
/-- Same. -/
theorem rksame_any (A B : Option Addr) (n c n2 c2 : Nat) (ds es : List DscK) (w : World) (hR : RowD w A n ds) (hR2 : RowD w B n2 es) (hs : Sm ds) (hs2 : Sm es) (hn : n ≤ 1000) :
    Calls Tryz.prog 16 #[.slice A n c, .slice B n2 c2] w fun x w' => x = .returned (.bool (decide (ds = es))) ∧ Below w.heap.size w w' := by
  have hlen := hR.1
  have hlen2 := hR2.1
  have r0 : n ≠ n2 → decide (ds = es) = false := fun h => decide_eq_false fun e => h (by rw [← hlen, ← hlen2, e])
  have r1 : ∀ k : Nat, ds[k]? ≠ es[k]? → decide (ds = es) = false := fun k h => decide_eq_false fun e => h (by rw [e])
  have r2 : n = n2 → (∀ j, j < n → ds[j]? = es[j]?) → decide (ds = es) = true := fun e h => decide_eq_true (List.ext_getElem? fun k => by
    by_cases hk : k < n
    · exact h k hk
    · rw [List.getElem?_eq_none (by omega), List.getElem?_eq_none (by omega)])
  generalize decide (ds = es) = r at *
  have HR := Lib.hid hR
  have HR2 := Lib.hid hR2
  have HS := Lib.hid hs
  have HS2 := Lib.hid hs2
  have R0 := Lib.hid r0
  have R1 := Lib.hid r1
  have R2 := Lib.hid r2
  clear hR hR2 hs hs2 r0 r1 r2 hlen hlen2
  by_cases hne : n = n2
  · subst hne
    have hni : ((n : Int) != (n : Int)) = false := by simp
    go_enter Tryz.func16, Tryz.ntmps16
    go_wp2
    go_loopw [5] (fun i wr => ∃ k : Nat, k ≤ n ∧ i = .int .i64 k ∧ (∀ j, j < k → ds[j]? = es[j]?) ∧ Below w.heap.size w wr) (fun i _ => n - (intOf i).toNat)
    case atStart => exact ⟨0, Nat.zero_le _, rfl, fun j h => absurd h (by omega), Below.refl _ _⟩
    case round =>
      obtain ⟨k, hk, rfl, hno, hb⟩ := hrel
      have HNO := Lib.hid hno
      have HW := Lib.hid hb
      clear hno hb
      by_cases hlt : k < n
      · obtain ⟨b1, o1, z1, P1, m1, c1, y1, Q1, q1, f1, ps1, es1, rfl, hd1, r1, r2, d0, d1, d2, d3⟩ := (HR.out.ext HW.out).get hlt
        obtain ⟨b3, o3, z, P, m, c', e, Q, q, f, ps, es', rfl, hd3, r3, r4, g0, g1, g2, g3⟩ := (HR2.out.ext HW.out).get hlt
        have hsm := HS.out _ (List.mem_of_getElem? hd1)
        have l1 := r1.1
        have l2 := r2.1
        simp at l1 l2
        have hm1 : m1 ≤ 1000 := by have := hsm.1; dsimp only at this; omega
        have hq1 : q1 ≤ 1000 := by have := hsm.2; dsimp only at this; omega
        have hsm2 := HS2.out _ (List.mem_of_getElem? hd3)
        have l3 := r3.1
        have l4 := r4.1
        simp at l3 l4
        have hm3 : m ≤ 1000 := by have := hsm2.1; dsimp only at this; omega
        have hq3 : q ≤ 1000 := by have := hsm2.2; dsimp only at this; omega
        have t0 := fun y : Ext wr => ext_cell d0 y
        have t1 := fun y : Ext wr => ext_cell d1 y
        have t2 := fun y : Ext wr => ext_cell d2 y
        have t3 := fun y : Ext wr => ext_cell d3 y
        have u0 := fun y : Ext wr => ext_cell g0 y
        have u1 := fun y : Ext wr => ext_cell g1 y
        have u2 := fun y : Ext wr => ext_cell g2 y
        have u3 := fun y : Ext wr => ext_cell g3 y
        have hcall := fun y : Ext wr => rsame_any z1 y1 P1 Q1 m1 c1 q1 f1 ps1 es1 z e P Q m c' q f ps es' y.val (r1.ext y.below) (r2.ext y.below) (r3.ext y.below) (r4.ext y.below) hm1 hq1 hm3 hq3
        obtain ⟨t, ht, hX⟩ : ∃ t, dSame z1 y1 ps1 es1 z e ps es' = t ∧ (t = true ↔ ds[k]? = es[k]?) := ⟨_, rfl, by
          rw [show dSame z1 y1 ps1 es1 z e ps es' = decide ((z1, ps1, y1, es1) = (z, ps, e, es')) from dSame_iff (z1, ps1, y1, es1) (z, ps, e, es'), decide_eq_true_iff, hd1, hd3]
          exact ⟨fun h => by rw [h], fun h => Option.some.inj h⟩⟩
        rw [ht] at hcall
        have HC := Lib.hid hcall
        have HX := Lib.hid hX
        clear hcall hX ht r1 r2 r3 r4 hd1 hd3 hsm hsm2 l1 l2 l3 l4 d0 d1 d2 d3 g0 g1 g2 g3
        go_wp2
        refine wp_region_plan [(0, true), (1, true), (2, true), (3, true), (4, true), (5, true), (6, true), (7, true), (8, true), (9, true)] (by kernel_rfl) (by kernel_rfl) ?_
        repeat (first | (refine plan_skip rfl rfl ?_; go_frame) | (refine plan_soft rfl rfl (fun K hK => ?_); go_simp; first | (refine hK _ ?_; clear hK K) | (apply Exists.intro; refine ⟨fun x => ?_, hK _ ?_⟩; (· (exact HC.out x)); clear hK K; try go_frame)))
        refine plan_nil ?_; intro w1 h0b; have Hb1 := Lib.hid h0b; clear h0b
        clear t0 t1 t2 t3 u0 u1 u2 u3 HC
        cases t
        · have hr : r = false := R1.out k fun h => Bool.false_ne_true (HX.out.2 h)
          subst hr
          clear HX
          go_wp2
          go_ret
          exact ⟨rfl, below_le HW.out Hb1.out⟩
        · have HN2 := Lib.hid (show ∀ j, j < k + 1 → ds[j]? = es[j]? from fun j hj => by
            by_cases ej : j = k
            · rw [ej]; exact HX.out.1 rfl
            · exact HNO.out j (by omega))
          clear HX
          go_wp2
          go_roundw
          case rel => exact ⟨k + 1, by omega, by go_num, HN2.out, below_le HW.out Hb1.out⟩
          case measure => simp [intOf]; omega
      · have hr : r = true := R2.out trivial fun j hj => HNO.out j (by omega)
        subst hr
        go_wp2
        go_ret
        exact ⟨rfl, HW.out⟩
  · have hr := R0.out hne
    subst hr
    have hni : ((n : Int) != (n2 : Int)) = true := bne_iff_ne.2 (by omega)
    have hni2 : ¬ (n : Int) = (n2 : Int) := by omega
    go_enter Tryz.func16, Tryz.ntmps16
    go_wp2
    go_ret
    exact ⟨rfl, Below.refl _ _⟩
end Go.Proofs.YtmabokmnniiadaaGreatDoor
namespace Go.Proofs.YtmabokmnniiadaaGreatDoor
open Go.RowKit

/-- Two blocks of descriptors. -/
def CloC (b b2 : Nat) (cs cs2 : Array Value) (x : World) : Prop := Blk x b 35 cs ∧ Blk x b2 35 cs2
theorem cloC_stays (b b2 : Nat) (cs cs2 : Array Value) : Stays (CloC b b2 cs cs2) := fun _ _ h hb => ⟨h.1.ext hb, h.2.ext hb⟩
theorem iv_one (l : List Int) : ∀ u ∈ l.map Iv, u.oneCell' = true := by
  intro u hu
  obtain ⟨x, -, rfl⟩ := List.mem_map.1 hu
  rfl
theorem below_none {w w' : World} (h : w.grownBy w' none) : Below w.heap.size w w' := ⟨h.os, h.tape, h.output, h.size, fun i hi => h.block i hi (by simp)⟩

/-- A descriptor of its own. -/
def GivesC (w : World) (d : DscK) (x : Ending) (w' : World) : Prop := ∃ md : MD, x = .returned (mdV md) ∧ FitsB w' md d ∧ Below w.heap.size w w'

set_option maxRecDepth 100000 in
set_option maxHeartbeats 4000000 in
/-- clone. -/
theorem rclone_any (z e : Int) (P Q : Option Addr) (m c q f : Nat) (ps es : List Int) (w : World) (hP : Row w P m (ps.map Iv)) (hQ : Row w Q q (es.map Iv)) (hm : m ≤ 1000) (hq : q ≤ 1000) :
    Calls Tryz.prog 48 #[descV z P m c e Q q f] w (GivesC w (z, ps, e, es)) := by
  obtain ⟨inf, hi, hi0, hi1, hi2⟩ := info_parts int_infoP
  have hb0 := below_le (below_box w (descO z P m c e Q q f)) (below_box _ (descO 0 none 0 0 0 none 0 0))
  have hbx : CloC w.heap.size (w.heap.size + 1) #[.int .i64 z, .slice P m c, .int .i64 e, .slice Q q f] #[.int .i64 0, .slice none 0 0, .int .i64 0, .slice none 0 0] ((w.alloc (descO z P m c e Q q f)).alloc (descO 0 none 0 0 0 none 0 0)) := ⟨Blk.alloc (Blk.new _ _ _) _, heap_new (by simp) _⟩
  have HP := Lib.hid (hP.ext hb0)
  have HQ := Lib.hid (hQ.ext hb0)
  have HB := Lib.hid hb0
  have hz0 : w.heap.size ≤ ((w.alloc (descO z P m c e Q q f)).alloc (descO 0 none 0 0 0 none 0 0)).heap.size := hb0.size
  clear hP hQ hb0
  go_enter Tryz.func48, Tryz.ntmps48
  go_wp2
  generalize (w.alloc (descO z P m c e Q q f)).alloc (descO 0 none 0 0 0 none 0 0) = W0 at *
  have hCst := cloC_stays w.heap.size (w.heap.size + 1) #[.int .i64 z, .slice P m c, .int .i64 e, .slice Q q f] #[.int .i64 0, .slice none 0 0, .int .i64 0, .slice none 0 0]
  have hNE : Nonempty (Of (CloC w.heap.size (w.heap.size + 1) #[.int .i64 z, .slice P m c, .int .i64 e, .slice Q q f] #[.int .i64 0, .slice none 0 0, .int .i64 0, .slice none 0 0])) := ⟨⟨W0, hbx⟩⟩
  have t0 := fun x : Of (CloC w.heap.size (w.heap.size + 1) #[.int .i64 z, .slice P m c, .int .i64 e, .slice Q q f] #[.int .i64 0, .slice none 0 0, .int .i64 0, .slice none 0 0]) => Blk.at_ (i := 0) x.ok.1 rfl
  have t1 := fun x : Of (CloC w.heap.size (w.heap.size + 1) #[.int .i64 z, .slice P m c, .int .i64 e, .slice Q q f] #[.int .i64 0, .slice none 0 0, .int .i64 0, .slice none 0 0]) => Blk.at_ (i := 1) x.ok.1 rfl
  have t2 := fun x : Of (CloC w.heap.size (w.heap.size + 1) #[.int .i64 z, .slice P m c, .int .i64 e, .slice Q q f] #[.int .i64 0, .slice none 0 0, .int .i64 0, .slice none 0 0]) => Blk.at_ (i := 2) x.ok.1 rfl
  have t3 := fun x : Of (CloC w.heap.size (w.heap.size + 1) #[.int .i64 z, .slice P m c, .int .i64 e, .slice Q q f] #[.int .i64 0, .slice none 0 0, .int .i64 0, .slice none 0 0]) => Blk.at_ (i := 3) x.ok.1 rfl
  refine wp_region_mixf (C := CloC w.heap.size (w.heap.size + 1) #[.int .i64 z, .slice P m c, .int .i64 e, .slice Q q f] #[.int .i64 0, .slice none 0 0, .int .i64 0, .slice none 0 0]) 11 hCst hbx (by kernel_rfl) ?_
  first | (refine mixf_skip 0 hCst rfl (by kernel_rfl) rfl ?_; go_frame) | (refine mixf_soft 0 hCst rfl (by kernel_rfl) rfl (fun K hK => ?_); go_simp; first | (refine hK _ ?_; clear hK K) | (apply Exists.intro; refine ⟨fun x => ?_, hK _ ?_⟩; (· (fail)); clear hK K; try go_frame))
  first | (refine mixf_skip 1 hCst rfl (by kernel_rfl) rfl ?_; go_frame) | (refine mixf_soft 1 hCst rfl (by kernel_rfl) rfl (fun K hK => ?_); go_simp; first | (refine hK _ ?_; clear hK K) | (apply Exists.intro; refine ⟨fun x => ?_, hK _ ?_⟩; (· (fail)); clear hK K; try go_frame))
  first | (refine mixf_skip 2 hCst rfl (by kernel_rfl) rfl ?_; go_frame) | (refine mixf_soft 2 hCst rfl (by kernel_rfl) rfl (fun K hK => ?_); go_simp; first | (refine hK _ ?_; clear hK K) | (apply Exists.intro; refine ⟨fun x => ?_, hK _ ?_⟩; (· (fail)); clear hK K; try go_frame))
  first | (refine mixf_skip 3 hCst rfl (by kernel_rfl) rfl ?_; go_frame) | (refine mixf_soft 3 hCst rfl (by kernel_rfl) rfl (fun K hK => ?_); go_simp; first | (refine hK _ ?_; clear hK K) | (apply Exists.intro; refine ⟨fun x => ?_, hK _ ?_⟩; (· (fail)); clear hK K; try go_frame))
  first | (refine mixf_skip 5 hCst rfl (by kernel_rfl) rfl ?_; go_frame) | (refine mixf_soft 5 hCst rfl (by kernel_rfl) rfl (fun K hK => ?_); go_simp; first | (refine hK _ ?_; clear hK K) | (apply Exists.intro; refine ⟨fun x => ?_, hK _ ?_⟩; (· (fail)); clear hK K; try go_frame))
  first | (refine mixf_skip 6 hCst rfl (by kernel_rfl) rfl ?_; go_frame) | (refine mixf_soft 6 hCst rfl (by kernel_rfl) rfl (fun K hK => ?_); go_simp; first | (refine hK _ ?_; clear hK K) | (apply Exists.intro; refine ⟨fun x => ?_, hK _ ?_⟩; (· (fail)); clear hK K; try go_frame))
  first | (refine mixf_skip 7 hCst rfl (by kernel_rfl) rfl ?_; go_frame) | (refine mixf_soft 7 hCst rfl (by kernel_rfl) rfl (fun K hK => ?_); go_simp; first | (refine hK _ ?_; clear hK K) | (apply Exists.intro; refine ⟨fun x => ?_, hK _ ?_⟩; (· (fail)); clear hK K; try go_frame))
  first | (refine mixf_skip 8 hCst rfl (by kernel_rfl) rfl ?_; go_frame) | (refine mixf_soft 8 hCst rfl (by kernel_rfl) rfl (fun K hK => ?_); go_simp; first | (refine hK _ ?_; clear hK K) | (apply Exists.intro; refine ⟨fun x => ?_, hK _ ?_⟩; (· (fail)); clear hK K; try go_frame))
  clear t0 t1 t2 t3
  refine mixf_one 4 (by decide) (by kernel_rfl) rfl rfl ?_
  intro w2 hb2 hC2 K hK
  refine wp_append_row w2 (.const (.slice none 0 0)) (.tmp 6) 33 rfl w.heap.size 3 inf (.int .i64 0) 8 Tryz.underlying33 hi hi0 hi1 hi2 rfl (.slice none 0 0) 0 [] rfl ⟨rfl, .inl ⟨rfl, rfl⟩⟩ P m c (ps.map Iv) rfl (HP.out.ext hb2) (iv_one _) (by unfold maxLen; omega) (by omega) (Nat.le_trans hz0 hb2.size) ?_
  intro v1 w3 hown1 hg1
  have hb3 : Below w2.heap.size w2 w3 := below_none hg1
  rw [Nat.zero_add, List.nil_append] at hown1
  obtain ⟨A1, c1, rfl, hr1, hf1⟩ := row_of_owns hown1
  have HR1 := Lib.hid hr1
  have HF1 := Lib.hid hf1
  have HN1 := Lib.hid (fun (X : World) (hX : Below w3.heap.size w3 X) => own_extD hX hown1)
  have HB3 := Lib.hid (below_le hb2 hb3)
  refine hK _ _ (hCst _ _ hC2 hb3) ?_
  clear hK K hb2 hC2 hown1 hg1 hb3 hr1 hf1
  try go_frame
  refine mixf_one 9 (by decide) (by kernel_rfl) rfl rfl ?_
  intro w4 hb4 hC4 K hK
  refine wp_append_row w4 (.const (.slice none 0 0)) (.tmp 11) 33 rfl w.heap.size 3 inf (.int .i64 0) 8 Tryz.underlying33 hi hi0 hi1 hi2 rfl (.slice none 0 0) 0 [] rfl ⟨rfl, .inl ⟨rfl, rfl⟩⟩ Q q f (es.map Iv) rfl ((HQ.out.ext HB3.out).ext hb4) (iv_one _) (by unfold maxLen; omega) (by omega) (Nat.le_trans hz0 (below_le HB3.out hb4).size) ?_
  intro v2 w5 hown2 hg2
  have hb5 : Below w4.heap.size w4 w5 := below_none hg2
  rw [Nat.zero_add, List.nil_append] at hown2
  obtain ⟨A2, c2, rfl, hr2, hf2⟩ := row_of_owns hown2
  have hb35 := below_le hb4 hb5
  have hbl1 := HN1.out _ hb35
  have HIN := Lib.hid (show ∀ b ∈ blkR A1 m ++ blkR A2 q, ∃ cs, Blk w5 b 3 cs from fun b hb => by
    rcases List.mem_append.1 hb with hb | hb
    · unfold blkR at hb
      split at hb
      · cases A1 with
        | none => simp [blkA] at hb
        | some a =>
          simp [blkA] at hb
          subst hb
          rcases hbl1.2 with ⟨he, _⟩ | ⟨g, cap, cur, he, _, hg, _⟩
          · cases he
          · cases he
            exact ⟨cur, hg⟩
      · simp at hb
    · unfold blkR at hb
      split at hb
      · cases A2 with
        | none => simp [blkA] at hb
        | some a =>
          simp [blkA] at hb
          subst hb
          rcases hown2.2 with ⟨he, _⟩ | ⟨g, cap, cur, he, _, hg, _⟩
          · cases he
          · cases he
            exact ⟨cur, hg⟩
      · simp at hb)
  have HI := Lib.hid (show ∀ b ∈ blkR A1 m ++ blkR A2 q, b ≠ w.heap.size + 1 from fun b hb e => by
    have hC5 := hCst _ _ hC4 hb5
    rcases List.mem_append.1 hb with hb | hb
    · unfold blkR at hb
      split at hb
      · cases A1 with
        | none => simp [blkA] at hb
        | some a =>
          simp [blkA] at hb
          exact own_neD hbl1 hC5.2 (by decide) (by rw [← e, hb]; rcases hbl1.2 with ⟨he, _⟩ | ⟨g, cap, cur, he, _⟩ <;> cases he; rfl)
      · simp at hb
    · unfold blkR at hb
      split at hb
      · cases A2 with
        | none => simp [blkA] at hb
        | some a =>
          simp [blkA] at hb
          exact own_neD hown2 hC5.2 (by decide) (by rw [← e, hb]; rcases hown2.2 with ⟨he, _⟩ | ⟨g, cap, cur, he, _⟩ <;> cases he; rfl)
      · simp at hb)
  have HR2 := Lib.hid hr2
  have HF2 := Lib.hid hf2
  replace HR1 := Lib.hid (HR1.out.ext hb35)
  have HB5 := Lib.hid (below_le HB3.out hb35)
  refine hK _ _ (hCst _ _ hC4 hb5) ?_
  clear hK K hb4 hC4 hown2 hg2 hb5 hr2 hf2 hb35 hbl1 HN1 HB3
  try go_frame
  refine mixf_one 10 (by decide) (by kernel_rfl) rfl rfl ?_
  intro w6 hb6 hC6 K hK
  go_simp
  refine hK _ _ hC6 ?_
  clear hK K hC6
  try go_frame
  refine mixf_z 11 (by kernel_rfl) rfl rfl ?_
  intro w7 hb7 hC7 K hK
  replace hb7 := below_le hb6 hb7
  have h2 := hC7.2
  have c0 := h2.at_ (i := 0) rfl
  have c1' := h2.at_ (i := 1) rfl
  have c2' := h2.at_ (i := 2) rfl
  have c3 := h2.at_ (i := 3) rfl
  have f0 := h2.frozen 0
  have f1 := h2.frozen 1
  have f2 := h2.frozen 2
  have f3 := h2.frozen 3
  have h9 := h2.set4 (.int .i64 z) (.slice A1 m c1) (.int .i64 e) (.slice A2 q c2)
  have hB9 := below_set4 (below_le HB.out (below_le HB5.out hb7)) (show w.heap.size ≤ w.heap.size + 1 by omega) (.int .i64 z) (.slice A1 m c1) (.int .i64 e) (.slice A2 q c2)
  have hk : KeepB (blkR A1 m ++ blkR A2 q) w7 ((((w7.setCell ⟨w.heap.size + 1, 0, none⟩ (.int .i64 z)).setCell ⟨w.heap.size + 1, 1, none⟩ (.slice A1 m c1)).setCell ⟨w.heap.size + 1, 2, none⟩ (.int .i64 e)).setCell ⟨w.heap.size + 1, 3, none⟩ (.slice A2 q c2)) := fun b hb => heap_set4 w7 (HI.out b hb) _ _ _ _
  have hrr1 := hk.rowR (HR1.out.ext hb7) (fun b hb => List.mem_append_left _ hb)
  have hrr2 := hk.rowR (HR2.out.ext hb7) (fun b hb => List.mem_append_right _ hb)
  have HIN9 := Lib.hid (show ∀ b ∈ blkR A1 m ++ blkR A2 q, ∃ cs, Blk ((((w7.setCell ⟨w.heap.size + 1, 0, none⟩ (.int .i64 z)).setCell ⟨w.heap.size + 1, 1, none⟩ (.slice A1 m c1)).setCell ⟨w.heap.size + 1, 2, none⟩ (.int .i64 e)).setCell ⟨w.heap.size + 1, 3, none⟩ (.slice A2 q c2)) b 3 cs from fun b hb => by
    obtain ⟨cs, hcs⟩ := HIN.out b hb
    exact ⟨cs, hk.blk hb (hcs.ext hb7)⟩)
  have H9 := Lib.hid h9
  have HB9 := Lib.hid hB9
  have HX1 := Lib.hid hrr1
  have HX2 := Lib.hid hrr2
  clear h9 hB9 hk hrr1 hrr2 hb7 hb6 hC7 h2 HI HIN HR1 HR2 HB5 hCst hNE hbx
  go_simp
  refine hK _ _ ?_
  clear hK K c0 c1' c2' c3 f0 f1 f2 f3
  generalize (((w7.setCell ⟨w.heap.size + 1, 0, none⟩ (.int .i64 z)).setCell ⟨w.heap.size + 1, 1, none⟩ (.slice A1 m c1)).setCell ⟨w.heap.size + 1, 2, none⟩ (.int .i64 e)).setCell ⟨w.heap.size + 1, 3, none⟩ (.slice A2 q c2) = W9 at *
  refine rest_nil (by kernel_rfl) fun w10 hb10 => ?_
  have h9 := H9.out.ext hb10
  have q0 := h9.at_ (i := 0) rfl
  have q1 := h9.at_ (i := 1) rfl
  have q2 := h9.at_ (i := 2) rfl
  have q3 := h9.at_ (i := 3) rfl
  have HE : Hid (GivesC w (z, ps, e, es) (.returned (descV z A1 m c1 e A2 q c2)) w10) := Lib.hid ⟨(z, (A1, m, c1), e, (A2, q, c2)), rfl, ⟨⟨rfl, rfl, HX1.out.ext hb10, HX2.out.ext hb10⟩, fun b hb => (HIN9.out b hb).imp fun _ h => h.ext hb10⟩, below_le HB9.out hb10⟩
  clear h9 hb10 H9 HX1 HX2 HF1 HF2 HB9 HIN9
  go_wp2
  exact bodyPost_ret (v := descV z A1 m c1 e A2 q c2) (by simp [results, Tryz.results48, go_sem, q0, q1, q2, q3]) rfl HE.out

/-- A list of descriptors that the call owns, its lists in blocks of their own. -/
def OList (w : World) (base : Nat) (v : Value) (k : Nat) (L : List DscK) : Prop :=
  ∃ ms, w.ownsRow base 35 4 v k (cellsD ms) ∧ ms.length = k ∧ ∀ (j : Nat) (d : MD) (x : DscK), ms[j]? = some d → L[j]? = some x → FitsB w d x
theorem OList.ext {w w' : World} {base k : Nat} {v : Value} {L : List DscK} (hb : Below w.heap.size w w') (h : OList w base v k L) : OList w' base v k L := by
  obtain ⟨ms, h1, h2, h4⟩ := h
  exact ⟨ms, own_extD hb h1, h2, fun j d x a b => (h4 j d x a b).ext hb⟩
theorem OList.nil (w : World) (base : Nat) (L : List DscK) : OList w base (.slice none 0 0) 0 L := ⟨[], ⟨rfl, .inl ⟨rfl, rfl⟩⟩, rfl, fun j d x h => by simp at h⟩
theorem OList.row {w : World} {base k : Nat} {v : Value} {L : List DscK} (h : OList w base v k L) (hk : L.length = k) : ∃ A c, v = .slice A k c ∧ RowD w A k L ∧ (∀ a, A = some a → base ≤ a.block) := by
  obtain ⟨ms, h1, h2, h3⟩ := h
  obtain ⟨A, c, e, hr, -, hf⟩ := rowD_of_owns (ds := L) h1 (by omega) (fun j d x a b => (h3 j d x a b).1)
  exact ⟨A, c, e, hr, hf⟩
/-- A list of its own. -/
def GivesOwn (w : World) (L : List DscK) (x : Ending) (w' : World) : Prop := ∃ v, x = .returned v ∧ OList w' w.heap.size v L.length L ∧ Below w.heap.size w w'

set_option maxRecDepth 100000 in
set_option maxHeartbeats 4000000 in
/-- own. -/
theorem rown_any (A : Option Addr) (n c : Nat) (ds : List DscK) (w : World) (hR : RowD w A n ds) (hs : Sm ds) (hn : n ≤ 1000) :
    Calls Tryz.prog 47 #[.slice A n c] w (GivesOwn w ds) := by
  obtain ⟨inf, hi, hi0, hi1, hi2⟩ := info_parts desc_info
  have hlen := hR.1
  have HR := Lib.hid hR
  have HS := Lib.hid hs
  have HLEN := Lib.hid hlen
  clear hR hs hlen
  go_enter Tryz.func47, Tryz.ntmps47
  go_wp2
  go_loopw [3, 4] (fun v i wr => ∃ k : Nat, k ≤ n ∧ i = .int .i64 k ∧ OList wr w.heap.size v k ds ∧ Below w.heap.size w wr) (fun _ i _ => n - (intOf i).toNat)
  case atStart => exact ⟨0, Nat.zero_le _, rfl, OList.nil _ _ _, Below.refl _ _⟩
  case round =>
    obtain ⟨k, hk, rfl, hO, hb⟩ := hrel
    by_cases hlt : k < n
    · obtain ⟨b, off, z, P, p, cp, e, Q, q, f, ps, es, rfl, hd, r1, r2, d0, d1, d2, d3⟩ := (HR.out.ext hb).get hlt
      have hsm := HS.out _ (List.mem_of_getElem? hd)
      have l1 := r1.1
      have l2 := r2.1
      simp at l1 l2
      have hp : p ≤ 1000 := by have := hsm.1; dsimp only at this; omega
      have hq : q ≤ 1000 := by have := hsm.2; dsimp only at this; omega
      have hcl := rclone_any z e P Q p cp q f ps es wr r1 r2 hp hq
      have HCL := Lib.hid hcl
      have HO := Lib.hid hO
      have HB := Lib.hid hb
      have HD := Lib.hid hd
      obtain ⟨ms, hown, -⟩ := hO
      obtain ⟨av, cv, rfl⟩ := own_shape hown
      clear hcl hb hd r1 r2 hsm l1 l2 hown
      go_wp2_with fail
      refine HCL.out.mono ?_
      rintro x w2 ⟨⟨z2, ⟨P2, p2, c2⟩, e2, Q2, q2, f2⟩, rfl, hfb, hb2⟩
      obtain ⟨ms, hown, hml, hfit⟩ := HO.out.ext hb2
      have HO2 := Lib.hid hown
      have HML := Lib.hid hml
      have HFIT := Lib.hid hfit
      have HFB := Lib.hid hfb
      have HB2 := Lib.hid (below_le HB.out hb2)
      clear hown hml hfit hfb hb2 HCL HO d0 d1 d2 d3
      simp only [mdV]
      go_wp2_with (at_builtin; refine stop_hereK ?_)
      intro _
      refine wpList_pushD (w0 := w) w2 rfl (.tmp 11) (.tmp 17) 22 rfl w.heap.size 35 inf (.agg #[.int .i64 0, .slice none 0 0, .int .i64 0, .slice none 0 0]) 64 Tryz.underlying22 hi hi0 hi1 hi2 rfl (.slice av k cv) k ms rfl HO2.out
        (z2, (P2, p2, c2), e2, (Q2, q2, f2)) rfl (by unfold maxLen; omega) (by omega) (Nat.le_refl _) HB2.out.size HB2.out (fun k e => own_baseD HO2.out e) ?_
      intro v' w3 hown3 hb3 hk3
      have hJ := JList.push HO2.out HML.out HFIT.out (by have := HLEN.out; omega) HD.out HFB.out hown3 hk3
      have HJ : Hid (OList w3 w.heap.size v' (k + 1) ds) := Lib.hid (by obtain ⟨ms', h1, h2, -, h4⟩ := hJ; exact ⟨ms', h1, h2, h4⟩)
      have HB3 := Lib.hid hb3
      clear hown3 hb3 hk3 hJ HO2 HML HFIT HFB HB2 HB HD
      go_wp2
      go_roundw
      case rel => exact ⟨k + 1, by omega, by go_num, HJ.out, HB3.out⟩
      case measure => simp [intOf]; omega
    · obtain rfl : k = n := by omega
      have HO := Lib.hid hO
      have HB := Lib.hid hb
      obtain ⟨ms, hown, -⟩ := hO
      obtain ⟨av, cv, rfl⟩ := own_shape hown
      clear hb hown
      go_wp2
      go_ret
      exact ⟨_, rfl, by rw [HLEN.out]; exact HO.out, HB.out⟩
end Go.Proofs.YtmabokmnniiadaaGreatDoor
namespace Go.Proofs.YtmabokmnniiadaaGreatDoor
open Go.RowKit

theorem OList.more {w : World} {base k : Nat} {v : Value} {L : List DscK} (h : OList w base v k L) (hk : L.length = k) (R : List DscK) : OList w base v k (L ++ R) := by
  obtain ⟨ms, h1, h2, h3⟩ := h
  refine ⟨ms, h1, h2, fun j d x a b => h3 j d x a ?_⟩
  have hj := (List.getElem?_eq_some_iff.1 a).1
  rwa [List.getElem?_append_left (by omega)] at b
/-- append of one descriptor, as an operation. -/
theorem wp_pushO {P : Program} {o : Oper} {a : Act} {K : Act → World → Prop} {Q : Exit → Act → World → Prop} (w : World) (s x : Operand)
    (ho : o.op = .call { callee := .builtin .append, args := #[s, x], argTypes := #[22, 22] })
    (base : Nat) (inf : TypeInfo) (ht : P.underlying 22 = some (.slice 35)) (hi : P.info? 35 = some inf) (hi0 : inf.zero = some (.agg #[.int .i64 0, .slice none 0 0, .int .i64 0, .slice none 0 0])) (hi1 : inf.size = 4) (hi2 : inf.bytes = 64)
    (v : Value) (n : Nat) (L : List DscK) (hs : a.eval s = v) (hO : OList w base v n L) (b : Nat) (d : MD) (y : DscK) (hx : a.eval x = .slice (some ⟨b, 0, none⟩) 1 1) (hblk : Blk w b 35 (cells4 d).toArray) (hd : FitsB w d y) (hy : L[n]? = some y) (hn : n ≤ 1000) (hbase : base ≤ w.heap.size)
    (h : ∀ v' w', OList w' base v' (n + 1) L → Below base w w' → K (a.put o.dst v') w') : o.wp P a w K Q := by
  obtain ⟨ms, hown, hml, hf⟩ := hO
  refine wp_appendD w s x 22 ho base 35 inf _ 64 ht hi hi0 hi1 hi2 rfl v n ms hs hown b d hx hblk (by unfold maxLen; omega) (by omega) hbase fun v' w' hown' hg _ => ?_
  have hJ := JList.push hown hml hf (List.getElem?_eq_some_iff.1 hy).1 hy hd hown' (fun b hb hne => hg.block b hb hne)
  refine h v' w' ?_ ((Below.refl base w).grown hg hbase (fun k e => own_baseD hown e))
  obtain ⟨ms', h1, h2, -, h4⟩ := hJ
  exact ⟨ms', h1, h2, h4⟩

set_option maxRecDepth 100000 in
set_option maxHeartbeats 4000000 in
/-- Add. -/
theorem radd_any (A : Option Addr) (n c : Nat) (ds : List DscK) (d : DscK) (P Q : Option Addr) (m c' q f : Nat) (w : World) (hR : RowD w A n ds) (hs : Sm ds) (hn : n ≤ 1000) (hnc : n ≤ c) (hP : Row w P m (d.2.1.map Iv)) (hQ : Row w Q q (d.2.2.2.map Iv)) (hd : sm1 d) :
    Calls Tryz.prog 23 #[.slice A n c, descV d.1 P m c' d.2.2.1 Q q f] w (GivesK w (kAdd ds d)) := by
  obtain ⟨inf, hi, hi0, hi1, hi2⟩ := info_parts desc_info
  obtain ⟨z, ps, e, es⟩ := d
  dsimp only at hP hQ ⊢
  have hlen := hR.1
  have hl1 := hP.1
  have hl2 := hQ.1
  simp at hl1 hl2
  have hm : m ≤ 1000 := by have := hd.1; dsimp only at this; omega
  have hq : q ≤ 1000 := by have := hd.2; dsimp only at this; omega
  have hx := below_box w (descO z P m c' e Q q f)
  have h1 : Blk (w.alloc (descO z P m c' e Q q f)) w.heap.size 35 #[.int .i64 z, .slice P m c', .int .i64 e, .slice Q q f] := Blk.new _ _ _
  have r1 : kRight ds = false → kAdd ds (z, ps, e, es) = ([], 0, 50) := fun h => by unfold kAdd; rw [if_pos h]
  have r2 : kRight ds = true → dRight z ps e es = false → kAdd ds (z, ps, e, es) = ([], 0, 40) := fun h h2 => by unfold kAdd; rw [if_neg (by rw [h]; simp), if_pos (show dR (z, ps, e, es) = false from h2)]
  have r3 : kRight ds = true → dRight z ps e es = true → 0 < kFind ds (z, ps, e, es) → kAdd ds (z, ps, e, es) = (ds, kFind ds (z, ps, e, es), 0) := fun h h2 h3 => by unfold kAdd; rw [if_neg (by rw [h]; simp), if_neg (by rw [show dR (z, ps, e, es) = true from h2]; simp), if_pos (by omega)]
  have r4 : kRight ds = true → dRight z ps e es = true → ¬ 0 < kFind ds (z, ps, e, es) → n = 60 → kAdd ds (z, ps, e, es) = ([], 0, 53) := fun h h2 h3 h4 => by unfold kAdd; rw [if_neg (by rw [h]; simp), if_neg (by rw [show dR (z, ps, e, es) = true from h2]; simp), if_neg (by omega), if_pos (by omega)]
  have r5 : kRight ds = true → dRight z ps e es = true → ¬ 0 < kFind ds (z, ps, e, es) → ¬ n = 60 → kAdd ds (z, ps, e, es) = (ds ++ [(z, ps, e, es)], n + 1, 0) := fun h h2 h3 h4 => by
    have := (kRight_iff.1 h).1
    unfold kAdd
    rw [if_neg (by rw [h]; simp), if_neg (by rw [show dR (z, ps, e, es) = true from h2]; simp), if_neg (by omega), if_neg (by omega), hlen]
  have hkr := rkright_any A n c ds (w.alloc (descO z P m c' e Q q f)) (hR.ext hx) hs hn hnc
  have hright := fun w1 h1 h2 => rright_any z e P Q m c' q f ps es w1 h1 h2 hm hq
  have hfind := fun w1 h0 h1 h2 => rkfind_any A n c ds (z, ps, e, es) P Q m c' q f w1 h0 hs hn h1 h2 hd
  have hown := fun w1 h0 => rown_any A n c ds w1 h0 hs hn
  have hclo := fun w1 h1 h2 => rclone_any z e P Q m c' q f ps es w1 h1 h2 hm hq
  generalize kAdd ds (z, ps, e, es) = r at *
  generalize kFind ds (z, ps, e, es) = kf at *
  generalize dRight z ps e es = rt at *
  generalize kRight ds = kr at *
  have R1 := Lib.hid r1
  have R2 := Lib.hid r2
  have R3 := Lib.hid r3
  have R4 := Lib.hid r4
  have R5 := Lib.hid r5
  have HKR := Lib.hid hkr
  have HRI := Lib.hid hright
  have HFI := Lib.hid hfind
  have HOW := Lib.hid hown
  have HCL := Lib.hid hclo
  have HLEN := Lib.hid hlen
  have HR := Lib.hid (hR.ext hx)
  have HP := Lib.hid (hP.ext hx)
  have HQ := Lib.hid (hQ.ext hx)
  have HB := Lib.hid hx
  have H1 := Lib.hid h1
  clear r1 r2 r3 r4 r5 hkr hright hfind hown hclo hR hP hQ hx h1 hlen hl1 hl2 hd hs
  go_enter Tryz.func23, Tryz.ntmps23
  go_wp2_with fail
  generalize w.alloc (descO z P m c' e Q q f) = W0 at *
  refine HKR.out.mono ?_
  rintro x w1 ⟨rfl, hb1⟩
  replace HR := Lib.hid (HR.out.ext hb1)
  replace HP := Lib.hid (HP.out.ext hb1)
  replace HQ := Lib.hid (HQ.out.ext hb1)
  replace H1 := Lib.hid (H1.out.ext hb1)
  replace HB := Lib.hid (below_le HB.out hb1)
  clear hb1 HKR
  cases kr
  · obtain rfl := R1.out rfl
    clear R1 R2 R3 R4 R5 HOW HCL HFI HRI
    go_wp2
    go_ret3
    exact GivesK.none_ 0 50 HB.out
  · have a0 := H1.out.at_ (i := 0) rfl
    have a1 := H1.out.at_ (i := 1) rfl
    have a2 := H1.out.at_ (i := 2) rfl
    have a3 := H1.out.at_ (i := 3) rfl
    go_wp2_with fail
    refine (HRI.out w1 HP.out HQ.out).mono ?_
    rintro x w2 ⟨rfl, hb2⟩
    replace a0 := cell_ext hb2 a0; replace a1 := cell_ext hb2 a1; replace a2 := cell_ext hb2 a2; replace a3 := cell_ext hb2 a3; replace HR := Lib.hid (HR.out.ext hb2); replace HP := Lib.hid (HP.out.ext hb2); replace HQ := Lib.hid (HQ.out.ext hb2)
    replace HB := Lib.hid (below_le HB.out hb2)
    clear hb2 HRI H1
    cases rt
    · obtain rfl := R2.out trivial rfl
      clear R1 R2 R3 R4 R5 HOW HCL HFI
      go_wp2
      go_ret3
      exact GivesK.none_ 0 40 HB.out
    · go_wp2_with fail
      refine (HFI.out w2 HR.out HP.out HQ.out).mono ?_
      rintro x w3 ⟨rfl, hb3⟩
      replace a0 := cell_ext hb3 a0; replace a1 := cell_ext hb3 a1; replace a2 := cell_ext hb3 a2; replace a3 := cell_ext hb3 a3; replace HR := Lib.hid (HR.out.ext hb3); replace HP := Lib.hid (HP.out.ext hb3); replace HQ := Lib.hid (HQ.out.ext hb3)
      replace HB := Lib.hid (below_le HB.out hb3)
      clear hb3 HFI
      by_cases hf : 0 < kf
      · obtain rfl := R3.out trivial trivial hf
        rw [decide_eq_true hf]
        clear R1 R2 R3 R4 R5 HCL hf
        go_wp2_with fail
        refine (HOW.out w3 HR.out).mono ?_
        rintro x w4 ⟨v, rfl, hO, hb4⟩
        rw [HLEN.out] at hO
        obtain ⟨B, bc, rfl, hB, hfar⟩ := hO.row HLEN.out
        have HF := Lib.hid (show ∀ a, B = some a → w.heap.size ≤ a.block from fun a e => Nat.le_trans HB.out.size (hfar a e))
        have HBR := Lib.hid hB
        replace HB := Lib.hid (below_le HB.out hb4)
        clear hb4 hB hfar hO HOW
        go_wp2
        go_ret3
        exact ⟨B, n, bc, rfl, HBR.out, HF.out, HB.out⟩
      · rw [decide_eq_false hf]
        by_cases h60 : n = 60
        · obtain rfl := R4.out trivial trivial hf h60
          subst h60
          clear R1 R2 R3 R4 R5 HOW HCL hf
          go_wp2
          go_ret3
          exact GivesK.none_ 0 53 HB.out
        · obtain rfl := R5.out trivial trivial hf h60
          have hne : ((n : Int) == 60) = false := beq_eq_false_iff_ne.2 (by omega)
          have hne2 : ¬ (n : Int) = 60 := by omega
          clear R1 R2 R3 R4 R5 hf h60
          go_wp2
          have t0 := ext_cell a0
          have t1 := ext_cell a1
          have t2 := ext_cell a2
          have t3 := ext_cell a3
          refine wp_region_mix (by kernel_rfl) ?_
          first | (refine mix_skip 0 rfl (by kernel_rfl) rfl ?_; go_frame) | (refine mix_soft 0 rfl (by kernel_rfl) rfl (fun K hK => ?_); go_simp; first | (refine hK _ ?_; clear hK K) | (apply Exists.intro; refine ⟨fun x => ?_, hK _ ?_⟩; (· (fail)); clear hK K; try go_frame))
          first | (refine mix_skip 2 rfl (by kernel_rfl) rfl ?_; go_frame) | (refine mix_soft 2 rfl (by kernel_rfl) rfl (fun K hK => ?_); go_simp; first | (refine hK _ ?_; clear hK K) | (apply Exists.intro; refine ⟨fun x => ?_, hK _ ?_⟩; (· (fail)); clear hK K; try go_frame))
          first | (refine mix_skip 6 rfl (by kernel_rfl) rfl ?_; go_frame) | (refine mix_soft 6 rfl (by kernel_rfl) rfl (fun K hK => ?_); go_simp; first | (refine hK _ ?_; clear hK K) | (apply Exists.intro; refine ⟨fun x => ?_, hK _ ?_⟩; (· (fail)); clear hK K; try go_frame))
          first | (refine mix_skip 7 rfl (by kernel_rfl) rfl ?_; go_frame) | (refine mix_soft 7 rfl (by kernel_rfl) rfl (fun K hK => ?_); go_simp; first | (refine hK _ ?_; clear hK K) | (apply Exists.intro; refine ⟨fun x => ?_, hK _ ?_⟩; (· (fail)); clear hK K; try go_frame))
          first | (refine mix_skip 8 rfl (by kernel_rfl) rfl ?_; go_frame) | (refine mix_soft 8 rfl (by kernel_rfl) rfl (fun K hK => ?_); go_simp; first | (refine hK _ ?_; clear hK K) | (apply Exists.intro; refine ⟨fun x => ?_, hK _ ?_⟩; (· (fail)); clear hK K; try go_frame))
          clear t0 t1 t2 t3 a0 a1 a2 a3
          refine mix_one 1 (by kernel_rfl) ?_
          refine mix_now rfl rfl ?_; intro w4 hb_ hB_ K hK
          go_simp
          refine (HOW.out w4 (HR.out.ext hB_)).mono ?_
          rintro x w5 ⟨v, rfl, hO, hb5⟩
          rw [HLEN.out] at hO
          have hO2 := hO.more HLEN.out [(z, ps, e, es)]
          have HSZ := Lib.hid hB_.size
          have HO := Lib.hid hO2
          have HB5 := Lib.hid (below_le hB_ hb5)
          have HW4 := Lib.hid hb5.size
          refine hK _ _ (below_le hB_ hb5) ?_
          clear hK K hb_ hB_ hO hO2 hb5 HOW
          try go_frame
          refine mix_one 3 (by kernel_rfl) ?_
          refine mix_now rfl rfl ?_; intro w6 hb_ hB_ K hK
          go_simp
          refine (HCL.out w6 (HP.out.ext hB_) (HQ.out.ext hB_)).mono ?_
          rintro x w7 ⟨md, rfl, hfb, hb7⟩
          have HFB := Lib.hid hfb
          replace HO := Lib.hid (HO.out.ext (below_le hb_ hb7))
          have HB7 := Lib.hid (below_le hB_ hb7)
          have HSZ7 := Lib.hid (below_le hb_ hb7).size
          refine hK _ _ (below_le hB_ hb7) ?_
          clear hK K hb_ hB_ hfb hb7 HCL
          obtain ⟨z2, ⟨P2, p2, c2⟩, e2, Q2, q2, f2⟩ := md
          simp only [mdV]
          try go_frame
          refine mix_one 4 (by kernel_rfl) ?_
          refine mix_now rfl rfl ?_; intro w8 hb_ hB_ K hK
          go_simp
          have hx := below_box w8 (descO z2 P2 p2 c2 e2 Q2 q2 f2)
          have hn8 : Blk (w8.alloc (descO z2 P2 p2 c2 e2 Q2 q2 f2)) w8.heap.size 35 (cells4 (z2, (P2, p2, c2), e2, (Q2, q2, f2))).toArray := Blk.new _ _ _
          have HN8 := Lib.hid hn8
          replace HO := Lib.hid ((HO.out.ext hb_).ext hx)
          replace HFB := Lib.hid ((HFB.out.ext hb_).ext hx)
          have HSZ8 := Lib.hid (below_le hb_ hx).size
          refine hK _ _ (below_le hB_ hx) ?_
          clear hK K hb_ hB_ hx hn8
          generalize w8.alloc (descO z2 P2 p2 c2 e2 Q2 q2 f2) = W8 at *
          try go_frame
          refine mix_one 5 (by kernel_rfl) ?_
          refine mix_now rfl rfl ?_; intro w9 hb_ hB_ K hK
          refine wp_pushO w9 (.tmp 29) (.tmp 32) rfl w4.heap.size inf Tryz.underlying22 hi hi0 hi1 hi2 v n (ds ++ [(z, ps, e, es)]) rfl (HO.out.ext hb_) w8.heap.size (z2, (P2, p2, c2), e2, (Q2, q2, f2)) (z, ps, e, es) rfl (HN8.out.ext hb_) (HFB.out.ext hb_) (by rw [List.getElem?_append_right (by rw [HLEN.out]; exact Nat.le_refl _), HLEN.out]; simp) hn (by have h1 := HW4.out; have h2 := HSZ7.out; have h3 := HSZ8.out; have h4 := hb_.size; omega) fun v' w10 hO10 hb10 => ?_
          have hB10 := hB_.trans (hb10.mono HSZ.out)
          have HO10 := Lib.hid hO10
          refine hK _ _ hB10 ?_
          clear hK K hb_ hB_ hb10 hB10 hO10 HO HFB HN8
          obtain ⟨A3, c3, rfl, hr3, hf3⟩ := HO10.out.row (by rw [List.length_append, HLEN.out]; rfl)
          have HR3 := Lib.hid hr3
          have HF3 := Lib.hid hf3
          clear hr3 hf3 HO10
          try go_frame
          refine mix_one 9 (by kernel_rfl) ?_
          refine mix_now rfl rfl ?_; intro w11 hb_ hB_ K hK; go_simp
          refine hK _ _ hB_ ?_
          replace HR3 := Lib.hid (HR3.out.ext hb_)
          clear hK K hb_ hB_
          try go_frame
          refine mix_one 10 (by kernel_rfl) ?_
          refine mix_now rfl rfl ?_; intro w12 hb_ hB_ K hK; go_simp
          refine hK _ _ hB_ ?_
          replace HR3 := Lib.hid (HR3.out.ext hb_)
          clear hK K hb_ hB_
          try go_frame
          refine mix_one 11 (by kernel_rfl) ?_
          refine mix_now rfl rfl ?_; intro w13 hb_ hB_ K hK; go_simp
          refine hK _ _ hB_ ?_
          replace HR3 := Lib.hid (HR3.out.ext hb_)
          clear hK K hb_ hB_
          try go_frame
          refine mix_nil (by kernel_rfl) fun w14 hb14 hB14 => ?_
          have HR14 := Lib.hid (HR3.out.ext hb14)
          have HBB := Lib.hid (below_le HB.out hB14)
          have HF := Lib.hid (show ∀ a, A3 = some a → w.heap.size ≤ a.block from fun a e => by
            have h1 := HF3.out a e
            have h2 := HSZ.out
            have h3 := HB.out.size
            omega)
          clear hb14 hB14 HR3 HF3
          go_wp2
          go_ret3
          have hw : IntKind.i64.wrap ((n : Int) + 1) = (n : Int) + 1 := IntWalk.i64_in _ (by omega)
          exact ⟨A3, n + 1, c3, by simp [hw], HR14.out, HF.out, HBB.out⟩

set_option maxRecDepth 100000 in
set_option maxHeartbeats 4000000 in
/-- Of. -/
theorem rof_any (A : Option Addr) (n c : Nat) (ds : List DscK) (kind : Int) (w : World) (hR : RowD w A n ds) (hs : Sm ds) (hn : n ≤ 1000) (hnc : n ≤ c) :
    Calls Tryz.prog 24 #[.slice A n c, .int .i64 kind] w (GivesOf w (kOf ds kind)) := by
  have hlen := hR.1
  have hx := below_box w (descO 0 none 0 0 0 none 0 0)
  have h1 : Blk (w.alloc (descO 0 none 0 0 0 none 0 0)) w.heap.size 35 #[.int .i64 0, .slice none 0 0, .int .i64 0, .slice none 0 0] := Blk.new _ _ _
  have r1 : kRight ds = false → kOf ds kind = (dsc0K, 50) := fun h => by unfold kOf; rw [if_pos h]
  have r2 : kRight ds = true → (kind < 1 ∨ (n : Int) < kind) → kOf ds kind = (dsc0K, 51) := fun h h2 => by unfold kOf; rw [if_neg (by rw [h]; simp), if_pos (by rw [hlen]; exact h2)]
  have r3 : kRight ds = true → ∀ (k : Nat) (d : DscK), kind = (k : Int) + 1 → ds[k]? = some d → kOf ds kind = (d, 0) := fun h k d h2 h3 => by
    rw [h2]
    exact kOf_at (n := k + 1) h (by omega) h3
  have hkr := rkright_any A n c ds (w.alloc (descO 0 none 0 0 0 none 0 0)) (hR.ext hx) hs hn hnc
  generalize kOf ds kind = r at *
  generalize kRight ds = kr at *
  have R1 := Lib.hid r1
  have R2 := Lib.hid r2
  have R3 := Lib.hid r3
  have HKR := Lib.hid hkr
  have HR := Lib.hid (hR.ext hx)
  have HS := Lib.hid hs
  have HB := Lib.hid hx
  have H1 := Lib.hid h1
  clear r1 r2 r3 hkr hR hx h1 hlen hs
  go_enter Tryz.func24, Tryz.ntmps24
  go_wp2_with fail
  generalize w.alloc (descO 0 none 0 0 0 none 0 0) = W0 at *
  refine HKR.out.mono ?_
  rintro x w1 ⟨rfl, hb1⟩
  replace HR := Lib.hid (HR.out.ext hb1)
  replace H1 := Lib.hid (H1.out.ext hb1)
  replace HB := Lib.hid (below_le HB.out hb1)
  clear hb1 HKR
  cases kr
  · obtain rfl := R1.out rfl
    have h2 := H1.out
    have HB2 := HB
    clear H1 HB
    have c0 := h2.at_ (i := 0) rfl
    have c1 := h2.at_ (i := 1) rfl
    have c2 := h2.at_ (i := 2) rfl
    have c3 := h2.at_ (i := 3) rfl
    have f0 := h2.frozen 0
    have f1 := h2.frozen 1
    have f2 := h2.frozen 2
    have f3 := h2.frozen 3
    have H9 := Lib.hid (h2.set4 (.int .i64 0) (.slice none 0 0) (.int .i64 0) (.slice none 0 0))
    have HB9 := Lib.hid (below_set4 HB2.out (Nat.le_refl _) (.int .i64 0) (.slice none 0 0) (.int .i64 0) (.slice none 0 0))
    clear h2
    go_wp2
    have q0 := H9.out.at_ (i := 0) rfl
    have q1 := H9.out.at_ (i := 1) rfl
    have q2 := H9.out.at_ (i := 2) rfl
    have q3 := H9.out.at_ (i := 3) rfl
    exact bodyPost_ret (v := .tuple #[descV 0 none 0 0 0 none 0 0, .int .i64 50]) (by simp [results, Tryz.results24, go_sem, q0, q1, q2, q3]) rfl ⟨_, rfl, DescIs.none_ _ _, HB9.out⟩
  · by_cases hbad : kind < 1 ∨ (n : Int) < kind
    · obtain rfl := R2.out rfl hbad
      have hgt : (decide (kind < 1) = true) ∨ (decide (kind < 1) = false ∧ (n : Int) < kind) := by
        by_cases h : kind < 1
        · exact .inl (decide_eq_true h)
        · exact .inr ⟨decide_eq_false h, by omega⟩
      have h2 := H1.out
      have HB2 := HB
      clear hbad H1 HB
      rcases hgt with hlt | ⟨hlt, hgt⟩
      all_goals
        have c0 := h2.at_ (i := 0) rfl
        have c1 := h2.at_ (i := 1) rfl
        have c2 := h2.at_ (i := 2) rfl
        have c3 := h2.at_ (i := 3) rfl
        have f0 := h2.frozen 0
        have f1 := h2.frozen 1
        have f2 := h2.frozen 2
        have f3 := h2.frozen 3
        have H9 := Lib.hid (h2.set4 (.int .i64 0) (.slice none 0 0) (.int .i64 0) (.slice none 0 0))
        have HB9 := Lib.hid (below_set4 HB2.out (Nat.le_refl _) (.int .i64 0) (.slice none 0 0) (.int .i64 0) (.slice none 0 0))
        clear h2
        go_wp2
        have q0 := H9.out.at_ (i := 0) rfl
        have q1 := H9.out.at_ (i := 1) rfl
        have q2 := H9.out.at_ (i := 2) rfl
        have q3 := H9.out.at_ (i := 3) rfl
        exact bodyPost_ret (v := .tuple #[descV 0 none 0 0 0 none 0 0, .int .i64 51]) (by simp [results, Tryz.results24, go_sem, q0, q1, q2, q3]) rfl ⟨_, rfl, DescIs.none_ _ _, HB9.out⟩
    · obtain ⟨k, rfl⟩ : ∃ k : Nat, kind = (k : Int) + 1 := ⟨(kind - 1).toNat, by omega⟩
      have hkn : k < n := by omega
      obtain ⟨b, off, z, P, m, c', e, Q, q, f, ps, es, rfl, hd, p1, p2, d0, d1, d2, d3⟩ := HR.out.get hkn
      obtain rfl := R3.out rfl k _ rfl hd
      have hsm := HS.out _ (List.mem_of_getElem? hd)
      have l1 := p1.1
      have l2 := p2.1
      simp at l1 l2
      have hm : m ≤ 1000 := by have := hsm.1; dsimp only at this; omega
      have hq : q ≤ 1000 := by have := hsm.2; dsimp only at this; omega
      have e1 : (k : Int) + 1 - 1 = (k : Int) := by omega
      have g1 : decide ((k : Int) + 1 < 1) = false := decide_eq_false (by omega)
      have g2 : decide ((n : Int) < (k : Int) + 1) = false := decide_eq_false (by omega)
      have hcl := rclone_any z e P Q m c' q f ps es w1 p1 p2 hm hq
      have HCL := Lib.hid hcl
      clear hbad R1 R2 R3 hcl hsm hd p1 p2 HR l1 l2
      go_wp2_with fail
      clear d0 d1 d2 d3
      refine HCL.out.mono ?_
      rintro x w2 ⟨⟨z2, ⟨P2, p2, cP⟩, e2, Q2, qq, fQ⟩, rfl, ⟨⟨h3, h4, h5, h6⟩, hint⟩, hb2⟩
      dsimp only at h3 h4 h5 h6
      subst h3
      subst h4
      have h2 := (H1.out.ext hb2)
      have HI := Lib.hid (show ∀ b ∈ blkR P2 p2 ++ blkR Q2 qq, b ≠ w.heap.size from fun b hb e => by
        obtain ⟨cs, hcs⟩ := hint b hb
        subst e
        unfold Blk at hcs
        have h2' : w2.heap[w.heap.size]? = _ := h2
        rw [hcs] at h2'
        injection h2' with h2'
        injection h2' with _ h2'
        exact absurd h2' (by decide))
      have HB2 := Lib.hid (below_le HB.out hb2)
      have HP1 := Lib.hid h5
      have HP2 := Lib.hid h6
      clear hb2 hint HB H1 h5 h6 HCL
      have c0 := h2.at_ (i := 0) rfl
      have c1 := h2.at_ (i := 1) rfl
      have c2 := h2.at_ (i := 2) rfl
      have c3 := h2.at_ (i := 3) rfl
      have f0 := h2.frozen 0
      have f1 := h2.frozen 1
      have f2 := h2.frozen 2
      have f3 := h2.frozen 3
      have H9 := Lib.hid (h2.set4 (.int .i64 z2) (.slice P2 p2 cP) (.int .i64 e2) (.slice Q2 qq fQ))
      have HB9 := Lib.hid (below_set4 HB2.out (Nat.le_refl _) (.int .i64 z2) (.slice P2 p2 cP) (.int .i64 e2) (.slice Q2 qq fQ))
      clear h2
      simp only [mdV]
      go_wp2
      have q0 := H9.out.at_ (i := 0) rfl
      have q1 := H9.out.at_ (i := 1) rfl
      have q2 := H9.out.at_ (i := 2) rfl
      have q3 := H9.out.at_ (i := 3) rfl
      have hk : KeepB (blkR P2 p2 ++ blkR Q2 qq) w2 ((((w2.setCell ⟨w.heap.size, 0, none⟩ (.int .i64 z2)).setCell ⟨w.heap.size, 1, none⟩ (.slice P2 p2 cP)).setCell ⟨w.heap.size, 2, none⟩ (.int .i64 e2)).setCell ⟨w.heap.size, 3, none⟩ (.slice Q2 qq fQ)) := fun b hb => heap_set4 w2 (HI.out b hb) _ _ _ _
      exact bodyPost_ret (v := .tuple #[descV z2 P2 p2 cP e2 Q2 qq fQ, .int .i64 0]) (by simp [results, Tryz.results24, go_sem, q0, q1, q2, q3]) rfl ⟨_, rfl, ⟨P2, p2, cP, Q2, qq, fQ, rfl, hk.rowR HP1.out (fun b hb => List.mem_append_left _ hb), hk.rowR HP2.out (fun b hb => List.mem_append_right _ hb), fun _ _ => Nat.zero_le _, fun _ _ => Nat.zero_le _⟩, HB9.out⟩
end Go.Proofs.YtmabokmnniiadaaGreatDoor
namespace Go.Proofs.YtmabokmnniiadaaGreatDoor
open Go.RowKit

/-- A line more. -/
theorem line_adds {X Y : List UInt8} (hx : X.length ≤ 7000000) (hy : Y.length ≤ 100000) : ∃ sX sY sM sT : ByteArray, (⟨X.toArray⟩ : ByteArray) = sX ∧ (⟨Y.toArray⟩ : ByteArray) = sY ∧ (∀ W : World, (Op.stringOp .add sX sY).run Tryz.prog W = .ok (.string sM) W) ∧ (∀ W : World, (Op.stringOp .add sM ⟨#[10]⟩).run Tryz.prog W = .ok (.string sT) W) ∧ (⟨(X ++ (Y ++ [10])).toArray⟩ : ByteArray) = sT :=
  ⟨_, _, _, _, rfl, rfl, fun W => run_string_add_lists W X Y (by omega) (by omega), fun W => run_string_add_lists W (X ++ Y) [10] (by simp; omega) (by simp), by rw [List.append_assoc]⟩
theorem linesT_take {ds : List DscK} {k : Nat} {d : DscK} (h : ds[k]? = some d) : linesT (ds.take (k + 1)) = linesT (ds.take k) ++ (dP d ++ [10]) := by
  rw [take_snoc h]
  simp [linesT]
theorem linesT_le : ∀ {l : List DscK}, (∀ d ∈ l, dR d = true) → (linesT l).length ≤ l.length * 100001
  | [], _ => by simp [linesT]
  | d :: l, h => by
    have h1 := linesT_le (l := l) fun x hx => h x (by simp [hx])
    have h2 := dP_len (h d (by simp))
    rw [linesT_cons]
    simp
    omega

set_option maxRecDepth 100000 in
set_option maxHeartbeats 4000000 in
/-- Print. -/
theorem rkprint_any (A : Option Addr) (n c : Nat) (ds : List DscK) (w : World) (hR : RowD w A n ds) (hs : Sm ds) (hn : n ≤ 1000) (hnc : n ≤ c) :
    Calls Tryz.prog 12 #[.slice A n c] w (GivesT w (kText ds) (kNo ds)) := by
  have hlen := hR.1
  have hkr := rkright_any A n c ds w hR hs hn hnc
  cases hr : kRight ds
  · have e1 : kText ds = [] := by unfold kText; rw [hr]; rfl
    have e2 : kNo ds = 50 := by unfold kNo; rw [hr]; rfl
    rw [e1, e2]
    rw [hr] at hkr
    have HKR := Lib.hid hkr
    clear hkr hR hs
    go_enter Tryz.func12, Tryz.ntmps12
    go_wp2_with fail
    refine HKR.out.mono ?_
    rintro x w1 ⟨rfl, hb1⟩
    have HB := Lib.hid hb1
    clear hb1 HKR
    go_wp2
    go_ret2
    exact ⟨rfl, HB.out⟩
  · have e1 : kText ds = linesT ds := by unfold kText; rw [if_pos hr]
    have e2 : kNo ds = 0 := by unfold kNo; rw [if_pos hr]
    rw [e1, e2]
    rw [hr] at hkr
    have hk := kRight_iff.1 hr
    have hn60 : n ≤ 60 := by omega
    have HDR := Lib.hid hk.2.1
    have HKR := Lib.hid hkr
    have HR := Lib.hid hR
    have HS := Lib.hid hs
    have HLEN := Lib.hid hlen
    clear hkr hR hs hk e1 e2 hr hlen
    go_enter Tryz.func12, Tryz.ntmps12
    go_wp2_with fail
    refine HKR.out.mono ?_
    rintro x w1 ⟨rfl, hb1⟩
    replace HR := Lib.hid (HR.out.ext hb1)
    have HB := Lib.hid hb1
    clear hb1 HKR
    go_wp2
    go_loopw [4, 5] (fun v i wr => ∃ k : Nat, k ≤ n ∧ i = .int .i64 k ∧ v = .string ⟨(linesT (ds.take k)).toArray⟩ ∧ Below w1.heap.size w1 wr) (fun _ i _ => n - (intOf i).toNat)
    case atStart => exact ⟨0, Nat.zero_le _, rfl, by simp [linesT], Below.refl _ _⟩
    case round =>
      obtain ⟨k, hk, rfl, rfl, hb⟩ := hrel
      have HW := Lib.hid hb
      clear hb
      by_cases hlt : k < n
      · obtain ⟨b, off, z, P, p, cp, e, Q, q, f, ps, es, rfl, hd, r1, r2, d0, d1, d2, d3⟩ := (HR.out.ext HW.out).get hlt
        have hdr := HDR.out _ (List.mem_of_getElem? hd)
        have hsm := HS.out _ (List.mem_of_getElem? hd)
        have l1 := r1.1
        have l2 := r2.1
        simp at l1 l2
        have hp : p ≤ 1000 := by have := hsm.1; dsimp only at this; omega
        have hq : q ≤ 1000 := by have := hsm.2; dsimp only at this; omega
        have hcall := rprint_any z e P Q p cp q f ps es wr r1 r2 hp hq
        unfold GivesPr prText prNo at hcall
        simp only [show dRight z ps e es = true from hdr, if_true] at hcall
        have hX : (linesT (ds.take k)).length ≤ 7000000 := by
          have h1 := linesT_le (l := ds.take k) fun x hx => HDR.out x (List.mem_of_mem_take hx)
          have h2 := List.length_take_le k ds
          omega
        have hY := dP_len hdr
        obtain ⟨sX, sY, sM, sT, eX, eY, A1, A2, eT⟩ := line_adds hX hY
        rw [show (⟨(printT z ps e es).toArray⟩ : ByteArray) = sY from eY] at hcall
        have hT : Value.string sT = .string ⟨(linesT (ds.take (k + 1))).toArray⟩ := by rw [linesT_take hd, eT]
        have HT := Lib.hid hT
        have HC := Lib.hid hcall
        rw [eX]
        clear hT hcall eX eY eT hX hY hdr hsm l1 l2 r1 r2 hd
        go_wp2_with fail
        refine HC.out.mono ?_
        rintro y w2 ⟨rfl, hb2⟩
        replace HW := Lib.hid (below_le HW.out hb2)
        clear hb2 HC d0 d1 d2 d3
        go_wp2
        go_roundw
        case rel => exact ⟨k + 1, by omega, by go_num, HT.out, HW.out⟩
        case measure => simp [intOf]; omega
      · have hT : (⟨(linesT (ds.take k)).toArray⟩ : ByteArray) = ⟨(linesT ds).toArray⟩ := by rw [List.take_of_length_le (by have := HLEN.out; omega)]
        have HT := Lib.hid hT
        clear hT
        go_wp2
        go_ret2
        exact ⟨by rw [HT.out]; rfl, below_le HB.out HW.out⟩

/-! ### Parse, in plain words -/
theorem cut_no {r : List UInt8} (h : (10 : UInt8) ∉ r) : Lib.cut r [10] = (r, [], false) := by
  obtain ⟨a, b, e, hc⟩ : ∃ a b e, Lib.cut r [10] = (a, b, e) := ⟨_, _, _, rfl⟩
  cases e with
  | false =>
    obtain ⟨rfl, rfl⟩ := cut_noneK hc
    exact hc
  | true =>
    have := cut_some hc
    exact absurd (by rw [this]; simp) h
theorem parseK_nil (f : Nat) (acc : List DscK) (k : Nat) : parseK f acc k [] = (acc, 0, 0) := by
  cases f with
  | zero => rfl
  | succ f => unfold parseK; rw [if_pos rfl]
theorem parseK_end {r : List UInt8} {f : Nat} {acc : List DscK} {k : Nat} (h : (10 : UInt8) ∉ r) (hr : r ≠ []) (hf : r.length < f) : parseK f acc k r = ([], k + 1, 40) := by
  obtain ⟨f, rfl⟩ : ∃ g, f = g + 1 := ⟨f - 1, by omega⟩
  unfold parseK
  rw [if_neg hr]
  simp only [cut_no h, if_true]
theorem parseK_at {r : List UInt8} {f j : Nat} {acc : List DscK} {k : Nat} (hj : r[j]? = some 10) (hno : (10 : UInt8) ∉ r.take j) (hf : r.length < f) : ∃ f', (r.drop (j + 1)).length < f' ∧
    (readT (r.take j) = none → parseK f acc k r = ([], k + 1, 40)) ∧ (∀ d, readT (r.take j) = some d → dR d = true ∧ (d ∈ acc → parseK f acc k r = ([], k + 1, 52)) ∧ (d ∉ acc → 60 ≤ acc.length → parseK f acc k r = ([], k + 1, 53)) ∧ (d ∉ acc → ¬ 60 ≤ acc.length → parseK f acc k r = parseK f' (acc ++ [d]) (k + 1) (r.drop (j + 1)))) := by
  obtain ⟨f, rfl⟩ : ∃ g, f = g + 1 := ⟨f - 1, by omega⟩
  have hjl := (List.getElem?_eq_some_iff.1 hj).1
  have hsp : r = r.take j ++ 10 :: r.drop (j + 1) := by
    have h2 : r[j] = 10 := (List.getElem?_eq_some_iff.1 hj).2
    rw [← h2, ← List.drop_eq_getElem_cons hjl, List.take_append_drop]
  have hc : Lib.cut r [10] = (r.take j, r.drop (j + 1), true) := by
    have := cut_at (c := 10) (t := []) (b := r.drop (j + 1)) hno
    rw [List.singleton_append, ← hsp] at this
    exact this
  have hr : r ≠ [] := by rintro rfl; simp at hjl
  refine ⟨f, by rw [List.length_drop]; omega, fun h => ?_, fun d h => ⟨(read_dR h).2, fun hm => ?_, fun hm h6 => ?_, fun hm h6 => ?_⟩⟩
  all_goals
    rw [parseK, if_neg hr]
    simp only [hc, Bool.true_eq_false, if_false, h]
  · rw [if_pos hm]
  · rw [if_neg hm, if_pos h6]
  · rw [if_neg hm, if_neg h6]
end Go.Proofs.YtmabokmnniiadaaGreatDoor
namespace Go.Proofs.YtmabokmnniiadaaGreatDoor
open Go.RowKit

/-- A list of descriptors that the call owns, apart from their lists. -/
def PList (w : World) (base : Nat) (v : Value) (L : List DscK) : Prop :=
  ∃ ms, w.ownsRow base 35 4 v L.length (cellsD ms) ∧ ms.length = L.length ∧ (∀ (j : Nat) (d : MD) (x : DscK), ms[j]? = some d → L[j]? = some x → Fits w d x) ∧ ∀ d ∈ ms, ∀ b ∈ blkM d, some b ≠ v.ownBlock
theorem PList.ext {w w' : World} {base : Nat} {v : Value} {L : List DscK} (hb : Below w.heap.size w w') (h : PList w base v L) : PList w' base v L := by
  obtain ⟨ms, h1, h2, h3, h4⟩ := h
  exact ⟨ms, own_extD hb h1, h2, fun j d x a b => (h3 j d x a b).ext hb, h4⟩
theorem PList.nil (w : World) (base : Nat) : PList w base (.slice none 0 0) [] := ⟨[], ⟨rfl, .inl ⟨rfl, rfl⟩⟩, rfl, (fun j d x h => by simp at h), fun d h => by simp at h⟩
theorem PList.row {w : World} {base : Nat} {v : Value} {L : List DscK} (h : PList w base v L) : ∃ A c, v = .slice A L.length c ∧ RowD w A L.length L ∧ (∀ a, A = some a → base ≤ a.block) := by
  obtain ⟨ms, h1, h2, h3, -⟩ := h
  obtain ⟨A, c, e, hr, -, hf⟩ := rowD_of_owns (ds := L) h1 h2 h3
  exact ⟨A, c, e, hr, hf⟩
theorem PList.own_ {w : World} {base g : Nat} {v : Value} {L : List DscK} (h : PList w base v L) (hg : v.ownBlock = some g) : base ≤ g ∧ g < w.heap.size := by
  obtain ⟨ms, h1, -⟩ := h
  exact ⟨own_baseD h1 hg, own_lt h1 hg⟩
/-- append of one descriptor, its lists apart. -/
theorem wpList_pushP {P : Program} {ops : Array Oper} {rest : List Oper} {o : Oper} {a : Act} {Q : Exit → Act → World → Prop} (w : World) (hgd : o.guard = none) (s x : Operand)
    (ho : o.op = .call { callee := .builtin .append, args := #[s, x], argTypes := #[22, 22] })
    (base : Nat) (inf : TypeInfo) (ht : P.underlying 22 = some (.slice 35)) (hi : P.info? 35 = some inf) (hi0 : inf.zero = some (.agg #[.int .i64 0, .slice none 0 0, .int .i64 0, .slice none 0 0])) (hi1 : inf.size = 4) (hi2 : inf.bytes = 64)
    (v : Value) (L : List DscK) (hs : a.eval s = v) (hP : PList w base v L) (b : Nat) (d : MD) (y : DscK) (hx : a.eval x = .slice (some ⟨b, 0, none⟩) 1 1) (hblk : Blk w b 35 (cells4 d).toArray) (hd : Fits w d y) (hne : ∀ b ∈ blkM d, some b ≠ v.ownBlock) (hn : L.length ≤ 1000) (hbase : base ≤ w.heap.size)
    (h : ∀ v' w', PList w' base v' (L ++ [y]) → Below base w w' → wpList P ops Q rest (a.put o.dst v') w') : wpList P ops Q (o :: rest) a w := by
  obtain ⟨ms, hown, hml, hf, hap⟩ := hP
  refine wpList_plain hgd fun _ hK => wp_appendD w s x 22 ho base 35 inf _ 64 ht hi hi0 hi1 hi2 rfl v L.length ms hs hown b d hx hblk (by unfold maxLen; omega) (by omega) hbase fun v' w' hown' hg hvb => hK _ _ (h v' w' ?_ ((Below.refl base w).grown hg hbase (fun k e => own_baseD hown e)))
  have hlt : ∀ d' ∈ ms ++ [d], ∀ b ∈ blkM d', b < w.heap.size ∧ some b ≠ v.ownBlock := fun d' hd' b hb => by
    rcases List.mem_append.1 hd' with hd' | hd'
    · obtain ⟨k, hk, e⟩ := List.getElem_of_mem hd'
      have hx : L[k]? = some (L[k]'(by omega)) := List.getElem?_eq_getElem (by omega)
      exact ⟨(hf k d' _ (by rw [← e]; exact List.getElem?_eq_getElem hk) hx).lt b hb, hap d' hd' b hb⟩
    · rw [List.mem_singleton.1 hd'] at hb
      exact ⟨hd.lt b hb, hne b hb⟩
  refine ⟨ms ++ [d], by rw [List.length_append]; exact hown', by simp [hml], fun j d' x' h1 h2 => ?_, fun d' hd' b hb => ?_⟩
  · have hmem := List.mem_of_getElem? h1
    have hF : Fits w d' x' := by
      by_cases hj : j < ms.length
      · rw [List.getElem?_append_left hj] at h1
        rw [List.getElem?_append_left (by omega)] at h2
        exact hf j d' x' h1 h2
      · rw [List.getElem?_append_right (by omega)] at h1
        rw [List.getElem?_append_right (by omega)] at h2
        have hj0 : j - ms.length = 0 := by
          have := (List.getElem?_eq_some_iff.1 h1).1
          simp at this
          omega
        rw [hj0] at h1
        rw [← hml, hj0] at h2
        simp at h1 h2
        subst h1 h2
        exact hd
    exact hF.grown hg fun b hb => (hlt d' hmem b hb).2
  · obtain ⟨h1, h2⟩ := hlt d' hd' b hb
    rcases hvb with hvb | hvb
    · rw [hvb]; exact h2
    · rw [hvb]
      intro e
      injection e with e
      omega
theorem take_more10 {l : List UInt8} {k : Nat} {c : UInt8} (h : l[k]? = some c) (hc : c ≠ 10) (hn : (10 : UInt8) ∉ l.take k) : (10 : UInt8) ∉ l.take (k + 1) := by
  rw [List.take_add_one, h, Option.toList_some]
  intro hm
  rcases List.mem_append.1 hm with hm | hm
  · exact hn hm
  · rw [List.mem_singleton] at hm
    exact hc hm.symm
theorem ne10 {c : UInt8} (h : ¬ c = 10) : ((c.toNat : Int) != 10) = true :=
  bne_iff_ne.2 fun e => h (UInt8.toNat_inj.1 (show c.toNat = 10 by omega))

def strLenR : Value → Nat
  | .string s => s.size
  | _ => 0
theorem far_blk {A : Option Addr} {m n : Nat} (h : ∀ a, A = some a → n ≤ a.block) : ∀ b ∈ blkR A m, n ≤ b := by
  intro b hb
  unfold blkR at hb
  split at hb
  · cases A with
    | none => simp [blkA] at hb
    | some a => simp [blkA] at hb; subst hb; exact h a rfl
  · simp at hb

set_option maxRecDepth 100000 in
set_option maxHeartbeats 8000000 in
/-- Parse. -/
theorem rkparse_any (s : ByteArray) (w : World) (hs : s.size ≤ 1000) :
    Calls Tryz.prog 15 #[.string s] w (GivesK w (kParse s.data.toList)) := by
  obtain ⟨inf, hi, hi0, hi1, hi2⟩ := info_parts desc_info
  have hpk := kParse_eq s.data.toList
  have hsl : s.data.toList.length = s.size := by simp
  generalize kParse s.data.toList = R at *
  have HPK := Lib.hid hpk
  clear hpk
  go_enter Tryz.func15, Tryz.ntmps15
  go_wp2
  go_loopw [0, 5, 6] (fun sv v lv wr => ∃ (f k : Nat) (acc : List DscK) (r : ByteArray), sv = .string r ∧ lv = .int .i64 k ∧ PList wr w.heap.size v acc ∧ r.size ≤ 1000 ∧ k + r.size ≤ 1000 ∧ r.data.toList.length < f ∧ R = parseK f acc k r.data.toList ∧ (∀ d ∈ acc, dR d = true) ∧ acc.length ≤ 60 ∧ Below w.heap.size w wr)
    (fun sv _ _ _ => strLenR sv)
  case atStart => exact ⟨_, 0, [], s, rfl, rfl, PList.nil _ _, hs, by omega, Nat.lt_succ_self _, HPK.out, fun d h => by simp at h, by simp, Below.refl _ _⟩
  case round =>
    obtain ⟨f, k, acc, r, rfl, rfl, hPL, hrs, hkr, hrf, hRe, hac, hal, hbw⟩ := hrel
    obtain ⟨A, ac, rfl, hRA, hfA⟩ := hPL.row
    have HPL := Lib.hid hPL
    have HRA := Lib.hid hRA
    have HFA := Lib.hid hfA
    have HAC := Lib.hid hac
    have HW := Lib.hid hbw
    by_cases hr : r = ⟨#[]⟩
    · subst hr
      have hR2 : R = (acc, 0, 0) := by rw [hRe]; exact parseK_nil _ _ _
      subst hR2
      clear hPL hRA hfA hac hbw hRe hrf hrs hkr
      go_wp2
      go_ret3
      exact ⟨A, acc.length, ac, rfl, HRA.out, HFA.out, HW.out⟩
    · have hrn : r.data.toList ≠ [] := fun e => hr (by
        apply ByteArray.ext
        simpa using e)
      have hne : r.toList.isEmpty = false := by
        rw [empty_bytes]
        cases h : r.data.toList with
        | nil => exact absurd h hrn
        | cons _ _ => rfl
      have hrl : r.data.toList.length = r.size := by simp
      have HRE := Lib.hid hRe
      have HRN := Lib.hid hrn
      have HRF := Lib.hid hrf
      have hk1 : (k : Int) ≤ 1000 := by omega
      clear hPL hRA hfA hac hbw hRe hrf hr hrn
      go_wp2
      go_loopw [7] (fun iv wi => ∃ j : Nat, j ≤ r.size ∧ iv = .int .i64 j ∧ (10 : UInt8) ∉ r.data.toList.take j ∧ Below wr.heap.size wr wi) (fun iv _ => r.size - (intOf iv).toNat)
      case atStart => exact ⟨0, Nat.zero_le _, rfl, by simp, Below.refl _ _⟩
      case round =>
        obtain ⟨j, hj, rfl, hno, hbi⟩ := hrel
        have HNO := Lib.hid hno
        have HWI := Lib.hid hbi
        clear hno hbi
        by_cases hlt : j < r.size
        · obtain ⟨hck, hI⟩ := index_str r j hlt
          have hI' : ∀ W : World, (Instr.index 9 (.string r) (.int .i64 (j : Int))).run Tryz.prog W = .ok (.int .u8 (r[j].toNat : Nat)) W := hI
          by_cases h10 : r[j] = 10
          · rw [h10] at hck hI'
            clear hI h10
            obtain ⟨s1, s2, hs1, hs2, e1, e2, l1, l2⟩ := str_parts r j hj
            obtain ⟨s4, s3, hs4, hs3, e4, e3, l4, l3⟩ := str_parts r (j + 1) (by omega)
            clear hs2 e2 l2 hs4 e4 l4 s2 s4
            obtain ⟨f', hf', hnone, hsome⟩ := parseK_at (acc := acc) (k := k) hck HNO.out HRF.out
            rw [← HRE.out] at hnone hsome
            rw [← e3] at hf' hsome
            have hcall := rparse_any s1 wr (by omega)
            rw [ref_read, e1] at hcall
            have hsz3 : s3.size + (j + 1) = r.size := by
              have := congrArg List.length e3
              simp at this
              omega
            have hjl : ((j : Int) == (r.size : Int)) = false := beq_eq_false_iff_ne.2 (by omega)
            have hjl2 : ¬ (j : Int) = (r.size : Int) := by omega
            generalize readT (r.data.toList.take j) = o at *
            have HC := Lib.hid hcall
            have HF := Lib.hid hf'
            have HNONE := Lib.hid hnone
            have HSOME := Lib.hid hsome
            have HSZ3 := Lib.hid hsz3
            replace HPL := Lib.hid (HPL.out.ext HWI.out)
            replace HRA := Lib.hid (HRA.out.ext HWI.out)
            replace HW := Lib.hid (below_le HW.out HWI.out)
            clear hcall hf' hnone hsome hck e1 e3 hsz3 HNO HWI HRE HPK l3
            go_wp2_with fail
            refine HC.out.mono ?_
            rintro y w3 ⟨dv, rfl, ⟨P, m, c, Q, q, f2, rfl, hP, hQ, hPf, hQf⟩, hb3⟩
            clear HC hI' hs1
            cases o with
            | none =>
              have hR2 := HNONE.out rfl
              subst hR2
              have HB3 := Lib.hid (below_le HW.out hb3)
              have hx := below_box w3 (descO 0 P m c 0 Q q f2)
              have HB4 := Lib.hid (below_le HB3.out hx)
              clear hP hQ hPf hQf hb3 hx HNONE HSOME
              simp only [dsc0, Option.getD_none, Option.isSome_none, Bool.false_eq_true, if_false]
              go_wp2
              go_ret3
              exact ⟨none, 0, 0, by simp, RowD.none_, (fun _ h => by cases h), HB4.out⟩
            | some d =>
              obtain ⟨z, ps, e, es⟩ := d
              obtain ⟨hdr, h52, h53, h0⟩ := HSOME.out _ rfl
              have hsmd : sm1 (z, ps, e, es) := sm_of hdr
              simp only [dsc0, Option.getD_some, Option.isSome_some, if_true] at hP hQ ⊢
              have hx := below_box w3 (descO z P m c e Q q f2)
              have hbl : Blk (w3.alloc (descO z P m c e Q q f2)) w3.heap.size 35 #[.int .i64 z, .slice P m c, .int .i64 e, .slice Q q f2] := Blk.new _ _ _
              have hFN : Fits (w3.alloc (descO z P m c e Q q f2)) (z, (P, m, c), e, (Q, q, f2)) (z, ps, e, es) := ⟨rfl, rfl, hP.ext hx, hQ.ext hx⟩
              have hNE : ∀ b ∈ blkM (z, (P, m, c), e, (Q, q, f2)), some b ≠ (Value.slice A acc.length ac).ownBlock := fun b hb e' => by
                have h1 := (HPL.out.own_ e'.symm).2
                rcases List.mem_append.1 hb with hb | hb
                · have := far_blk hPf b hb; omega
                · have := far_blk hQf b hb; omega
              have a0 := hbl.at_ (i := 0) rfl
              have a1 := hbl.at_ (i := 1) rfl
              have a2 := hbl.at_ (i := 2) rfl
              have a3 := hbl.at_ (i := 3) rfl
              have hbx := below_le hb3 hx
              replace HPL := Lib.hid (HPL.out.ext hbx)
              replace HRA := Lib.hid (HRA.out.ext hbx)
              replace HW := Lib.hid (below_le HW.out hbx)
              have HFN := Lib.hid hFN
              have HNE := Lib.hid hNE
              have H52 := Lib.hid h52
              have H53 := Lib.hid h53
              have H0 := Lib.hid h0
              have HDR := Lib.hid hdr
              have HSMD := Lib.hid hsmd
              have HSA := Lib.hid (Sm.of_right HAC.out)
              clear h52 h53 h0 hdr hsmd hFN hNE hbx hx hbl hb3 hPf hQf HNONE HSOME hP hQ
              go_wp2_with fail
              generalize w3.alloc (descO z P m c e Q q f2) = W3 at *
              have hfd := rkfind_any A acc.length ac acc (z, ps, e, es) P Q m c q f2 W3 HRA.out HSA.out (by omega) HFN.out.2.2.1 HFN.out.2.2.2 HSMD.out
              have hfz : kFind acc (z, ps, e, es) = 0 ↔ (z, ps, e, es) ∉ acc := kFind_zero
              generalize kFind acc (z, ps, e, es) = kf at *
              refine hfd.mono ?_
              clear hfd
              rintro y w4 ⟨rfl, hb4⟩
              replace a0 := cell_ext hb4 a0; replace a1 := cell_ext hb4 a1; replace a2 := cell_ext hb4 a2; replace a3 := cell_ext hb4 a3; replace HPL := Lib.hid (HPL.out.ext hb4); replace HRA := Lib.hid (HRA.out.ext hb4); replace HFN := Lib.hid (HFN.out.ext hb4)
              replace HW := Lib.hid (below_le HW.out hb4)
              clear hb4
              by_cases hf : 0 < kf
              · rw [decide_eq_true hf]
                have hmem : (z, ps, e, es) ∈ acc := Classical.not_not.1 fun h => by have := hfz.2 h; omega
                have hR2 := H52.out hmem
                subst hR2
                clear hf hfz hmem H52 H53 H0
                go_wp2
                go_ret3
                exact ⟨none, 0, 0, by simp, RowD.none_, (fun _ h => by cases h), HW.out⟩
              · rw [decide_eq_false hf]
                have hmem := hfz.1 (by omega)
                by_cases h60 : acc.length = 60
                · have hR2 := H53.out hmem (by omega)
                  subst hR2
                  have h60i : ((acc.length : Int) == 60) = true := beq_iff_eq.2 (by omega)
                  have h60j : (acc.length : Int) = 60 := by omega
                  clear hf hfz hmem H52 H53 H0
                  go_wp2
                  go_ret3
                  exact ⟨none, 0, 0, by simp, RowD.none_, (fun _ h => by cases h), HW.out⟩
                · have hR2 := H0.out hmem (by omega)
                  have HR2 := Lib.hid hR2
                  have h60i : ((acc.length : Int) == 60) = false := beq_eq_false_iff_ne.2 (by omega)
                  have h60j : ¬ (acc.length : Int) = 60 := by omega
                  have hs3' : ∀ W : World, (Instr.slice 9 (.string r) (some (.int .i64 ((j : Int) + 1))) none none).run Tryz.prog W = .ok (.string s3) W := fun W => by
                    have h := hs3 W
                    simpa using h
                  clear hf hfz hmem H52 H53 H0 hR2 hs3
                  go_wp2_with (at_builtin; refine stop_hereK ?_)
                  intro _
                  have hy := below_box w4 (descO z P m c e Q q f2)
                  have hn5 : Blk (w4.alloc (descO z P m c e Q q f2)) w4.heap.size 35 (cells4 (z, (P, m, c), e, (Q, q, f2))).toArray := Blk.new _ _ _
                  replace HPL := Lib.hid (HPL.out.ext hy)
                  replace HFN := Lib.hid (HFN.out.ext hy)
                  replace HW := Lib.hid (below_le HW.out hy)
                  have HN5 := Lib.hid hn5
                  clear hy hn5 a0 a1 a2 a3
                  generalize w4.alloc (descO z P m c e Q q f2) = W5 at *
                  refine wpList_pushP W5 rfl (.tmp 56) (.tmp 58) rfl w.heap.size inf Tryz.underlying22 hi hi0 hi1 hi2 (.slice A acc.length ac) acc rfl HPL.out w4.heap.size (z, (P, m, c), e, (Q, q, f2)) (z, ps, e, es) rfl HN5.out HFN.out HNE.out (by omega) HW.out.size ?_
                  intro v' w6 hPL6 hb6
                  have HPL6 := Lib.hid hPL6
                  have HW6 := Lib.hid (HW.out.trans hb6)
                  have HAC6 := Lib.hid (show ∀ x ∈ acc ++ [(z, ps, e, es)], dR x = true from fun x hx => by
                    rcases List.mem_append.1 hx with hx | hx
                    · exact HAC.out x hx
                    · rw [List.mem_singleton.1 hx]; exact HDR.out)
                  clear hPL6 hb6 HPL HFN HN5 HNE HW
                  go_wp2
                  go_roundw
                  case rel => exact ⟨f', k + 1, acc ++ [(z, ps, e, es)], s3, rfl, by go_num, HPL6.out, by have := HSZ3.out; omega, by have := HSZ3.out; omega, HF.out, HR2.out, HAC6.out, by simp; omega, HW6.out⟩
                  case measure =>
                    show s3.size < r.size
                    have := HSZ3.out
                    omega
          · have hne10 := ne10 h10
            have HN' := Lib.hid (take_more10 hck h10 HNO.out)
            clear hck h10 hI
            generalize (r[j]).toNat = bt at *
            go_wp2
            go_roundw
            case rel => exact ⟨j + 1, by omega, by go_num, HN'.out, HWI.out⟩
            case measure => simp [intOf]; omega
        · have hR2 : R = ([], k + 1, 40) := by
            rw [HRE.out]
            refine parseK_end ?_ HRN.out HRF.out
            have := HNO.out
            rwa [List.take_of_length_le (by omega)] at this
          subst hR2
          obtain rfl : j = r.size := by omega
          obtain ⟨s1, s2, hs1, hs2, e1, e2, l1, l2⟩ := str_parts r r.size hj
          have hcall := rparse_any s1 wr (by omega)
          generalize refReadT s1.data.toList = o at *
          have HC := Lib.hid hcall
          replace HW := Lib.hid (below_le HW.out HWI.out)
          clear hcall hs2 e1 e2 l2 HNO HWI HRE HPK HPL HRA HFA
          go_wp2_with fail
          refine HC.out.mono ?_
          rintro y w3 ⟨dv, rfl, ⟨P, m, c, Q, q, f2, rfl, hP, hQ, hPf, hQf⟩, hb3⟩
          clear HC hs1
          have HB3 := Lib.hid (below_le HW.out hb3)
          cases o with
          | none =>
            have hx := below_box w3 (descO 0 P m c 0 Q q f2)
            have HB4 := Lib.hid (below_le HB3.out hx)
            clear hP hQ hPf hQf hb3 hx
            simp only [dsc0, Option.getD_none, Option.isSome_none, Bool.false_eq_true, if_false]
            go_wp2
            go_ret3
            exact ⟨none, 0, 0, by simp, RowD.none_, (fun _ h => by cases h), HB4.out⟩
          | some d =>
            obtain ⟨z, ps, e, es⟩ := d
            simp only [dsc0, Option.getD_some, Option.isSome_some, if_true] at hP hQ ⊢
            have hx := below_box w3 (descO z P m c e Q q f2)
            have HB4 := Lib.hid (below_le HB3.out hx)
            clear hP hQ hPf hQf hb3 hx
            go_wp2
            go_ret3
            exact ⟨none, 0, 0, by simp, RowD.none_, (fun _ h => by cases h), HB4.out⟩
end Go.Proofs.YtmabokmnniiadaaGreatDoor
namespace Go.Proofs.YtmabokmnniiadaaGreatDoor
open Go.RowKit

/-- The first eight hundred bytes. -/
theorem kcut_any (s : ByteArray) : ∃ s' : ByteArray, s'.size ≤ 800 ∧ ∀ W : World, Calls Tryz.prog 14 #[.string s] W fun e w' => e = .returned (.string s') ∧ Below W.heap.size W w' := by
  have hmin : (min (s.size : Int) 800).toNat ≤ 800 := by omega
  refine ⟨s.extract 0 (min (s.size : Int) 800).toNat, by rw [ByteArray.size_extract]; omega, fun W => ?_⟩
  clear hmin
  go_enter Tryz.func14, Tryz.ntmps14
  go_wp2
  go_ret
  exact ⟨rfl, Below.refl _ _⟩
theorem kParse_sm (s : List UInt8) : Sm (kParse s).1 := by
  obtain ⟨o, k, g, h⟩ : ∃ o k g, kParse s = (o, k, g) := ⟨_, _, _, rfl⟩
  rw [h]
  by_cases hg : g = 0
  · subst hg
    exact Sm.of_right (kRight_iff.1 (kParse_some h).2.2).2.1
  · obtain ⟨rfl, -⟩ := kParse_bad h hg
    exact Sm.nil

set_option maxRecDepth 100000 in
set_option maxHeartbeats 8000000 in
theorem kindsTexts_any (A : Option Addr) (n c : Nat) (ds : List DscK) (s : ByteArray) (w : World) (hD : DK w) (hR : RowD w A n ds) (hC : CapsOk w A n) :
    Calls Tryz.prog 3 #[.slice A n c, .string s] w (Holds w) := by
  obtain ⟨s', hs', hcut⟩ := kcut_any s
  have HCUT := Lib.hid hcut
  have HS8 := Lib.hid hs'
  clear hcut hs'
  have HD := Lib.hid hD
  have HR0 := Lib.hid hR
  have HC0 := Lib.hid hC
  clear hD hR hC
  go_enter Tryz.func3, Tryz.ntmps3
  go_wp2_with fail
  refine (kshown_any w HD.out).mono ?_
  rintro x w1 ⟨rfl, hb1⟩
  have HB := Lib.hid hb1
  have HR1 := Lib.hid (HR0.out.ext hb1)
  have HC1 := Lib.hid (HC0.out.ext hb1)
  clear hb1 HR0 HC0
  go_wp2_with fail
  obtain ⟨ms0, hM0⟩ := HR1.out.ms
  refine (few_full A n c ms0 ds w1 hM0 HC1.out).mono ?_
  rintro x w2 ⟨A2, m, c2, ms2, rfl, hm, hR2, -, -, hmc, hb2⟩
  have HR := Lib.hid hR2.rowD
  have HS := Lib.hid (kFew_sm ds)
  have HPL := Lib.hid (kFew_places ds)
  have hlen := hR2.1
  replace HB := Lib.hid (below_le HB.out hb2)
  clear hR2 hb2 HR1 HC1 hM0
  generalize kFew ds = l at *
  have HLEN := Lib.hid hlen
  clear hlen
  have h := kprint_any A2 m c2 l w2 HR.out HS.out (by omega) (tab_ext HD.out.2.2 HB.out) (HD.out.1.ext HB.out)
  have h2 := fun W hW => rkprint_any A2 m c2 l W hW HS.out (by omega) hmc
  unfold GivesT at h h2
  obtain ⟨t, ht⟩ : ∃ t : ByteArray, (⟨(kText l).toArray⟩ : ByteArray) = t := ⟨_, rfl⟩
  rw [ht] at h h2
  have hno : kNo l ≤ 50 := by rcases kNo_iff l with ⟨h, -⟩ | ⟨h, -⟩ <;> omega
  generalize kNo l = no at *
  have HP2 := Lib.hid h2
  clear h2 ht
  have hsT : (t.toList == t.toList) = true := beq_self_eq_true _
  go_wp2_with fail
  refine h.mono ?_
  clear h
  rintro x w3 ⟨rfl, hb3⟩
  replace HR := Lib.hid (HR.out.ext hb3)
  replace HB := Lib.hid (below_le HB.out hb3)
  clear hb3
  go_wp2_with fail
  refine (HP2.out w3 HR.out).mono ?_
  rintro x w4 ⟨rfl, hb4⟩
  replace HB := Lib.hid (below_le HB.out hb4)
  clear hb4 HP2 HR
  go_wp2_with fail
  refine (HCUT.out w4).mono ?_
  rintro x w5 ⟨rfl, hb5⟩
  replace HB := Lib.hid (below_le HB.out hb5)
  clear hb5
  go_wp2_with fail
  have h := kparse_any s' w5 (by have := HS8.out; omega) (shortL_of _ _ (by have := HS8.out; simp; omega)) (HD.out.2.1.ext HB.out) (HD.out.1.ext HB.out)
  have h2 := fun W => rkparse_any s' W (by have := HS8.out; omega)
  have hsm := kParse_sm s'.data.toList
  have hpl := kParse_len s'.data.toList
  generalize kParse s'.data.toList = r at *
  obtain ⟨M, k, g⟩ := r
  dsimp only at hsm hpl
  have HSM := Lib.hid hsm
  have HP2 := Lib.hid h2
  have hml := hpl.1
  have hk8 : k ≤ 800 := by have h1 := hpl.2; have h3 := HS8.out; simp at h1; omega
  clear h2 hsm hpl
  refine h.mono ?_
  clear h
  intro x w6 h
  obtain ⟨B, bn, bc, rfl, hB, hb6⟩ := h.int
  dsimp only at hB ⊢
  have HBM := Lib.hid hB
  have hbn : bn ≤ 60 := by have := hB.1; omega
  replace HB := Lib.hid (below_le HB.out hb6)
  clear h hB hb6
  go_wp2_with fail
  refine (HCUT.out w6).mono ?_
  rintro x w7 ⟨rfl, hb7⟩
  replace HBM := Lib.hid (HBM.out.ext hb7)
  replace HB := Lib.hid (below_le HB.out hb7)
  clear hb7 HCUT
  go_wp2_with fail
  refine (HP2.out w7).mono ?_
  intro x w8 h
  obtain ⟨G, gn, gc, rfl, hG, hb8⟩ := h.int
  dsimp only at hG ⊢
  have HG := Lib.hid hG
  replace HBM := Lib.hid (HBM.out.ext hb8)
  replace HB := Lib.hid (below_le HB.out hb8)
  clear h hG hb8 HP2
  go_wp2_with fail
  have h := rksame_any B G bn bc gn gc M M w8 HBM.out HG.out HSM.out HSM.out (by omega)
  rw [decide_eq_true rfl] at h
  refine h.mono ?_
  clear h
  rintro x w9 ⟨rfl, hb9⟩
  replace HB := Lib.hid (below_le HB.out hb9)
  clear hb9
  go_wp2
  go_ret
  exact ⟨rfl, HB.out⟩
end Go.Proofs.YtmabokmnniiadaaGreatDoor
namespace Go.Proofs.YtmabokmnniiadaaGreatDoor
open Go.ChangeShapes Go.WideShapes Go.ChangeAt Go.RowKit

theorem own0 : ownKnob Tryz.prog.godebug = none := by kernel_rfl
theorem laidOut0 : laidOutB Tryz.prog = true := by kernel_rfl
abbrev row0 : OpenClaim := Rows.kindsTextsRow

theorem gT0 : Tryz.prog.globalNamed "errors.errorType" = some 0 := by kernel_rfl
theorem rt0 : (Tryz.prog.cutTypes.find? (·.1 == "internal/reflectlite.rtype")).map (·.2) = some 122 := by kernel_rfl
theorem oneRow0 : ((List.range Tryz.prog.types.size).filter fun t => Tryz.prog.rowNamed t [101, 114, 114, 111, 114]) = [49] := by kernel_rfl
theorem hnd0 : typeHandle Tryz.prog 49 = hnd 49 := by kernel_rfl

/-- What the condition gives of errors' own variable: the handle of the type error. -/
theorem handle0 {W : World} (h : laidMetH Tryz.prog row0.laid W) : EType W := by
  have h1 := h.filter (fun x => x.1 == "errors.errorType")
  have h' : laidMet Tryz.prog [] W ∧ handlesMet Tryz.prog [("errors.errorType", Rows.laid_errors_errorType)] W := h1
  obtain ⟨name, u, ty, e1, e2, e3, e4, e5⟩ := h'.2 _ (List.mem_singleton.2 rfl)
  have en : name = [101, 114, 114, 111, 114] := (Option.some.inj e1).symm
  subst en
  obtain rfl := Option.some.inj (rt0.symm.trans e2)
  have hm : ty ∈ (List.range Tryz.prog.types.size).filter fun t => Tryz.prog.rowNamed t [101, 114, 114, 111, 114] := List.mem_filter.2 ⟨List.mem_range.2 e3, e4⟩
  rw [oneRow0] at hm
  obtain rfl := List.mem_singleton.1 hm
  rw [hnd0] at e5
  have := World.var?_cell gT0 e5 0
  show W.cell? _ = _
  simpa using this

theorem gP1 : (Tryz.prog.globals[2]?).map (·.type) = some 163 := by kernel_rfl
theorem under_tab : ∃ n, Tryz.prog.underlying 163 = some (.array n 153) ∧ Tryz.prog.cellsOf 163 = n := ⟨20, by kernel_rfl, by kernel_rfl⟩
theorem under_u64 : Tryz.prog.underlying 153 = some (.int .u64) := by kernel_rfl
theorem cells_u64 : Tryz.prog.cellsOf 153 = 1 := by kernel_rfl

theorem tabs {W : World} (h : laidMetH Tryz.prog row0.laid W) : Tab W := by
  have h' : laidMet Tryz.prog [("internal/strconv.uint64pow10", Rows.laid_internal_strconv_uint64pow10)] W := by
    have := h.filter (fun x => x.1 == "internal/strconv.uint64pow10")
    rw [MakeChecks.laidMetH_plain _ _ _ (by kernel_rfl)] at this
    exact this
  obtain ⟨n, h1, h2⟩ := under_tab
  exact Lib.tabIs_of_head (zs := Lib.pow10Tab) gP0 gP1 h1 under_u64 cells_u64 h2 h'

/-- What the row's list gives, and the world's shape. -/
theorem sents {W : World} (hsh : W.ShapedOpen Tryz.prog) (h : laidMetH Tryz.prog row0.laid W) : DK W := ⟨handle0 h, Tryz.laysM146.s1_3 W hsh, tabs h⟩

section
variable {H : Type} {enc : TypeId × Value → H} {P : Program}
theorem trodAll_stays (hl : laidOutB P = true) {W W' : World} (hb : Below W.heap.size W W') (sp : Nat → Bool) : ∀ (ts : List TypeId) (vs : List Value) (ds : List (DataW H)) (ps : List MemPlace),
    (ts.all fun t => P.readableRec t && decide (t < P.types.size)) = true → DataW.TrodAll enc P W 0 (fun _ => true) true ts vs ds ps → (∀ x ∈ ps, x.block < W.heap.size) → (∀ x ∈ ps, sp x.block = true) → DataW.TrodAll enc P W' 0 sp true ts vs ds ps
  | [], vs, ds, ps, _, h, _, _ => by
    obtain ⟨rfl, rfl, rfl⟩ := trodAll_nil h
    exact trodAll_mk0
  | t :: ts, vs, ds, ps, hr, h, hlt, hsp => by
    simp only [List.all_cons, Bool.and_eq_true, decide_eq_true_eq] at hr
    obtain ⟨v, vs', d, ds', p, q, rfl, rfl, rfl, h1, h2⟩ := trodAll_cons h
    exact trodAll_cons_mk (WideElems.Trod_stays hl hr.1.1 hr.1.2 h1 (fun x hx => hb.same (hlt x (List.mem_append_left _ hx))) (fun x hx => hsp x (List.mem_append_left _ hx)))
      (trodAll_stays hl hb sp ts vs' ds' q hr.2 h2 (fun x hx => hlt x (List.mem_append_right _ hx)) (fun x hx => hsp x (List.mem_append_right _ hx)))

theorem post_below {f : Func} {s : ChangeSpec} {apart fresh handsOn again : Bool} {W W' : World} {args : Array Value} {v : Value} {ds gs : List (DataW H)} {before pa pv : List MemPlace}
    (hW : DataW.Whole enc P f.params.toList s.vars apart W args.toList ds gs before)
    (hres : ∀ (b : Nat) (sp : Nat → Bool) (hd : Bool), DataW.TrodAll enc P W' b sp hd f.resultTypes.toList (v.resultList f.resultTypes.size) (s.fn H (ds ++ gs)).results [])
    (hargs : ∀ sp : Nat → Bool, (∀ p ∈ before, sp p.block = true) → DataW.TrodAll enc P W' 0 sp true f.params.toList args.toList (s.fn H (ds ++ gs)).args pa)
    (hvars : ∀ sp : Nat → Bool, (∀ p ∈ before, sp p.block = true) → DataW.TrodVars enc P W' sp s.vars (s.fn H (ds ++ gs)).vars pv)
    (hps : before = pa ++ pv) (hb : Below W.heap.size W W')
    (hok : ∀ (j : Nat) (t : TypeId) (r : Value), f.resultTypes[j]? = some t → (v.resultList f.resultTypes.size)[j]? = some r → Value.okWide P W' .any 0 t r) :
    s.post enc P f apart fresh handsOn again W args v W' := by
  have hlt : ∀ p ∈ before, p.block < W.heap.size := fun p hp => hW.lt p hp
  have hold : ∀ p ∈ before, (fun b => decide (b < W.heap.size)) p.block = true := fun p hp => by simpa using hlt p hp
  refine ⟨ds, gs, before, [], pa, pv, hW, hres _ _ _, hargs _ hold, hvars _ hold, World.keptBut_mono (fun p hp => ⟨hp, ?_⟩) (hb.frame (· ∈ before)), fun _ => ?_⟩
  · rw [hps, List.mem_append] at hp
    exact Or.inr hp
  · obtain ⟨_, _, _, _, _, hz, hn⟩ := hW
    refine ⟨hok, _, _, ([] ++ pa) ++ pv, ⟨[] ++ pa, pv, trodAll_append (hargs _ (fun _ _ => rfl)) (hres _ _ _), hvars _ (fun _ _ => rfl), rfl, ?_, ?_⟩, ?_⟩
    · intro b off hp
      have hin : MemPlace.cell b off ∈ before := by rw [hps]; simpa using hp
      rw [hb.frozen (hlt _ hin)]
      exact hz b off hin
    · intro ha
      have := hn ha
      rw [hps] at this
      simpa using this
    · intro p hp _
      rw [hps]
      simpa using hp

/-- THE ROW's LAST STEP, where the law returned true and what was stays. -/
theorem post_true {f : Func} {s : ChangeSpec} (hl : laidOutB P = true) {tb : TypeId} (htb : P.underlying tb = some .bool) (hrt : f.resultTypes = #[tb]) (hvs : s.vars = []) (hr : (f.params.toList.all fun t => P.readableRec t && decide (t < P.types.size)) = true)
    {W W' : World} {args : Array Value} {ds gs : List (DataW H)} {before : List MemPlace}
    (hW : DataW.Whole enc P f.params.toList s.vars false W args.toList ds gs before) (hfn : s.fn H (ds ++ gs) = { results := [.lit (.bool true)], args := ds }) (hb : Below W.heap.size W W') :
    s.post enc P f false true false false W args (.bool true) W' := by
  have hW' := hW
  have hlt : ∀ p ∈ before, p.block < W.heap.size := fun p hp => hW.lt p hp
  obtain ⟨p, q, hA, hV, rfl, hfz, hnd⟩ := hW
  rw [hvs] at hV
  obtain ⟨rfl, rfl⟩ := trodVars_none hV
  simp only [List.append_nil] at hlt hW' hfn
  refine post_below (pa := p) (pv := []) hW' (fun b sp hd => ?_) (fun sp hsp => ?_) (fun sp _ => ?_) (by simp) hb (ok_one hrt rfl (okWide_bool_mk htb _))
  · rw [List.append_nil, hfn, hrt]
    exact trodAll_cons_mk (shut_bool htb _) trodAll_mk0
  · rw [List.append_nil, hfn]
    exact trodAll_stays hl hb sp _ _ _ _ hr hA (fun x hx => hlt x hx) (fun x hx => hsp x hx)
  · rw [List.append_nil, hfn, hvs]
    rfl
end

theorem row_of_cells {W : World} {a : Addr} {len cap : Nat} {zs : List Int} (hl : len ≤ cap) (hz : zs.length = cap) (hc : ∀ i, i < cap → W.cell? (a.add i) = some (.int .i64 (zs.getD i 0))) : Row W (some a) len ((zs.take len).map Iv) := by
  refine ⟨by simp; omega, fun hp => ?_⟩
  have hs0 : a.spot = none := by simpa [Addr.add] using World.cell?_spot (hc 0 (by omega))
  obtain ⟨b, off, spot⟩ := a
  obtain rfl : spot = none := hs0
  refine ⟨b, off, rfl, fun j u hu => ?_⟩
  have hj : j < len := by
    have := (List.getElem?_eq_some_iff.1 hu).1
    simp at this
    omega
  have h2 := hc j (by omega)
  have e : (⟨b, off, none⟩ : Addr).add j = ⟨b, off + j, none⟩ := by
    unfold Addr.add
    by_cases h : j = 0 <;> simp [h]
  rw [e] at h2
  simp [hj, show j < zs.length by omega, Iv] at hu
  rw [h2, ← hu]
  simp [show j < zs.length by omega]

set_option maxRecDepth 100000 in
/-- A descriptor, opened. -/
theorem open_desc {H : Type} {enc : TypeId × Value → H} {W : World} {b : Nat} {v : Value} {d : DataW H} {p : List MemPlace} (hv : Value.okWide Tryz.prog W .any b 35 v) (h : DataW.Trod enc Tryz.prog W 0 (fun _ => true) true 35 v d p) :
    ∃ (z : Int) (P : Option Addr) (m c : Nat) (e : Int) (Q : Option Addr) (q f : Nat) (ps es : List Int), v = .agg #[.int .i64 z, .slice P m c, .int .i64 e, .slice Q q f] ∧ Row W P m (ps.map Iv) ∧ Row W Q q (es.map Iv) ∧ m ≤ c ∧ q ≤ f ∧ True := by
  obtain ⟨v0, v1, v2, v3, y0, y1, y2, y3, n, rfl, -, -, h0, h1, h2, h3⟩ := Joins.open_agg4 Tryz.underlying35 (by kernel_rfl) (by kernel_rfl) hv h
  obtain ⟨z, hz, -, -⟩ := DataW.trod_int Tryz.underlying3 h0
  obtain rfl : v0 = .int .i64 z := by simpa using hz
  obtain ⟨e, he, -, -⟩ := DataW.trod_int Tryz.underlying3 h2
  obtain rfl : v2 = .int .i64 e := by simpa using he
  have hs1 : ∃ (S : Option Addr) (m c : Nat) (l : List Int), v1 = .slice S m c ∧ Row W S m (l.map Iv) ∧ m ≤ c := by
    rcases open_ints Tryz.underlying33 Tryz.underlying3 (by kernel_rfl) h1 with ⟨hs, _⟩ | ⟨a, len, cap, zs, hs, _, hl, _, hz, _, hc, hw⟩
    · obtain rfl : v1 = .slice none 0 0 := by simpa using hs
      exact ⟨none, 0, 0, [], rfl, Row.none_, Nat.le_refl _⟩
    · obtain rfl : v1 = .slice (some a) len cap := by simpa using hs
      rw [if_pos rfl] at hz
      exact ⟨some a, len, cap, zs.take len, rfl, row_of_cells hl hz (fun i hi => hc i (by omega)), hl⟩
  have hs3 : ∃ (S : Option Addr) (m c : Nat) (l : List Int), v3 = .slice S m c ∧ Row W S m (l.map Iv) ∧ m ≤ c := by
    rcases open_ints Tryz.underlying33 Tryz.underlying3 (by kernel_rfl) h3 with ⟨hs, _⟩ | ⟨a, len, cap, zs, hs, _, hl, _, hz, _, hc, hw⟩
    · obtain rfl : v3 = .slice none 0 0 := by simpa using hs
      exact ⟨none, 0, 0, [], rfl, Row.none_, Nat.le_refl _⟩
    · obtain rfl : v3 = .slice (some a) len cap := by simpa using hs
      rw [if_pos rfl] at hz
      exact ⟨some a, len, cap, zs.take len, rfl, row_of_cells hl hz (fun i hi => hc i (by omega)), hl⟩
  obtain ⟨P, m, c, ps, rfl, hP, hm⟩ := hs1
  obtain ⟨Q, q, f, es, rfl, hQ, hq⟩ := hs3
  exact ⟨z, P, m, c, e, Q, q, f, ps, es, rfl, hP, hQ, hm, hq, trivial⟩

/-- The witness: the door's own heap, and the pinned table laid into it. -/
noncomputable def wit (os : Os) : World := (World.doorLaid Tryz.prog 200 os).layVars Tryz.prog [("unicode/utf8.first", Rows.laid_unicode_utf8_first)]
theorem wit_os (os : Os) : (wit os).os = os := World.layVars_os _ _ _
noncomputable def witB (os : Os) : List Nat := (List.range (World.doorLaid Tryz.prog 200 os).heap.size).filter (· != 5)

set_option maxRecDepth 100000 in
/-- IT MEETS THE CONDITION. -/
theorem door_met (os : Os) (args : Array Value) : laidMetH Tryz.prog row0.laid ((wit os).forCall (fun _ _ => 0) ⟨#[], args, []⟩).memory :=
  laidMetH_of_parts3 (fuel := 8) (laidMet_layVars (w0 := World.doorLaid Tryz.prog 200 os) ["unicode/utf8.first"] (witB os) (by simp [World.memory, World.forCall, Input.heap]; rfl) (by kernel_rfl) (by kernel_rfl)
    (LaidIn.of_run (witB os) 8 (by kernel_rfl) (by kernel_rfl) (by kernel_rfl) (by kernel_rfl))) (by kernel_rfl) (by kernel_rfl)

section
variable {H : Type} {enc : TypeId × Value → H} {P : Program} {w : World} {base : Nat} {spare : Nat → Bool} {held : Bool}
theorem open_text {r : Reach} {b0 : Nat} {t : TypeId} {v : Value} {d : DataW H} {ps : List MemPlace} (ht : P.underlying t = some .string) (hval : Value.okWide P w r b0 t v) (hd : DataW.Trod enc P w base spare held t v d ps) :
    ∃ s : ByteArray, v = .string s ∧ d = .lit (.string s.data.toList) ∧ ps = [] ∧ s.size ≤ maxLen := by
  obtain ⟨s, rfl⟩ := okWide_string ht hval
  obtain ⟨fuel, hf⟩ := hd
  obtain ⟨s', h, hx, hw⟩ := DataW.trod_string ht hf
  simp [Value.cells] at h
  subst h
  simp only [Prod.mk.injEq] at hx
  exact ⟨s, rfl, hx.1, hx.2, hw⟩
end

theorem hone4 : ∃ f0 f1 f2 f3 : Field, Tryz.prog.underlying 35 = some (.struct #[f0, f1, f2, f3]) ∧ f0.type = 3 ∧ f1.type = 33 ∧ f2.type = 3 ∧ f3.type = 33 ∧ f0.offset = 0 ∧ f1.offset = 1 ∧ f2.offset = 2 ∧ f3.offset = 3 ∧
    Tryz.prog.cellsOf 3 = 1 ∧ Tryz.prog.cellsOf 33 = 1 ∧ Tryz.prog.cellsOf 35 = 4 := ⟨_, _, _, _, Tryz.underlying35, rfl, rfl, rfl, rfl, rfl, rfl, rfl, rfl, by kernel_rfl, by kernel_rfl, by kernel_rfl⟩

theorem add_none (b off i : Nat) : (⟨b, off, none⟩ : Addr).add i = ⟨b, off + i, none⟩ := by
  unfold Addr.add
  by_cases h : i = 0 <;> simp [h]

section
variable {H : Type} {enc : TypeId × Value → H} {W : World} {n : Nat} {v : Value} {x : DataW H × List MemPlace}
theorem ints_of (h : DataW.trod enc Tryz.prog W 0 (fun _ => true) true n 33 [v] = some x) : ∃ (S : Option Addr) (m c : Nat) (l : List Int), v = .slice S m c ∧ Row W S m (l.map Iv) ∧ m ≤ c := by
  rcases open_ints Tryz.underlying33 Tryz.underlying3 (by kernel_rfl) h with ⟨hs, _⟩ | ⟨a, len, cap, zs, hs, _, hl, _, hz, _, hc, hw⟩
  · obtain rfl : v = .slice none 0 0 := by simpa using hs
    exact ⟨none, 0, 0, [], rfl, Row.none_, Nat.le_refl _⟩
  · obtain rfl : v = .slice (some a) len cap := by simpa using hs
    rw [if_pos rfl] at hz
    exact ⟨some a, len, cap, zs.take len, rfl, row_of_cells hl hz (fun i hi => hc i (by omega)), hl⟩
theorem int_of (h : DataW.trod enc Tryz.prog W 0 (fun _ => true) true n 3 [v] = some x) : ∃ z : Int, v = .int .i64 z := by
  obtain ⟨z, hz, -, -⟩ := DataW.trod_int Tryz.underlying3 h
  exact ⟨z, by simpa using hz⟩
end

set_option maxRecDepth 100000 in
/-- A list of descriptors, opened. -/
theorem open_descs {H : Type} {enc : TypeId × Value → H} {W : World} {b : Nat} {v : Value} {d : DataW H} {p : List MemPlace} (hv : Value.okWide Tryz.prog W .any b 22 v) (h : DataW.Trod enc Tryz.prog W 0 (fun _ => true) true 22 v d p) :
    ∃ (A : Option Addr) (n c : Nat) (ds : List DscK), v = .slice A n c ∧ RowD W A n ds ∧ n ≤ c ∧ CapsOk W A n := by
  obtain ⟨A, n, c, rfl⟩ := okWide_slice Tryz.underlying22 hv
  obtain ⟨fuel, hf⟩ := h
  obtain ⟨f0, f1, f2, f3, hs, t0, t1, t2, t3, o0, o1, o2, o3, k0, k1, k4⟩ := hone4
  rcases Deep.open_slice Tryz.underlying22 hf with ⟨hs0, -⟩ | ⟨a, len, cap, m, n', D, Pl, hs0, -, hl, -, hm, -, hx⟩
  · have : A = none ∧ n = 0 ∧ c = 0 := by simpa [Value.cells] using hs0
    obtain ⟨rfl, rfl, rfl⟩ := this
    exact ⟨none, 0, 0, [], rfl, RowD.none_, Nat.le_refl _, fun h => absurd h (by omega)⟩
  · have : A = some a ∧ n = len ∧ c = cap := by simpa [Value.cells] using hs0
    obtain ⟨rfl, rfl, rfl⟩ := this
    rw [if_pos rfl] at hm
    subst hm
    rw [k4] at hx
    have each : ∀ i, i < n → ∃ q : MD × DscK, W.cell? (a.add (i * 4)) = some (.int .i64 q.1.1) ∧ W.cell? (a.add (i * 4 + 1)) = some (.slice q.1.2.1.1 q.1.2.1.2.1 q.1.2.1.2.2) ∧ W.cell? (a.add (i * 4 + 2)) = some (.int .i64 q.1.2.2.1) ∧ W.cell? (a.add (i * 4 + 3)) = some (.slice q.1.2.2.2.1 q.1.2.2.2.2.1 q.1.2.2.2.2.2) ∧ Fits W q.1 q.2 ∧ q.1.2.1.2.1 ≤ q.1.2.1.2.2 ∧ q.1.2.2.2.2.1 ≤ q.1.2.2.2.2.2 := by
      intro i hi
      obtain ⟨cs', h1, h2⟩ := hx i (by omega)
      obtain ⟨_, hlen, hcell⟩ := World.cells?_some h1
      obtain ⟨xs, k, -, -, -, hxl, hfs⟩ := DataW.trod_struct hs h2
      match xs, hxl, cs', hlen with
      | [y0, y1, y2, y3], _, [v0, v1, v2, v3], _ =>
        have g0 := hfs 0 f0 rfl
        have g1 := hfs 1 f1 rfl
        have g2 := hfs 2 f2 rfl
        have g3 := hfs 3 f3 rfl
        simp [o0, o1, o2, o3, t0, t1, t2, t3, k0, k1] at g0 g1 g2 g3
        have e0 := hcell 0 (by omega)
        have e1 := hcell 1 (by omega)
        have e2 := hcell 2 (by omega)
        have e3 := hcell 3 (by omega)
        rw [Deep.add_add] at e0 e1 e2 e3
        obtain ⟨z, rfl⟩ := int_of g0
        obtain ⟨y, rfl⟩ := int_of g2
        obtain ⟨P, m, c', ps, rfl, r1, l1⟩ := ints_of g1
        obtain ⟨Q, q, f, es, rfl, r2, l2⟩ := ints_of g3
        exact ⟨((z, (P, m, c'), y, (Q, q, f)), (z, ps, y, es)), by simpa using e0, by simpa using e1, by simpa using e2, by simpa using e3, ⟨rfl, rfl, r1, r2⟩, l1, l2⟩
    letI : Inhabited (MD × DscK) := ⟨(md0, dsc0K)⟩
    obtain ⟨q, hq⟩ := Deep.choose_lt each
    rcases Nat.eq_zero_or_pos n with hn | hn
    · subst hn
      exact ⟨some a, 0, _, [], rfl, RowD.none_, hl, fun h => absurd h (by omega)⟩
    have hsp : a.spot = none := by
      have := World.cell?_spot (hq 0 hn).1
      simpa [Addr.add] using this
    obtain ⟨g, off, spot⟩ := a
    obtain rfl : spot = none := hsp
    have hall : ∀ k, k < n → W.cell? ⟨g, off + 4 * k, none⟩ = some (.int .i64 (q k).1.1) ∧ W.cell? ⟨g, off + 4 * k + 1, none⟩ = some (.slice (q k).1.2.1.1 (q k).1.2.1.2.1 (q k).1.2.1.2.2) ∧ W.cell? ⟨g, off + 4 * k + 2, none⟩ = some (.int .i64 (q k).1.2.2.1) ∧ W.cell? ⟨g, off + 4 * k + 3, none⟩ = some (.slice (q k).1.2.2.2.1 (q k).1.2.2.2.2.1 (q k).1.2.2.2.2.2) ∧ Fits W (q k).1 (q k).2 ∧ (q k).1.2.1.2.1 ≤ (q k).1.2.1.2.2 ∧ (q k).1.2.2.2.2.1 ≤ (q k).1.2.2.2.2.2 := fun k hk => by
      obtain ⟨c0, c1, c2, c3, hF, l1, l2⟩ := hq k hk
      rw [add_none] at c0 c1 c2 c3
      rw [show off + k * 4 = off + 4 * k by omega] at c0
      rw [show off + (k * 4 + 1) = off + 4 * k + 1 by omega] at c1
      rw [show off + (k * 4 + 2) = off + 4 * k + 2 by omega] at c2
      rw [show off + (k * 4 + 3) = off + 4 * k + 3 by omega] at c3
      exact ⟨c0, c1, c2, c3, hF, l1, l2⟩
    refine ⟨some ⟨g, off, none⟩, n, _, (List.range n).map fun i => (q i).2, rfl, ⟨by simp, fun _ => ⟨g, off, rfl, fun k x hx => ?_⟩⟩, hl, fun _ => ⟨g, off, rfl, fun k hk => ?_⟩⟩
    · have hk : k < n := by
        have := (List.getElem?_eq_some_iff.1 hx).1
        simpa using this
      have hxe : (q k).2 = x := by
        rw [List.getElem?_map, List.getElem?_range hk] at hx
        exact Option.some.inj hx
      obtain ⟨c0, c1, c2, c3, ⟨e1, e2, r1, r2⟩, l1, l2⟩ := hall k hk
      rw [hxe] at e1 e2 r1 r2
      exact ⟨_, _, _, _, _, _, by rw [← e1]; exact c0, c1, by rw [← e2]; exact c2, c3, r1, r2⟩
    · obtain ⟨c0, c1, c2, c3, -, l1, l2⟩ := hall k hk
      exact ⟨_, _, _, _, _, _, c1, l1, c3, l2⟩

end Go.Proofs.YtmabokmnniiadaaGreatDoor
namespace Go.Proofs.YtmabokmnniiadaaGreatDoor.KindsTexts
open Go.ChangeShapes Go.WideShapes Go.ChangeAt Go.RowKit

set_option maxRecDepth 100000 in
theorem contract (H : Type) (enc : TypeId × Value → H) (W : World) (base : Nat) (args : Array Value) (ds gs : List (DataW H)) (before : List MemPlace)
    (hval : ∀ (j : Nat) t v, Tryz.f3.params[j]? = some t → args[j]? = some v → Value.okWide Tryz.prog W .any base t v)
    (hW : DataW.Whole enc Tryz.prog Tryz.f3.params.toList Rows.kindsTextsSpec.vars false W args.toList ds gs before) (hsh : W.ShapedOpen Tryz.prog) (hL : laidMetH Tryz.prog Rows.kindsTextsRow.laid W) :
    Calls Tryz.prog 3 args W fun e W' => ∃ v, e = .returned v ∧ Rows.kindsTextsSpec.post enc Tryz.prog Tryz.f3 false true false false W args v W' := by
  have hW' := hW
  obtain ⟨p, q, hA0, hV, rfl, hfz, hnd⟩ := hW
  have hA : DataW.TrodAll enc Tryz.prog W 0 (fun _ => true) true Tryz.f3.params.toList args.toList ds p := hA0
  rw [Tryz.params3] at hA hval
  obtain ⟨v0, vs0, d0, ds0, p0, q0, hargs, rfl, rfl, h0, r0⟩ := trodAll_cons hA
  obtain ⟨v1, vs1, d1, ds1, p1, q1, rfl, rfl, rfl, h1, r1⟩ := trodAll_cons r0
  obtain ⟨rfl, rfl, rfl⟩ := trodAll_nil r1
  obtain rfl : args = #[v0, v1] := by cases args; simp_all
  obtain ⟨rfl, rfl⟩ := trodVars_none hV
  obtain ⟨A0, n0, c0, l0, rfl, hR0, hnc0, hC0⟩ := open_descs (hval 0 _ v0 rfl rfl) h0
  obtain ⟨s1, rfl, rfl, rfl, hs1⟩ := open_text Tryz.underlying9 (hval 1 _ v1 rfl rfl) h1
  have hDK := sents hsh hL
  refine (kindsTexts_any A0 n0 c0 l0 s1 W hDK hR0 hC0).mono fun e W' ⟨he, hb⟩ => ?_
  subst he
  exact ⟨_, rfl, post_true laidOut0 Tryz.underlying4 (by kernel_rfl) rfl (by kernel_rfl) hW' rfl hb⟩

noncomputable def wArgs : Array Value := #[.slice none 0 0, .string ⟨#[]⟩]

theorem reads (os : Os) {H : Type} (enc : TypeId × Value → H) : ∃ places, DataW.whole enc Tryz.prog ((wit os).forCall (fun _ _ => 0) ⟨#[], wArgs, []⟩).memory Tryz.f3.params.toList Rows.kindsTextsSpec.vars false wArgs.toList 8 = some ([.nil, .lit (.string [])], [], places) :=
  ⟨[], by kernel_rfl⟩

set_option maxRecDepth 100000 in
theorem lifted (os : Os) (started : os.Started) (H : Type) (enc : TypeId × Value → H) (F : Stop.Interp) :
    ReturnsInHanded {} Tryz.checked os 3 .any ((OpenSpec.ofChange Rows.kindsTextsSpec).preRow enc Tryz.prog Tryz.f3 Rows.kindsTextsRow.domain false Rows.kindsTextsRow.laid) (((OpenSpec.ofChange Rows.kindsTextsSpec).at F).post enc Tryz.prog Tryz.f3 false true false false) := by
  obtain ⟨places, hx⟩ := reads os enc
  refine returnsInHanded_of_row (C := Tryz.checked) (s := OpenSpec.ofChange Rows.kindsTextsSpec) own0 started (by kernel_rfl) Tryz.func3
    (witness_row_atRef (enc := enc) (C := Tryz.checked) false (wit os) wArgs (wit_os os) (by kernel_rfl) (by kernel_rfl) (by kernel_rfl)
      (OpenSpec.preRow_of_cond 8 hx (by kernel_rfl) (fun k hk => by cases hk) (by kernel_rfl) (door_met os _))) ?_
  intro W base args ds gs before hval hW _ _ _ hL hsh _
  exact contract H enc W base args ds gs before hval hW hsh hL

theorem said : Rows.KindsTextsSaid :=
  OpenClaim.holds_of_cond 3 Tryz.f3 rfl rfl rfl rfl rfl rfl rfl ⟨rfl, rfl, rfl, rfl, rfl⟩ rfl rfl rfl rfl rfl (by kernel_rfl) Tryz.func3 (by kernel_rfl)
    (of_decide_eq_true (by kernel_rfl)) (by unfold Func.isWrapper; first | (rw [if_pos (by decide +kernel)]; kernel_rfl) | (rw [if_neg (by decide +kernel)]; exact ⟨rfl, rfl⟩))
    (fun os started H enc _ F => by rw [OpenClaim.pre_eq_preRow]; exact lifted os started H enc F)

theorem plain (f : FuncId) (fn : Func) (hf : Tryz.pinned.checked.prog.funcNamed "selion/selionlaw05.KindsTexts" = some f) (hfn : Tryz.pinned.checked.prog.funcs[f]? = some fn) :
    true = Tryz.pinned.checked.prog.looks [] ∧ ∀ (j : Nat) t, fn.params[j]? = some t → Tryz.pinned.checked.prog.wantsStandIn t = false := by
  obtain rfl : f = 3 := Option.some.inj ((show Tryz.prog.funcNamed "selion/selionlaw05.KindsTexts" = some 3 by kernel_rfl).symm.trans hf) |>.symm
  obtain rfl : fn = Tryz.f3 := (Option.some.inj (Tryz.func3.symm.trans hfn)).symm
  refine ⟨by kernel_rfl, fun j t ht => ?_⟩
  have h : (Tryz.f3.params.toList.all fun t => !Tryz.prog.wantsStandIn t) = true := by kernel_rfl
  have := List.all_eq_true.1 h t (by simpa using Array.mem_of_getElem? ht)
  show Tryz.prog.wantsStandIn t = false
  simpa using this

/-- THE CARD. -/
theorem card : Rows.KindsTextsCardSaid :=
  Claim7.holds_tied_plain_at .later [] _ _ _ _ said (fun _ h => by cases h) (by kernel_rfl) (fun _ h => by cases h) kindsTexts_row_tie rfl ⟨rfl, rfl⟩ (by kernel_rfl) rfl plain (by kernel_rfl)
end Go.Proofs.YtmabokmnniiadaaGreatDoor.KindsTexts
