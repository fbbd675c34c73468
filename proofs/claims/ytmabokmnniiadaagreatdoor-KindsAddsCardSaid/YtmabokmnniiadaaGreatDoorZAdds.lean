/-
  What is proved: the contract of Print of package kinds. No condition beyond those stated. contracts of those functions that this program has, and plain facts beside them. No condition beyond those stated. the contract of shown of the laws of layer 5. No condition beyond those stated. the contract of Few of the laws of layer 5. No condition beyond those stated. KindsAll returns true. No condition beyond those stated. contracts of Find, Right and Same of the reference of kinds. No condition beyond those stated. contracts of clone and own of the reference of kinds. No condition beyond those stated. contracts of Add and Of of the reference of kinds. No condition beyond those stated. KindsAdds returns true. No condition beyond those stated. the frame that all rows of layer 5 share: what the list of variables gives, how descriptors and texts are opened, and the row's last step. No condition beyond those stated. the row of KindsAdds, and its tied card: whatever the input, true; the input reads as it did. No condition beyond the statement's own.
-/
import Derived.Test.YtmabokmnniiadaaGreatDoorMr
import Derived.Test.YtmabokmnniiadaaGreatDoorBs
import Derived.Test.YtmabokmnniiadaaGreatDoorCp
import Derived.Test.YtmabokmnniiadaaGreatDoorTail
import Derived.Test.YtmabokmnniiadaaGreatDoorMy
import Derived.Test.YtmabokmnniiadaaGreatDoorCj
import Derived.Test.YtmabokmnniiadaaGreatDoorMq
import Derived.Test.YtmabokmnniiadaaGreatDoorCards
import Derived.Test.YtmabokmnniiadaaGreatDoorTie
import Derived.ProofKit
import Derived.OpenShut
import Derived.Below
import Derived.ChangeSame
import Derived.WideKeyArgs
import Derived.LaidMore
import Derived.LaidHandle
import Derived.MakeChecks
import Derived.Lay
import Derived.Stop.Joined
import Derived.Stop.LaidErr
import Derived.Stop.LaidTwo
import Derived.Lib.SmallJoins
import Derived.Deep.DeepHandedRow
import Derived.Deep.DeepWitnessRowRef
import Derived.Lib.LaidTab
import Derived.ChangeArms
import Derived.Deep.Slices
namespace Go.Proofs.YtmabokmnniiadaaGreatDoor
open Go.RowKit Go.Shelf
attribute [local go_sem] Oper.semAt_some

/-- Kinds' text, and what is told. -/
def GivesT (w : World) (t : List UInt8) (c : Nat) (x : Ending) (w' : World) : Prop := x = .returned (.tuple #[.string ⟨t.toArray⟩, .int .i64 (c : Nat)]) ∧ Below w.heap.size w w'

/-- The text of those that were met. -/
def txtK (ds : List DscK) {N : Nat} (pre : List (Fin N)) : List UInt8 := pre.flatMap fun x => dP (ds.getD x.1 dsc0K) ++ [10]
theorem txtK_snoc (ds : List DscK) {N : Nat} (pre : List (Fin N)) (x : Fin N) {d : DscK} (h : ds[x.1]? = some d) : txtK ds (pre ++ [x]) = (txtK ds pre ++ dP d) ++ [10] := by
  simp [txtK, List.getD_eq_getElem?_getD, h]
theorem txtK_all {ds : List DscK} {N : Nat} (h : ds.length = N) : txtK ds (List.finRange N) = linesT ds := by
  have e : (List.finRange N).map (fun x => ds.getD x.1 dsc0K) = ds := by
    refine List.ext_getElem (by simp [h]) fun i h1 h2 => ?_
    simp [List.getD_eq_getElem?_getD, List.getElem?_eq_getElem h2]
  have e2 : linesT ds = ((List.finRange N).map (fun x => ds.getD x.1 dsc0K)).flatMap fun d => dP d ++ [10] := by rw [e]; rfl
  rw [e2, List.flatMap_map]
  rfl
theorem txtK_len {ds : List DscK} {N : Nat} (hl : ds.length = N) (hd : ∀ d ∈ ds, dR d = true) : ∀ pre : List (Fin N), (txtK ds pre).length ≤ pre.length * 100001
  | [] => by simp [txtK]
  | x :: pre => by
    have h1 := txtK_len hl hd pre
    have hx : ds[x.1]? = some (ds[x.1]'(by have := x.2; omega)) := List.getElem?_eq_getElem (by have := x.2; omega)
    have h2 := dP_len (hd _ (List.mem_of_getElem? hx))
    have e : txtK ds (x :: pre) = dP (ds.getD x.1 dsc0K) ++ [10] ++ txtK ds pre := rfl
    rw [e, List.getD_eq_getElem?_getD, hx]
    simp only [Option.getD_some, List.length_append, List.length_cons, List.length_nil]
    omega

/-- What is printed till now, in the builder b. -/
def PrI (W1 : World) (b : Nat) (ds : List DscK) {N : Nat} (pre : List (Fin N)) (W' : World) : Prop :=
  W1.heap.size ≤ W'.heap.size ∧ Below b W1 W' ∧ IsB b b (Lib.byteCells (txtK ds pre)) W'
theorem PrI.own {W1 X Y : World} {b : Nat} {ds : List DscK} {N : Nat} {pre : List (Fin N)} {row : Option Nat} (hbn : b ≤ W1.heap.size) (h : PrI W1 b ds pre X) (hg : X.grownBy Y row) (hr : ∀ r, row = some r → W1.heap.size ≤ r ∧ ∃ o : Obj, X.heap[r]? = some o ∧ o.isCells = false) : PrI W1 b ds pre Y :=
  ⟨Nat.le_trans h.1 hg.size, h.2.1.grown hg (Nat.le_trans hbn h.1) (fun k e => Nat.le_trans hbn (hr k e).1), isB_own hg hr h.2.2⟩

def printF (w w1 : World) (A : Option Addr) (n c rb k : Nat) (d : MD) : Act :=
  { tmps := #[.slice A n c, undef, .pointer (some ⟨w.heap.size, 0, none⟩), .pointer (some ⟨w.heap.size + 1, 0, none⟩), .nilIface, .pointer (some ⟨w1.heap.size, 0, none⟩), undef, .pointer (some ⟨rb, 0, none⟩), undef, undef, .slice A n c, .nilIface, .nilIface, .bool false, undef, undef, .slice A n c,
      .func (.func 53) #[] #[.pointer (some ⟨w1.heap.size + 1, 0, none⟩)], .int .i64 ((k : Int) + 1), mdV d, undef, undef, undef, undef, undef, undef, undef, undef, undef, undef, undef], defers := [] }

set_option maxRecDepth 100000 in
set_option maxHeartbeats 4000000 in
/-- Print. -/
theorem kprint_any (A : Option Addr) (n c : Nat) (ds : List DscK) (w : World) (hR : RowD w A n ds) (hs : Sm ds) (hn : n ≤ 1000) (ht : Tab w) (hE : EType w) :
    Calls Tryz.prog 11 #[.slice A n c] w (GivesT w (kText ds) (kNo ds)) := by
  have hlen := hR.1
  have hx := below_le (below_box w (.cells #[.string ⟨#[]⟩] 9)) (below_box _ (.cells #[.int .i64 0] 25))
  have g2 : Blk ((w.alloc (.cells #[.string ⟨#[]⟩] 9)).alloc (.cells #[.int .i64 0] 25)) w.heap.size 9 #[.string ⟨#[]⟩] := Blk.alloc (Blk.new _ _ _) _
  have g3 : Blk ((w.alloc (.cells #[.string ⟨#[]⟩] 9)).alloc (.cells #[.int .i64 0] 25)) (w.heap.size + 1) 25 #[.int .i64 0] := heap_new (by simp) _
  have hz : ((w.alloc (.cells #[.string ⟨#[]⟩] 9)).alloc (.cells #[.int .i64 0] 25)).heap.size = w.heap.size + 2 := by simp
  have hchk := check_any A n c ds _ (hR.ext hx) hs hn (tab_ext ht hx)
  obtain ⟨ms, hM⟩ := (hR).ms
  have hno := kNo_iff ds
  have r1 : kRight ds = false → kText ds = [] := fun h => by unfold kText; rw [h]; rfl
  have r2 : kRight ds = true → kText ds = linesT ds ∧ (∀ d ∈ ds, dR d = true) := fun h => ⟨by unfold kText; rw [if_pos h], (kRight_iff.1 h).2.1⟩
  generalize kText ds = kt at *
  generalize kNo ds = no at *
  have R1 := Lib.hid r1
  have R2 := Lib.hid r2
  have NO := Lib.hid hno
  have HCH := Lib.hid hchk
  have HLT := Lib.hid hM.lt
  have HT0 := Lib.hid ht
  have HE := Lib.hid (hE.ext hx)
  have HT := Lib.hid (tab_ext ht hx)
  have HM := Lib.hid (hM.ext hx)
  have HLEN := Lib.hid hlen
  have HMN := Lib.hid hM.2.1
  have HS := Lib.hid hs
  have HB := Lib.hid hx
  have G2 := Lib.hid g2
  have G3 := Lib.hid g3
  have HZ := Lib.hid hz
  clear r1 r2 hno hchk ht hE hR hx g2 g3 hlen hs hM hz
  refine (callsIn_wide (n := 3)).1 ?_
  refine callsIn_of_wp_marks Tryz.func11 rfl trivial ?_ rfl
  simp only [Tryz.ntmps11, List.size_toArray, List.length_cons, List.length_nil, Nat.reduceAdd, Nat.reduceSub, Array.replicate_succ, Array.replicate_zero, List.push_toArray, List.append_toArray, List.nil_append, List.cons_append]
  gi_wp2_with fail
  generalize (w.alloc (.cells #[.string ⟨#[]⟩] 9)).alloc (.cells #[.int .i64 0] 25) = W0 at *
  refine ⟨trivial, (callsIn_wide.2 HCH.out).mono ?_⟩
  rintro x w1 ⟨v, rfl, hv, hb1⟩
  have HE1 := Lib.hid (HE.out.ext hb1)
  have HT1 := Lib.hid (tab_ext HT.out hb1)
  have HM1 := Lib.hid (HM.out.ext hb1)
  replace G2 := Lib.hid (G2.out.ext hb1)
  replace G3 := Lib.hid (G3.out.ext hb1)
  replace HZ := Lib.hid (show w.heap.size + 2 ≤ w1.heap.size from HZ.out ▸ hb1.size)
  replace HB := Lib.hid (below_le HB.out hb1)
  clear hb1 HCH HE HT HM
  rcases NO.out with ⟨hk, hkr⟩ | ⟨hk, hkr⟩
  case inr =>
    rw [hk] at hv
    have hkt := R1.out hkr
    subst hkt
    obtain rfl := hk
    clear hkr R1 R2 NO
    have HV := Lib.hid (number_kinds 50 v w1 hv HE1.out)
    rcases hv with ⟨h0, -⟩ | ⟨-, t, u, rfl, -, -⟩
    · cases h0
    · gi_wp2_with fail
      refine ⟨trivial, (callsIn_wide.2 HV.out).mono ?_⟩
      rintro x w2 ⟨rfl, hb2⟩
      have g2 := G2.out.ext hb2
      have g3 := G3.out.ext hb2
      replace HB := Lib.hid (below_le HB.out hb2)
      have c2 := g2.at_ (i := 0) rfl
      have c3 := g3.at_ (i := 0) rfl
      have f2 := g2.frozen 0
      have f3 := g3.frozen 0
      clear hb2 HV
      have q2 := ((g2.set_ 0 (.string ⟨#[]⟩)).far (p := ⟨w.heap.size + 1, 0, none⟩) (by show w.heap.size ≠ w.heap.size + 1; omega) (.int .i64 50)).at_ (i := 0) rfl
      have q3 := ((g3.far (p := ⟨w.heap.size, 0, none⟩) (by show w.heap.size + 1 ≠ w.heap.size; omega) (.string ⟨#[]⟩)).set_ 0 (.int .i64 50)).at_ (i := 0) rfl
      have HB9 := Lib.hid ((HB.out.setCell (p := ⟨w.heap.size, 0, none⟩) (Nat.le_refl _) (.string ⟨#[]⟩)).setCell (p := ⟨w.heap.size + 1, 0, none⟩) (Nat.le_succ _) (.int .i64 50))
      gi_wp2
      exact ⟨.tuple #[.string ⟨#[]⟩, .int .i64 50], by simp [results, Tryz.results11, go_sem, q2, q3], by simp, HB9.out⟩
  case inl =>
    rw [hk] at hv
    rcases hv with ⟨-, rfl⟩ | ⟨h0, -⟩
    case inr => exact absurd rfl h0
    obtain ⟨hkt, hdr⟩ := R2.out hkr
    subst hkt
    obtain rfl := hk
    have HDR := Lib.hid hdr
    clear hkr R1 R2 NO hdr
    gi_wp2_with fail
    have hx := below_box w1 (.cells #[.pointer none, .slice none 0 0] 55)
    have hfr := Lib.fresh_isBuilder 55 5 w1
    replace HE1 := Lib.hid (HE1.out.ext hx)
    replace HT1 := Lib.hid (tab_ext HT1.out hx)
    replace HM1 := Lib.hid (HM1.out.ext hx)
    replace G2 := Lib.hid (G2.out.ext hx)
    replace G3 := Lib.hid (G3.out.ext hx)
    replace HB := Lib.hid (below_le HB.out hx)
    have HI := Lib.hid hfr
    have hz2 : (w1.alloc (.cells #[.pointer none, .slice none 0 0] 55)).heap.size = w1.heap.size + 1 := by simp
    have HZ2 := Lib.hid hz2
    clear hx hfr hz2
    generalize w1.alloc (.cells #[.pointer none, .slice none 0 0] 55) = W2 at *
    refine ⟨trivial, (callsIn_wide.2 (numbered_any _ _ _ _)).mono ?_⟩
    rintro x w' ⟨rfl, rfl⟩
    have hb1 := below_box W2 (.cells #[.slice A n c] 22)
    have hz : (W2.alloc (.cells #[.slice A n c] 22)).heap.size = w1.heap.size + 2 := by simp [HZ2.out]
    have e1 := cell_one (w := W2) (t := 22) (v := .slice A n c)
    have hM1 := HM1.out.ext hb1
    have HG2 := Lib.hid (G2.out.ext hb1)
    have HG3 := Lib.hid (G3.out.ext hb1)
    have HHB := Lib.hid (below_le HB.out hb1)
    have HII := Lib.hid (isB_ext hb1 HI.out)
    have HET := Lib.hid (HE1.out.ext hb1)
    have HTT := Lib.hid (tab_ext HT1.out hb1)
    rw [HZ2.out] at e1 ⊢
    generalize W2.alloc (.cells #[.slice A n c] 22) = W1 at *
    have hst := numbered1_stops (3 - 1) A n c ms ds (w1.heap.size + 1) hn W1 e1 hM1
    have hlt := hM1.lt
    have HZ1 := Lib.hid (show w1.heap.size + 2 ≤ W1.heap.size by omega)
    have HMM := Lib.hid hM1
    have HLT1 := Lib.hid hlt
    clear HM1 HE1 HT1 HB HI G2 G3 HZ2 hb1 e1 hM1 hz
    gi_wp2_with fail
    refine wpIn_rangeFunc_ownH (F := Fence.wide) (n := 3) rfl (by omega) (gf := 53) (lb := #[.pointer (some ⟨w1.heap.size + 1, 0, none⟩)]) rfl trivial (enters_of Tryz.func53 (by kernel_rfl) rfl)
      hst (fun h k => h.t k) (KeepB.b hlt) (Below.refl _ _) (fun _ => rfl)
      (PrI W1 w1.heap.size ds) (fun _ _ _ => False)
      (fun s X Y row hs hg hr => PrI.own (by have := HZ1.out; omega) hs hg hr)
      (fun c s X Y row hs hg hr => hs)
      ⟨Nat.le_refl _, Below.refl _ _, HII.out⟩
      (fun x a' W => ∃ rb d, W1.heap.size ≤ rb ∧ ms[x.1]? = some d ∧ a' = printF w w1 A n c rb x.1 d ∧ Blk W rb 35 (cells4 d).toArray)
      (fun x a' _ X Y row hs hg hr => by obtain ⟨rb, d, h1, h2, h3, h4⟩ := hs; exact ⟨rb, d, h1, h2, h3, h4.own hg hr⟩)
      ?assign ?body ?done ?stop
    case stop => rintro D cd pre W' hD _ h hK; exact h.elim
    case assign =>
      intro l0 pre x W' K hI hK
      have hk : ms[x.1]? = some (ms[x.1]) := List.getElem?_eq_getElem x.2
      dsimp only [numD]
      rw [getD_of hk]
      have HKX := Lib.hid hk
      generalize ms[x.1] = d at *
      obtain ⟨z1, ⟨P1, m1, c1⟩, y1, Q1, q1, f1⟩ := d
      have HK := Lib.hid hK
      have HI := Lib.hid hI
      clear hK hI hk hst
      dsimp only [mdV]
      gi_wp2
      have hx := below_box W' (descO z1 P1 m1 c1 y1 Q1 q1 f1)
      exact HK.out _ _ (keepsFrom_below hx) (KeepB.of_below (hx.mono HI.out.1) HLT1.out) ⟨Nat.le_trans HI.out.1 hx.size, HI.out.2.1.trans (hx.mono (by have := HI.out.1; have := HZ1.out; omega)), isB_ext hx HI.out.2.2⟩ ⟨W'.heap.size, _, HI.out.1, HKX.out, rfl, Blk.new _ _ _⟩
    case body =>
      rintro l0 pre x a' W' - - ⟨s1, s2, s3⟩ ⟨rb, d, hrb, hk, rfl, hbl⟩ hpl
      have hxn : x.1 < n := by have := x.2; have := HMN.out; omega
      have hkb : KeepB (blksD A n ms) W1 W' := KeepB.of_below s2 (fun b hb => by have := HLT.out b hb; have := HZ.out; omega)
      obtain ⟨b1, o1, z1, P1, m1, c1, y1, Q1, q1, f1, ps1, es1, -, hk2, hd1, r1, r2, -, -, -, -⟩ := (HMM.out.keep hkb (fun _ h => h)).get hxn
      rw [hk] at hk2
      cases hk2
      have hdr := HDR.out _ (List.mem_of_getElem? hd1)
      have hsm := HS.out _ (List.mem_of_getElem? hd1)
      have hl1 := r1.1
      have hl2 := r2.1
      simp at hl1 hl2
      have hm1 : m1 ≤ 1000 := by have := hsm.1; dsimp only at this; omega
      have hq1 : q1 ≤ 1000 := by have := hsm.2; dsimp only at this; omega
      have a0 := hbl.at_ (i := 0) rfl
      have a1 := hbl.at_ (i := 1) rfl
      have a2 := hbl.at_ (i := 2) rfl
      have a3 := hbl.at_ (i := 3) rfl
      have hcall := print_any z1 y1 P1 Q1 m1 c1 q1 f1 ps1 es1 W' r1 r2 hm1 hq1 (tab_ext HT0.out (HHB.out.trans (s2.mono (by have := HZ.out; omega))))
      unfold GivesPr prText prNo at hcall
      simp only [show dRight z1 ps1 y1 es1 = true from hdr, if_true] at hcall
      have hsn := txtK_snoc ds pre x hd1
      have hlt1 := txtK_len (by rw [HLEN.out, HMN.out]) HDR.out pre
      have hlp := dP_len hdr
      rw [show dP (z1, ps1, y1, es1) = printT z1 ps1 y1 es1 from rfl] at hsn hlp
      generalize printT z1 ps1 y1 es1 = t at *
      have hl2 : (Lib.byteCells (txtK ds pre)).length + (⟨t.toArray⟩ : ByteArray).size ≤ 140737488355328 := by rw [Lib.byteCells_length, size_list]; have := HMN.out; omega
      have hl3 : (Lib.byteCells (txtK ds pre ++ t)).length + 1 ≤ 140737488355328 := by rw [Lib.byteCells_length]; simp; have := HMN.out; omega
      have HC := Lib.hid hcall
      have HSN := Lib.hid hsn
      have S1 := Lib.hid s1
      have S2 := Lib.hid s2
      have S3 := Lib.hid s3
      have HL2 := Lib.hid hl2
      have HL3 := Lib.hid hl3
      have hbl : Blk W' rb 35 #[.int .i64 z1, .slice P1 m1 c1, .int .i64 y1, .slice Q1 q1 f1] := hbl
      clear hcall hsn s1 s2 s3 hl2 hl3 hlt1 hlp hdr hsm hl1 r1 r2 hd1 hk hkb hst a0 a1 a2 a3
      have a0 := hbl.at_ (i := 0) rfl
      have a1 := hbl.at_ (i := 1) rfl
      have a2 := hbl.at_ (i := 2) rfl
      have a3 := hbl.at_ (i := 3) rfl
      clear hbl
      simp only [printF, mdV]
      gi_wp2_with fail
      refine ⟨trivial, (CallsIn.inRound _ (callsIn_wide.2 HC.out)).mono ?_⟩
      rintro x2 w4 ⟨rfl, hb4⟩
      clear a0 a1 a2 a3 HC
      replace S3 := Lib.hid (isB_ext hb4 S3.out)
      replace S2 := Lib.hid (S2.out.trans (hb4.mono (by have := S1.out; have := HZ1.out; omega)))
      have HKO := Lib.hid (keepsO_below hb4)
      have HKB := Lib.hid (KeepB.of_below (S := blksD A n ms) hb4 (fun b hb => by have := HLT1.out b hb; have := S1.out; omega))
      replace S1 := Lib.hid (Nat.le_trans S1.out hb4.size)
      clear hb4
      gi_wp2_with fail
      refine ⟨trivial, (CallsIn.inRound _ (callsIn_wide.2 (writeString_all w1.heap.size w1.heap.size _ ⟨t.toArray⟩ w4 S3.out HL2.out (by have := S1.out; have := HZ1.out; omega)))).mono ?_⟩
      rintro x2 w5 ⟨rfl, hi5, hb5, hk5⟩
      rw [cells_text] at hi5
      replace S3 := Lib.hid hi5
      replace S2 := Lib.hid (S2.out.trans hb5)
      replace HKO := Lib.hid (HKO.out.trans hk5)
      replace HKB := Lib.hid (HKB.out.t (KeepB.of_below (S := blksD A n ms) hb5 (fun b hb => by have := HLT.out b hb; have := HZ.out; omega)))
      replace S1 := Lib.hid (Nat.le_trans S1.out hb5.size)
      clear hb5 hi5 hk5
      gi_wp2_with fail
      refine ⟨trivial, (CallsIn.inRound _ (callsIn_wide.2 (writeByte_all w1.heap.size w1.heap.size _ 10 w5 S3.out HL3.out (by have := S1.out; have := HZ1.out; omega)))).mono ?_⟩
      rintro x2 w6 ⟨rfl, hi6, hb6, hk6⟩
      have hi6' : IsB w1.heap.size w1.heap.size (Lib.byteCells (txtK ds (pre ++ [x]))) w6 := by
        rw [HSN.out, ← cells_snoc]
        exact hi6
      replace S3 := Lib.hid hi6'
      replace S2 := Lib.hid (S2.out.trans hb6)
      replace HKO := Lib.hid (HKO.out.trans hk6)
      replace HKB := Lib.hid (HKB.out.t (KeepB.of_below (S := blksD A n ms) hb6 (fun b hb => by have := HLT.out b hb; have := HZ.out; omega)))
      replace S1 := Lib.hid (Nat.le_trans S1.out hb6.size)
      clear hb6 hi6 hk6 hi6'
      gi_wp2
      exact ⟨HKO.out.from _, HKB.out, S1.out, S2.out, S3.out⟩
    case done =>
      rintro D ys W' hD rfl ⟨s1, s2, s3⟩ hK
      rw [txtK_all (by rw [HLEN.out, HMN.out])] at s3
      have S1 := Lib.hid s1
      have S2 := Lib.hid s2
      have S3 := Lib.hid s3
      have HK := Lib.hid hK
      clear s1 s2 s3 hK hst
      gi_wp2_with fail
      refine ⟨trivial, (callsIn_wide.2 (bString_all w1.heap.size w1.heap.size _ W' S3.out (by have := S1.out; have := HZ1.out; omega))).mono ?_⟩
      rintro x w4 ⟨rfl, hb4, hk4⟩
      have hK4 := hk4.same D _ HK.out rfl
      have hb5 := S2.out.trans hb4
      have hbb : Below w.heap.size w w4 := HHB.out.trans (hb5.mono (by have := HZ.out; omega))
      have g2 : Blk w4 w.heap.size 9 #[.string ⟨#[]⟩] := (hb5.block _ (by have := HZ.out; omega)).trans HG2.out
      have g3 : Blk w4 (w.heap.size + 1) 25 #[.int .i64 0] := (hb5.block _ (by have := HZ.out; omega)).trans HG3.out
      have c2 := g2.at_ (i := 0) rfl
      have c3 := g3.at_ (i := 0) rfl
      have f2 := g2.frozen 0
      have f3 := g3.frozen 0
      obtain ⟨t, ht⟩ : ∃ t : ByteArray, (⟨(linesT ds).toArray⟩ : ByteArray) = t := ⟨_, rfl⟩
      have HTE := Lib.hid ht
      rw [ht]
      have q2 := ((g2.set_ 0 (.string t)).far (p := ⟨w.heap.size + 1, 0, none⟩) (by show w.heap.size ≠ w.heap.size + 1; omega) (.int .i64 0)).at_ (i := 0) rfl
      have q3 := ((g3.far (p := ⟨w.heap.size, 0, none⟩) (by show w.heap.size + 1 ≠ w.heap.size; omega) (.string t)).set_ 0 (.int .i64 0)).at_ (i := 0) rfl
      have HB9 := Lib.hid ((hbb.setCell (p := ⟨w.heap.size, 0, none⟩) (Nat.le_refl _) (.string t)).setCell (p := ⟨w.heap.size + 1, 0, none⟩) (Nat.le_succ _) (.int .i64 0))
      have HK9 := Lib.hid (((KeepsOthers.setCell w4 ⟨w.heap.size, 0, none⟩ (.string t)).trans (KeepsOthers.setCell _ ⟨w.heap.size + 1, 0, none⟩ (.int .i64 0))).same D _ hK4 rfl)
      clear hb4 hk4 hK4 hb5 hbb ht
      gi_wp2
      generalize (w4.setCell ⟨w.heap.size, 0, none⟩ (.string t)).setCell ⟨w.heap.size + 1, 0, none⟩ (.int .i64 0) = w9 at *
      refine ⟨by simp, .inl ⟨_, _, rfl, run_takeDeferred HK9.out, ?_⟩⟩
      have hbD := belowK_b (w := W1) (n₀ := W1.heap.size) (Nat.le_refl _) w9 D _ (.deferred none) hD HK9.out rfl rfl
      have q2' := (World.cell?_of_block (w := w9) (a := ⟨w.heap.size, 0, none⟩) (hbD.block w.heap.size (by have := HZ.out; have := HZ1.out; omega))).trans q2
      have q3' := (World.cell?_of_block (w := w9) (a := ⟨w.heap.size + 1, 0, none⟩) (hbD.block (w.heap.size + 1) (by have := HZ.out; have := HZ1.out; omega))).trans q3
      refine ⟨.tuple #[.string t, .int .i64 0], by simp [results, Tryz.results11, go_sem, q2', q3'], by rw [HTE.out]; rfl, ?_⟩
      exact HB9.out.trans (hbD.mono (by have := HZ.out; have := HZ1.out; omega))
end Go.Proofs.YtmabokmnniiadaaGreatDoor
namespace Go.Proofs.YtmabokmnniiadaaGreatDoor
open Go.RowKit Go.Stop

theorem Row.cut {w : World} {A : Option Addr} {m : Nat} {xs : List Value} (h : Row w A m xs) (k : Nat) (hk : k ≤ m) : Row w A k (xs.take k) := by
  refine ⟨by have := h.1; simp; omega, fun h0 => ?_⟩
  obtain ⟨b, off, e, hc⟩ := h.2 (by omega)
  exact ⟨b, off, e, fun j u hu => hc j u (by rw [List.getElem?_take] at hu; split at hu <;> simp_all)⟩
theorem row_cut {w : World} {A : Option Addr} {m : Nat} {l : List Int} (h : Row w A m (l.map Iv)) : Row w A (min m 20) ((l.take 20).map Iv) := by
  have h1 := h.cut (min m 20) (Nat.min_le_left _ _)
  have hl := h.1
  simp at hl
  rw [← List.map_take, Nat.min_comm, ← List.take_take, List.take_of_length_le (l := l) (by omega), Nat.min_comm] at h1
  exact h1

set_option maxRecDepth 100000 in
set_option maxHeartbeats 4000000 in
/-- Cut. -/
theorem dcut_any (z e : Int) (P Q : Option Addr) (m c q f : Nat) (w : World) (hm : m ≤ c) (hq : q ≤ f) :
    Calls Tryz.prog 21 #[descV z P m c e Q q f] w fun x w' => x = .returned (descV z P (min m 20) c e Q (min q 20) f) ∧ Below w.heap.size w w' := by
  have hb1 := below_le (below_box w (descO z P m c e Q q f)) (below_box _ (descO 0 none 0 0 0 none 0 0))
  have h1 : Blk ((w.alloc (descO z P m c e Q q f)).alloc (descO 0 none 0 0 0 none 0 0)) w.heap.size 35 #[.int .i64 z, .slice P m c, .int .i64 e, .slice Q q f] := Blk.alloc (Blk.new _ _ _) _
  have h2 : Blk ((w.alloc (descO z P m c e Q q f)).alloc (descO 0 none 0 0 0 none 0 0)) (w.heap.size + 1) 35 #[.int .i64 0, .slice none 0 0, .int .i64 0, .slice none 0 0] := heap_new (by simp) _
  have HB := Lib.hid hb1
  have H2 := Lib.hid h2
  have k0 := h1.at_ (i := 0) rfl
  have k1 := h1.at_ (i := 1) rfl
  have k2 := h1.at_ (i := 2) rfl
  have k3 := h1.at_ (i := 3) rfl
  have HMC := Lib.hid hm
  have HQF := Lib.hid hq
  clear hb1 h2 h1 hm hq
  go_enter Tryz.func21, Tryz.ntmps21
  go_wp2
  generalize (w.alloc (descO z P m c e Q q f)).alloc (descO 0 none 0 0 0 none 0 0) = W0 at *
  have t0 := ext_cell k0
  have t1 := ext_cell k1
  have t2 := ext_cell k2
  have t3 := ext_cell k3
  refine wp_region_tail 19 (by kernel_rfl) (by kernel_rfl) ?_; simp only [List.take_succ_cons, List.take_zero, List.drop_succ_cons, List.drop_zero]
  repeat (first | (refine head_skip rfl ?_; go_frame) | (refine head_soft rfl (fun K hK => ?_); go_simp; first | (refine hK _ ?_; clear hK K) | (apply Exists.intro; refine ⟨fun x => ?_, hK _ ?_⟩; (· (fail)); clear hK K; try go_frame)))
  obtain ⟨x, hx⟩ : ∃ x : Int, min (m : Int) 20 = x := ⟨_, rfl⟩
  rw [hx]
  have hxe : x = (min m 20 : Nat) := by omega
  have hx0 : 0 ≤ x := by omega
  have hx1 : x ≤ c := by have := HMC.out; omega
  have HX : Hid (x.toNat = min m 20) := Lib.hid (by omega)
  clear hx hxe
  repeat (first | (refine head_skip rfl ?_; go_frame) | (refine head_soft rfl (fun K hK => ?_); go_simp; first | (refine hK _ ?_; clear hK K) | (apply Exists.intro; refine ⟨fun x => ?_, hK _ ?_⟩; (· (fail)); clear hK K; try go_frame)))
  obtain ⟨y, hy⟩ : ∃ y : Int, min (q : Int) 20 = y := ⟨_, rfl⟩
  rw [hy]
  have hye : y = (min q 20 : Nat) := by omega
  have hy0 : 0 ≤ y := by omega
  have hy1 : y ≤ f := by have := HQF.out; omega
  have HY : Hid (y.toNat = min q 20) := Lib.hid (by omega)
  clear hy hye
  repeat (first | (refine head_skip rfl ?_; go_frame) | (refine head_soft rfl (fun K hK => ?_); go_simp; first | (refine hK _ ?_; clear hK K) | (apply Exists.intro; refine ⟨fun x => ?_, hK _ ?_⟩; (· (fail)); clear hK K; try go_frame)))
  refine head_nil fun w2 hb2 => ?_
  have h2 := H2.out.ext hb2
  have f0 := h2.frozen 0
  have f1 := h2.frozen 1
  have f2 := h2.frozen 2
  have f3 := h2.frozen 3
  have c0 := h2.at_ (i := 0) rfl
  have c1 := h2.at_ (i := 1) rfl
  have c2 := h2.at_ (i := 2) rfl
  have c3 := h2.at_ (i := 3) rfl
  have H9 := Lib.hid (h2.set4 (.int .i64 z) (.slice P x.toNat c) (.int .i64 e) (.slice Q y.toNat f))
  have HB9 := Lib.hid (below_set4 (below_le HB.out hb2) (show w.heap.size ≤ w.heap.size + 1 by omega) (.int .i64 z) (.slice P x.toNat c) (.int .i64 e) (.slice Q y.toNat f))
  clear h2 hb2 t0 t1 t2 t3 k0 k1 k2 k3
  go_wp2
  have q0 := H9.out.at_ (i := 0) rfl
  have q1 := H9.out.at_ (i := 1) rfl
  have q2 := H9.out.at_ (i := 2) rfl
  have q3 := H9.out.at_ (i := 3) rfl
  refine bodyPost_ret (v := descV z P x.toNat c e Q y.toNat f) (by simp [results, Tryz.results21, go_sem, q0, q1, q2, q3]) rfl ⟨?_, HB9.out⟩
  rw [HX.out, HY.out]

/-! ### What shown comes by -/
theorem read_any_print {z e : Int} {ps es : List Int} (hz : 0 ≤ z ∧ z ≤ 1024) (hp : smallB ps) (he : 0 ≤ e ∧ e ≤ 1024) (hq : smallB es) : readT (printT z ps e es) = joinT (some (z, ps)) (some (e, es)) := by
  have hc : Lib.cut (printT z ps e es) [59, 32] = (halfT z ps, halfT e es, true) := cut_at (half_no hz.1 hp)
  rw [read_join hc, half_read hz hp, half_read he hq]
  rfl

end Go.Proofs.YtmabokmnniiadaaGreatDoor
namespace Go.Proofs.YtmabokmnniiadaaGreatDoor
open Go.RowKit

/-- What a law's walk has of the world. -/
def DK (w : World) : Prop := EType w ∧ MLen w ∧ Tab w
theorem DK.ext {w w' : World} (h : DK w) (hb : Below w.heap.size w w') : DK w' := ⟨h.1.ext hb, h.2.1.ext hb, tab_ext h.2.2 hb⟩
/-- The law returned true, and what was there stays. -/
def Holds (w : World) (e : Ending) (w' : World) : Prop := e = .returned (.bool true) ∧ Below w.heap.size w w'
/-- No list of places is longer than what it may grow to. -/
def CapsOk (w : World) (A : Option Addr) (n : Nat) : Prop :=
  0 < n → ∃ g off, A = some ⟨g, off, none⟩ ∧ ∀ k, k < n → ∃ P m c Q q f, w.cell? ⟨g, off + 4 * k + 1, none⟩ = some (.slice P m c) ∧ m ≤ c ∧ w.cell? ⟨g, off + 4 * k + 3, none⟩ = some (.slice Q q f) ∧ q ≤ f

instance (d : DscK) : Decidable (sm1 d) := by unfold sm1; infer_instance
/-! ### What shown comes by -/
def shA : DscK := (8, [4], 0, [])
def shB : DscK := (8, [], 0, [])
theorem sh_add1 : kAdd [] shA = ([shA], 1, 0) := by decide
theorem sh_add2 : kAdd [shA] shB = ([shA, shB], 2, 0) := by decide
theorem sh_add3 : kAdd [shA, shB] shA = ([shA, shB], 1, 0) := by decide
theorem sh_no : kNo [shA, shB] = 0 := by decide
theorem sh_of : kOf [shA, shB] 1 = (shA, 0) := by decide
theorem sh_p1 : ([56, 58, 32, 52, 59, 32, 48, 58] : List UInt8) = printT 8 [4] 0 [] := by
  simp [printT, halfT, wordsT, Lib.itoa, Lib.decDigits]
theorem sh_p2 : ([56, 58, 59, 32, 48, 58] : List UInt8) = printT 8 [] 0 [] := by
  simp [printT, halfT, wordsT, Lib.itoa, Lib.decDigits]
theorem sh_text : kText [shA, shB] = [56, 58, 32, 52, 59, 32, 48, 58, 10, 56, 58, 59, 32, 48, 58, 10] := by
  rw [show kText [shA, shB] = linesT [shA, shB] by unfold kText; rw [if_pos (by decide)]]
  rw [linesT_cons, linesT_cons, show dP shA = printT 8 [4] 0 [] from rfl, show dP shB = printT 8 [] 0 [] from rfl, ← sh_p1, ← sh_p2]
  rfl
theorem sh_twice : ([56, 58, 32, 52, 59, 32, 48, 58, 10, 56, 58, 32, 52, 59, 32, 48, 58, 10] : List UInt8) = linesT [shA, shA] := by
  rw [linesT_cons, linesT_cons, show dP shA = printT 8 [4] 0 [] from rfl, ← sh_p1]
  rfl
theorem sh_parse : kParse [56, 58, 32, 52, 59, 32, 48, 58, 10, 56, 58, 32, 52, 59, 32, 48, 58, 10] = ([], 2, 52) := by
  have hr : dR shA = true := by decide
  rw [sh_twice]
  unfold kParse
  rw [linesOf_lines _ _ (by simp [hr])]
  have hl := linesT_len [shA, shA]
  rw [List.take_of_length_le (by simp at hl ⊢; omega)]
  simp [parseL, readK, read_dP hr]

/-- Kinds, a number and a code, as a walk wants them. -/
theorem GivesK.int {w : World} {r : List DscK × Nat × Nat} {x : Ending} {w' : World} (h : GivesK w r x w') : ∃ A n c, x = .returned (.tuple #[.slice A n c, .int .i64 (r.2.1 : Nat), .int .i64 (r.2.2 : Nat)]) ∧ RowD w' A n r.1 ∧ Below w.heap.size w w' := by
  obtain ⟨A, n, c, h1, h2, -, h4⟩ := h
  exact ⟨A, n, c, h1, h2, h4⟩
theorem run_one (x : Int) (W : World) : (Instr.buildSlice 33 1 #[(0, .int .i64 x)]).run Tryz.prog W = .ok (.slice (some ⟨W.heap.size, 0, none⟩) 1 1) (W.alloc (.cells #[.int .i64 x] 3)) := by go_simp
theorem Sm.of_len {ds : List DscK} (h : ∀ d ∈ ds, d.2.1.length ≤ 20 ∧ d.2.2.2.length ≤ 20) : Sm ds := fun d hd => ⟨by have := (h d hd).1; omega, by have := (h d hd).2; omega⟩

set_option maxRecDepth 100000 in
set_option maxHeartbeats 4000000 in
/-- shown. -/
theorem kshown_any (w : World) (hD : DK w) : Calls Tryz.prog 9 #[] w fun e w' => e = .returned (.bool true) ∧ Below w.heap.size w w' := by
  have hro := run_one 4
  have hb0 := below_le (below_box w (.cells #[.int .i64 4] 3)) (below_box _ (descO 8 (some ⟨w.heap.size, 0, none⟩) 1 1 0 none 0 0))
  have h0 : Blk ((w.alloc (.cells #[.int .i64 4] 3)).alloc (descO 8 (some ⟨w.heap.size, 0, none⟩) 1 1 0 none 0 0)) w.heap.size 3 #[.int .i64 4] := Blk.alloc (Blk.new _ _ _) _
  have h1 : Blk ((w.alloc (.cells #[.int .i64 4] 3)).alloc (descO 8 (some ⟨w.heap.size, 0, none⟩) 1 1 0 none 0 0)) (w.heap.size + 1) 35 #[.int .i64 8, .slice (some ⟨w.heap.size, 0, none⟩) 1 1, .int .i64 0, .slice none 0 0] := heap_new (by simp) _
  have HD := Lib.hid hD
  have HB := Lib.hid hb0
  have HP : Hid (Row _ _ _ (([4] : List Int).map Iv)) := Lib.hid h0.row
  have a0 := h1.at_ (i := 0) rfl
  have a1 := h1.at_ (i := 1) rfl
  have a2 := h1.at_ (i := 2) rfl
  have a3 := h1.at_ (i := 3) rfl
  clear hD hb0 h0 h1
  go_enter Tryz.func9, Tryz.ntmps9
  go_wp2_with fail
  generalize (w.alloc (.cells #[.int .i64 4] 3)).alloc (descO 8 (some ⟨w.heap.size, 0, none⟩) 1 1 0 none 0 0) = W0 at *
  clear hro
  have h := add_any none 0 0 [] shA (some ⟨w.heap.size, 0, none⟩) none 1 1 0 0 W0 RowD.none_ Sm.nil (by omega) HP.out Row.none_ (by decide) (tab_ext HD.out.2.2 HB.out) (HD.out.1.ext HB.out)
  rw [sh_add1] at h
  refine h.mono ?_
  clear h
  intro x w1 h
  obtain ⟨A1, n1, c1, rfl, hR1, hb1⟩ := h.int
  dsimp only at hR1 ⊢
  replace a0 := cell_ext hb1 a0; replace a1 := cell_ext hb1 a1; replace a2 := cell_ext hb1 a2; replace a3 := cell_ext hb1 a3; replace HP := Lib.hid (HP.out.ext hb1)
  replace HB := Lib.hid (below_le HB.out hb1)
  have HR1 := Lib.hid hR1
  clear h hb1 hR1
  go_wp2_with fail
  have h := add_any A1 n1 c1 [shA] shB none none 0 0 0 0 w1 HR1.out (by intro d hd; rw [List.mem_singleton.1 hd]; decide) (by have := HR1.out.1; simp at this; omega) Row.none_ Row.none_ (by decide) (tab_ext HD.out.2.2 HB.out) (HD.out.1.ext HB.out)
  rw [sh_add2] at h
  refine h.mono ?_
  clear h
  intro x w2 h
  obtain ⟨A2, n2, c2, rfl, hR2, hb2⟩ := h.int
  dsimp only at hR2 ⊢
  replace a0 := cell_ext hb2 a0; replace a1 := cell_ext hb2 a1; replace a2 := cell_ext hb2 a2; replace a3 := cell_ext hb2 a3; replace HP := Lib.hid (HP.out.ext hb2)
  replace HB := Lib.hid (below_le HB.out hb2)
  have HR2 := Lib.hid hR2
  have hn2 : n2 ≤ 1000 := by have := hR2.1; simp at this; omega
  have hs2 : Sm [shA, shB] := by
    intro d hd
    rcases List.mem_cons.1 hd with rfl | hd
    · decide
    · rw [List.mem_singleton.1 hd]; decide
  have HS2 := Lib.hid hs2
  clear h hb2 hR2 HR1 hs2
  go_wp2_with fail
  have h := add_any A2 n2 c2 [shA, shB] shA (some ⟨w.heap.size, 0, none⟩) none 1 1 0 0 w2 HR2.out HS2.out hn2 HP.out Row.none_ (by decide) (tab_ext HD.out.2.2 HB.out) (HD.out.1.ext HB.out)
  rw [sh_add3] at h
  refine h.mono ?_
  clear h
  intro x w3 h
  obtain ⟨A3, n3, c3, rfl, hR3, hb3⟩ := h.int
  dsimp only
  replace a0 := cell_ext hb3 a0; replace a1 := cell_ext hb3 a1; replace a2 := cell_ext hb3 a2; replace a3 := cell_ext hb3 a3; replace HP := Lib.hid (HP.out.ext hb3); replace HR2 := Lib.hid (HR2.out.ext hb3)
  replace HB := Lib.hid (below_le HB.out hb3)
  clear h hb3 hR3
  go_wp2_with fail
  have h := kprint_any A2 n2 c2 [shA, shB] w3 HR2.out HS2.out hn2 (tab_ext HD.out.2.2 HB.out) (HD.out.1.ext HB.out)
  rw [sh_text, sh_no] at h
  refine h.mono ?_
  clear h
  rintro x w4 ⟨rfl, hb4⟩
  replace a0 := cell_ext hb4 a0; replace a1 := cell_ext hb4 a1; replace a2 := cell_ext hb4 a2; replace a3 := cell_ext hb4 a3; replace HP := Lib.hid (HP.out.ext hb4); replace HR2 := Lib.hid (HR2.out.ext hb4)
  replace HB := Lib.hid (below_le HB.out hb4)
  clear hb4
  go_wp2_with fail
  have h := kparse_any ⟨#[56, 58, 32, 52, 59, 32, 48, 58, 10, 56, 58, 32, 52, 59, 32, 48, 58, 10]⟩ w4 (by decide) (shortL_of _ _ (by decide)) (HD.out.2.1.ext HB.out) (HD.out.1.ext HB.out)
  rw [show kParse (⟨#[56, 58, 32, 52, 59, 32, 48, 58, 10, 56, 58, 32, 52, 59, 32, 48, 58, 10]⟩ : ByteArray).data.toList = ([], 2, 52) from sh_parse] at h
  refine h.mono ?_
  clear h
  intro x w5 h
  obtain ⟨A5, n5, c5, rfl, -, hb5⟩ := h.int
  dsimp only
  replace a0 := cell_ext hb5 a0; replace a1 := cell_ext hb5 a1; replace a2 := cell_ext hb5 a2; replace a3 := cell_ext hb5 a3; replace HP := Lib.hid (HP.out.ext hb5); replace HR2 := Lib.hid (HR2.out.ext hb5)
  replace HB := Lib.hid (below_le HB.out hb5)
  clear h hb5
  go_wp2_with fail
  have h := of_any A2 n2 c2 [shA, shB] 1 w5 HR2.out HS2.out hn2 (tab_ext HD.out.2.2 HB.out) (HD.out.1.ext HB.out)
  rw [sh_of] at h
  refine h.mono ?_
  clear h
  rintro x w6 ⟨v, rfl, ⟨P, m, c, Q, q, f, rfl, hP, hQ, -, -⟩, hb6⟩
  have hP : Row w6 P m (([4] : List Int).map Iv) := hP
  have hQ : Row w6 Q q (([] : List Int).map Iv) := hQ
  obtain rfl : m = 1 := hP.1.symm
  obtain rfl : q = 0 := hQ.1.symm
  have hx := below_box w6 (descO 8 P 1 c 0 Q 0 f)
  have h1 : Blk (w6.alloc (descO 8 P 1 c 0 Q 0 f)) w6.heap.size 35 #[.int .i64 8, .slice P 1 c, .int .i64 0, .slice Q 0 f] := Blk.new _ _ _
  replace a0 := cell_ext hb6 a0; replace a1 := cell_ext hb6 a1; replace a2 := cell_ext hb6 a2; replace a3 := cell_ext hb6 a3; replace HP := Lib.hid (HP.out.ext hb6)
  replace a0 := cell_ext hx a0; replace a1 := cell_ext hx a1; replace a2 := cell_ext hx a2; replace a3 := cell_ext hx a3; replace HP := Lib.hid (HP.out.ext hx)
  have HP2 := Lib.hid (hP.ext hx)
  have HQ2 := Lib.hid (hQ.ext hx)
  have b0 := h1.at_ (i := 0) rfl
  have b1 := h1.at_ (i := 1) rfl
  have b2 := h1.at_ (i := 2) rfl
  have b3 := h1.at_ (i := 3) rfl
  replace HB := Lib.hid (below_le (below_le HB.out hb6) hx)
  clear hP hQ hx hb6 h1 HR2
  dsimp only [shA]
  go_wp2_with fail
  generalize w6.alloc (descO 8 P 1 c 0 Q 0 f) = W6 at *
  have h := dsame_any 8 0 P Q 1 c 0 f [4] [] 8 0 (some ⟨w.heap.size, 0, none⟩) none 1 1 0 0 [4] [] W6 HP2.out HQ2.out HP.out Row.none_ (by omega) (by omega) (by omega) (by omega)
  rw [show dSame 8 0 [4] [] 8 0 [4] [] = true by decide] at h
  refine h.mono ?_
  clear h
  rintro x w7 ⟨rfl, hb7⟩
  replace HB := Lib.hid (below_le HB.out hb7)
  clear hb7
  go_wp2
  go_ret
  exact ⟨rfl, HB.out⟩
end Go.Proofs.YtmabokmnniiadaaGreatDoor
namespace Go.Proofs.YtmabokmnniiadaaGreatDoor
open Go.RowKit

def cutK (d : DscK) : DscK := (d.1, d.2.1.take 20, d.2.2.1, d.2.2.2.take 20)
def kFew (ds : List DscK) : List DscK := (ds.take 62).map cutK
theorem kFew_len (ds : List DscK) : (kFew ds).length ≤ 62 := by simp [kFew]; omega
theorem kFew_sm (ds : List DscK) : Sm (kFew ds) := Sm.of_len fun d hd => by
  obtain ⟨x, -, rfl⟩ := List.mem_map.1 hd
  simp [cutK]
  omega
theorem kFew_places (ds : List DscK) : ∀ d ∈ kFew ds, d.2.1.length ≤ 20 ∧ d.2.2.2.length ≤ 20 := fun d hd => by
  obtain ⟨x, -, rfl⟩ := List.mem_map.1 hd
  simp [cutK]
  omega
theorem kFew_get {ds : List DscK} {k : Nat} {d : DscK} (h : ds[k]? = some d) (hk : k < 62) : (kFew ds)[k]? = some (cutK d) := by
  simp [kFew, List.getElem?_map, hk, h]
theorem kFew_all {ds : List DscK} : (kFew ds).length = min ds.length 62 := by simp [kFew, Nat.min_comm]
theorem get_caps {w : World} {A : Option Addr} {n k : Nat} {ms : List MD} {ds : List DscK} (h : RowM w A n ms ds) (hC : CapsOk w A n) (hk : k < n) : ∃ b off z P m c e Q q f ps es, A = some ⟨b, off, none⟩ ∧ ms[k]? = some (z, (P, m, c), e, (Q, q, f)) ∧ ds[k]? = some (z, ps, e, es) ∧ Row w P m (ps.map Iv) ∧ Row w Q q (es.map Iv) ∧ m ≤ c ∧ q ≤ f ∧
    w.cell? ⟨b, off + k * 4, none⟩ = some (.int .i64 z) ∧ w.cell? ⟨b, off + k * 4 + 1, none⟩ = some (.slice P m c) ∧ w.cell? ⟨b, off + k * 4 + 2, none⟩ = some (.int .i64 e) ∧ w.cell? ⟨b, off + k * 4 + 3, none⟩ = some (.slice Q q f) := by
  obtain ⟨b, off, z, P, m, c, e, Q, q, f, ps, es, rfl, hms, hd, r1, r2, d0, d1, d2, d3⟩ := h.get hk
  obtain ⟨g, o, hA, hc⟩ := hC (by omega)
  obtain ⟨P', m', c', Q', q', f', e1, l1, e3, l3⟩ := hc k hk
  simp only [Option.some.injEq, Addr.mk.injEq, and_true] at hA
  obtain ⟨rfl, rfl⟩ := hA
  rw [Nat.mul_comm 4 k] at e1 e3
  rw [d1] at e1
  rw [d3] at e3
  injection e1 with e1
  injection e3 with e3
  injection e1 with _ e1 e2
  injection e3 with _ e3 e4
  subst e1 e2 e3 e4
  exact ⟨b, off, z, P, m, c, e, Q, q, f, ps, es, rfl, hms, hd, r1, r2, l1, l3, d0, d1, d2, d3⟩

/-- The blocks of the lists of some are among those of others. -/
def Among (ms ms0 : List MD) : Prop := ∀ d ∈ ms, ∀ b ∈ blkM d, ∃ d0 ∈ ms0, b ∈ blkM d0
theorem blkM_cut {z e : Int} {P Q : Option Addr} {m c q f : Nat} : ∀ b ∈ blkM (z, (P, min m 20, c), e, (Q, min q 20, f)), b ∈ blkM (z, (P, m, c), e, (Q, q, f)) := by
  intro b hb
  have h1 : ∀ (A : Option Addr) (k : Nat), b ∈ blkR A (min k 20) → b ∈ blkR A k := fun A k h => by
    unfold blkR at h ⊢
    split at h
    · rw [if_pos (by omega)]; exact h
    · simp at h
  exact List.mem_append.2 ((List.mem_append.1 hb).imp (h1 P m) (h1 Q q))
/-- A list that the call owns, as far as it is made. -/
def FList (w0 w : World) (ms0 : List MD) (v : Value) (k : Nat) (L : List DscK) : Prop :=
  ∃ ms, w.ownsRow w0.heap.size 35 4 v k (cellsD ms) ∧ ms.length = k ∧ (∀ (j : Nat) (d : MD) (x : DscK), ms[j]? = some d → L[j]? = some x → Fits w0 d x) ∧ Among ms ms0

set_option maxRecDepth 100000 in
set_option maxHeartbeats 4000000 in
/-- Few. -/
theorem few_full (A : Option Addr) (n c : Nat) (ms0 : List MD) (ds : List DscK) (w : World) (hR : RowM w A n ms0 ds) (hC : CapsOk w A n) :
    Calls Tryz.prog 10 #[.slice A n c] w fun x w' => ∃ B m d ms, x = .returned (.slice B m d) ∧ m ≤ 62 ∧ RowM w' B m ms (kFew ds) ∧ Among ms ms0 ∧ (∀ a, B = some a → w.heap.size ≤ a.block) ∧ m ≤ d ∧ Below w.heap.size w w' := by
  obtain ⟨inf, hi, hi0, hi1, hi2⟩ := info_parts desc_info
  have hlen := hR.1
  have HR := Lib.hid hR
  have HC := Lib.hid hC
  have HLEN := Lib.hid hlen
  have h0 : FList w w ms0 (.slice none 0 0) 0 (kFew ds) := ⟨[], ⟨rfl, .inl ⟨rfl, rfl⟩⟩, rfl, fun j d x h => by simp at h, fun d h => by simp at h⟩
  have H0 := Lib.hid h0
  clear hR hC hlen h0
  go_enter Tryz.func10, Tryz.ntmps10
  go_wp2
  go_loopw [3, 4] (fun v i wr => ∃ k : Nat, k ≤ n ∧ k ≤ 62 ∧ i = .int .i64 k ∧ FList w wr ms0 v k (kFew ds) ∧ Below w.heap.size w wr) (fun _ i _ => 62 - (intOf i).toNat)
  case atStart => exact ⟨0, Nat.zero_le _, Nat.zero_le _, rfl, H0.out, Below.refl _ _⟩
  case round =>
    clear H0
    obtain ⟨k, hkn, hk62, rfl, hF, hb⟩ := hrel
    obtain ⟨ms, hown, hml, hfit, ham⟩ := hF
    obtain ⟨av, cv, rfl⟩ := own_shape hown
    by_cases hlt : k < n ∧ k < 62
    · obtain ⟨hl1, hl2⟩ := hlt
      obtain ⟨b, off, z, P, m, c', e, Q, q, f, ps, es, rfl, hms, hd, r1, r2, hmc, hqf, d0, d1, d2, d3⟩ := get_caps HR.out HC.out hl1
      have ham2 : Among (ms ++ [(z, (P, min m 20, c'), e, (Q, min q 20, f))]) ms0 := fun d hd b hb => by
        rcases List.mem_append.1 hd with hd | hd
        · exact ham d hd b hb
        · rw [List.mem_singleton.1 hd] at hb
          exact ⟨_, List.mem_of_getElem? hms, blkM_cut b hb⟩
      have e0 := cell_ext hb d0
      have e1 := cell_ext hb d1
      have e2 := cell_ext hb d2
      have e3 := cell_ext hb d3
      have hcut := dcut_any z e P Q m c' q f wr hmc hqf
      have r1' := row_cut r1
      have r2' := row_cut r2
      have hnew := kFew_get hd hl2
      unfold cutK at hnew
      dsimp only at hnew
      generalize min m 20 = m' at *
      generalize min q 20 = q' at *
      have HAM := Lib.hid ham2
      have HN := Lib.hid hnew
      have HR1 := Lib.hid r1'
      have HR2 := Lib.hid r2'
      have HCUT := Lib.hid hcut
      have HB := Lib.hid hb
      have HO := Lib.hid hown
      have HML := Lib.hid hml
      have HF := Lib.hid hfit
      have hki : ((k : Nat) : Int) < 62 := by omega
      have hkj : ((k : Nat) : Int) < (n : Int) := by omega
      clear ham ham2 hms hnew r1 r2 r1' r2' hcut hb hown hml hfit d0 d1 d2 d3 hd
      go_wp2_with fail
      refine HCUT.out.mono ?_
      rintro x w2 ⟨rfl, hb2⟩
      have hown2 := own_extD hb2 HO.out
      have HO2 := Lib.hid hown2
      have HB2 := Lib.hid (below_le HB.out hb2)
      clear hown2 hb2 HCUT e0 e1 e2 e3 HO
      go_wp2_with (at_builtin; refine stop_hereK ?_)
      intro _
      refine wpList_pushD (w0 := w) w2 rfl (.tmp 15) (.tmp 21) 22 rfl w.heap.size 35 inf (.agg #[.int .i64 0, .slice none 0 0, .int .i64 0, .slice none 0 0]) 64 Tryz.underlying22 hi hi0 hi1 hi2 rfl (.slice av k cv) k ms rfl HO2.out
        (z, (P, m', c'), e, (Q, q', f)) rfl (by unfold maxLen; omega) (by omega) (Nat.le_refl _) HB2.out.size HB2.out (fun k e => own_baseD HO2.out e) ?_
      intro v' w3 hown3 hb3 hk3
      have HF3 : Hid (FList w w3 ms0 v' (k + 1) (kFew ds)) := Lib.hid ⟨_, hown3, by simp [HML.out], fun j d x h1 h2 => (show Fits w d x by
        have hml := HML.out
        by_cases hj : j < ms.length
        · rw [List.getElem?_append_left hj] at h1
          exact HF.out j d x h1 h2
        · rw [List.getElem?_append_right (by omega)] at h1
          have hj0 : j - ms.length = 0 := by
            have := (List.getElem?_eq_some_iff.1 h1).1
            simp at this
            omega
          rw [hj0] at h1
          simp at h1
          subst h1
          have : j = k := by omega
          subst this
          rw [HN.out] at h2
          cases h2
          exact ⟨rfl, rfl, HR1.out, HR2.out⟩), HAM.out⟩
      have HB3 := Lib.hid hb3
      clear hown3 hb3 hk3 HO2 HB2 HB HF HML HN
      go_wp2
      go_roundw
      case rel => exact ⟨k + 1, by omega, by omega, by go_num, HF3.out, HB3.out⟩
      case measure => simp [intOf]; omega
    · have hkf : (kFew ds).length = k := by
        rw [kFew_all, HLEN.out]
        omega
      have hres := rowM_of_owns (ds := kFew ds) hown (by rw [hml, hkf]) (fun j d x h1 h2 => (hfit j d x h1 h2).ext hb)
      have HFR := Lib.hid (show ∀ a, av = some a → w.heap.size ≤ a.block from fun a e => by
        subst e
        rcases hown.2 with ⟨he, _⟩ | ⟨g, cap, cur, he, hg, _⟩
        · cases he
        · injection he with he
          injection he with he
          rw [he]
          exact hg)
      have HAM := Lib.hid ham
      have hkc : k ≤ cv := by
        rcases hown.2 with ⟨he, h0⟩ | ⟨g, cap, cur, he, _, _, hc, _⟩
        · omega
        · injection he with _ _ he
          omega
      have HRES := Lib.hid hres
      have HB := Lib.hid hb
      clear hres hb hown hml hfit hkf ham
      by_cases h : k < n
      · obtain rfl : k = 62 := by omega
        have h1 : (62 : Int) < (n : Int) := by omega
        clear hlt h
        go_wp2
        go_ret
        exact ⟨_, _, _, ms, rfl, hk62, HRES.out, HAM.out, HFR.out, hkc, HB.out⟩
      · obtain rfl : k = n := by omega
        clear hlt h
        go_wp2
        go_ret
        exact ⟨_, _, _, ms, rfl, hk62, HRES.out, HAM.out, HFR.out, hkc, HB.out⟩

theorem few_all (A : Option Addr) (n c : Nat) (ms0 : List MD) (ds : List DscK) (w : World) (hR : RowM w A n ms0 ds) (hC : CapsOk w A n) :
    Calls Tryz.prog 10 #[.slice A n c] w fun x w' => ∃ B m d ms, x = .returned (.slice B m d) ∧ m ≤ 62 ∧ RowM w' B m ms (kFew ds) ∧ Among ms ms0 ∧ (∀ a, B = some a → w.heap.size ≤ a.block) ∧ Below w.heap.size w w' :=
  (few_full A n c ms0 ds w hR hC).mono fun _ _ ⟨B, m, d, ms2, h1, h2, h3, h4, h5, _, h6⟩ => ⟨B, m, d, ms2, h1, h2, h3, h4, h5, h6⟩
theorem few_any (A : Option Addr) (n c : Nat) (ds : List DscK) (w : World) (hR : RowD w A n ds) (hC : CapsOk w A n) :
    Calls Tryz.prog 10 #[.slice A n c] w fun x w' => ∃ B m d, x = .returned (.slice B m d) ∧ m ≤ 62 ∧ RowD w' B m (kFew ds) ∧ Below w.heap.size w w' := by
  obtain ⟨ms, hM⟩ := hR.ms
  exact (few_all A n c ms ds w hM hC).mono fun x w' ⟨B, m, d, ms2, h1, h2, h3, _, _, h4⟩ => ⟨B, m, d, h1, h2, h3.rowD, h4⟩
end Go.Proofs.YtmabokmnniiadaaGreatDoor
namespace Go.Proofs.YtmabokmnniiadaaGreatDoor
open Go.RowKit

theorem CapsOk.ext {w w' : World} {A : Option Addr} {n : Nat} (h : CapsOk w A n) (hb : Below w.heap.size w w') : CapsOk w' A n := fun hn => by
  obtain ⟨g, off, e, hc⟩ := h hn
  refine ⟨g, off, e, fun k hk => ?_⟩
  obtain ⟨P, m, c, Q, q, f, h1, h2, h3, h4⟩ := hc k hk
  exact ⟨P, m, c, Q, q, f, cell_ext hb h1, h2, cell_ext hb h3, h4⟩
theorem kOf_cases (l : List DscK) (n : Int) : ((kOf l n).2 = 50 ∧ kRight l = false) ∨ ((kOf l n).2 = 51 ∧ kRight l = true) ∨ ((kOf l n).2 = 0 ∧ kRight l = true ∧ 1 ≤ n ∧ n ≤ l.length ∧ (kOf l n).1 ∈ l ∧ dR (kOf l n).1 = true ∧ (kFind l (kOf l n).1 : Int) = n) := by
  cases hr : kRight l
  · exact .inl ⟨by unfold kOf; rw [if_pos hr], rfl⟩
  · by_cases hn : n < 1 ∨ (l.length : Int) < n
    · exact .inr (.inl ⟨by unfold kOf; rw [if_neg (by rw [hr]; simp), if_pos hn], rfl⟩)
    · have h0 : (kOf l n).2 = 0 := by unfold kOf; rw [if_neg (by rw [hr]; simp), if_neg hn]
      obtain ⟨h1, h2, h3, h4, h5⟩ := kOf_ok h0
      have hk := kRight_iff.1 h1
      refine .inr (.inr ⟨h0, rfl, h2, h3, h5, hk.2.1 _ h5, ?_⟩)
      rw [kFind_of hk.2.2 h4]
      omega

set_option maxRecDepth 100000 in
set_option maxHeartbeats 4000000 in
theorem kindsAll_any (A : Option Addr) (n c : Nat) (ds : List DscK) (nn : Int) (w : World) (hD : DK w) (hR : RowD w A n ds) (hC : CapsOk w A n) :
    Calls Tryz.prog 4 #[.slice A n c, .int .i64 nn] w (Holds w) := by
  have HD := Lib.hid hD
  have HR0 := Lib.hid hR
  have HC0 := Lib.hid hC
  clear hD hR hC
  go_enter Tryz.func4, Tryz.ntmps4
  go_wp2_with fail
  refine (kshown_any w HD.out).mono ?_
  rintro x w1 ⟨rfl, hb1⟩
  have HB := Lib.hid hb1
  have HR1 := Lib.hid (HR0.out.ext hb1)
  have HC1 := Lib.hid (HC0.out.ext hb1)
  clear hb1 HR0 HC0
  go_wp2_with fail
  refine (few_any A n c ds w1 HR1.out HC1.out).mono ?_
  rintro x w2 ⟨A2, m, c2, rfl, hm, hR2, hb2⟩
  have HR := Lib.hid hR2
  have HS := Lib.hid (kFew_sm ds)
  have HPL := Lib.hid (kFew_places ds)
  have hlen := hR2.1
  replace HB := Lib.hid (below_le HB.out hb2)
  clear hR2 hb2 HR1 HC1
  generalize kFew ds = l at *
  have HLEN := Lib.hid hlen
  clear hlen
  go_wp2_with fail
  have h := of_any A2 m c2 l nn w2 HR.out HS.out (by omega) (tab_ext HD.out.2.2 HB.out) (HD.out.1.ext HB.out)
  have hcs := kOf_cases l nn
  unfold GivesOf at h
  generalize kOf l nn = r at *
  obtain ⟨⟨z, ps, e, es⟩, cc⟩ := r
  dsimp only at h hcs
  refine h.mono ?_
  clear h
  rintro x w3 ⟨v, rfl, ⟨P, p, cp, Q, q, f, rfl, hP, hQ, -, -⟩, hb3⟩
  have hx := below_box w3 (descO z P p cp e Q q f)
  have h1 : Blk (w3.alloc (descO z P p cp e Q q f)) w3.heap.size 35 #[.int .i64 z, .slice P p cp, .int .i64 e, .slice Q q f] := Blk.new _ _ _
  have HP := Lib.hid (hP.ext hx)
  have HQ := Lib.hid (hQ.ext hx)
  replace HR := Lib.hid ((HR.out.ext hb3).ext hx)
  replace HB := Lib.hid (below_le (below_le HB.out hb3) hx)
  have a0 := h1.at_ (i := 0) rfl
  have a1 := h1.at_ (i := 1) rfl
  have a2 := h1.at_ (i := 2) rfl
  have a3 := h1.at_ (i := 3) rfl
  clear hP hQ hx hb3 h1
  rcases hcs with ⟨rfl, hr⟩ | ⟨rfl, hr⟩ | ⟨rfl, hr, hn1, hn2, hmem, hdr, hfd⟩
  · go_wp2_with fail
    generalize w3.alloc (descO z P p cp e Q q f) = W3 at *
    have h := kright_any A2 m c2 l W3 HR.out HS.out (by omega) (tab_ext HD.out.2.2 HB.out)
    rw [hr] at h
    refine h.mono ?_
    clear h
    rintro x w4 ⟨rfl, hb4⟩
    replace HB := Lib.hid (below_le HB.out hb4)
    clear hb4
    go_wp2
    go_ret
    exact ⟨rfl, HB.out⟩
  · go_wp2_with fail
    generalize w3.alloc (descO z P p cp e Q q f) = W3 at *
    have h := kright_any A2 m c2 l W3 HR.out HS.out (by omega) (tab_ext HD.out.2.2 HB.out)
    rw [hr] at h
    refine h.mono ?_
    clear h
    rintro x w4 ⟨rfl, hb4⟩
    replace HB := Lib.hid (below_le HB.out hb4)
    clear hb4
    go_wp2
    go_ret
    exact ⟨rfl, HB.out⟩
  · go_wp2_with fail
    generalize w3.alloc (descO z P p cp e Q q f) = W3 at *
    have hsm := HS.out _ hmem
    have hpl := HP.out.1
    have hql := HQ.out.1
    simp at hpl hql
    have hp : p ≤ 1000 := by have := hsm.1; dsimp only at this; omega
    have hq : q ≤ 1000 := by have := hsm.2; dsimp only at this; omega
    have h := kfind_any A2 m c2 l (z, ps, e, es) P Q p cp q f W3 HR.out HS.out (by omega) HP.out HQ.out hsm
    have hpos : 0 < kFind l (z, ps, e, es) := by omega
    rw [decide_eq_true hpos, hfd] at h
    refine h.mono ?_
    clear h
    rintro x w4 ⟨rfl, hb4⟩
    replace a0 := cell_ext hb4 a0; replace a1 := cell_ext hb4 a1; replace a2 := cell_ext hb4 a2; replace a3 := cell_ext hb4 a3; replace HP := Lib.hid (HP.out.ext hb4); replace HQ := Lib.hid (HQ.out.ext hb4)
    replace HB := Lib.hid (below_le HB.out hb4)
    have hml : nn ≤ (m : Int) := by have := HLEN.out; omega
    clear hb4 hpos hfd hmem hsm hpl hql
    go_wp2_with fail
    have h := dright_any z e P Q p cp q f ps es w4 HP.out HQ.out hp hq
    rw [show dRight z ps e es = true from hdr] at h
    refine h.mono ?_
    clear h
    rintro x w5 ⟨rfl, hb5⟩
    replace HB := Lib.hid (below_le HB.out hb5)
    clear hb5
    go_wp2
    go_ret
    exact ⟨rfl, HB.out⟩
end Go.Proofs.YtmabokmnniiadaaGreatDoor
namespace Go.Proofs.YtmabokmnniiadaaGreatDoor
open Go.RowKit

set_option maxRecDepth 100000 in
set_option maxHeartbeats 4000000 in
/-- Find. -/
theorem rkfind_any (A : Option Addr) (n c : Nat) (ds : List DscK) (d : DscK) (P Q : Option Addr) (m c' q f : Nat) (w : World) (hR : RowD w A n ds) (hs : Sm ds) (hn : n ≤ 1000) (hP : Row w P m (d.2.1.map Iv)) (hQ : Row w Q q (d.2.2.2.map Iv)) (hd : sm1 d) :
    Calls Tryz.prog 25 #[.slice A n c, descV d.1 P m c' d.2.2.1 Q q f] w fun x w' => x = .returned (.tuple #[.int .i64 (kFind ds d : Nat), .bool (decide (0 < kFind ds d))]) ∧ Below w.heap.size w w' := by
  obtain ⟨z, ps, e, es⟩ := d
  dsimp only at hP hQ ⊢
  have hl1 := hP.1
  have hl2 := hQ.1
  simp at hl1 hl2
  have hm : m ≤ 1000 := by have := hd.1; dsimp only at this; omega
  have hq : q ≤ 1000 := by have := hd.2; dsimp only at this; omega
  have hx := below_box w (descO z P m c' e Q q f)
  have h1 : Blk (w.alloc (descO z P m c' e Q q f)) w.heap.size 35 #[.int .i64 z, .slice P m c', .int .i64 e, .slice Q q f] := Blk.new _ _ _
  have hf0 : (∀ j, j < n → ds[j]? ≠ some (z, ps, e, es)) → kFind ds (z, ps, e, es) = 0 := fun h => kFind_zero.2 fun hm => by
    obtain ⟨k, hk, e'⟩ := List.getElem_of_mem hm
    exact h k (by rw [← hR.1]; exact hk) (by rw [← e']; exact List.getElem?_eq_getElem hk)
  have hf1 : ∀ k : Nat, (∀ j, j < k → ds[j]? ≠ some (z, ps, e, es)) → ds[k]? = some (z, ps, e, es) → kFind ds (z, ps, e, es) = k + 1 := fun k h1 h2 => kFind_first h2 h1
  generalize kFind ds (z, ps, e, es) = kf at *
  have HF0 := Lib.hid hf0
  have HF1 := Lib.hid hf1
  have HR := Lib.hid (hR.ext hx)
  have HS := Lib.hid hs
  have HP := Lib.hid (hP.ext hx)
  have HQ := Lib.hid (hQ.ext hx)
  have HB := Lib.hid hx
  have H1 := Lib.hid h1
  clear hf0 hf1 hR hs hP hQ hx h1 hl1 hl2 hd
  go_enter Tryz.func25, Tryz.ntmps25
  go_wp2
  generalize w.alloc (descO z P m c' e Q q f) = W0 at *
  go_loopw [6] (fun i wr => ∃ k : Nat, k ≤ n ∧ i = .int .i64 k ∧ (∀ j, j < k → ds[j]? ≠ some (z, ps, e, es)) ∧ Below W0.heap.size W0 wr) (fun i _ => n - (intOf i).toNat)
  case atStart => exact ⟨0, Nat.zero_le _, rfl, fun j h => absurd h (by omega), Below.refl _ _⟩
  case round =>
    obtain ⟨k, hk, rfl, hno, hb⟩ := hrel
    have HNO := Lib.hid hno
    have HW := Lib.hid hb
    clear hno hb
    by_cases hlt : k < n
    · obtain ⟨b1, o1, z1, P1, m1, c1, y1, Q1, q1, f1, ps1, es1, rfl, hd1, r1, r2, d0, d1, d2, d3⟩ := (HR.out.ext HW.out).get hlt
      have hsm := HS.out _ (List.mem_of_getElem? hd1)
      have l1 := r1.1
      have l2 := r2.1
      simp at l1 l2
      have hm1 : m1 ≤ 1000 := by have := hsm.1; dsimp only at this; omega
      have hq1 : q1 ≤ 1000 := by have := hsm.2; dsimp only at this; omega
      have h1 := H1.out.ext HW.out
      have t0 := fun y : Ext wr => ext_cell d0 y
      have t1 := fun y : Ext wr => ext_cell d1 y
      have t2 := fun y : Ext wr => ext_cell d2 y
      have t3 := fun y : Ext wr => ext_cell d3 y
      have u0 := fun y : Ext wr => ext_cell (h1.at_ (i := 0) rfl) y
      have u1 := fun y : Ext wr => ext_cell (h1.at_ (i := 1) rfl) y
      have u2 := fun y : Ext wr => ext_cell (h1.at_ (i := 2) rfl) y
      have u3 := fun y : Ext wr => ext_cell (h1.at_ (i := 3) rfl) y
      have hcall := fun y : Ext wr => rsame_any z1 y1 P1 Q1 m1 c1 q1 f1 ps1 es1 z e P Q m c' q f ps es y.val (r1.ext y.below) (r2.ext y.below) ((HP.out.ext HW.out).ext y.below) ((HQ.out.ext HW.out).ext y.below) hm1 hq1 hm hq
      obtain ⟨r, hr, hX⟩ : ∃ r, dSame z1 y1 ps1 es1 z e ps es = r ∧ (r = true ↔ ds[k]? = some (z, ps, e, es)) := ⟨_, rfl, by
        rw [show dSame z1 y1 ps1 es1 z e ps es = decide ((z1, ps1, y1, es1) = (z, ps, e, es)) from dSame_iff (z1, ps1, y1, es1) (z, ps, e, es), decide_eq_true_iff, hd1]
        exact ⟨fun h => by rw [h], fun h => Option.some.inj h⟩⟩
      rw [hr] at hcall
      have HC := Lib.hid hcall
      have HX := Lib.hid hX
      clear hcall hX hr r1 r2 hd1 hsm l1 l2 h1 d0 d1 d2 d3
      go_wp2
      refine wp_region_plan [(0, true), (1, true), (2, true), (3, true), (4, true), (5, true)] (by kernel_rfl) (by kernel_rfl) ?_
      repeat (first | (refine plan_skip rfl rfl ?_; go_frame) | (refine plan_soft rfl rfl (fun K hK => ?_); go_simp; first | (refine hK _ ?_; clear hK K) | (apply Exists.intro; refine ⟨fun x => ?_, hK _ ?_⟩; (· (exact HC.out x)); clear hK K; try go_frame)))
      refine plan_nil ?_; intro w1 h0b; have Hb1 := Lib.hid h0b; clear h0b
      clear t0 t1 t2 t3 u0 u1 u2 u3 HC
      cases r
      · have hno' : ds[k]? ≠ some (z, ps, e, es) := fun h => Bool.false_ne_true (HX.out.2 h)
        have HN2 := Lib.hid (show ∀ j, j < k + 1 → ds[j]? ≠ some (z, ps, e, es) from fun j hj => by
          by_cases ej : j = k
          · rw [ej]; exact hno'
          · exact HNO.out j (by omega))
        clear hno' HX
        go_wp2
        go_roundw
        case rel => exact ⟨k + 1, by omega, by go_num, HN2.out, below_le HW.out Hb1.out⟩
        case measure => simp [intOf]; omega
      · have hkf : kf = k + 1 := HF1.out k HNO.out (HX.out.1 rfl)
        subst hkf
        clear HX
        go_wp2
        go_ret2
        exact ⟨by simp, below_le (below_le HB.out HW.out) Hb1.out⟩
    · have hkf : kf = 0 := HF0.out fun j hj => HNO.out j (by omega)
      subst hkf
      go_wp2
      go_ret2
      exact ⟨by simp, below_le HB.out HW.out⟩

/-- Right till now. -/
def okK (l : List DscK) : Prop := (∀ d ∈ l, dR d = true) ∧ l.Nodup
theorem okK_snoc {l : List DscK} {d : DscK} : okK (l ++ [d]) ↔ okK l ∧ dR d = true ∧ d ∉ l := by
  constructor
  · rintro ⟨h1, h2⟩
    rw [List.nodup_append] at h2
    exact ⟨⟨fun x hx => h1 x (by simp [hx]), h2.1⟩, h1 d (by simp), fun hm => h2.2.2 d hm d (by simp) rfl⟩
  · rintro ⟨⟨h1, h2⟩, h3, h4⟩
    refine ⟨fun x hx => ?_, List.nodup_append.2 ⟨h2, by simp, fun x hx y hy e => ?_⟩⟩
    · rcases List.mem_append.1 hx with hx | hx
      · exact h1 x hx
      · rw [List.mem_singleton.1 hx]; exact h3
    · rw [List.mem_singleton.1 hy] at e
      exact h4 (e ▸ hx)
theorem okK_take {l : List DscK} (h : okK l) (k : Nat) : okK (l.take k) := ⟨fun d hd => h.1 d (List.mem_of_mem_take hd), h.2.sublist (List.take_sublist _ _)⟩

set_option maxRecDepth 100000 in
set_option maxHeartbeats 4000000 in
/-- Right. -/
theorem rkright_any (A : Option Addr) (n c : Nat) (ds : List DscK) (w : World) (hR : RowD w A n ds) (hs : Sm ds) (hn : n ≤ 1000) (hnc : n ≤ c) :
    Calls Tryz.prog 26 #[.slice A n c] w fun x w' => x = .returned (.bool (kRight ds)) ∧ Below w.heap.size w w' := by
  have hlen := hR.1
  have r0 : ∀ k d, ds[k]? = some d → ¬ (d ∉ ds.take k ∧ dR d = true) → kRight ds = false := fun k d h hb => by
    cases hk : kRight ds
    · rfl
    · have h1 := okK_take (l := ds) ⟨(kRight_iff.1 hk).2.1, (kRight_iff.1 hk).2.2⟩ (k + 1)
      rw [take_snoc h] at h1
      have h2 := okK_snoc.1 h1
      exact absurd ⟨h2.2.2, h2.2.1⟩ hb
  have r1 : okK ds → kRight ds = decide (n ≤ 60) := fun h => by
    unfold kRight
    rw [hlen, decide_eq_true h.2, List.all_eq_true.2 h.1]
    simp
  generalize kRight ds = r at *
  have HR := Lib.hid hR
  have HS := Lib.hid hs
  have R0 := Lib.hid r0
  have R1 := Lib.hid r1
  have HLEN := Lib.hid hlen
  clear hR hs r0 r1 hlen
  go_enter Tryz.func26, Tryz.ntmps26
  go_wp2
  go_loopw [3] (fun i wr => ∃ k : Nat, k ≤ n ∧ i = .int .i64 k ∧ okK (ds.take k) ∧ Below w.heap.size w wr) (fun i _ => n - (intOf i).toNat)
  case atStart => exact ⟨0, Nat.zero_le _, rfl, ⟨fun d h => by simp at h, by simp⟩, Below.refl _ _⟩
  case round =>
    obtain ⟨k, hk, rfl, hok, hb⟩ := hrel
    have HOK := Lib.hid hok
    have HW := Lib.hid hb
    clear hok hb
    by_cases hlt : k < n
    · obtain ⟨b1, o1, z1, P1, m1, c1, y1, Q1, q1, f1, ps1, es1, rfl, hd1, r1, r2, d0, d1, d2, d3⟩ := (HR.out.ext HW.out).get hlt
      have hsm := HS.out _ (List.mem_of_getElem? hd1)
      have l1 := r1.1
      have l2 := r2.1
      simp at l1 l2
      have hm1 : m1 ≤ 1000 := by have := hsm.1; dsimp only at this; omega
      have hq1 : q1 ≤ 1000 := by have := hsm.2; dsimp only at this; omega
      have t0 := fun y : Ext wr => ext_cell d0 y
      have t1 := fun y : Ext wr => ext_cell d1 y
      have t2 := fun y : Ext wr => ext_cell d2 y
      have t3 := fun y : Ext wr => ext_cell d3 y
      have hcall := fun y : Ext wr => rkfind_any (some ⟨b1, o1, none⟩) k c (ds.take k) (z1, ps1, y1, es1) P1 Q1 m1 c1 q1 f1 y.val (((HR.out.ext HW.out).ext y.below).take k (by omega)) (HS.out.take k) (by omega) (r1.ext y.below) (r2.ext y.below) hsm
      have hfz : kFind (ds.take k) (z1, ps1, y1, es1) = 0 ↔ (z1, ps1, y1, es1) ∉ ds.take k := kFind_zero
      have hright := fun W hb => rright_any z1 y1 P1 Q1 m1 c1 q1 f1 ps1 es1 W (r1.ext hb) (r2.ext hb) hm1 hq1
      have hno := fun h => R0.out k _ hd1 h
      have hyes : (z1, ps1, y1, es1) ∉ ds.take k → dRight z1 ps1 y1 es1 = true → okK (ds.take (k + 1)) := fun h1 h2 => by
        rw [take_snoc hd1]
        exact okK_snoc.2 ⟨HOK.out, h2, h1⟩
      rw [show dR (z1, ps1, y1, es1) = dRight z1 ps1 y1 es1 from rfl] at hno
      generalize kFind (ds.take k) (z1, ps1, y1, es1) = kf at *
      generalize dRight z1 ps1 y1 es1 = dr at *
      have HC := Lib.hid hcall
      have HFZ := Lib.hid hfz
      have HRI := Lib.hid hright
      have HNO := Lib.hid hno
      have HYES := Lib.hid hyes
      have hkc : k ≤ c := by omega
      clear hcall hfz hright hno hyes r1 r2 hd1 hsm l1 l2
      go_wp2
      refine wp_region_plan [(0, true), (1, true), (2, true), (3, true), (4, true), (5, true), (6, true), (7, true), (8, true), (9, true), (10, true), (11, true), (12, true)] (by kernel_rfl) (by kernel_rfl) ?_
      repeat (first | (refine plan_skip rfl rfl ?_; go_frame) | (refine plan_soft rfl rfl (fun K hK => ?_); go_simp; first | (refine hK _ ?_; clear hK K) | (apply Exists.intro; refine ⟨fun x => ?_, hK _ ?_⟩; (· (exact HC.out x)); clear hK K; try go_frame)))
      refine plan_nil ?_; intro w1 h0b; have Hb1 := Lib.hid h0b; clear h0b
      clear t0 t1 t2 t3 HC
      replace d0 := cell_ext Hb1.out d0
      replace d1 := cell_ext Hb1.out d1
      replace d2 := cell_ext Hb1.out d2
      replace d3 := cell_ext Hb1.out d3
      by_cases hf : 0 < kf
      · have hr : r = false := HNO.out fun h => by have := HFZ.out.2 h.1; omega
        subst hr
        rw [decide_eq_true hf]
        clear hf
        go_wp2
        go_ret
        exact ⟨rfl, below_le HW.out Hb1.out⟩
      · have hnm := HFZ.out.1 (by omega)
        rw [decide_eq_false hf]
        have HNM := Lib.hid hnm
        clear hf hnm
        go_wp2_with fail
        refine (HRI.out w1 Hb1.out).mono ?_
        rintro x w2 ⟨rfl, hb2⟩
        have HB2 := Lib.hid (below_le (below_le HW.out Hb1.out) hb2)
        clear hb2 d0 d1 d2 d3 HRI
        cases dr
        · have hr : r = false := HNO.out fun h => by cases h.2
          subst hr
          go_wp2
          go_ret
          exact ⟨rfl, HB2.out⟩
        · have HY := Lib.hid (HYES.out HNM.out rfl)
          clear HYES HNO
          go_wp2
          go_roundw
          case rel => exact ⟨k + 1, by omega, by go_num, HY.out, HB2.out⟩
          case measure => simp [intOf]; omega
    · have hr := R1.out (by have := HOK.out; rwa [List.take_of_length_le (by have := HLEN.out; omega)] at this)
      obtain rfl : k = n := by omega
      by_cases h60 : k ≤ 60
      · rw [decide_eq_true h60] at hr
        subst hr
        go_wp2
        go_ret
        exact ⟨by simp; omega, HW.out⟩
      · rw [decide_eq_false h60] at hr
        subst hr
        go_wp2
        go_ret
        exact ⟨by simp; omega, HW.out⟩

set_option maxRecDepth 100000 in
set_option maxHeartbeats 4000000 in
/-- Same. -/
theorem rksame_any (A B : Option Addr) (n c n2 c2 : Nat) (ds es : List DscK) (w : World) (hR : RowD w A n ds) (hR2 : RowD w B n2 es) (hs : Sm ds) (hs2 : Sm es) (hn : n ≤ 1000) :
    Calls Tryz.prog 16 #[.slice A n c, .slice B n2 c2] w fun x w' => x = .returned (.bool (decide (ds = es))) ∧ Below w.heap.size w w' := by
  have hlen := hR.1
  have hlen2 := hR2.1
  have r0 : n ≠ n2 → decide (ds = es) = false := fun h => decide_eq_false fun e => h (by rw [← hlen, ← hlen2, e])
  have r1 : ∀ k : Nat, ds[k]? ≠ es[k]? → decide (ds = es) = false := fun k h => decide_eq_false fun e => h (by rw [e])
  have r2 : n = n2 → (∀ j, j < n → ds[j]? = es[j]?) → decide (ds = es) = true := fun e h => decide_eq_true (List.ext_getElem? fun k => by
    by_cases hk : k < n
    · exact h k hk
    · rw [List.getElem?_eq_none (by omega), List.getElem?_eq_none (by omega)])
  generalize decide (ds = es) = r at *
  have HR := Lib.hid hR
  have HR2 := Lib.hid hR2
  have HS := Lib.hid hs
  have HS2 := Lib.hid hs2
  have R0 := Lib.hid r0
  have R1 := Lib.hid r1
  have R2 := Lib.hid r2
  clear hR hR2 hs hs2 r0 r1 r2 hlen hlen2
  by_cases hne : n = n2
  · subst hne
    have hni : ((n : Int) != (n : Int)) = false := by simp
    go_enter Tryz.func16, Tryz.ntmps16
    go_wp2
    go_loopw [5] (fun i wr => ∃ k : Nat, k ≤ n ∧ i = .int .i64 k ∧ (∀ j, j < k → ds[j]? = es[j]?) ∧ Below w.heap.size w wr) (fun i _ => n - (intOf i).toNat)
    case atStart => exact ⟨0, Nat.zero_le _, rfl, fun j h => absurd h (by omega), Below.refl _ _⟩
    case round =>
      obtain ⟨k, hk, rfl, hno, hb⟩ := hrel
      have HNO := Lib.hid hno
      have HW := Lib.hid hb
      clear hno hb
      by_cases hlt : k < n
      · obtain ⟨b1, o1, z1, P1, m1, c1, y1, Q1, q1, f1, ps1, es1, rfl, hd1, r1, r2, d0, d1, d2, d3⟩ := (HR.out.ext HW.out).get hlt
        obtain ⟨b3, o3, z, P, m, c', e, Q, q, f, ps, es', rfl, hd3, r3, r4, g0, g1, g2, g3⟩ := (HR2.out.ext HW.out).get hlt
        have hsm := HS.out _ (List.mem_of_getElem? hd1)
        have l1 := r1.1
        have l2 := r2.1
        simp at l1 l2
        have hm1 : m1 ≤ 1000 := by have := hsm.1; dsimp only at this; omega
        have hq1 : q1 ≤ 1000 := by have := hsm.2; dsimp only at this; omega
        have hsm2 := HS2.out _ (List.mem_of_getElem? hd3)
        have l3 := r3.1
        have l4 := r4.1
        simp at l3 l4
        have hm3 : m ≤ 1000 := by have := hsm2.1; dsimp only at this; omega
        have hq3 : q ≤ 1000 := by have := hsm2.2; dsimp only at this; omega
        have t0 := fun y : Ext wr => ext_cell d0 y
        have t1 := fun y : Ext wr => ext_cell d1 y
        have t2 := fun y : Ext wr => ext_cell d2 y
        have t3 := fun y : Ext wr => ext_cell d3 y
        have u0 := fun y : Ext wr => ext_cell g0 y
        have u1 := fun y : Ext wr => ext_cell g1 y
        have u2 := fun y : Ext wr => ext_cell g2 y
        have u3 := fun y : Ext wr => ext_cell g3 y
        have hcall := fun y : Ext wr => rsame_any z1 y1 P1 Q1 m1 c1 q1 f1 ps1 es1 z e P Q m c' q f ps es' y.val (r1.ext y.below) (r2.ext y.below) (r3.ext y.below) (r4.ext y.below) hm1 hq1 hm3 hq3
        obtain ⟨t, ht, hX⟩ : ∃ t, dSame z1 y1 ps1 es1 z e ps es' = t ∧ (t = true ↔ ds[k]? = es[k]?) := ⟨_, rfl, by
          rw [show dSame z1 y1 ps1 es1 z e ps es' = decide ((z1, ps1, y1, es1) = (z, ps, e, es')) from dSame_iff (z1, ps1, y1, es1) (z, ps, e, es'), decide_eq_true_iff, hd1, hd3]
          exact ⟨fun h => by rw [h], fun h => Option.some.inj h⟩⟩
        rw [ht] at hcall
        have HC := Lib.hid hcall
        have HX := Lib.hid hX
        clear hcall hX ht r1 r2 r3 r4 hd1 hd3 hsm hsm2 l1 l2 l3 l4 d0 d1 d2 d3 g0 g1 g2 g3
        go_wp2
        refine wp_region_plan [(0, true), (1, true), (2, true), (3, true), (4, true), (5, true), (6, true), (7, true), (8, true), (9, true)] (by kernel_rfl) (by kernel_rfl) ?_
        repeat (first | (refine plan_skip rfl rfl ?_; go_frame) | (refine plan_soft rfl rfl (fun K hK => ?_); go_simp; first | (refine hK _ ?_; clear hK K) | (apply Exists.intro; refine ⟨fun x => ?_, hK _ ?_⟩; (· (exact HC.out x)); clear hK K; try go_frame)))
        refine plan_nil ?_; intro w1 h0b; have Hb1 := Lib.hid h0b; clear h0b
        clear t0 t1 t2 t3 u0 u1 u2 u3 HC
        cases t
        · have hr : r = false := R1.out k fun h => Bool.false_ne_true (HX.out.2 h)
          subst hr
          clear HX
          go_wp2
          go_ret
          exact ⟨rfl, below_le HW.out Hb1.out⟩
        · have HN2 := Lib.hid (show ∀ j, j < k + 1 → ds[j]? = es[j]? from fun j hj => by
            by_cases ej : j = k
            · rw [ej]; exact HX.out.1 rfl
            · exact HNO.out j (by omega))
          clear HX
          go_wp2
          go_roundw
          case rel => exact ⟨k + 1, by omega, by go_num, HN2.out, below_le HW.out Hb1.out⟩
          case measure => simp [intOf]; omega
      · have hr : r = true := R2.out trivial fun j hj => HNO.out j (by omega)
        subst hr
        go_wp2
        go_ret
        exact ⟨rfl, HW.out⟩
  · have hr := R0.out hne
    subst hr
    have hni : ((n : Int) != (n2 : Int)) = true := bne_iff_ne.2 (by omega)
    have hni2 : ¬ (n : Int) = (n2 : Int) := by omega
    go_enter Tryz.func16, Tryz.ntmps16
    go_wp2
    go_ret
    exact ⟨rfl, Below.refl _ _⟩
end Go.Proofs.YtmabokmnniiadaaGreatDoor
namespace Go.Proofs.YtmabokmnniiadaaGreatDoor
open Go.RowKit

/-- Two blocks of descriptors. -/
def CloC (b b2 : Nat) (cs cs2 : Array Value) (x : World) : Prop := Blk x b 35 cs ∧ Blk x b2 35 cs2
theorem cloC_stays (b b2 : Nat) (cs cs2 : Array Value) : Stays (CloC b b2 cs cs2) := fun _ _ h hb => ⟨h.1.ext hb, h.2.ext hb⟩
theorem iv_one (l : List Int) : ∀ u ∈ l.map Iv, u.oneCell' = true := by
  intro u hu
  obtain ⟨x, -, rfl⟩ := List.mem_map.1 hu
  rfl
theorem below_none {w w' : World} (h : w.grownBy w' none) : Below w.heap.size w w' := ⟨h.os, h.tape, h.output, h.size, fun i hi => h.block i hi (by simp)⟩

/-- A descriptor of its own. -/
def GivesC (w : World) (d : DscK) (x : Ending) (w' : World) : Prop := ∃ md : MD, x = .returned (mdV md) ∧ FitsB w' md d ∧ Below w.heap.size w w'

set_option maxRecDepth 100000 in
set_option maxHeartbeats 4000000 in
/-- clone. -/
theorem rclone_any (z e : Int) (P Q : Option Addr) (m c q f : Nat) (ps es : List Int) (w : World) (hP : Row w P m (ps.map Iv)) (hQ : Row w Q q (es.map Iv)) (hm : m ≤ 1000) (hq : q ≤ 1000) :
    Calls Tryz.prog 48 #[descV z P m c e Q q f] w (GivesC w (z, ps, e, es)) := by
  obtain ⟨inf, hi, hi0, hi1, hi2⟩ := info_parts int_infoP
  have hb0 := below_le (below_box w (descO z P m c e Q q f)) (below_box _ (descO 0 none 0 0 0 none 0 0))
  have hbx : CloC w.heap.size (w.heap.size + 1) #[.int .i64 z, .slice P m c, .int .i64 e, .slice Q q f] #[.int .i64 0, .slice none 0 0, .int .i64 0, .slice none 0 0] ((w.alloc (descO z P m c e Q q f)).alloc (descO 0 none 0 0 0 none 0 0)) := ⟨Blk.alloc (Blk.new _ _ _) _, heap_new (by simp) _⟩
  have HP := Lib.hid (hP.ext hb0)
  have HQ := Lib.hid (hQ.ext hb0)
  have HB := Lib.hid hb0
  have hz0 : w.heap.size ≤ ((w.alloc (descO z P m c e Q q f)).alloc (descO 0 none 0 0 0 none 0 0)).heap.size := hb0.size
  clear hP hQ hb0
  go_enter Tryz.func48, Tryz.ntmps48
  go_wp2
  generalize (w.alloc (descO z P m c e Q q f)).alloc (descO 0 none 0 0 0 none 0 0) = W0 at *
  have hCst := cloC_stays w.heap.size (w.heap.size + 1) #[.int .i64 z, .slice P m c, .int .i64 e, .slice Q q f] #[.int .i64 0, .slice none 0 0, .int .i64 0, .slice none 0 0]
  have hNE : Nonempty (Of (CloC w.heap.size (w.heap.size + 1) #[.int .i64 z, .slice P m c, .int .i64 e, .slice Q q f] #[.int .i64 0, .slice none 0 0, .int .i64 0, .slice none 0 0])) := ⟨⟨W0, hbx⟩⟩
  have t0 := fun x : Of (CloC w.heap.size (w.heap.size + 1) #[.int .i64 z, .slice P m c, .int .i64 e, .slice Q q f] #[.int .i64 0, .slice none 0 0, .int .i64 0, .slice none 0 0]) => Blk.at_ (i := 0) x.ok.1 rfl
  have t1 := fun x : Of (CloC w.heap.size (w.heap.size + 1) #[.int .i64 z, .slice P m c, .int .i64 e, .slice Q q f] #[.int .i64 0, .slice none 0 0, .int .i64 0, .slice none 0 0]) => Blk.at_ (i := 1) x.ok.1 rfl
  have t2 := fun x : Of (CloC w.heap.size (w.heap.size + 1) #[.int .i64 z, .slice P m c, .int .i64 e, .slice Q q f] #[.int .i64 0, .slice none 0 0, .int .i64 0, .slice none 0 0]) => Blk.at_ (i := 2) x.ok.1 rfl
  have t3 := fun x : Of (CloC w.heap.size (w.heap.size + 1) #[.int .i64 z, .slice P m c, .int .i64 e, .slice Q q f] #[.int .i64 0, .slice none 0 0, .int .i64 0, .slice none 0 0]) => Blk.at_ (i := 3) x.ok.1 rfl
  refine wp_region_mixf (C := CloC w.heap.size (w.heap.size + 1) #[.int .i64 z, .slice P m c, .int .i64 e, .slice Q q f] #[.int .i64 0, .slice none 0 0, .int .i64 0, .slice none 0 0]) 11 hCst hbx (by kernel_rfl) ?_
  first | (refine mixf_skip 0 hCst rfl (by kernel_rfl) rfl ?_; go_frame) | (refine mixf_soft 0 hCst rfl (by kernel_rfl) rfl (fun K hK => ?_); go_simp; first | (refine hK _ ?_; clear hK K) | (apply Exists.intro; refine ⟨fun x => ?_, hK _ ?_⟩; (· (fail)); clear hK K; try go_frame))
  first | (refine mixf_skip 1 hCst rfl (by kernel_rfl) rfl ?_; go_frame) | (refine mixf_soft 1 hCst rfl (by kernel_rfl) rfl (fun K hK => ?_); go_simp; first | (refine hK _ ?_; clear hK K) | (apply Exists.intro; refine ⟨fun x => ?_, hK _ ?_⟩; (· (fail)); clear hK K; try go_frame))
  first | (refine mixf_skip 2 hCst rfl (by kernel_rfl) rfl ?_; go_frame) | (refine mixf_soft 2 hCst rfl (by kernel_rfl) rfl (fun K hK => ?_); go_simp; first | (refine hK _ ?_; clear hK K) | (apply Exists.intro; refine ⟨fun x => ?_, hK _ ?_⟩; (· (fail)); clear hK K; try go_frame))
  first | (refine mixf_skip 3 hCst rfl (by kernel_rfl) rfl ?_; go_frame) | (refine mixf_soft 3 hCst rfl (by kernel_rfl) rfl (fun K hK => ?_); go_simp; first | (refine hK _ ?_; clear hK K) | (apply Exists.intro; refine ⟨fun x => ?_, hK _ ?_⟩; (· (fail)); clear hK K; try go_frame))
  first | (refine mixf_skip 5 hCst rfl (by kernel_rfl) rfl ?_; go_frame) | (refine mixf_soft 5 hCst rfl (by kernel_rfl) rfl (fun K hK => ?_); go_simp; first | (refine hK _ ?_; clear hK K) | (apply Exists.intro; refine ⟨fun x => ?_, hK _ ?_⟩; (· (fail)); clear hK K; try go_frame))
  first | (refine mixf_skip 6 hCst rfl (by kernel_rfl) rfl ?_; go_frame) | (refine mixf_soft 6 hCst rfl (by kernel_rfl) rfl (fun K hK => ?_); go_simp; first | (refine hK _ ?_; clear hK K) | (apply Exists.intro; refine ⟨fun x => ?_, hK _ ?_⟩; (· (fail)); clear hK K; try go_frame))
  first | (refine mixf_skip 7 hCst rfl (by kernel_rfl) rfl ?_; go_frame) | (refine mixf_soft 7 hCst rfl (by kernel_rfl) rfl (fun K hK => ?_); go_simp; first | (refine hK _ ?_; clear hK K) | (apply Exists.intro; refine ⟨fun x => ?_, hK _ ?_⟩; (· (fail)); clear hK K; try go_frame))
  first | (refine mixf_skip 8 hCst rfl (by kernel_rfl) rfl ?_; go_frame) | (refine mixf_soft 8 hCst rfl (by kernel_rfl) rfl (fun K hK => ?_); go_simp; first | (refine hK _ ?_; clear hK K) | (apply Exists.intro; refine ⟨fun x => ?_, hK _ ?_⟩; (· (fail)); clear hK K; try go_frame))
  clear t0 t1 t2 t3
  refine mixf_one 4 (by decide) (by kernel_rfl) rfl rfl ?_
  intro w2 hb2 hC2 K hK
  refine wp_append_row w2 (.const (.slice none 0 0)) (.tmp 6) 33 rfl w.heap.size 3 inf (.int .i64 0) 8 Tryz.underlying33 hi hi0 hi1 hi2 rfl (.slice none 0 0) 0 [] rfl ⟨rfl, .inl ⟨rfl, rfl⟩⟩ P m c (ps.map Iv) rfl (HP.out.ext hb2) (iv_one _) (by unfold maxLen; omega) (by omega) (Nat.le_trans hz0 hb2.size) ?_
  intro v1 w3 hown1 hg1
  have hb3 : Below w2.heap.size w2 w3 := below_none hg1
  rw [Nat.zero_add, List.nil_append] at hown1
  obtain ⟨A1, c1, rfl, hr1, hf1⟩ := row_of_owns hown1
  have HR1 := Lib.hid hr1
  have HF1 := Lib.hid hf1
  have HN1 := Lib.hid (fun (X : World) (hX : Below w3.heap.size w3 X) => own_extD hX hown1)
  have HB3 := Lib.hid (below_le hb2 hb3)
  refine hK _ _ (hCst _ _ hC2 hb3) ?_
  clear hK K hb2 hC2 hown1 hg1 hb3 hr1 hf1
  try go_frame
  refine mixf_one 9 (by decide) (by kernel_rfl) rfl rfl ?_
  intro w4 hb4 hC4 K hK
  refine wp_append_row w4 (.const (.slice none 0 0)) (.tmp 11) 33 rfl w.heap.size 3 inf (.int .i64 0) 8 Tryz.underlying33 hi hi0 hi1 hi2 rfl (.slice none 0 0) 0 [] rfl ⟨rfl, .inl ⟨rfl, rfl⟩⟩ Q q f (es.map Iv) rfl ((HQ.out.ext HB3.out).ext hb4) (iv_one _) (by unfold maxLen; omega) (by omega) (Nat.le_trans hz0 (below_le HB3.out hb4).size) ?_
  intro v2 w5 hown2 hg2
  have hb5 : Below w4.heap.size w4 w5 := below_none hg2
  rw [Nat.zero_add, List.nil_append] at hown2
  obtain ⟨A2, c2, rfl, hr2, hf2⟩ := row_of_owns hown2
  have hb35 := below_le hb4 hb5
  have hbl1 := HN1.out _ hb35
  have HIN := Lib.hid (show ∀ b ∈ blkR A1 m ++ blkR A2 q, ∃ cs, Blk w5 b 3 cs from fun b hb => by
    rcases List.mem_append.1 hb with hb | hb
    · unfold blkR at hb
      split at hb
      · cases A1 with
        | none => simp [blkA] at hb
        | some a =>
          simp [blkA] at hb
          subst hb
          rcases hbl1.2 with ⟨he, _⟩ | ⟨g, cap, cur, he, _, hg, _⟩
          · cases he
          · cases he
            exact ⟨cur, hg⟩
      · simp at hb
    · unfold blkR at hb
      split at hb
      · cases A2 with
        | none => simp [blkA] at hb
        | some a =>
          simp [blkA] at hb
          subst hb
          rcases hown2.2 with ⟨he, _⟩ | ⟨g, cap, cur, he, _, hg, _⟩
          · cases he
          · cases he
            exact ⟨cur, hg⟩
      · simp at hb)
  have HI := Lib.hid (show ∀ b ∈ blkR A1 m ++ blkR A2 q, b ≠ w.heap.size + 1 from fun b hb e => by
    have hC5 := hCst _ _ hC4 hb5
    rcases List.mem_append.1 hb with hb | hb
    · unfold blkR at hb
      split at hb
      · cases A1 with
        | none => simp [blkA] at hb
        | some a =>
          simp [blkA] at hb
          exact own_neD hbl1 hC5.2 (by decide) (by rw [← e, hb]; rcases hbl1.2 with ⟨he, _⟩ | ⟨g, cap, cur, he, _⟩ <;> cases he; rfl)
      · simp at hb
    · unfold blkR at hb
      split at hb
      · cases A2 with
        | none => simp [blkA] at hb
        | some a =>
          simp [blkA] at hb
          exact own_neD hown2 hC5.2 (by decide) (by rw [← e, hb]; rcases hown2.2 with ⟨he, _⟩ | ⟨g, cap, cur, he, _⟩ <;> cases he; rfl)
      · simp at hb)
  have HR2 := Lib.hid hr2
  have HF2 := Lib.hid hf2
  replace HR1 := Lib.hid (HR1.out.ext hb35)
  have HB5 := Lib.hid (below_le HB3.out hb35)
  refine hK _ _ (hCst _ _ hC4 hb5) ?_
  clear hK K hb4 hC4 hown2 hg2 hb5 hr2 hf2 hb35 hbl1 HN1 HB3
  try go_frame
  refine mixf_one 10 (by decide) (by kernel_rfl) rfl rfl ?_
  intro w6 hb6 hC6 K hK
  go_simp
  refine hK _ _ hC6 ?_
  clear hK K hC6
  try go_frame
  refine mixf_z 11 (by kernel_rfl) rfl rfl ?_
  intro w7 hb7 hC7 K hK
  replace hb7 := below_le hb6 hb7
  have h2 := hC7.2
  have c0 := h2.at_ (i := 0) rfl
  have c1' := h2.at_ (i := 1) rfl
  have c2' := h2.at_ (i := 2) rfl
  have c3 := h2.at_ (i := 3) rfl
  have f0 := h2.frozen 0
  have f1 := h2.frozen 1
  have f2 := h2.frozen 2
  have f3 := h2.frozen 3
  have h9 := h2.set4 (.int .i64 z) (.slice A1 m c1) (.int .i64 e) (.slice A2 q c2)
  have hB9 := below_set4 (below_le HB.out (below_le HB5.out hb7)) (show w.heap.size ≤ w.heap.size + 1 by omega) (.int .i64 z) (.slice A1 m c1) (.int .i64 e) (.slice A2 q c2)
  have hk : KeepB (blkR A1 m ++ blkR A2 q) w7 ((((w7.setCell ⟨w.heap.size + 1, 0, none⟩ (.int .i64 z)).setCell ⟨w.heap.size + 1, 1, none⟩ (.slice A1 m c1)).setCell ⟨w.heap.size + 1, 2, none⟩ (.int .i64 e)).setCell ⟨w.heap.size + 1, 3, none⟩ (.slice A2 q c2)) := fun b hb => heap_set4 w7 (HI.out b hb) _ _ _ _
  have hrr1 := hk.rowR (HR1.out.ext hb7) (fun b hb => List.mem_append_left _ hb)
  have hrr2 := hk.rowR (HR2.out.ext hb7) (fun b hb => List.mem_append_right _ hb)
  have HIN9 := Lib.hid (show ∀ b ∈ blkR A1 m ++ blkR A2 q, ∃ cs, Blk ((((w7.setCell ⟨w.heap.size + 1, 0, none⟩ (.int .i64 z)).setCell ⟨w.heap.size + 1, 1, none⟩ (.slice A1 m c1)).setCell ⟨w.heap.size + 1, 2, none⟩ (.int .i64 e)).setCell ⟨w.heap.size + 1, 3, none⟩ (.slice A2 q c2)) b 3 cs from fun b hb => by
    obtain ⟨cs, hcs⟩ := HIN.out b hb
    exact ⟨cs, hk.blk hb (hcs.ext hb7)⟩)
  have H9 := Lib.hid h9
  have HB9 := Lib.hid hB9
  have HX1 := Lib.hid hrr1
  have HX2 := Lib.hid hrr2
  clear h9 hB9 hk hrr1 hrr2 hb7 hb6 hC7 h2 HI HIN HR1 HR2 HB5 hCst hNE hbx
  go_simp
  refine hK _ _ ?_
  clear hK K c0 c1' c2' c3 f0 f1 f2 f3
  generalize (((w7.setCell ⟨w.heap.size + 1, 0, none⟩ (.int .i64 z)).setCell ⟨w.heap.size + 1, 1, none⟩ (.slice A1 m c1)).setCell ⟨w.heap.size + 1, 2, none⟩ (.int .i64 e)).setCell ⟨w.heap.size + 1, 3, none⟩ (.slice A2 q c2) = W9 at *
  refine rest_nil (by kernel_rfl) fun w10 hb10 => ?_
  have h9 := H9.out.ext hb10
  have q0 := h9.at_ (i := 0) rfl
  have q1 := h9.at_ (i := 1) rfl
  have q2 := h9.at_ (i := 2) rfl
  have q3 := h9.at_ (i := 3) rfl
  have HE : Hid (GivesC w (z, ps, e, es) (.returned (descV z A1 m c1 e A2 q c2)) w10) := Lib.hid ⟨(z, (A1, m, c1), e, (A2, q, c2)), rfl, ⟨⟨rfl, rfl, HX1.out.ext hb10, HX2.out.ext hb10⟩, fun b hb => (HIN9.out b hb).imp fun _ h => h.ext hb10⟩, below_le HB9.out hb10⟩
  clear h9 hb10 H9 HX1 HX2 HF1 HF2 HB9 HIN9
  go_wp2
  exact bodyPost_ret (v := descV z A1 m c1 e A2 q c2) (by simp [results, Tryz.results48, go_sem, q0, q1, q2, q3]) rfl HE.out

/-- A list of descriptors that the call owns, its lists in blocks of their own. -/
def OList (w : World) (base : Nat) (v : Value) (k : Nat) (L : List DscK) : Prop :=
  ∃ ms, w.ownsRow base 35 4 v k (cellsD ms) ∧ ms.length = k ∧ ∀ (j : Nat) (d : MD) (x : DscK), ms[j]? = some d → L[j]? = some x → FitsB w d x
theorem OList.ext {w w' : World} {base k : Nat} {v : Value} {L : List DscK} (hb : Below w.heap.size w w') (h : OList w base v k L) : OList w' base v k L := by
  obtain ⟨ms, h1, h2, h4⟩ := h
  exact ⟨ms, own_extD hb h1, h2, fun j d x a b => (h4 j d x a b).ext hb⟩
theorem OList.nil (w : World) (base : Nat) (L : List DscK) : OList w base (.slice none 0 0) 0 L := ⟨[], ⟨rfl, .inl ⟨rfl, rfl⟩⟩, rfl, fun j d x h => by simp at h⟩
theorem OList.row {w : World} {base k : Nat} {v : Value} {L : List DscK} (h : OList w base v k L) (hk : L.length = k) : ∃ A c, v = .slice A k c ∧ RowD w A k L ∧ (∀ a, A = some a → base ≤ a.block) := by
  obtain ⟨ms, h1, h2, h3⟩ := h
  obtain ⟨A, c, e, hr, -, hf⟩ := rowD_of_owns (ds := L) h1 (by omega) (fun j d x a b => (h3 j d x a b).1)
  exact ⟨A, c, e, hr, hf⟩
/-- A list of its own. -/
def GivesOwn (w : World) (L : List DscK) (x : Ending) (w' : World) : Prop := ∃ v, x = .returned v ∧ OList w' w.heap.size v L.length L ∧ Below w.heap.size w w'

set_option maxRecDepth 100000 in
set_option maxHeartbeats 4000000 in
/-- own. -/
theorem rown_any (A : Option Addr) (n c : Nat) (ds : List DscK) (w : World) (hR : RowD w A n ds) (hs : Sm ds) (hn : n ≤ 1000) :
    Calls Tryz.prog 47 #[.slice A n c] w (GivesOwn w ds) := by
  obtain ⟨inf, hi, hi0, hi1, hi2⟩ := info_parts desc_info
  have hlen := hR.1
  have HR := Lib.hid hR
  have HS := Lib.hid hs
  have HLEN := Lib.hid hlen
  clear hR hs hlen
  go_enter Tryz.func47, Tryz.ntmps47
  go_wp2
  go_loopw [3, 4] (fun v i wr => ∃ k : Nat, k ≤ n ∧ i = .int .i64 k ∧ OList wr w.heap.size v k ds ∧ Below w.heap.size w wr) (fun _ i _ => n - (intOf i).toNat)
  case atStart => exact ⟨0, Nat.zero_le _, rfl, OList.nil _ _ _, Below.refl _ _⟩
  case round =>
    obtain ⟨k, hk, rfl, hO, hb⟩ := hrel
    by_cases hlt : k < n
    · obtain ⟨b, off, z, P, p, cp, e, Q, q, f, ps, es, rfl, hd, r1, r2, d0, d1, d2, d3⟩ := (HR.out.ext hb).get hlt
      have hsm := HS.out _ (List.mem_of_getElem? hd)
      have l1 := r1.1
      have l2 := r2.1
      simp at l1 l2
      have hp : p ≤ 1000 := by have := hsm.1; dsimp only at this; omega
      have hq : q ≤ 1000 := by have := hsm.2; dsimp only at this; omega
      have hcl := rclone_any z e P Q p cp q f ps es wr r1 r2 hp hq
      have HCL := Lib.hid hcl
      have HO := Lib.hid hO
      have HB := Lib.hid hb
      have HD := Lib.hid hd
      obtain ⟨ms, hown, -⟩ := hO
      obtain ⟨av, cv, rfl⟩ := own_shape hown
      clear hcl hb hd r1 r2 hsm l1 l2 hown
      go_wp2_with fail
      refine HCL.out.mono ?_
      rintro x w2 ⟨⟨z2, ⟨P2, p2, c2⟩, e2, Q2, q2, f2⟩, rfl, hfb, hb2⟩
      obtain ⟨ms, hown, hml, hfit⟩ := HO.out.ext hb2
      have HO2 := Lib.hid hown
      have HML := Lib.hid hml
      have HFIT := Lib.hid hfit
      have HFB := Lib.hid hfb
      have HB2 := Lib.hid (below_le HB.out hb2)
      clear hown hml hfit hfb hb2 HCL HO d0 d1 d2 d3
      simp only [mdV]
      go_wp2_with (at_builtin; refine stop_hereK ?_)
      intro _
      refine wpList_pushD (w0 := w) w2 rfl (.tmp 11) (.tmp 17) 22 rfl w.heap.size 35 inf (.agg #[.int .i64 0, .slice none 0 0, .int .i64 0, .slice none 0 0]) 64 Tryz.underlying22 hi hi0 hi1 hi2 rfl (.slice av k cv) k ms rfl HO2.out
        (z2, (P2, p2, c2), e2, (Q2, q2, f2)) rfl (by unfold maxLen; omega) (by omega) (Nat.le_refl _) HB2.out.size HB2.out (fun k e => own_baseD HO2.out e) ?_
      intro v' w3 hown3 hb3 hk3
      have hJ := JList.push HO2.out HML.out HFIT.out (by have := HLEN.out; omega) HD.out HFB.out hown3 hk3
      have HJ : Hid (OList w3 w.heap.size v' (k + 1) ds) := Lib.hid (by obtain ⟨ms', h1, h2, -, h4⟩ := hJ; exact ⟨ms', h1, h2, h4⟩)
      have HB3 := Lib.hid hb3
      clear hown3 hb3 hk3 hJ HO2 HML HFIT HFB HB2 HB HD
      go_wp2
      go_roundw
      case rel => exact ⟨k + 1, by omega, by go_num, HJ.out, HB3.out⟩
      case measure => simp [intOf]; omega
    · obtain rfl : k = n := by omega
      have HO := Lib.hid hO
      have HB := Lib.hid hb
      obtain ⟨ms, hown, -⟩ := hO
      obtain ⟨av, cv, rfl⟩ := own_shape hown
      clear hb hown
      go_wp2
      go_ret
      exact ⟨_, rfl, by rw [HLEN.out]; exact HO.out, HB.out⟩
end Go.Proofs.YtmabokmnniiadaaGreatDoor
namespace Go.Proofs.YtmabokmnniiadaaGreatDoor
open Go.RowKit

theorem OList.more {w : World} {base k : Nat} {v : Value} {L : List DscK} (h : OList w base v k L) (hk : L.length = k) (R : List DscK) : OList w base v k (L ++ R) := by
  obtain ⟨ms, h1, h2, h3⟩ := h
  refine ⟨ms, h1, h2, fun j d x a b => h3 j d x a ?_⟩
  have hj := (List.getElem?_eq_some_iff.1 a).1
  rwa [List.getElem?_append_left (by omega)] at b
/-- append of one descriptor, as an operation. -/
theorem wp_pushO {P : Program} {o : Oper} {a : Act} {K : Act → World → Prop} {Q : Exit → Act → World → Prop} (w : World) (s x : Operand)
    (ho : o.op = .call { callee := .builtin .append, args := #[s, x], argTypes := #[22, 22] })
    (base : Nat) (inf : TypeInfo) (ht : P.underlying 22 = some (.slice 35)) (hi : P.info? 35 = some inf) (hi0 : inf.zero = some (.agg #[.int .i64 0, .slice none 0 0, .int .i64 0, .slice none 0 0])) (hi1 : inf.size = 4) (hi2 : inf.bytes = 64)
    (v : Value) (n : Nat) (L : List DscK) (hs : a.eval s = v) (hO : OList w base v n L) (b : Nat) (d : MD) (y : DscK) (hx : a.eval x = .slice (some ⟨b, 0, none⟩) 1 1) (hblk : Blk w b 35 (cells4 d).toArray) (hd : FitsB w d y) (hy : L[n]? = some y) (hn : n ≤ 1000) (hbase : base ≤ w.heap.size)
    (h : ∀ v' w', OList w' base v' (n + 1) L → Below base w w' → K (a.put o.dst v') w') : o.wp P a w K Q := by
  obtain ⟨ms, hown, hml, hf⟩ := hO
  refine wp_appendD w s x 22 ho base 35 inf _ 64 ht hi hi0 hi1 hi2 rfl v n ms hs hown b d hx hblk (by unfold maxLen; omega) (by omega) hbase fun v' w' hown' hg _ => ?_
  have hJ := JList.push hown hml hf (List.getElem?_eq_some_iff.1 hy).1 hy hd hown' (fun b hb hne => hg.block b hb hne)
  refine h v' w' ?_ ((Below.refl base w).grown hg hbase (fun k e => own_baseD hown e))
  obtain ⟨ms', h1, h2, -, h4⟩ := hJ
  exact ⟨ms', h1, h2, h4⟩

set_option maxRecDepth 100000 in
set_option maxHeartbeats 4000000 in
/-- Add. -/
theorem radd_any (A : Option Addr) (n c : Nat) (ds : List DscK) (d : DscK) (P Q : Option Addr) (m c' q f : Nat) (w : World) (hR : RowD w A n ds) (hs : Sm ds) (hn : n ≤ 1000) (hnc : n ≤ c) (hP : Row w P m (d.2.1.map Iv)) (hQ : Row w Q q (d.2.2.2.map Iv)) (hd : sm1 d) :
    Calls Tryz.prog 23 #[.slice A n c, descV d.1 P m c' d.2.2.1 Q q f] w (GivesK w (kAdd ds d)) := by
  obtain ⟨inf, hi, hi0, hi1, hi2⟩ := info_parts desc_info
  obtain ⟨z, ps, e, es⟩ := d
  dsimp only at hP hQ ⊢
  have hlen := hR.1
  have hl1 := hP.1
  have hl2 := hQ.1
  simp at hl1 hl2
  have hm : m ≤ 1000 := by have := hd.1; dsimp only at this; omega
  have hq : q ≤ 1000 := by have := hd.2; dsimp only at this; omega
  have hx := below_box w (descO z P m c' e Q q f)
  have h1 : Blk (w.alloc (descO z P m c' e Q q f)) w.heap.size 35 #[.int .i64 z, .slice P m c', .int .i64 e, .slice Q q f] := Blk.new _ _ _
  have r1 : kRight ds = false → kAdd ds (z, ps, e, es) = ([], 0, 50) := fun h => by unfold kAdd; rw [if_pos h]
  have r2 : kRight ds = true → dRight z ps e es = false → kAdd ds (z, ps, e, es) = ([], 0, 40) := fun h h2 => by unfold kAdd; rw [if_neg (by rw [h]; simp), if_pos (show dR (z, ps, e, es) = false from h2)]
  have r3 : kRight ds = true → dRight z ps e es = true → 0 < kFind ds (z, ps, e, es) → kAdd ds (z, ps, e, es) = (ds, kFind ds (z, ps, e, es), 0) := fun h h2 h3 => by unfold kAdd; rw [if_neg (by rw [h]; simp), if_neg (by rw [show dR (z, ps, e, es) = true from h2]; simp), if_pos (by omega)]
  have r4 : kRight ds = true → dRight z ps e es = true → ¬ 0 < kFind ds (z, ps, e, es) → n = 60 → kAdd ds (z, ps, e, es) = ([], 0, 53) := fun h h2 h3 h4 => by unfold kAdd; rw [if_neg (by rw [h]; simp), if_neg (by rw [show dR (z, ps, e, es) = true from h2]; simp), if_neg (by omega), if_pos (by omega)]
  have r5 : kRight ds = true → dRight z ps e es = true → ¬ 0 < kFind ds (z, ps, e, es) → ¬ n = 60 → kAdd ds (z, ps, e, es) = (ds ++ [(z, ps, e, es)], n + 1, 0) := fun h h2 h3 h4 => by
    have := (kRight_iff.1 h).1
    unfold kAdd
    rw [if_neg (by rw [h]; simp), if_neg (by rw [show dR (z, ps, e, es) = true from h2]; simp), if_neg (by omega), if_neg (by omega), hlen]
  have hkr := rkright_any A n c ds (w.alloc (descO z P m c' e Q q f)) (hR.ext hx) hs hn hnc
  have hright := fun w1 h1 h2 => rright_any z e P Q m c' q f ps es w1 h1 h2 hm hq
  have hfind := fun w1 h0 h1 h2 => rkfind_any A n c ds (z, ps, e, es) P Q m c' q f w1 h0 hs hn h1 h2 hd
  have hown := fun w1 h0 => rown_any A n c ds w1 h0 hs hn
  have hclo := fun w1 h1 h2 => rclone_any z e P Q m c' q f ps es w1 h1 h2 hm hq
  generalize kAdd ds (z, ps, e, es) = r at *
  generalize kFind ds (z, ps, e, es) = kf at *
  generalize dRight z ps e es = rt at *
  generalize kRight ds = kr at *
  have R1 := Lib.hid r1
  have R2 := Lib.hid r2
  have R3 := Lib.hid r3
  have R4 := Lib.hid r4
  have R5 := Lib.hid r5
  have HKR := Lib.hid hkr
  have HRI := Lib.hid hright
  have HFI := Lib.hid hfind
  have HOW := Lib.hid hown
  have HCL := Lib.hid hclo
  have HLEN := Lib.hid hlen
  have HR := Lib.hid (hR.ext hx)
  have HP := Lib.hid (hP.ext hx)
  have HQ := Lib.hid (hQ.ext hx)
  have HB := Lib.hid hx
  have H1 := Lib.hid h1
  clear r1 r2 r3 r4 r5 hkr hright hfind hown hclo hR hP hQ hx h1 hlen hl1 hl2 hd hs
  go_enter Tryz.func23, Tryz.ntmps23
  go_wp2_with fail
  generalize w.alloc (descO z P m c' e Q q f) = W0 at *
  refine HKR.out.mono ?_
  rintro x w1 ⟨rfl, hb1⟩
  replace HR := Lib.hid (HR.out.ext hb1)
  replace HP := Lib.hid (HP.out.ext hb1)
  replace HQ := Lib.hid (HQ.out.ext hb1)
  replace H1 := Lib.hid (H1.out.ext hb1)
  replace HB := Lib.hid (below_le HB.out hb1)
  clear hb1 HKR
  cases kr
  · obtain rfl := R1.out rfl
    clear R1 R2 R3 R4 R5 HOW HCL HFI HRI
    go_wp2
    go_ret3
    exact GivesK.none_ 0 50 HB.out
  · have a0 := H1.out.at_ (i := 0) rfl
    have a1 := H1.out.at_ (i := 1) rfl
    have a2 := H1.out.at_ (i := 2) rfl
    have a3 := H1.out.at_ (i := 3) rfl
    go_wp2_with fail
    refine (HRI.out w1 HP.out HQ.out).mono ?_
    rintro x w2 ⟨rfl, hb2⟩
    replace a0 := cell_ext hb2 a0; replace a1 := cell_ext hb2 a1; replace a2 := cell_ext hb2 a2; replace a3 := cell_ext hb2 a3; replace HR := Lib.hid (HR.out.ext hb2); replace HP := Lib.hid (HP.out.ext hb2); replace HQ := Lib.hid (HQ.out.ext hb2)
    replace HB := Lib.hid (below_le HB.out hb2)
    clear hb2 HRI H1
    cases rt
    · obtain rfl := R2.out trivial rfl
      clear R1 R2 R3 R4 R5 HOW HCL HFI
      go_wp2
      go_ret3
      exact GivesK.none_ 0 40 HB.out
    · go_wp2_with fail
      refine (HFI.out w2 HR.out HP.out HQ.out).mono ?_
      rintro x w3 ⟨rfl, hb3⟩
      replace a0 := cell_ext hb3 a0; replace a1 := cell_ext hb3 a1; replace a2 := cell_ext hb3 a2; replace a3 := cell_ext hb3 a3; replace HR := Lib.hid (HR.out.ext hb3); replace HP := Lib.hid (HP.out.ext hb3); replace HQ := Lib.hid (HQ.out.ext hb3)
      replace HB := Lib.hid (below_le HB.out hb3)
      clear hb3 HFI
      by_cases hf : 0 < kf
      · obtain rfl := R3.out trivial trivial hf
        rw [decide_eq_true hf]
        clear R1 R2 R3 R4 R5 HCL hf
        go_wp2_with fail
        refine (HOW.out w3 HR.out).mono ?_
        rintro x w4 ⟨v, rfl, hO, hb4⟩
        rw [HLEN.out] at hO
        obtain ⟨B, bc, rfl, hB, hfar⟩ := hO.row HLEN.out
        have HF := Lib.hid (show ∀ a, B = some a → w.heap.size ≤ a.block from fun a e => Nat.le_trans HB.out.size (hfar a e))
        have HBR := Lib.hid hB
        replace HB := Lib.hid (below_le HB.out hb4)
        clear hb4 hB hfar hO HOW
        go_wp2
        go_ret3
        exact ⟨B, n, bc, rfl, HBR.out, HF.out, HB.out⟩
      · rw [decide_eq_false hf]
        by_cases h60 : n = 60
        · obtain rfl := R4.out trivial trivial hf h60
          subst h60
          clear R1 R2 R3 R4 R5 HOW HCL hf
          go_wp2
          go_ret3
          exact GivesK.none_ 0 53 HB.out
        · obtain rfl := R5.out trivial trivial hf h60
          have hne : ((n : Int) == 60) = false := beq_eq_false_iff_ne.2 (by omega)
          have hne2 : ¬ (n : Int) = 60 := by omega
          clear R1 R2 R3 R4 R5 hf h60
          go_wp2
          have t0 := ext_cell a0
          have t1 := ext_cell a1
          have t2 := ext_cell a2
          have t3 := ext_cell a3
          refine wp_region_mix (by kernel_rfl) ?_
          first | (refine mix_skip 0 rfl (by kernel_rfl) rfl ?_; go_frame) | (refine mix_soft 0 rfl (by kernel_rfl) rfl (fun K hK => ?_); go_simp; first | (refine hK _ ?_; clear hK K) | (apply Exists.intro; refine ⟨fun x => ?_, hK _ ?_⟩; (· (fail)); clear hK K; try go_frame))
          first | (refine mix_skip 2 rfl (by kernel_rfl) rfl ?_; go_frame) | (refine mix_soft 2 rfl (by kernel_rfl) rfl (fun K hK => ?_); go_simp; first | (refine hK _ ?_; clear hK K) | (apply Exists.intro; refine ⟨fun x => ?_, hK _ ?_⟩; (· (fail)); clear hK K; try go_frame))
          first | (refine mix_skip 6 rfl (by kernel_rfl) rfl ?_; go_frame) | (refine mix_soft 6 rfl (by kernel_rfl) rfl (fun K hK => ?_); go_simp; first | (refine hK _ ?_; clear hK K) | (apply Exists.intro; refine ⟨fun x => ?_, hK _ ?_⟩; (· (fail)); clear hK K; try go_frame))
          first | (refine mix_skip 7 rfl (by kernel_rfl) rfl ?_; go_frame) | (refine mix_soft 7 rfl (by kernel_rfl) rfl (fun K hK => ?_); go_simp; first | (refine hK _ ?_; clear hK K) | (apply Exists.intro; refine ⟨fun x => ?_, hK _ ?_⟩; (· (fail)); clear hK K; try go_frame))
          first | (refine mix_skip 8 rfl (by kernel_rfl) rfl ?_; go_frame) | (refine mix_soft 8 rfl (by kernel_rfl) rfl (fun K hK => ?_); go_simp; first | (refine hK _ ?_; clear hK K) | (apply Exists.intro; refine ⟨fun x => ?_, hK _ ?_⟩; (· (fail)); clear hK K; try go_frame))
          clear t0 t1 t2 t3 a0 a1 a2 a3
          refine mix_one 1 (by kernel_rfl) ?_
          refine mix_now rfl rfl ?_; intro w4 hb_ hB_ K hK
          go_simp
          refine (HOW.out w4 (HR.out.ext hB_)).mono ?_
          rintro x w5 ⟨v, rfl, hO, hb5⟩
          rw [HLEN.out] at hO
          have hO2 := hO.more HLEN.out [(z, ps, e, es)]
          have HSZ := Lib.hid hB_.size
          have HO := Lib.hid hO2
          have HB5 := Lib.hid (below_le hB_ hb5)
          have HW4 := Lib.hid hb5.size
          refine hK _ _ (below_le hB_ hb5) ?_
          clear hK K hb_ hB_ hO hO2 hb5 HOW
          try go_frame
          refine mix_one 3 (by kernel_rfl) ?_
          refine mix_now rfl rfl ?_; intro w6 hb_ hB_ K hK
          go_simp
          refine (HCL.out w6 (HP.out.ext hB_) (HQ.out.ext hB_)).mono ?_
          rintro x w7 ⟨md, rfl, hfb, hb7⟩
          have HFB := Lib.hid hfb
          replace HO := Lib.hid (HO.out.ext (below_le hb_ hb7))
          have HB7 := Lib.hid (below_le hB_ hb7)
          have HSZ7 := Lib.hid (below_le hb_ hb7).size
          refine hK _ _ (below_le hB_ hb7) ?_
          clear hK K hb_ hB_ hfb hb7 HCL
          obtain ⟨z2, ⟨P2, p2, c2⟩, e2, Q2, q2, f2⟩ := md
          simp only [mdV]
          try go_frame
          refine mix_one 4 (by kernel_rfl) ?_
          refine mix_now rfl rfl ?_; intro w8 hb_ hB_ K hK
          go_simp
          have hx := below_box w8 (descO z2 P2 p2 c2 e2 Q2 q2 f2)
          have hn8 : Blk (w8.alloc (descO z2 P2 p2 c2 e2 Q2 q2 f2)) w8.heap.size 35 (cells4 (z2, (P2, p2, c2), e2, (Q2, q2, f2))).toArray := Blk.new _ _ _
          have HN8 := Lib.hid hn8
          replace HO := Lib.hid ((HO.out.ext hb_).ext hx)
          replace HFB := Lib.hid ((HFB.out.ext hb_).ext hx)
          have HSZ8 := Lib.hid (below_le hb_ hx).size
          refine hK _ _ (below_le hB_ hx) ?_
          clear hK K hb_ hB_ hx hn8
          generalize w8.alloc (descO z2 P2 p2 c2 e2 Q2 q2 f2) = W8 at *
          try go_frame
          refine mix_one 5 (by kernel_rfl) ?_
          refine mix_now rfl rfl ?_; intro w9 hb_ hB_ K hK
          refine wp_pushO w9 (.tmp 29) (.tmp 32) rfl w4.heap.size inf Tryz.underlying22 hi hi0 hi1 hi2 v n (ds ++ [(z, ps, e, es)]) rfl (HO.out.ext hb_) w8.heap.size (z2, (P2, p2, c2), e2, (Q2, q2, f2)) (z, ps, e, es) rfl (HN8.out.ext hb_) (HFB.out.ext hb_) (by rw [List.getElem?_append_right (by rw [HLEN.out]; exact Nat.le_refl _), HLEN.out]; simp) hn (by have h1 := HW4.out; have h2 := HSZ7.out; have h3 := HSZ8.out; have h4 := hb_.size; omega) fun v' w10 hO10 hb10 => ?_
          have hB10 := hB_.trans (hb10.mono HSZ.out)
          have HO10 := Lib.hid hO10
          refine hK _ _ hB10 ?_
          clear hK K hb_ hB_ hb10 hB10 hO10 HO HFB HN8
          obtain ⟨A3, c3, rfl, hr3, hf3⟩ := HO10.out.row (by rw [List.length_append, HLEN.out]; rfl)
          have HR3 := Lib.hid hr3
          have HF3 := Lib.hid hf3
          clear hr3 hf3 HO10
          try go_frame
          refine mix_one 9 (by kernel_rfl) ?_
          refine mix_now rfl rfl ?_; intro w11 hb_ hB_ K hK; go_simp
          refine hK _ _ hB_ ?_
          replace HR3 := Lib.hid (HR3.out.ext hb_)
          clear hK K hb_ hB_
          try go_frame
          refine mix_one 10 (by kernel_rfl) ?_
          refine mix_now rfl rfl ?_; intro w12 hb_ hB_ K hK; go_simp
          refine hK _ _ hB_ ?_
          replace HR3 := Lib.hid (HR3.out.ext hb_)
          clear hK K hb_ hB_
          try go_frame
          refine mix_one 11 (by kernel_rfl) ?_
          refine mix_now rfl rfl ?_; intro w13 hb_ hB_ K hK; go_simp
          refine hK _ _ hB_ ?_
          replace HR3 := Lib.hid (HR3.out.ext hb_)
          clear hK K hb_ hB_
          try go_frame
          refine mix_nil (by kernel_rfl) fun w14 hb14 hB14 => ?_
          have HR14 := Lib.hid (HR3.out.ext hb14)
          have HBB := Lib.hid (below_le HB.out hB14)
          have HF := Lib.hid (show ∀ a, A3 = some a → w.heap.size ≤ a.block from fun a e => by
            have h1 := HF3.out a e
            have h2 := HSZ.out
            have h3 := HB.out.size
            omega)
          clear hb14 hB14 HR3 HF3
          go_wp2
          go_ret3
          have hw : IntKind.i64.wrap ((n : Int) + 1) = (n : Int) + 1 := IntWalk.i64_in _ (by omega)
          exact ⟨A3, n + 1, c3, by simp [hw], HR14.out, HF.out, HBB.out⟩

set_option maxRecDepth 100000 in
set_option maxHeartbeats 4000000 in
/-- Of. -/
theorem rof_any (A : Option Addr) (n c : Nat) (ds : List DscK) (kind : Int) (w : World) (hR : RowD w A n ds) (hs : Sm ds) (hn : n ≤ 1000) (hnc : n ≤ c) :
    Calls Tryz.prog 24 #[.slice A n c, .int .i64 kind] w (GivesOf w (kOf ds kind)) := by
  have hlen := hR.1
  have hx := below_box w (descO 0 none 0 0 0 none 0 0)
  have h1 : Blk (w.alloc (descO 0 none 0 0 0 none 0 0)) w.heap.size 35 #[.int .i64 0, .slice none 0 0, .int .i64 0, .slice none 0 0] := Blk.new _ _ _
  have r1 : kRight ds = false → kOf ds kind = (dsc0K, 50) := fun h => by unfold kOf; rw [if_pos h]
  have r2 : kRight ds = true → (kind < 1 ∨ (n : Int) < kind) → kOf ds kind = (dsc0K, 51) := fun h h2 => by unfold kOf; rw [if_neg (by rw [h]; simp), if_pos (by rw [hlen]; exact h2)]
  have r3 : kRight ds = true → ∀ (k : Nat) (d : DscK), kind = (k : Int) + 1 → ds[k]? = some d → kOf ds kind = (d, 0) := fun h k d h2 h3 => by
    rw [h2]
    exact kOf_at (n := k + 1) h (by omega) h3
  have hkr := rkright_any A n c ds (w.alloc (descO 0 none 0 0 0 none 0 0)) (hR.ext hx) hs hn hnc
  generalize kOf ds kind = r at *
  generalize kRight ds = kr at *
  have R1 := Lib.hid r1
  have R2 := Lib.hid r2
  have R3 := Lib.hid r3
  have HKR := Lib.hid hkr
  have HR := Lib.hid (hR.ext hx)
  have HS := Lib.hid hs
  have HB := Lib.hid hx
  have H1 := Lib.hid h1
  clear r1 r2 r3 hkr hR hx h1 hlen hs
  go_enter Tryz.func24, Tryz.ntmps24
  go_wp2_with fail
  generalize w.alloc (descO 0 none 0 0 0 none 0 0) = W0 at *
  refine HKR.out.mono ?_
  rintro x w1 ⟨rfl, hb1⟩
  replace HR := Lib.hid (HR.out.ext hb1)
  replace H1 := Lib.hid (H1.out.ext hb1)
  replace HB := Lib.hid (below_le HB.out hb1)
  clear hb1 HKR
  cases kr
  · obtain rfl := R1.out rfl
    have h2 := H1.out
    have HB2 := HB
    clear H1 HB
    have c0 := h2.at_ (i := 0) rfl
    have c1 := h2.at_ (i := 1) rfl
    have c2 := h2.at_ (i := 2) rfl
    have c3 := h2.at_ (i := 3) rfl
    have f0 := h2.frozen 0
    have f1 := h2.frozen 1
    have f2 := h2.frozen 2
    have f3 := h2.frozen 3
    have H9 := Lib.hid (h2.set4 (.int .i64 0) (.slice none 0 0) (.int .i64 0) (.slice none 0 0))
    have HB9 := Lib.hid (below_set4 HB2.out (Nat.le_refl _) (.int .i64 0) (.slice none 0 0) (.int .i64 0) (.slice none 0 0))
    clear h2
    go_wp2
    have q0 := H9.out.at_ (i := 0) rfl
    have q1 := H9.out.at_ (i := 1) rfl
    have q2 := H9.out.at_ (i := 2) rfl
    have q3 := H9.out.at_ (i := 3) rfl
    exact bodyPost_ret (v := .tuple #[descV 0 none 0 0 0 none 0 0, .int .i64 50]) (by simp [results, Tryz.results24, go_sem, q0, q1, q2, q3]) rfl ⟨_, rfl, DescIs.none_ _ _, HB9.out⟩
  · by_cases hbad : kind < 1 ∨ (n : Int) < kind
    · obtain rfl := R2.out rfl hbad
      have hgt : (decide (kind < 1) = true) ∨ (decide (kind < 1) = false ∧ (n : Int) < kind) := by
        by_cases h : kind < 1
        · exact .inl (decide_eq_true h)
        · exact .inr ⟨decide_eq_false h, by omega⟩
      have h2 := H1.out
      have HB2 := HB
      clear hbad H1 HB
      rcases hgt with hlt | ⟨hlt, hgt⟩
      all_goals
        have c0 := h2.at_ (i := 0) rfl
        have c1 := h2.at_ (i := 1) rfl
        have c2 := h2.at_ (i := 2) rfl
        have c3 := h2.at_ (i := 3) rfl
        have f0 := h2.frozen 0
        have f1 := h2.frozen 1
        have f2 := h2.frozen 2
        have f3 := h2.frozen 3
        have H9 := Lib.hid (h2.set4 (.int .i64 0) (.slice none 0 0) (.int .i64 0) (.slice none 0 0))
        have HB9 := Lib.hid (below_set4 HB2.out (Nat.le_refl _) (.int .i64 0) (.slice none 0 0) (.int .i64 0) (.slice none 0 0))
        clear h2
        go_wp2
        have q0 := H9.out.at_ (i := 0) rfl
        have q1 := H9.out.at_ (i := 1) rfl
        have q2 := H9.out.at_ (i := 2) rfl
        have q3 := H9.out.at_ (i := 3) rfl
        exact bodyPost_ret (v := .tuple #[descV 0 none 0 0 0 none 0 0, .int .i64 51]) (by simp [results, Tryz.results24, go_sem, q0, q1, q2, q3]) rfl ⟨_, rfl, DescIs.none_ _ _, HB9.out⟩
    · obtain ⟨k, rfl⟩ : ∃ k : Nat, kind = (k : Int) + 1 := ⟨(kind - 1).toNat, by omega⟩
      have hkn : k < n := by omega
      obtain ⟨b, off, z, P, m, c', e, Q, q, f, ps, es, rfl, hd, p1, p2, d0, d1, d2, d3⟩ := HR.out.get hkn
      obtain rfl := R3.out rfl k _ rfl hd
      have hsm := HS.out _ (List.mem_of_getElem? hd)
      have l1 := p1.1
      have l2 := p2.1
      simp at l1 l2
      have hm : m ≤ 1000 := by have := hsm.1; dsimp only at this; omega
      have hq : q ≤ 1000 := by have := hsm.2; dsimp only at this; omega
      have e1 : (k : Int) + 1 - 1 = (k : Int) := by omega
      have g1 : decide ((k : Int) + 1 < 1) = false := decide_eq_false (by omega)
      have g2 : decide ((n : Int) < (k : Int) + 1) = false := decide_eq_false (by omega)
      have hcl := rclone_any z e P Q m c' q f ps es w1 p1 p2 hm hq
      have HCL := Lib.hid hcl
      clear hbad R1 R2 R3 hcl hsm hd p1 p2 HR l1 l2
      go_wp2_with fail
      clear d0 d1 d2 d3
      refine HCL.out.mono ?_
      rintro x w2 ⟨⟨z2, ⟨P2, p2, cP⟩, e2, Q2, qq, fQ⟩, rfl, ⟨⟨h3, h4, h5, h6⟩, hint⟩, hb2⟩
      dsimp only at h3 h4 h5 h6
      subst h3
      subst h4
      have h2 := (H1.out.ext hb2)
      have HI := Lib.hid (show ∀ b ∈ blkR P2 p2 ++ blkR Q2 qq, b ≠ w.heap.size from fun b hb e => by
        obtain ⟨cs, hcs⟩ := hint b hb
        subst e
        unfold Blk at hcs
        have h2' : w2.heap[w.heap.size]? = _ := h2
        rw [hcs] at h2'
        injection h2' with h2'
        injection h2' with _ h2'
        exact absurd h2' (by decide))
      have HB2 := Lib.hid (below_le HB.out hb2)
      have HP1 := Lib.hid h5
      have HP2 := Lib.hid h6
      clear hb2 hint HB H1 h5 h6 HCL
      have c0 := h2.at_ (i := 0) rfl
      have c1 := h2.at_ (i := 1) rfl
      have c2 := h2.at_ (i := 2) rfl
      have c3 := h2.at_ (i := 3) rfl
      have f0 := h2.frozen 0
      have f1 := h2.frozen 1
      have f2 := h2.frozen 2
      have f3 := h2.frozen 3
      have H9 := Lib.hid (h2.set4 (.int .i64 z2) (.slice P2 p2 cP) (.int .i64 e2) (.slice Q2 qq fQ))
      have HB9 := Lib.hid (below_set4 HB2.out (Nat.le_refl _) (.int .i64 z2) (.slice P2 p2 cP) (.int .i64 e2) (.slice Q2 qq fQ))
      clear h2
      simp only [mdV]
      go_wp2
      have q0 := H9.out.at_ (i := 0) rfl
      have q1 := H9.out.at_ (i := 1) rfl
      have q2 := H9.out.at_ (i := 2) rfl
      have q3 := H9.out.at_ (i := 3) rfl
      have hk : KeepB (blkR P2 p2 ++ blkR Q2 qq) w2 ((((w2.setCell ⟨w.heap.size, 0, none⟩ (.int .i64 z2)).setCell ⟨w.heap.size, 1, none⟩ (.slice P2 p2 cP)).setCell ⟨w.heap.size, 2, none⟩ (.int .i64 e2)).setCell ⟨w.heap.size, 3, none⟩ (.slice Q2 qq fQ)) := fun b hb => heap_set4 w2 (HI.out b hb) _ _ _ _
      exact bodyPost_ret (v := .tuple #[descV z2 P2 p2 cP e2 Q2 qq fQ, .int .i64 0]) (by simp [results, Tryz.results24, go_sem, q0, q1, q2, q3]) rfl ⟨_, rfl, ⟨P2, p2, cP, Q2, qq, fQ, rfl, hk.rowR HP1.out (fun b hb => List.mem_append_left _ hb), hk.rowR HP2.out (fun b hb => List.mem_append_right _ hb), fun _ _ => Nat.zero_le _, fun _ _ => Nat.zero_le _⟩, HB9.out⟩
end Go.Proofs.YtmabokmnniiadaaGreatDoor
namespace Go.Proofs.YtmabokmnniiadaaGreatDoor
open Go.RowKit

theorem far_blkA {A : Option Addr} {m n : Nat} (h : ∀ a, A = some a → n ≤ a.block) : ∀ b ∈ blkR A m, n ≤ b := by
  intro b hb
  unfold blkR at hb
  split at hb
  · cases A with
    | none => simp [blkA] at hb
    | some a => simp [blkA] at hb; subst hb; exact h a rfl
  · simp at hb
theorem kAdd_sm {l : List DscK} {d : DscK} (hl : Sm l) (hd : sm1 d) : Sm (kAdd l d).1 ∧ (kAdd l d).1.length ≤ l.length + 1 ∧ (kAdd l d).2.1 ≤ l.length + 1 ∧ (kAdd l d).2.2 ≤ 60 := by
  have hk := kFind_le (d := d) l
  unfold kAdd
  split
  · exact ⟨Sm.nil, Nat.zero_le _, Nat.zero_le _, by decide⟩
  · split
    · exact ⟨Sm.nil, Nat.zero_le _, Nat.zero_le _, by decide⟩
    · split
      · exact ⟨hl, Nat.le_succ _, by dsimp only; omega, Nat.zero_le _⟩
      · split
        · exact ⟨Sm.nil, Nat.zero_le _, Nat.zero_le _, by decide⟩
        · exact ⟨hl.append fun x hx => by rw [List.mem_singleton.1 hx]; exact hd, by simp, Nat.le_refl _, Nat.zero_le _⟩
theorem kOf_sm {l : List DscK} (n : Int) (hl : Sm l) : sm1 (kOf l n).1 ∧ (kOf l n).2 ≤ 60 := by
  rcases kOf_cases l n with ⟨h, -⟩ | ⟨h, -⟩ | ⟨h, -, -, -, h5, -, -⟩
  · refine ⟨?_, by omega⟩
    unfold kOf at h ⊢
    split
    · decide
    · split
      · decide
      · rename_i h1 h2
        rw [if_neg h1, if_neg h2] at h
        cases h
  · refine ⟨?_, by omega⟩
    unfold kOf at h ⊢
    split
    · decide
    · split
      · decide
      · rename_i h1 h2
        rw [if_neg h1, if_neg h2] at h
        cases h
  · exact ⟨hl _ h5, by omega⟩

set_option maxRecDepth 100000 in
set_option maxHeartbeats 8000000 in
theorem kindsAdds_any (A : Option Addr) (n c : Nat) (ds : List DscK) (A' : Option Addr) (n' c' : Nat) (es2 : List DscK) (z : Int) (P : Option Addr) (p cp : Nat) (e : Int) (Q : Option Addr) (q f : Nat) (ps es : List Int) (nn : Int) (w : World) (hD : DK w) (hR : RowD w A n ds) (hC : CapsOk w A n) (hR' : RowD w A' n' es2) (hC' : CapsOk w A' n') (hP : Row w P p (ps.map Iv)) (hQ : Row w Q q (es.map Iv)) (hp : p ≤ cp) (hq : q ≤ f) :
    Calls Tryz.prog 5 #[.slice A n c, .slice A' n' c', descV z P p cp e Q q f, .int .i64 nn] w (Holds w) := by
  have far_blk := @far_blkA
  have hb0 := below_box w (descO z P p cp e Q q f)
  have h2 : Blk (w.alloc (descO z P p cp e Q q f)) w.heap.size 35 #[.int .i64 z, .slice P p cp, .int .i64 e, .slice Q q f] := Blk.new _ _ _
  obtain ⟨ms0, hM0⟩ := hR.ms
  obtain ⟨mt0, hN0⟩ := hR'.ms
  have hlu0 : ∀ d ∈ mt0, ∀ b ∈ blkM d, b < w.heap.size := fun d hd b hb => hN0.lt b (List.mem_append_right _ (List.mem_flatMap.2 ⟨d, hd, hb⟩))
  have HLU0 := Lib.hid hlu0
  have hlt0 : ∀ d ∈ ms0, ∀ b ∈ blkM d, b < w.heap.size := fun d hd b hb => hM0.lt b (List.mem_append_right _ (List.mem_flatMap.2 ⟨d, hd, hb⟩))
  have HLT0 := Lib.hid hlt0
  have HD0 := Lib.hid hD
  have HD := Lib.hid (hD.ext hb0)
  have HR0 := Lib.hid (hM0.ext hb0)
  have HC0 := Lib.hid (hC.ext hb0)
  have HT0 := Lib.hid (hN0.ext hb0)
  have HU0 := Lib.hid (hC'.ext hb0)
  have HP := Lib.hid (row_cut hP)
  have HQ := Lib.hid (row_cut hQ)
  have HPN := Lib.hid (show ∀ b ∈ blkR P (min p 20) ++ blkR Q (min q 20), b < w.heap.size from fun b hb => (List.mem_append.1 hb).elim (blkR_lt (row_cut hP) b) (blkR_lt (row_cut hQ) b))
  have HB := Lib.hid hb0
  have H2 := Lib.hid h2
  have HPC := Lib.hid hp
  have HQF := Lib.hid hq
  have hm20 : min p 20 ≤ 20 := Nat.min_le_right _ _
  have hq20 : min q 20 ≤ 20 := Nat.min_le_right _ _
  clear hD hR hC hb0 h2 hp hq hP hQ hM0 hlt0 hR' hC' hN0 hlu0
  go_enter Tryz.func5, Tryz.ntmps5
  go_wp2_with fail
  generalize w.alloc (descO z P p cp e Q q f) = W0 at *
  refine (kshown_any W0 HD.out).mono ?_
  rintro x w1 ⟨rfl, hb1⟩
  have HR1 := Lib.hid (HR0.out.ext hb1)
  have HC1 := Lib.hid (HC0.out.ext hb1)
  have HT1 := Lib.hid (HT0.out.ext hb1)
  have HU1 := Lib.hid (HU0.out.ext hb1)
  have HSZ1 := Lib.hid (Nat.lt_of_lt_of_le H2.out.lt hb1.size)
  replace H2 := Lib.hid (H2.out.ext hb1)
  replace HD := Lib.hid (HD.out.ext hb1)
  replace HB := Lib.hid (below_le HB.out hb1)
  clear hb1 HR0 HC0 HT0 HU0
  go_wp2_with fail
  refine (few_full A n c ms0 ds w1 HR1.out HC1.out).mono ?_
  rintro x w2 ⟨A2, m, c2, ms2, rfl, hm, hR2, ham, hfr, hmc, hb2⟩
  have HR := Lib.hid hR2
  have HS := Lib.hid (kFew_sm ds)
  have hlen := hR2.1
  have HNE := Lib.hid (show ∀ b ∈ blksD A2 m ms2, b ≠ w.heap.size from fun b hb => by
    rcases List.mem_append.1 hb with hb | hb
    · have := far_blk hfr b hb
      have := HSZ1.out
      omega
    · obtain ⟨d, hd, hb⟩ := List.mem_flatMap.1 hb
      obtain ⟨d0, hd0, hb0⟩ := ham d hd b hb
      have := HLT0.out d0 hd0 b hb0
      omega)
  replace HT1 := Lib.hid (HT1.out.ext hb2)
  replace HU1 := Lib.hid (HU1.out.ext hb2)
  have HSZ2 := Lib.hid (Nat.lt_of_lt_of_le HSZ1.out hb2.size)
  replace H2 := Lib.hid (H2.out.ext hb2)
  replace HD := Lib.hid (HD.out.ext hb2)
  replace HB := Lib.hid (below_le HB.out hb2)
  clear hR2 hb2 HR1 HC1 ham hfr HLT0
  generalize kFew ds = l at *
  have HLEN := Lib.hid hlen
  clear hlen
  go_wp2_with fail
  refine (few_full A' n' c' mt0 es2 w2 HT1.out HU1.out).mono ?_
  rintro x w22 ⟨A3, m3, c3', ms3, rfl, hm3, hR2, ham, hfr, -, hb2⟩
  have HT := Lib.hid hR2
  have HS3 := Lib.hid (kFew_sm es2)
  have HNE3 := Lib.hid (show ∀ b ∈ blksD A3 m3 ms3, b ≠ w.heap.size from fun b hb => by
    rcases List.mem_append.1 hb with hb | hb
    · have := far_blk hfr b hb
      have := HSZ2.out
      omega
    · obtain ⟨d, hd, hb⟩ := List.mem_flatMap.1 hb
      obtain ⟨d0, hd0, hb0⟩ := ham d hd b hb
      have := HLU0.out d0 hd0 b hb0
      omega)
  replace HR := Lib.hid (HR.out.ext hb2)
  replace H2 := Lib.hid (H2.out.ext hb2)
  replace HD := Lib.hid (HD.out.ext hb2)
  replace HB := Lib.hid (below_le HB.out hb2)
  clear hR2 hb2 HT1 HU1 ham hfr HLU0 HSZ2
  generalize kFew es2 = l2 at *
  have k0 := H2.out.at_ (i := 0) rfl
  have k1 := H2.out.at_ (i := 1) rfl
  have k2 := H2.out.at_ (i := 2) rfl
  have k3 := H2.out.at_ (i := 3) rfl
  go_wp2_with fail
  refine (dcut_any z e P Q p cp q f _ HPC.out HQF.out).mono ?_
  clear HPC HQF
  rintro x w3 ⟨rfl, hb3⟩
  have h2 := H2.out.ext hb3
  clear k0 k1 k2 k3
  have c0 := h2.at_ (i := 0) rfl
  have c1 := h2.at_ (i := 1) rfl
  have c2' := h2.at_ (i := 2) rfl
  have c3 := h2.at_ (i := 3) rfl
  have f0 := h2.frozen 0
  have f1 := h2.frozen 1
  have f2 := h2.frozen 2
  have f3 := h2.frozen 3
  generalize min p 20 = p' at *
  generalize min q 20 = q' at *
  generalize ps.take 20 = ps' at *
  generalize es.take 20 = es' at *
  have h9 := h2.set4 (.int .i64 z) (.slice P p' cp) (.int .i64 e) (.slice Q q' f)
  have hB9 := below_set4 (below_le HB.out hb3) (Nat.le_refl _) (.int .i64 z) (.slice P p' cp) (.int .i64 e) (.slice Q q' f)
  have hkb : KeepB (blksD A2 m ms2) w3 ((((w3.setCell ⟨w.heap.size, 0, none⟩ (.int .i64 z)).setCell ⟨w.heap.size, 1, none⟩ (.slice P p' cp)).setCell ⟨w.heap.size, 2, none⟩ (.int .i64 e)).setCell ⟨w.heap.size, 3, none⟩ (.slice Q q' f)) := fun b hb => heap_set4 w3 (HNE.out b hb) _ _ _ _
  have hR9 := ((HR.out.ext hb3).keep hkb (fun _ h => h)).rowD
  have hkb3 : KeepB (blksD A3 m3 ms3) w3 ((((w3.setCell ⟨w.heap.size, 0, none⟩ (.int .i64 z)).setCell ⟨w.heap.size, 1, none⟩ (.slice P p' cp)).setCell ⟨w.heap.size, 2, none⟩ (.int .i64 e)).setCell ⟨w.heap.size, 3, none⟩ (.slice Q q' f)) := fun b hb => heap_set4 w3 (HNE3.out b hb) _ _ _ _
  have hT9 := ((HT.out.ext hb3).keep hkb3 (fun _ h => h)).rowD
  replace HP := Lib.hid (HP.out.ext hB9)
  replace HQ := Lib.hid (HQ.out.ext hB9)
  replace HD := Lib.hid (HD0.out.ext hB9)
  replace HB := Lib.hid hB9
  replace HR := Lib.hid hR9
  replace HT := Lib.hid hT9
  have k0 := h9.at_ (i := 0) rfl
  have k1 := h9.at_ (i := 1) rfl
  have k2 := h9.at_ (i := 2) rfl
  have k3 := h9.at_ (i := 3) rfl
  clear h2 h9 H2 hkb hR9 hB9 hb3 HNE HPN HSZ1 hkb3 hT9 HNE3
  go_wp2_with fail
  generalize (((w3.setCell ⟨w.heap.size, 0, none⟩ (.int .i64 z)).setCell ⟨w.heap.size, 1, none⟩ (.slice P p' cp)).setCell ⟨w.heap.size, 2, none⟩ (.int .i64 e)).setCell ⟨w.heap.size, 3, none⟩ (.slice Q q' f) = W3 at *
  clear c0 c1 c2' c3 f0 f1 f2 f3
  have hpl := HP.out.1
  have hql := HQ.out.1
  simp at hpl hql
  have hsd : sm1 (z, ps', e, es') := ⟨by show ps'.length ≤ 1000; omega, by show es'.length ≤ 1000; omega⟩
  have hadd := add_any A2 m c2 l (z, ps', e, es') P Q p' cp q' f W3 HR.out HS.out (by omega) HP.out HQ.out hsd (tab_ext HD0.out.2.2 HB.out) (HD0.out.1.ext HB.out)
  have hradd := fun W h0 h1 h2 => radd_any A2 m c2 l (z, ps', e, es') P Q p' cp q' f W h0 HS.out (by omega) hmc h1 h2 hsd
  have hasm := kAdd_sm (l := l) HS.out hsd
  generalize kAdd l (z, ps', e, es') = r at *
  obtain ⟨M, k, g⟩ := r
  dsimp only at hasm
  obtain ⟨hs1, hs2, hs3, hs4⟩ := hasm
  have hlm : l.length ≤ 62 := by have := HLEN.out; omega
  have hMl : M.length ≤ 63 := by omega
  have hk63 : k ≤ 63 := by omega
  have HSM := Lib.hid hs1
  have HRADD := Lib.hid hradd
  have HSD := Lib.hid hsd
  clear hsd hradd hs1 hs2 hs3 hpl hql
  refine hadd.mono ?_
  clear hadd
  intro x w4 h
  obtain ⟨B, bn, bc, rfl, hB, hb4⟩ := h.int
  dsimp only at hB ⊢
  have HBM := Lib.hid hB
  have hbn : bn ≤ 63 := by have := hB.1; omega
  replace k0 := cell_ext hb4 k0; replace k1 := cell_ext hb4 k1; replace k2 := cell_ext hb4 k2; replace k3 := cell_ext hb4 k3; replace HP := Lib.hid (HP.out.ext hb4); replace HQ := Lib.hid (HQ.out.ext hb4); replace HR := Lib.hid (HR.out.ext hb4); replace HT := Lib.hid (HT.out.ext hb4)
  replace HB := Lib.hid (below_le HB.out hb4)
  clear h hB hb4
  go_wp2_with fail
  refine (HRADD.out w4 HR.out HP.out HQ.out).mono ?_
  intro x w5 h
  obtain ⟨G, gn, gc, rfl, hG, hb5⟩ := h.int
  dsimp only at hG ⊢
  have HG := Lib.hid hG
  replace k0 := cell_ext hb5 k0; replace k1 := cell_ext hb5 k1; replace k2 := cell_ext hb5 k2; replace k3 := cell_ext hb5 k3; replace HP := Lib.hid (HP.out.ext hb5); replace HQ := Lib.hid (HQ.out.ext hb5); replace HR := Lib.hid (HR.out.ext hb5); replace HT := Lib.hid (HT.out.ext hb5); replace HBM := Lib.hid (HBM.out.ext hb5)
  replace HB := Lib.hid (below_le HB.out hb5)
  clear h hG hb5 HRADD
  go_wp2_with fail
  have h := of_any A2 m c2 l nn w5 HR.out HS.out (by omega) (tab_ext HD0.out.2.2 HB.out) (HD0.out.1.ext HB.out)
  have hrof := fun W h0 => rof_any A2 m c2 l nn W h0 HS.out (by omega) hmc
  have hosm := kOf_sm nn HS.out
  generalize kOf l nn = r at *
  obtain ⟨⟨yz, yps, ye, yes⟩, t⟩ := r
  dsimp only at hosm
  obtain ⟨hsy, ht60⟩ := hosm
  have HROF := Lib.hid hrof
  have HSY := Lib.hid hsy
  clear hrof hsy
  refine h.mono ?_
  clear h
  rintro x w6 ⟨v, rfl, ⟨P2, p2, d2, Q2, q2, f2, rfl, hP2, hQ2, -, -⟩, hb6⟩
  dsimp only at hP2 hQ2 ⊢
  have hx := below_box w6 (descO yz P2 p2 d2 ye Q2 q2 f2)
  have h1 : Blk (w6.alloc (descO yz P2 p2 d2 ye Q2 q2 f2)) w6.heap.size 35 #[.int .i64 yz, .slice P2 p2 d2, .int .i64 ye, .slice Q2 q2 f2] := Blk.new _ _ _
  have HP2 := Lib.hid (hP2.ext hx)
  have HQ2 := Lib.hid (hQ2.ext hx)
  have b0 := h1.at_ (i := 0) rfl
  have b1 := h1.at_ (i := 1) rfl
  have b2 := h1.at_ (i := 2) rfl
  have b3 := h1.at_ (i := 3) rfl
  have hbx := below_le hb6 hx
  replace k0 := cell_ext hbx k0; replace k1 := cell_ext hbx k1; replace k2 := cell_ext hbx k2; replace k3 := cell_ext hbx k3; replace HP := Lib.hid (HP.out.ext hbx); replace HQ := Lib.hid (HQ.out.ext hbx); replace HR := Lib.hid (HR.out.ext hbx); replace HT := Lib.hid (HT.out.ext hbx); replace HBM := Lib.hid (HBM.out.ext hbx); replace HG := Lib.hid (HG.out.ext hbx)
  replace HB := Lib.hid (below_le HB.out hbx)
  clear h1 hx hP2 hQ2 hb6 hbx
  go_wp2_with fail
  generalize w6.alloc (descO yz P2 p2 d2 ye Q2 q2 f2) = W6 at *
  refine (HROF.out W6 HR.out).mono ?_
  rintro x w7 ⟨v, rfl, ⟨P3, p3, d3, Q3, q3, f3, rfl, hP3, hQ3, -, -⟩, hb7⟩
  dsimp only at hP3 hQ3 ⊢
  have hx := below_box w7 (descO yz P3 p3 d3 ye Q3 q3 f3)
  have h1 : Blk (w7.alloc (descO yz P3 p3 d3 ye Q3 q3 f3)) w7.heap.size 35 #[.int .i64 yz, .slice P3 p3 d3, .int .i64 ye, .slice Q3 q3 f3] := Blk.new _ _ _
  have HP3 := Lib.hid (hP3.ext hx)
  have HQ3 := Lib.hid (hQ3.ext hx)
  have e0 := h1.at_ (i := 0) rfl
  have e1 := h1.at_ (i := 1) rfl
  have e2 := h1.at_ (i := 2) rfl
  have e3 := h1.at_ (i := 3) rfl
  have hbx := below_le hb7 hx
  replace k0 := cell_ext hbx k0; replace k1 := cell_ext hbx k1; replace k2 := cell_ext hbx k2; replace k3 := cell_ext hbx k3; replace b0 := cell_ext hbx b0; replace b1 := cell_ext hbx b1; replace b2 := cell_ext hbx b2; replace b3 := cell_ext hbx b3; replace HP := Lib.hid (HP.out.ext hbx); replace HQ := Lib.hid (HQ.out.ext hbx); replace HR := Lib.hid (HR.out.ext hbx); replace HT := Lib.hid (HT.out.ext hbx); replace HBM := Lib.hid (HBM.out.ext hbx); replace HG := Lib.hid (HG.out.ext hbx); replace HP2 := Lib.hid (HP2.out.ext hbx); replace HQ2 := Lib.hid (HQ2.out.ext hbx)
  replace HB := Lib.hid (below_le HB.out hbx)
  clear h1 hx hP3 hQ3 hb7 hbx HROF
  go_wp2_with fail
  generalize w7.alloc (descO yz P3 p3 d3 ye Q3 q3 f3) = W7 at *
  have h := kfind_any A2 m c2 l (z, ps', e, es') P Q p' cp q' f W7 HR.out HS.out (by omega) HP.out HQ.out HSD.out
  have hrf := fun W h0 h1 h2 => rkfind_any A2 m c2 l (z, ps', e, es') P Q p' cp q' f W h0 HS.out (by omega) h1 h2 HSD.out
  have hkf := kFind_le (d := (z, ps', e, es')) l
  generalize kFind l (z, ps', e, es') = kf at *
  generalize decide (0 < kf) = fb at *
  have HRF := Lib.hid hrf
  clear hrf
  refine h.mono ?_
  clear h
  rintro x w8 ⟨rfl, hb8⟩
  replace k0 := cell_ext hb8 k0; replace k1 := cell_ext hb8 k1; replace k2 := cell_ext hb8 k2; replace k3 := cell_ext hb8 k3; replace b0 := cell_ext hb8 b0; replace b1 := cell_ext hb8 b1; replace b2 := cell_ext hb8 b2; replace b3 := cell_ext hb8 b3; replace e0 := cell_ext hb8 e0; replace e1 := cell_ext hb8 e1; replace e2 := cell_ext hb8 e2; replace e3 := cell_ext hb8 e3; replace HP := Lib.hid (HP.out.ext hb8); replace HQ := Lib.hid (HQ.out.ext hb8); replace HR := Lib.hid (HR.out.ext hb8); replace HT := Lib.hid (HT.out.ext hb8); replace HBM := Lib.hid (HBM.out.ext hb8); replace HG := Lib.hid (HG.out.ext hb8); replace HP2 := Lib.hid (HP2.out.ext hb8); replace HQ2 := Lib.hid (HQ2.out.ext hb8); replace HP3 := Lib.hid (HP3.out.ext hb8); replace HQ3 := Lib.hid (HQ3.out.ext hb8)
  replace HB := Lib.hid (below_le HB.out hb8)
  clear hb8
  go_wp2_with fail
  refine (HRF.out w8 HR.out HP.out HQ.out).mono ?_
  rintro x w9 ⟨rfl, hb9⟩
  replace b0 := cell_ext hb9 b0; replace b1 := cell_ext hb9 b1; replace b2 := cell_ext hb9 b2; replace b3 := cell_ext hb9 b3; replace e0 := cell_ext hb9 e0; replace e1 := cell_ext hb9 e1; replace e2 := cell_ext hb9 e2; replace e3 := cell_ext hb9 e3; replace HR := Lib.hid (HR.out.ext hb9); replace HT := Lib.hid (HT.out.ext hb9); replace HBM := Lib.hid (HBM.out.ext hb9); replace HG := Lib.hid (HG.out.ext hb9); replace HP2 := Lib.hid (HP2.out.ext hb9); replace HQ2 := Lib.hid (HQ2.out.ext hb9); replace HP3 := Lib.hid (HP3.out.ext hb9); replace HQ3 := Lib.hid (HQ3.out.ext hb9)
  replace HB := Lib.hid (below_le HB.out hb9)
  clear hb9 HRF k0 k1 k2 k3 HP HQ
  go_wp2_with fail
  have h := kright_any A2 m c2 l w9 HR.out HS.out (by omega) (tab_ext HD0.out.2.2 HB.out)
  have hrr := fun W h0 => rkright_any A2 m c2 l W h0 HS.out (by omega) hmc
  generalize kRight l = kr at *
  have HRR := Lib.hid hrr
  clear hrr
  refine h.mono ?_
  clear h
  rintro x w10 ⟨rfl, hb10⟩
  replace b0 := cell_ext hb10 b0; replace b1 := cell_ext hb10 b1; replace b2 := cell_ext hb10 b2; replace b3 := cell_ext hb10 b3; replace e0 := cell_ext hb10 e0; replace e1 := cell_ext hb10 e1; replace e2 := cell_ext hb10 e2; replace e3 := cell_ext hb10 e3; replace HR := Lib.hid (HR.out.ext hb10); replace HT := Lib.hid (HT.out.ext hb10); replace HBM := Lib.hid (HBM.out.ext hb10); replace HG := Lib.hid (HG.out.ext hb10); replace HP2 := Lib.hid (HP2.out.ext hb10); replace HQ2 := Lib.hid (HQ2.out.ext hb10); replace HP3 := Lib.hid (HP3.out.ext hb10); replace HQ3 := Lib.hid (HQ3.out.ext hb10)
  replace HB := Lib.hid (below_le HB.out hb10)
  clear hb10
  go_wp2_with fail
  refine (HRR.out w10 HR.out).mono ?_
  rintro x w11 ⟨rfl, hb11⟩
  replace b0 := cell_ext hb11 b0; replace b1 := cell_ext hb11 b1; replace b2 := cell_ext hb11 b2; replace b3 := cell_ext hb11 b3; replace e0 := cell_ext hb11 e0; replace e1 := cell_ext hb11 e1; replace e2 := cell_ext hb11 e2; replace e3 := cell_ext hb11 e3; replace HR := Lib.hid (HR.out.ext hb11); replace HT := Lib.hid (HT.out.ext hb11); replace HBM := Lib.hid (HBM.out.ext hb11); replace HG := Lib.hid (HG.out.ext hb11); replace HP2 := Lib.hid (HP2.out.ext hb11); replace HQ2 := Lib.hid (HQ2.out.ext hb11); replace HP3 := Lib.hid (HP3.out.ext hb11); replace HQ3 := Lib.hid (HQ3.out.ext hb11)
  replace HB := Lib.hid (below_le HB.out hb11)
  clear hb11 HRR
  go_wp2_with fail
  have h := rksame_any B G bn bc gn gc M M w11 HBM.out HG.out HSM.out HSM.out (by omega)
  rw [decide_eq_true rfl] at h
  refine h.mono ?_
  clear h
  rintro x w12 ⟨rfl, hb12⟩
  replace b0 := cell_ext hb12 b0; replace b1 := cell_ext hb12 b1; replace b2 := cell_ext hb12 b2; replace b3 := cell_ext hb12 b3; replace e0 := cell_ext hb12 e0; replace e1 := cell_ext hb12 e1; replace e2 := cell_ext hb12 e2; replace e3 := cell_ext hb12 e3; replace HR := Lib.hid (HR.out.ext hb12); replace HT := Lib.hid (HT.out.ext hb12); replace HP2 := Lib.hid (HP2.out.ext hb12); replace HQ2 := Lib.hid (HQ2.out.ext hb12); replace HP3 := Lib.hid (HP3.out.ext hb12); replace HQ3 := Lib.hid (HQ3.out.ext hb12)
  replace HB := Lib.hid (below_le HB.out hb12)
  clear hb12 HBM HG
  have l2' := HP2.out.1
  have l3' := HQ2.out.1
  have l4' := HP3.out.1
  have l5' := HQ3.out.1
  simp at l2' l3' l4' l5'
  have m2 : p2 ≤ 1000 := by have := HSY.out.1; dsimp only at this; omega
  have m3' : q2 ≤ 1000 := by have := HSY.out.2; dsimp only at this; omega
  have m4 : p3 ≤ 1000 := by omega
  have m5 : q3 ≤ 1000 := by omega
  clear l2' l3' l4' l5'
  go_wp2_with fail
  have h := rsame_any yz ye P2 Q2 p2 d2 q2 f2 yps yes yz ye P3 Q3 p3 d3 q3 f3 yps yes w12 HP2.out HQ2.out HP3.out HQ3.out m2 m3' m4 m5
  rw [show dSame yz ye yps yes yz ye yps yes = true by simp [dSame]] at h
  refine h.mono ?_
  clear h
  rintro x w13 ⟨rfl, hb13⟩
  replace HR := Lib.hid (HR.out.ext hb13)
  replace HT := Lib.hid (HT.out.ext hb13)
  replace HB := Lib.hid (below_le HB.out hb13)
  clear hb13 b0 b1 b2 b3 e0 e1 e2 e3 HP2 HQ2 HP3 HQ3
  go_wp2_with fail
  have h := ksame_any A2 A3 m c2 m3 c3' l l2 w13 HR.out HT.out HS.out HS3.out (by omega) (by omega)
  have hrs := fun W h0 h1 => rksame_any A2 A3 m c2 m3 c3' l l2 W h0 h1 HS.out HS3.out (by omega)
  generalize decide (l = l2) = sb at *
  have HRS := Lib.hid hrs
  clear hrs
  refine h.mono ?_
  clear h
  rintro x w14 ⟨rfl, hb14⟩
  replace HR := Lib.hid (HR.out.ext hb14)
  replace HT := Lib.hid (HT.out.ext hb14)
  replace HB := Lib.hid (below_le HB.out hb14)
  clear hb14
  go_wp2_with fail
  refine (HRS.out w14 HR.out HT.out).mono ?_
  rintro x w15 ⟨rfl, hb15⟩
  replace HR := Lib.hid (HR.out.ext hb15)
  replace HB := Lib.hid (below_le HB.out hb15)
  clear hb15 HRS HT
  go_wp2_with fail
  have h := ksame_any A2 A2 m c2 m c2 l l w15 HR.out HR.out HS.out HS.out (by omega) (by omega)
  rw [decide_eq_true rfl] at h
  refine h.mono ?_
  clear h
  rintro x w16 ⟨rfl, hb16⟩
  replace HB := Lib.hid (below_le HB.out hb16)
  clear hb16
  go_wp2
  go_ret
  exact ⟨rfl, HB.out⟩
end Go.Proofs.YtmabokmnniiadaaGreatDoor
namespace Go.Proofs.YtmabokmnniiadaaGreatDoor
open Go.ChangeShapes Go.WideShapes Go.ChangeAt Go.RowKit

theorem own0 : ownKnob Tryz.prog.godebug = none := by kernel_rfl
theorem laidOut0 : laidOutB Tryz.prog = true := by kernel_rfl
abbrev row0 : OpenClaim := Rows.kindsTextsRow

theorem gT0 : Tryz.prog.globalNamed "errors.errorType" = some 0 := by kernel_rfl
theorem rt0 : (Tryz.prog.cutTypes.find? (·.1 == "internal/reflectlite.rtype")).map (·.2) = some 122 := by kernel_rfl
theorem oneRow0 : ((List.range Tryz.prog.types.size).filter fun t => Tryz.prog.rowNamed t [101, 114, 114, 111, 114]) = [49] := by kernel_rfl
theorem hnd0 : typeHandle Tryz.prog 49 = hnd 49 := by kernel_rfl

/-- What the condition gives of errors' own variable: the handle of the type error. -/
theorem handle0 {W : World} (h : laidMetH Tryz.prog row0.laid W) : EType W := by
  have h1 := h.filter (fun x => x.1 == "errors.errorType")
  have h' : laidMet Tryz.prog [] W ∧ handlesMet Tryz.prog [("errors.errorType", Rows.laid_errors_errorType)] W := h1
  obtain ⟨name, u, ty, e1, e2, e3, e4, e5⟩ := h'.2 _ (List.mem_singleton.2 rfl)
  have en : name = [101, 114, 114, 111, 114] := (Option.some.inj e1).symm
  subst en
  obtain rfl := Option.some.inj (rt0.symm.trans e2)
  have hm : ty ∈ (List.range Tryz.prog.types.size).filter fun t => Tryz.prog.rowNamed t [101, 114, 114, 111, 114] := List.mem_filter.2 ⟨List.mem_range.2 e3, e4⟩
  rw [oneRow0] at hm
  obtain rfl := List.mem_singleton.1 hm
  rw [hnd0] at e5
  have := World.var?_cell gT0 e5 0
  show W.cell? _ = _
  simpa using this

theorem gP1 : (Tryz.prog.globals[2]?).map (·.type) = some 163 := by kernel_rfl
theorem under_tab : ∃ n, Tryz.prog.underlying 163 = some (.array n 153) ∧ Tryz.prog.cellsOf 163 = n := ⟨20, by kernel_rfl, by kernel_rfl⟩
theorem under_u64 : Tryz.prog.underlying 153 = some (.int .u64) := by kernel_rfl
theorem cells_u64 : Tryz.prog.cellsOf 153 = 1 := by kernel_rfl

theorem tabs {W : World} (h : laidMetH Tryz.prog row0.laid W) : Tab W := by
  have h' : laidMet Tryz.prog [("internal/strconv.uint64pow10", Rows.laid_internal_strconv_uint64pow10)] W := by
    have := h.filter (fun x => x.1 == "internal/strconv.uint64pow10")
    rw [MakeChecks.laidMetH_plain _ _ _ (by kernel_rfl)] at this
    exact this
  obtain ⟨n, h1, h2⟩ := under_tab
  exact Lib.tabIs_of_head (zs := Lib.pow10Tab) gP0 gP1 h1 under_u64 cells_u64 h2 h'

/-- What the row's list gives, and the world's shape. -/
theorem sents {W : World} (hsh : W.ShapedOpen Tryz.prog) (h : laidMetH Tryz.prog row0.laid W) : DK W := ⟨handle0 h, Tryz.laysM146.s1_3 W hsh, tabs h⟩

section
variable {H : Type} {enc : TypeId × Value → H} {P : Program}
theorem trodAll_stays (hl : laidOutB P = true) {W W' : World} (hb : Below W.heap.size W W') (sp : Nat → Bool) : ∀ (ts : List TypeId) (vs : List Value) (ds : List (DataW H)) (ps : List MemPlace),
    (ts.all fun t => P.readableRec t && decide (t < P.types.size)) = true → DataW.TrodAll enc P W 0 (fun _ => true) true ts vs ds ps → (∀ x ∈ ps, x.block < W.heap.size) → (∀ x ∈ ps, sp x.block = true) → DataW.TrodAll enc P W' 0 sp true ts vs ds ps
  | [], vs, ds, ps, _, h, _, _ => by
    obtain ⟨rfl, rfl, rfl⟩ := trodAll_nil h
    exact trodAll_mk0
  | t :: ts, vs, ds, ps, hr, h, hlt, hsp => by
    simp only [List.all_cons, Bool.and_eq_true, decide_eq_true_eq] at hr
    obtain ⟨v, vs', d, ds', p, q, rfl, rfl, rfl, h1, h2⟩ := trodAll_cons h
    exact trodAll_cons_mk (WideElems.Trod_stays hl hr.1.1 hr.1.2 h1 (fun x hx => hb.same (hlt x (List.mem_append_left _ hx))) (fun x hx => hsp x (List.mem_append_left _ hx)))
      (trodAll_stays hl hb sp ts vs' ds' q hr.2 h2 (fun x hx => hlt x (List.mem_append_right _ hx)) (fun x hx => hsp x (List.mem_append_right _ hx)))

theorem post_below {f : Func} {s : ChangeSpec} {apart fresh handsOn again : Bool} {W W' : World} {args : Array Value} {v : Value} {ds gs : List (DataW H)} {before pa pv : List MemPlace}
    (hW : DataW.Whole enc P f.params.toList s.vars apart W args.toList ds gs before)
    (hres : ∀ (b : Nat) (sp : Nat → Bool) (hd : Bool), DataW.TrodAll enc P W' b sp hd f.resultTypes.toList (v.resultList f.resultTypes.size) (s.fn H (ds ++ gs)).results [])
    (hargs : ∀ sp : Nat → Bool, (∀ p ∈ before, sp p.block = true) → DataW.TrodAll enc P W' 0 sp true f.params.toList args.toList (s.fn H (ds ++ gs)).args pa)
    (hvars : ∀ sp : Nat → Bool, (∀ p ∈ before, sp p.block = true) → DataW.TrodVars enc P W' sp s.vars (s.fn H (ds ++ gs)).vars pv)
    (hps : before = pa ++ pv) (hb : Below W.heap.size W W')
    (hok : ∀ (j : Nat) (t : TypeId) (r : Value), f.resultTypes[j]? = some t → (v.resultList f.resultTypes.size)[j]? = some r → Value.okWide P W' .any 0 t r) :
    s.post enc P f apart fresh handsOn again W args v W' := by
  have hlt : ∀ p ∈ before, p.block < W.heap.size := fun p hp => hW.lt p hp
  have hold : ∀ p ∈ before, (fun b => decide (b < W.heap.size)) p.block = true := fun p hp => by simpa using hlt p hp
  refine ⟨ds, gs, before, [], pa, pv, hW, hres _ _ _, hargs _ hold, hvars _ hold, World.keptBut_mono (fun p hp => ⟨hp, ?_⟩) (hb.frame (· ∈ before)), fun _ => ?_⟩
  · rw [hps, List.mem_append] at hp
    exact Or.inr hp
  · obtain ⟨_, _, _, _, _, hz, hn⟩ := hW
    refine ⟨hok, _, _, ([] ++ pa) ++ pv, ⟨[] ++ pa, pv, trodAll_append (hargs _ (fun _ _ => rfl)) (hres _ _ _), hvars _ (fun _ _ => rfl), rfl, ?_, ?_⟩, ?_⟩
    · intro b off hp
      have hin : MemPlace.cell b off ∈ before := by rw [hps]; simpa using hp
      rw [hb.frozen (hlt _ hin)]
      exact hz b off hin
    · intro ha
      have := hn ha
      rw [hps] at this
      simpa using this
    · intro p hp _
      rw [hps]
      simpa using hp

/-- THE ROW's LAST STEP, where the law returned true and what was stays. -/
theorem post_true {f : Func} {s : ChangeSpec} (hl : laidOutB P = true) {tb : TypeId} (htb : P.underlying tb = some .bool) (hrt : f.resultTypes = #[tb]) (hvs : s.vars = []) (hr : (f.params.toList.all fun t => P.readableRec t && decide (t < P.types.size)) = true)
    {W W' : World} {args : Array Value} {ds gs : List (DataW H)} {before : List MemPlace}
    (hW : DataW.Whole enc P f.params.toList s.vars false W args.toList ds gs before) (hfn : s.fn H (ds ++ gs) = { results := [.lit (.bool true)], args := ds }) (hb : Below W.heap.size W W') :
    s.post enc P f false true false false W args (.bool true) W' := by
  have hW' := hW
  have hlt : ∀ p ∈ before, p.block < W.heap.size := fun p hp => hW.lt p hp
  obtain ⟨p, q, hA, hV, rfl, hfz, hnd⟩ := hW
  rw [hvs] at hV
  obtain ⟨rfl, rfl⟩ := trodVars_none hV
  simp only [List.append_nil] at hlt hW' hfn
  refine post_below (pa := p) (pv := []) hW' (fun b sp hd => ?_) (fun sp hsp => ?_) (fun sp _ => ?_) (by simp) hb (ok_one hrt rfl (okWide_bool_mk htb _))
  · rw [List.append_nil, hfn, hrt]
    exact trodAll_cons_mk (shut_bool htb _) trodAll_mk0
  · rw [List.append_nil, hfn]
    exact trodAll_stays hl hb sp _ _ _ _ hr hA (fun x hx => hlt x hx) (fun x hx => hsp x hx)
  · rw [List.append_nil, hfn, hvs]
    rfl
end

theorem row_of_cells {W : World} {a : Addr} {len cap : Nat} {zs : List Int} (hl : len ≤ cap) (hz : zs.length = cap) (hc : ∀ i, i < cap → W.cell? (a.add i) = some (.int .i64 (zs.getD i 0))) : Row W (some a) len ((zs.take len).map Iv) := by
  refine ⟨by simp; omega, fun hp => ?_⟩
  have hs0 : a.spot = none := by simpa [Addr.add] using World.cell?_spot (hc 0 (by omega))
  obtain ⟨b, off, spot⟩ := a
  obtain rfl : spot = none := hs0
  refine ⟨b, off, rfl, fun j u hu => ?_⟩
  have hj : j < len := by
    have := (List.getElem?_eq_some_iff.1 hu).1
    simp at this
    omega
  have h2 := hc j (by omega)
  have e : (⟨b, off, none⟩ : Addr).add j = ⟨b, off + j, none⟩ := by
    unfold Addr.add
    by_cases h : j = 0 <;> simp [h]
  rw [e] at h2
  simp [hj, show j < zs.length by omega, Iv] at hu
  rw [h2, ← hu]
  simp [show j < zs.length by omega]

set_option maxRecDepth 100000 in
/-- A descriptor, opened. -/
theorem open_desc {H : Type} {enc : TypeId × Value → H} {W : World} {b : Nat} {v : Value} {d : DataW H} {p : List MemPlace} (hv : Value.okWide Tryz.prog W .any b 35 v) (h : DataW.Trod enc Tryz.prog W 0 (fun _ => true) true 35 v d p) :
    ∃ (z : Int) (P : Option Addr) (m c : Nat) (e : Int) (Q : Option Addr) (q f : Nat) (ps es : List Int), v = .agg #[.int .i64 z, .slice P m c, .int .i64 e, .slice Q q f] ∧ Row W P m (ps.map Iv) ∧ Row W Q q (es.map Iv) ∧ m ≤ c ∧ q ≤ f ∧ True := by
  obtain ⟨v0, v1, v2, v3, y0, y1, y2, y3, n, rfl, -, -, h0, h1, h2, h3⟩ := Joins.open_agg4 Tryz.underlying35 (by kernel_rfl) (by kernel_rfl) hv h
  obtain ⟨z, hz, -, -⟩ := DataW.trod_int Tryz.underlying3 h0
  obtain rfl : v0 = .int .i64 z := by simpa using hz
  obtain ⟨e, he, -, -⟩ := DataW.trod_int Tryz.underlying3 h2
  obtain rfl : v2 = .int .i64 e := by simpa using he
  have hs1 : ∃ (S : Option Addr) (m c : Nat) (l : List Int), v1 = .slice S m c ∧ Row W S m (l.map Iv) ∧ m ≤ c := by
    rcases open_ints Tryz.underlying33 Tryz.underlying3 (by kernel_rfl) h1 with ⟨hs, _⟩ | ⟨a, len, cap, zs, hs, _, hl, _, hz, _, hc, hw⟩
    · obtain rfl : v1 = .slice none 0 0 := by simpa using hs
      exact ⟨none, 0, 0, [], rfl, Row.none_, Nat.le_refl _⟩
    · obtain rfl : v1 = .slice (some a) len cap := by simpa using hs
      rw [if_pos rfl] at hz
      exact ⟨some a, len, cap, zs.take len, rfl, row_of_cells hl hz (fun i hi => hc i (by omega)), hl⟩
  have hs3 : ∃ (S : Option Addr) (m c : Nat) (l : List Int), v3 = .slice S m c ∧ Row W S m (l.map Iv) ∧ m ≤ c := by
    rcases open_ints Tryz.underlying33 Tryz.underlying3 (by kernel_rfl) h3 with ⟨hs, _⟩ | ⟨a, len, cap, zs, hs, _, hl, _, hz, _, hc, hw⟩
    · obtain rfl : v3 = .slice none 0 0 := by simpa using hs
      exact ⟨none, 0, 0, [], rfl, Row.none_, Nat.le_refl _⟩
    · obtain rfl : v3 = .slice (some a) len cap := by simpa using hs
      rw [if_pos rfl] at hz
      exact ⟨some a, len, cap, zs.take len, rfl, row_of_cells hl hz (fun i hi => hc i (by omega)), hl⟩
  obtain ⟨P, m, c, ps, rfl, hP, hm⟩ := hs1
  obtain ⟨Q, q, f, es, rfl, hQ, hq⟩ := hs3
  exact ⟨z, P, m, c, e, Q, q, f, ps, es, rfl, hP, hQ, hm, hq, trivial⟩

/-- The witness: the door's own heap, and the pinned table laid into it. -/
noncomputable def wit (os : Os) : World := (World.doorLaid Tryz.prog 200 os).layVars Tryz.prog [("unicode/utf8.first", Rows.laid_unicode_utf8_first)]
theorem wit_os (os : Os) : (wit os).os = os := World.layVars_os _ _ _
noncomputable def witB (os : Os) : List Nat := (List.range (World.doorLaid Tryz.prog 200 os).heap.size).filter (· != 5)

set_option maxRecDepth 100000 in
/-- IT MEETS THE CONDITION. -/
theorem door_met (os : Os) (args : Array Value) : laidMetH Tryz.prog row0.laid ((wit os).forCall (fun _ _ => 0) ⟨#[], args, []⟩).memory :=
  laidMetH_of_parts3 (fuel := 8) (laidMet_layVars (w0 := World.doorLaid Tryz.prog 200 os) ["unicode/utf8.first"] (witB os) (by simp [World.memory, World.forCall, Input.heap]; rfl) (by kernel_rfl) (by kernel_rfl)
    (LaidIn.of_run (witB os) 8 (by kernel_rfl) (by kernel_rfl) (by kernel_rfl) (by kernel_rfl))) (by kernel_rfl) (by kernel_rfl)

section
variable {H : Type} {enc : TypeId × Value → H} {P : Program} {w : World} {base : Nat} {spare : Nat → Bool} {held : Bool}
theorem open_text {r : Reach} {b0 : Nat} {t : TypeId} {v : Value} {d : DataW H} {ps : List MemPlace} (ht : P.underlying t = some .string) (hval : Value.okWide P w r b0 t v) (hd : DataW.Trod enc P w base spare held t v d ps) :
    ∃ s : ByteArray, v = .string s ∧ d = .lit (.string s.data.toList) ∧ ps = [] ∧ s.size ≤ maxLen := by
  obtain ⟨s, rfl⟩ := okWide_string ht hval
  obtain ⟨fuel, hf⟩ := hd
  obtain ⟨s', h, hx, hw⟩ := DataW.trod_string ht hf
  simp [Value.cells] at h
  subst h
  simp only [Prod.mk.injEq] at hx
  exact ⟨s, rfl, hx.1, hx.2, hw⟩
end

theorem hone4 : ∃ f0 f1 f2 f3 : Field, Tryz.prog.underlying 35 = some (.struct #[f0, f1, f2, f3]) ∧ f0.type = 3 ∧ f1.type = 33 ∧ f2.type = 3 ∧ f3.type = 33 ∧ f0.offset = 0 ∧ f1.offset = 1 ∧ f2.offset = 2 ∧ f3.offset = 3 ∧
    Tryz.prog.cellsOf 3 = 1 ∧ Tryz.prog.cellsOf 33 = 1 ∧ Tryz.prog.cellsOf 35 = 4 := ⟨_, _, _, _, Tryz.underlying35, rfl, rfl, rfl, rfl, rfl, rfl, rfl, rfl, by kernel_rfl, by kernel_rfl, by kernel_rfl⟩

theorem add_none (b off i : Nat) : (⟨b, off, none⟩ : Addr).add i = ⟨b, off + i, none⟩ := by
  unfold Addr.add
  by_cases h : i = 0 <;> simp [h]

section
variable {H : Type} {enc : TypeId × Value → H} {W : World} {n : Nat} {v : Value} {x : DataW H × List MemPlace}
theorem ints_of (h : DataW.trod enc Tryz.prog W 0 (fun _ => true) true n 33 [v] = some x) : ∃ (S : Option Addr) (m c : Nat) (l : List Int), v = .slice S m c ∧ Row W S m (l.map Iv) ∧ m ≤ c := by
  rcases open_ints Tryz.underlying33 Tryz.underlying3 (by kernel_rfl) h with ⟨hs, _⟩ | ⟨a, len, cap, zs, hs, _, hl, _, hz, _, hc, hw⟩
  · obtain rfl : v = .slice none 0 0 := by simpa using hs
    exact ⟨none, 0, 0, [], rfl, Row.none_, Nat.le_refl _⟩
  · obtain rfl : v = .slice (some a) len cap := by simpa using hs
    rw [if_pos rfl] at hz
    exact ⟨some a, len, cap, zs.take len, rfl, row_of_cells hl hz (fun i hi => hc i (by omega)), hl⟩
theorem int_of (h : DataW.trod enc Tryz.prog W 0 (fun _ => true) true n 3 [v] = some x) : ∃ z : Int, v = .int .i64 z := by
  obtain ⟨z, hz, -, -⟩ := DataW.trod_int Tryz.underlying3 h
  exact ⟨z, by simpa using hz⟩
end

set_option maxRecDepth 100000 in
/-- A list of descriptors, opened. -/
theorem open_descs {H : Type} {enc : TypeId × Value → H} {W : World} {b : Nat} {v : Value} {d : DataW H} {p : List MemPlace} (hv : Value.okWide Tryz.prog W .any b 22 v) (h : DataW.Trod enc Tryz.prog W 0 (fun _ => true) true 22 v d p) :
    ∃ (A : Option Addr) (n c : Nat) (ds : List DscK), v = .slice A n c ∧ RowD W A n ds ∧ n ≤ c ∧ CapsOk W A n := by
  obtain ⟨A, n, c, rfl⟩ := okWide_slice Tryz.underlying22 hv
  obtain ⟨fuel, hf⟩ := h
  obtain ⟨f0, f1, f2, f3, hs, t0, t1, t2, t3, o0, o1, o2, o3, k0, k1, k4⟩ := hone4
  rcases Deep.open_slice Tryz.underlying22 hf with ⟨hs0, -⟩ | ⟨a, len, cap, m, n', D, Pl, hs0, -, hl, -, hm, -, hx⟩
  · have : A = none ∧ n = 0 ∧ c = 0 := by simpa [Value.cells] using hs0
    obtain ⟨rfl, rfl, rfl⟩ := this
    exact ⟨none, 0, 0, [], rfl, RowD.none_, Nat.le_refl _, fun h => absurd h (by omega)⟩
  · have : A = some a ∧ n = len ∧ c = cap := by simpa [Value.cells] using hs0
    obtain ⟨rfl, rfl, rfl⟩ := this
    rw [if_pos rfl] at hm
    subst hm
    rw [k4] at hx
    have each : ∀ i, i < n → ∃ q : MD × DscK, W.cell? (a.add (i * 4)) = some (.int .i64 q.1.1) ∧ W.cell? (a.add (i * 4 + 1)) = some (.slice q.1.2.1.1 q.1.2.1.2.1 q.1.2.1.2.2) ∧ W.cell? (a.add (i * 4 + 2)) = some (.int .i64 q.1.2.2.1) ∧ W.cell? (a.add (i * 4 + 3)) = some (.slice q.1.2.2.2.1 q.1.2.2.2.2.1 q.1.2.2.2.2.2) ∧ Fits W q.1 q.2 ∧ q.1.2.1.2.1 ≤ q.1.2.1.2.2 ∧ q.1.2.2.2.2.1 ≤ q.1.2.2.2.2.2 := by
      intro i hi
      obtain ⟨cs', h1, h2⟩ := hx i (by omega)
      obtain ⟨_, hlen, hcell⟩ := World.cells?_some h1
      obtain ⟨xs, k, -, -, -, hxl, hfs⟩ := DataW.trod_struct hs h2
      match xs, hxl, cs', hlen with
      | [y0, y1, y2, y3], _, [v0, v1, v2, v3], _ =>
        have g0 := hfs 0 f0 rfl
        have g1 := hfs 1 f1 rfl
        have g2 := hfs 2 f2 rfl
        have g3 := hfs 3 f3 rfl
        simp [o0, o1, o2, o3, t0, t1, t2, t3, k0, k1] at g0 g1 g2 g3
        have e0 := hcell 0 (by omega)
        have e1 := hcell 1 (by omega)
        have e2 := hcell 2 (by omega)
        have e3 := hcell 3 (by omega)
        rw [Deep.add_add] at e0 e1 e2 e3
        obtain ⟨z, rfl⟩ := int_of g0
        obtain ⟨y, rfl⟩ := int_of g2
        obtain ⟨P, m, c', ps, rfl, r1, l1⟩ := ints_of g1
        obtain ⟨Q, q, f, es, rfl, r2, l2⟩ := ints_of g3
        exact ⟨((z, (P, m, c'), y, (Q, q, f)), (z, ps, y, es)), by simpa using e0, by simpa using e1, by simpa using e2, by simpa using e3, ⟨rfl, rfl, r1, r2⟩, l1, l2⟩
    letI : Inhabited (MD × DscK) := ⟨(md0, dsc0K)⟩
    obtain ⟨q, hq⟩ := Deep.choose_lt each
    rcases Nat.eq_zero_or_pos n with hn | hn
    · subst hn
      exact ⟨some a, 0, _, [], rfl, RowD.none_, hl, fun h => absurd h (by omega)⟩
    have hsp : a.spot = none := by
      have := World.cell?_spot (hq 0 hn).1
      simpa [Addr.add] using this
    obtain ⟨g, off, spot⟩ := a
    obtain rfl : spot = none := hsp
    have hall : ∀ k, k < n → W.cell? ⟨g, off + 4 * k, none⟩ = some (.int .i64 (q k).1.1) ∧ W.cell? ⟨g, off + 4 * k + 1, none⟩ = some (.slice (q k).1.2.1.1 (q k).1.2.1.2.1 (q k).1.2.1.2.2) ∧ W.cell? ⟨g, off + 4 * k + 2, none⟩ = some (.int .i64 (q k).1.2.2.1) ∧ W.cell? ⟨g, off + 4 * k + 3, none⟩ = some (.slice (q k).1.2.2.2.1 (q k).1.2.2.2.2.1 (q k).1.2.2.2.2.2) ∧ Fits W (q k).1 (q k).2 ∧ (q k).1.2.1.2.1 ≤ (q k).1.2.1.2.2 ∧ (q k).1.2.2.2.2.1 ≤ (q k).1.2.2.2.2.2 := fun k hk => by
      obtain ⟨c0, c1, c2, c3, hF, l1, l2⟩ := hq k hk
      rw [add_none] at c0 c1 c2 c3
      rw [show off + k * 4 = off + 4 * k by omega] at c0
      rw [show off + (k * 4 + 1) = off + 4 * k + 1 by omega] at c1
      rw [show off + (k * 4 + 2) = off + 4 * k + 2 by omega] at c2
      rw [show off + (k * 4 + 3) = off + 4 * k + 3 by omega] at c3
      exact ⟨c0, c1, c2, c3, hF, l1, l2⟩
    refine ⟨some ⟨g, off, none⟩, n, _, (List.range n).map fun i => (q i).2, rfl, ⟨by simp, fun _ => ⟨g, off, rfl, fun k x hx => ?_⟩⟩, hl, fun _ => ⟨g, off, rfl, fun k hk => ?_⟩⟩
    · have hk : k < n := by
        have := (List.getElem?_eq_some_iff.1 hx).1
        simpa using this
      have hxe : (q k).2 = x := by
        rw [List.getElem?_map, List.getElem?_range hk] at hx
        exact Option.some.inj hx
      obtain ⟨c0, c1, c2, c3, ⟨e1, e2, r1, r2⟩, l1, l2⟩ := hall k hk
      rw [hxe] at e1 e2 r1 r2
      exact ⟨_, _, _, _, _, _, by rw [← e1]; exact c0, c1, by rw [← e2]; exact c2, c3, r1, r2⟩
    · obtain ⟨c0, c1, c2, c3, -, l1, l2⟩ := hall k hk
      exact ⟨_, _, _, _, _, _, c1, l1, c3, l2⟩

end Go.Proofs.YtmabokmnniiadaaGreatDoor
namespace Go.Proofs.YtmabokmnniiadaaGreatDoor.KindsAdds
open Go.ChangeShapes Go.WideShapes Go.ChangeAt Go.RowKit

set_option maxRecDepth 100000 in
theorem contract (H : Type) (enc : TypeId × Value → H) (W : World) (base : Nat) (args : Array Value) (ds gs : List (DataW H)) (before : List MemPlace)
    (hval : ∀ (j : Nat) t v, Tryz.f5.params[j]? = some t → args[j]? = some v → Value.okWide Tryz.prog W .any base t v)
    (hW : DataW.Whole enc Tryz.prog Tryz.f5.params.toList Rows.kindsAddsSpec.vars false W args.toList ds gs before) (hsh : W.ShapedOpen Tryz.prog) (hL : laidMetH Tryz.prog Rows.kindsAddsRow.laid W) :
    Calls Tryz.prog 5 args W fun e W' => ∃ v, e = .returned v ∧ Rows.kindsAddsSpec.post enc Tryz.prog Tryz.f5 false true false false W args v W' := by
  have hW' := hW
  obtain ⟨p, q, hA0, hV, rfl, hfz, hnd⟩ := hW
  have hA : DataW.TrodAll enc Tryz.prog W 0 (fun _ => true) true Tryz.f5.params.toList args.toList ds p := hA0
  rw [Tryz.params5] at hA hval
  obtain ⟨v0, vs0, d0, ds0, p0, q0, hargs, rfl, rfl, h0, r0⟩ := trodAll_cons hA
  obtain ⟨v1, vs1, d1, ds1, p1, q1, rfl, rfl, rfl, h1, r1⟩ := trodAll_cons r0
  obtain ⟨v2, vs2, d2, ds2, p2, q2, rfl, rfl, rfl, h2, r2⟩ := trodAll_cons r1
  obtain ⟨v3, vs3, d3, ds3, p3, q3, rfl, rfl, rfl, h3, r3⟩ := trodAll_cons r2
  obtain ⟨rfl, rfl, rfl⟩ := trodAll_nil r3
  obtain rfl : args = #[v0, v1, v2, v3] := by cases args; simp_all
  obtain ⟨rfl, rfl⟩ := trodVars_none hV
  obtain ⟨A0, n0, c0, l0, rfl, hR0, hnc0, hC0⟩ := open_descs (hval 0 _ v0 rfl rfl) h0
  obtain ⟨A1, n1, c1, l1, rfl, hR1, hnc1, hC1⟩ := open_descs (hval 1 _ v1 rfl rfl) h1
  obtain ⟨z2, P2, m2, c2, e2, Q2, q2, f2, ps2, es2, rfl, hP2, hQ2, hm2, hq2, -⟩ := open_desc (hval 2 _ v2 rfl rfl) h2
  obtain ⟨i3, rfl, rfl, rfl, b3⟩ := open_int Tryz.underlying3 (hval 3 _ v3 rfl rfl) h3
  have hDK := sents hsh hL
  refine (kindsAdds_any A0 n0 c0 l0 A1 n1 c1 l1 z2 P2 m2 c2 e2 Q2 q2 f2 ps2 es2 i3 W hDK hR0 hC0 hR1 hC1 hP2 hQ2 hm2 hq2).mono fun e W' ⟨he, hb⟩ => ?_
  subst he
  exact ⟨_, rfl, post_true laidOut0 Tryz.underlying4 (by kernel_rfl) rfl (by kernel_rfl) hW' rfl hb⟩

noncomputable def wArgs : Array Value := #[.slice none 0 0, .slice none 0 0, .agg #[.int .i64 0, .slice none 0 0, .int .i64 0, .slice none 0 0], .int .i64 0]

theorem reads (os : Os) {H : Type} (enc : TypeId × Value → H) : ∃ places, DataW.whole enc Tryz.prog ((wit os).forCall (fun _ _ => 0) ⟨#[], wArgs, []⟩).memory Tryz.f5.params.toList Rows.kindsAddsSpec.vars false wArgs.toList 8 = some ([.nil, .nil, .agg [.lit (.int .i64 0), .nil, .lit (.int .i64 0), .nil], .lit (.int .i64 0)], [], places) :=
  ⟨[], by kernel_rfl⟩

set_option maxRecDepth 100000 in
theorem lifted (os : Os) (started : os.Started) (H : Type) (enc : TypeId × Value → H) (F : Stop.Interp) :
    ReturnsInHanded {} Tryz.checked os 5 .any ((OpenSpec.ofChange Rows.kindsAddsSpec).preRow enc Tryz.prog Tryz.f5 Rows.kindsAddsRow.domain false Rows.kindsAddsRow.laid) (((OpenSpec.ofChange Rows.kindsAddsSpec).at F).post enc Tryz.prog Tryz.f5 false true false false) := by
  obtain ⟨places, hx⟩ := reads os enc
  refine returnsInHanded_of_row (C := Tryz.checked) (s := OpenSpec.ofChange Rows.kindsAddsSpec) own0 started (by kernel_rfl) Tryz.func5
    (witness_row_atRef (enc := enc) (C := Tryz.checked) false (wit os) wArgs (wit_os os) (by kernel_rfl) (by kernel_rfl) (by kernel_rfl)
      (OpenSpec.preRow_of_cond 8 hx (by kernel_rfl) (fun k hk => by cases hk) (by kernel_rfl) (door_met os _))) ?_
  intro W base args ds gs before hval hW _ _ _ hL hsh _
  exact contract H enc W base args ds gs before hval hW hsh hL

theorem said : Rows.KindsAddsSaid :=
  OpenClaim.holds_of_cond 5 Tryz.f5 rfl rfl rfl rfl rfl rfl rfl ⟨rfl, rfl, rfl, rfl, rfl⟩ rfl rfl rfl rfl rfl (by kernel_rfl) Tryz.func5 (by kernel_rfl)
    (of_decide_eq_true (by kernel_rfl)) (by unfold Func.isWrapper; first | (rw [if_pos (by decide +kernel)]; kernel_rfl) | (rw [if_neg (by decide +kernel)]; exact ⟨rfl, rfl⟩))
    (fun os started H enc _ F => by rw [OpenClaim.pre_eq_preRow]; exact lifted os started H enc F)

theorem plain (f : FuncId) (fn : Func) (hf : Tryz.pinned.checked.prog.funcNamed "selion/selionlaw05.KindsAdds" = some f) (hfn : Tryz.pinned.checked.prog.funcs[f]? = some fn) :
    true = Tryz.pinned.checked.prog.looks [] ∧ ∀ (j : Nat) t, fn.params[j]? = some t → Tryz.pinned.checked.prog.wantsStandIn t = false := by
  obtain rfl : f = 5 := Option.some.inj ((show Tryz.prog.funcNamed "selion/selionlaw05.KindsAdds" = some 5 by kernel_rfl).symm.trans hf) |>.symm
  obtain rfl : fn = Tryz.f5 := (Option.some.inj (Tryz.func5.symm.trans hfn)).symm
  refine ⟨by kernel_rfl, fun j t ht => ?_⟩
  have h : (Tryz.f5.params.toList.all fun t => !Tryz.prog.wantsStandIn t) = true := by kernel_rfl
  have := List.all_eq_true.1 h t (by simpa using Array.mem_of_getElem? ht)
  show Tryz.prog.wantsStandIn t = false
  simpa using this

/-- THE CARD. -/
theorem card : Rows.KindsAddsCardSaid :=
  Claim7.holds_tied_plain_at .later [] _ _ _ _ said (fun _ h => by cases h) (by kernel_rfl) (fun _ h => by cases h) kindsAdds_row_tie rfl ⟨rfl, rfl⟩ (by kernel_rfl) rfl plain (by kernel_rfl)
end Go.Proofs.YtmabokmnniiadaaGreatDoor.KindsAdds
