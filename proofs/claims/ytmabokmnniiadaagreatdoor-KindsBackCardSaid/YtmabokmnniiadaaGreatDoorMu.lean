/-
  What is proved: the contract of Print of package kinds. No condition beyond those stated.
-/
import Derived.Test.YtmabokmnniiadaaGreatDoorMr
import Derived.Test.YtmabokmnniiadaaGreatDoorBs
namespace Go.Proofs.YtmabokmnniiadaaGreatDoor
open Go.RowKit Go.Shelf
attribute [local go_sem] Oper.semAt_some

/-- Kinds' text, and what is told. -/
def GivesT (w : World) (t : List UInt8) (c : Nat) (x : Ending) (w' : World) : Prop := x = .returned (.tuple #[.string ⟨t.toArray⟩, .int .i64 (c : Nat)]) ∧ Below w.heap.size w w'

/-- The text of those that were met. -/
def txtK (ds : List DscK) {N : Nat} (pre : List (Fin N)) : List UInt8 := pre.flatMap fun x => dP (ds.getD x.1 dsc0K) ++ [10]
theorem txtK_snoc (ds : List DscK) {N : Nat} (pre : List (Fin N)) (x : Fin N) {d : DscK} (h : ds[x.1]? = some d) : txtK ds (pre ++ [x]) = (txtK ds pre ++ dP d) ++ [10] := by
  simp [txtK, List.getD_eq_getElem?_getD, h]
theorem txtK_all {ds : List DscK} {N : Nat} (h : ds.length = N) : txtK ds (List.finRange N) = linesT ds := by
  have e : (List.finRange N).map (fun x => ds.getD x.1 dsc0K) = ds := by
    refine List.ext_getElem (by simp [h]) fun i h1 h2 => ?_
    simp [List.getD_eq_getElem?_getD, List.getElem?_eq_getElem h2]
  have e2 : linesT ds = ((List.finRange N).map (fun x => ds.getD x.1 dsc0K)).flatMap fun d => dP d ++ [10] := by rw [e]; rfl
  rw [e2, List.flatMap_map]
  rfl
theorem txtK_len {ds : List DscK} {N : Nat} (hl : ds.length = N) (hd : ∀ d ∈ ds, dR d = true) : ∀ pre : List (Fin N), (txtK ds pre).length ≤ pre.length * 100001
  | [] => by simp [txtK]
  | x :: pre => by
    have h1 := txtK_len hl hd pre
    have hx : ds[x.1]? = some (ds[x.1]'(by have := x.2; omega)) := List.getElem?_eq_getElem (by have := x.2; omega)
    have h2 := dP_len (hd _ (List.mem_of_getElem? hx))
    have e : txtK ds (x :: pre) = dP (ds.getD x.1 dsc0K) ++ [10] ++ txtK ds pre := rfl
    rw [e, List.getD_eq_getElem?_getD, hx]
    simp only [Option.getD_some, List.length_append, List.length_cons, List.length_nil]
    omega

/-- What is printed till now, in the builder b. -/
def PrI (W1 : World) (b : Nat) (ds : List DscK) {N : Nat} (pre : List (Fin N)) (W' : World) : Prop :=
  W1.heap.size ≤ W'.heap.size ∧ Below b W1 W' ∧ IsB b b (Lib.byteCells (txtK ds pre)) W'
theorem PrI.own {W1 X Y : World} {b : Nat} {ds : List DscK} {N : Nat} {pre : List (Fin N)} {row : Option Nat} (hbn : b ≤ W1.heap.size) (h : PrI W1 b ds pre X) (hg : X.grownBy Y row) (hr : ∀ r, row = some r → W1.heap.size ≤ r ∧ ∃ o : Obj, X.heap[r]? = some o ∧ o.isCells = false) : PrI W1 b ds pre Y :=
  ⟨Nat.le_trans h.1 hg.size, h.2.1.grown hg (Nat.le_trans hbn h.1) (fun k e => Nat.le_trans hbn (hr k e).1), isB_own hg hr h.2.2⟩

def printF (w w1 : World) (A : Option Addr) (n c rb k : Nat) (d : MD) : Act :=
  { tmps := #[.slice A n c, undef, .pointer (some ⟨w.heap.size, 0, none⟩), .pointer (some ⟨w.heap.size + 1, 0, none⟩), .nilIface, .pointer (some ⟨w1.heap.size, 0, none⟩), undef, .pointer (some ⟨rb, 0, none⟩), undef, undef, .slice A n c, .nilIface, .nilIface, .bool false, undef, undef, .slice A n c,
      .func (.func 53) #[] #[.pointer (some ⟨w1.heap.size + 1, 0, none⟩)], .int .i64 ((k : Int) + 1), mdV d, undef, undef, undef, undef, undef, undef, undef, undef, undef, undef, undef], defers := [] }

set_option maxRecDepth 100000 in
set_option maxHeartbeats 4000000 in
/-- Print. -/
theorem kprint_any (A : Option Addr) (n c : Nat) (ds : List DscK) (w : World) (hR : RowD w A n ds) (hs : Sm ds) (hn : n ≤ 1000) (ht : Tab w) (hE : EType w) :
    Calls Tryz.prog 11 #[.slice A n c] w (GivesT w (kText ds) (kNo ds)) := by
  have hlen := hR.1
  have hx := below_le (below_box w (.cells #[.string ⟨#[]⟩] 9)) (below_box _ (.cells #[.int .i64 0] 25))
  have g2 : Blk ((w.alloc (.cells #[.string ⟨#[]⟩] 9)).alloc (.cells #[.int .i64 0] 25)) w.heap.size 9 #[.string ⟨#[]⟩] := Blk.alloc (Blk.new _ _ _) _
  have g3 : Blk ((w.alloc (.cells #[.string ⟨#[]⟩] 9)).alloc (.cells #[.int .i64 0] 25)) (w.heap.size + 1) 25 #[.int .i64 0] := heap_new (by simp) _
  have hz : ((w.alloc (.cells #[.string ⟨#[]⟩] 9)).alloc (.cells #[.int .i64 0] 25)).heap.size = w.heap.size + 2 := by simp
  have hchk := check_any A n c ds _ (hR.ext hx) hs hn (tab_ext ht hx)
  obtain ⟨ms, hM⟩ := (hR).ms
  have hno := kNo_iff ds
  have r1 : kRight ds = false → kText ds = [] := fun h => by unfold kText; rw [h]; rfl
  have r2 : kRight ds = true → kText ds = linesT ds ∧ (∀ d ∈ ds, dR d = true) := fun h => ⟨by unfold kText; rw [if_pos h], (kRight_iff.1 h).2.1⟩
  generalize kText ds = kt at *
  generalize kNo ds = no at *
  have R1 := Lib.hid r1
  have R2 := Lib.hid r2
  have NO := Lib.hid hno
  have HCH := Lib.hid hchk
  have HLT := Lib.hid hM.lt
  have HT0 := Lib.hid ht
  have HE := Lib.hid (hE.ext hx)
  have HT := Lib.hid (tab_ext ht hx)
  have HM := Lib.hid (hM.ext hx)
  have HLEN := Lib.hid hlen
  have HMN := Lib.hid hM.2.1
  have HS := Lib.hid hs
  have HB := Lib.hid hx
  have G2 := Lib.hid g2
  have G3 := Lib.hid g3
  have HZ := Lib.hid hz
  clear r1 r2 hno hchk ht hE hR hx g2 g3 hlen hs hM hz
  refine (callsIn_wide (n := 3)).1 ?_
  refine callsIn_of_wp_marks Tryz.func11 rfl trivial ?_ rfl
  simp only [Tryz.ntmps11, List.size_toArray, List.length_cons, List.length_nil, Nat.reduceAdd, Nat.reduceSub, Array.replicate_succ, Array.replicate_zero, List.push_toArray, List.append_toArray, List.nil_append, List.cons_append]
  gi_wp2_with fail
  generalize (w.alloc (.cells #[.string ⟨#[]⟩] 9)).alloc (.cells #[.int .i64 0] 25) = W0 at *
  refine ⟨trivial, (callsIn_wide.2 HCH.out).mono ?_⟩
  rintro x w1 ⟨v, rfl, hv, hb1⟩
  have HE1 := Lib.hid (HE.out.ext hb1)
  have HT1 := Lib.hid (tab_ext HT.out hb1)
  have HM1 := Lib.hid (HM.out.ext hb1)
  replace G2 := Lib.hid (G2.out.ext hb1)
  replace G3 := Lib.hid (G3.out.ext hb1)
  replace HZ := Lib.hid (show w.heap.size + 2 ≤ w1.heap.size from HZ.out ▸ hb1.size)
  replace HB := Lib.hid (below_le HB.out hb1)
  clear hb1 HCH HE HT HM
  rcases NO.out with ⟨hk, hkr⟩ | ⟨hk, hkr⟩
  case inr =>
    rw [hk] at hv
    have hkt := R1.out hkr
    subst hkt
    obtain rfl := hk
    clear hkr R1 R2 NO
    have HV := Lib.hid (number_kinds 50 v w1 hv HE1.out)
    rcases hv with ⟨h0, -⟩ | ⟨-, t, u, rfl, -, -⟩
    · cases h0
    · gi_wp2_with fail
      refine ⟨trivial, (callsIn_wide.2 HV.out).mono ?_⟩
      rintro x w2 ⟨rfl, hb2⟩
      have g2 := G2.out.ext hb2
      have g3 := G3.out.ext hb2
      replace HB := Lib.hid (below_le HB.out hb2)
      have c2 := g2.at_ (i := 0) rfl
      have c3 := g3.at_ (i := 0) rfl
      have f2 := g2.frozen 0
      have f3 := g3.frozen 0
      clear hb2 HV
      have q2 := ((g2.set_ 0 (.string ⟨#[]⟩)).far (p := ⟨w.heap.size + 1, 0, none⟩) (by show w.heap.size ≠ w.heap.size + 1; omega) (.int .i64 50)).at_ (i := 0) rfl
      have q3 := ((g3.far (p := ⟨w.heap.size, 0, none⟩) (by show w.heap.size + 1 ≠ w.heap.size; omega) (.string ⟨#[]⟩)).set_ 0 (.int .i64 50)).at_ (i := 0) rfl
      have HB9 := Lib.hid ((HB.out.setCell (p := ⟨w.heap.size, 0, none⟩) (Nat.le_refl _) (.string ⟨#[]⟩)).setCell (p := ⟨w.heap.size + 1, 0, none⟩) (Nat.le_succ _) (.int .i64 50))
      gi_wp2
      exact ⟨.tuple #[.string ⟨#[]⟩, .int .i64 50], by simp [results, Tryz.results11, go_sem, q2, q3], by simp, HB9.out⟩
  case inl =>
    rw [hk] at hv
    rcases hv with ⟨-, rfl⟩ | ⟨h0, -⟩
    case inr => exact absurd rfl h0
    obtain ⟨hkt, hdr⟩ := R2.out hkr
    subst hkt
    obtain rfl := hk
    have HDR := Lib.hid hdr
    clear hkr R1 R2 NO hdr
    gi_wp2_with fail
    have hx := below_box w1 (.cells #[.pointer none, .slice none 0 0] 55)
    have hfr := Lib.fresh_isBuilder 55 5 w1
    replace HE1 := Lib.hid (HE1.out.ext hx)
    replace HT1 := Lib.hid (tab_ext HT1.out hx)
    replace HM1 := Lib.hid (HM1.out.ext hx)
    replace G2 := Lib.hid (G2.out.ext hx)
    replace G3 := Lib.hid (G3.out.ext hx)
    replace HB := Lib.hid (below_le HB.out hx)
    have HI := Lib.hid hfr
    have hz2 : (w1.alloc (.cells #[.pointer none, .slice none 0 0] 55)).heap.size = w1.heap.size + 1 := by simp
    have HZ2 := Lib.hid hz2
    clear hx hfr hz2
    generalize w1.alloc (.cells #[.pointer none, .slice none 0 0] 55) = W2 at *
    refine ⟨trivial, (callsIn_wide.2 (numbered_any _ _ _ _)).mono ?_⟩
    rintro x w' ⟨rfl, rfl⟩
    have hb1 := below_box W2 (.cells #[.slice A n c] 22)
    have hz : (W2.alloc (.cells #[.slice A n c] 22)).heap.size = w1.heap.size + 2 := by simp [HZ2.out]
    have e1 := cell_one (w := W2) (t := 22) (v := .slice A n c)
    have hM1 := HM1.out.ext hb1
    have HG2 := Lib.hid (G2.out.ext hb1)
    have HG3 := Lib.hid (G3.out.ext hb1)
    have HHB := Lib.hid (below_le HB.out hb1)
    have HII := Lib.hid (isB_ext hb1 HI.out)
    have HET := Lib.hid (HE1.out.ext hb1)
    have HTT := Lib.hid (tab_ext HT1.out hb1)
    rw [HZ2.out] at e1 ⊢
    generalize W2.alloc (.cells #[.slice A n c] 22) = W1 at *
    have hst := numbered1_stops (3 - 1) A n c ms ds (w1.heap.size + 1) hn W1 e1 hM1
    have hlt := hM1.lt
    have HZ1 := Lib.hid (show w1.heap.size + 2 ≤ W1.heap.size by omega)
    have HMM := Lib.hid hM1
    have HLT1 := Lib.hid hlt
    clear HM1 HE1 HT1 HB HI G2 G3 HZ2 hb1 e1 hM1 hz
    gi_wp2_with fail
    refine wpIn_rangeFunc_ownH (F := Fence.wide) (n := 3) rfl (by omega) (gf := 53) (lb := #[.pointer (some ⟨w1.heap.size + 1, 0, none⟩)]) rfl trivial (enters_of Tryz.func53 (by kernel_rfl) rfl)
      hst (fun h k => h.t k) (KeepB.b hlt) (Below.refl _ _) (fun _ => rfl)
      (PrI W1 w1.heap.size ds) (fun _ _ _ => False)
      (fun s X Y row hs hg hr => PrI.own (by have := HZ1.out; omega) hs hg hr)
      (fun c s X Y row hs hg hr => hs)
      ⟨Nat.le_refl _, Below.refl _ _, HII.out⟩
      (fun x a' W => ∃ rb d, W1.heap.size ≤ rb ∧ ms[x.1]? = some d ∧ a' = printF w w1 A n c rb x.1 d ∧ Blk W rb 35 (cells4 d).toArray)
      (fun x a' _ X Y row hs hg hr => by obtain ⟨rb, d, h1, h2, h3, h4⟩ := hs; exact ⟨rb, d, h1, h2, h3, h4.own hg hr⟩)
      ?assign ?body ?done ?stop
    case stop => rintro D cd pre W' hD _ h hK; exact h.elim
    case assign =>
      intro l0 pre x W' K hI hK
      have hk : ms[x.1]? = some (ms[x.1]) := List.getElem?_eq_getElem x.2
      dsimp only [numD]
      rw [getD_of hk]
      have HKX := Lib.hid hk
      generalize ms[x.1] = d at *
      obtain ⟨z1, ⟨P1, m1, c1⟩, y1, Q1, q1, f1⟩ := d
      have HK := Lib.hid hK
      have HI := Lib.hid hI
      clear hK hI hk hst
      dsimp only [mdV]
      gi_wp2
      have hx := below_box W' (descO z1 P1 m1 c1 y1 Q1 q1 f1)
      exact HK.out _ _ (keepsFrom_below hx) (KeepB.of_below (hx.mono HI.out.1) HLT1.out) ⟨Nat.le_trans HI.out.1 hx.size, HI.out.2.1.trans (hx.mono (by have := HI.out.1; have := HZ1.out; omega)), isB_ext hx HI.out.2.2⟩ ⟨W'.heap.size, _, HI.out.1, HKX.out, rfl, Blk.new _ _ _⟩
    case body =>
      rintro l0 pre x a' W' - - ⟨s1, s2, s3⟩ ⟨rb, d, hrb, hk, rfl, hbl⟩ hpl
      have hxn : x.1 < n := by have := x.2; have := HMN.out; omega
      have hkb : KeepB (blksD A n ms) W1 W' := KeepB.of_below s2 (fun b hb => by have := HLT.out b hb; have := HZ.out; omega)
      obtain ⟨b1, o1, z1, P1, m1, c1, y1, Q1, q1, f1, ps1, es1, -, hk2, hd1, r1, r2, -, -, -, -⟩ := (HMM.out.keep hkb (fun _ h => h)).get hxn
      rw [hk] at hk2
      cases hk2
      have hdr := HDR.out _ (List.mem_of_getElem? hd1)
      have hsm := HS.out _ (List.mem_of_getElem? hd1)
      have hl1 := r1.1
      have hl2 := r2.1
      simp at hl1 hl2
      have hm1 : m1 ≤ 1000 := by have := hsm.1; dsimp only at this; omega
      have hq1 : q1 ≤ 1000 := by have := hsm.2; dsimp only at this; omega
      have a0 := hbl.at_ (i := 0) rfl
      have a1 := hbl.at_ (i := 1) rfl
      have a2 := hbl.at_ (i := 2) rfl
      have a3 := hbl.at_ (i := 3) rfl
      have hcall := print_any z1 y1 P1 Q1 m1 c1 q1 f1 ps1 es1 W' r1 r2 hm1 hq1 (tab_ext HT0.out (HHB.out.trans (s2.mono (by have := HZ.out; omega))))
      unfold GivesPr prText prNo at hcall
      simp only [show dRight z1 ps1 y1 es1 = true from hdr, if_true] at hcall
      have hsn := txtK_snoc ds pre x hd1
      have hlt1 := txtK_len (by rw [HLEN.out, HMN.out]) HDR.out pre
      have hlp := dP_len hdr
      rw [show dP (z1, ps1, y1, es1) = printT z1 ps1 y1 es1 from rfl] at hsn hlp
      generalize printT z1 ps1 y1 es1 = t at *
      have hl2 : (Lib.byteCells (txtK ds pre)).length + (⟨t.toArray⟩ : ByteArray).size ≤ 140737488355328 := by rw [Lib.byteCells_length, size_list]; have := HMN.out; omega
      have hl3 : (Lib.byteCells (txtK ds pre ++ t)).length + 1 ≤ 140737488355328 := by rw [Lib.byteCells_length]; simp; have := HMN.out; omega
      have HC := Lib.hid hcall
      have HSN := Lib.hid hsn
      have S1 := Lib.hid s1
      have S2 := Lib.hid s2
      have S3 := Lib.hid s3
      have HL2 := Lib.hid hl2
      have HL3 := Lib.hid hl3
      have hbl : Blk W' rb 35 #[.int .i64 z1, .slice P1 m1 c1, .int .i64 y1, .slice Q1 q1 f1] := hbl
      clear hcall hsn s1 s2 s3 hl2 hl3 hlt1 hlp hdr hsm hl1 r1 r2 hd1 hk hkb hst a0 a1 a2 a3
      have a0 := hbl.at_ (i := 0) rfl
      have a1 := hbl.at_ (i := 1) rfl
      have a2 := hbl.at_ (i := 2) rfl
      have a3 := hbl.at_ (i := 3) rfl
      clear hbl
      simp only [printF, mdV]
      gi_wp2_with fail
      refine ⟨trivial, (CallsIn.inRound _ (callsIn_wide.2 HC.out)).mono ?_⟩
      rintro x2 w4 ⟨rfl, hb4⟩
      clear a0 a1 a2 a3 HC
      replace S3 := Lib.hid (isB_ext hb4 S3.out)
      replace S2 := Lib.hid (S2.out.trans (hb4.mono (by have := S1.out; have := HZ1.out; omega)))
      have HKO := Lib.hid (keepsO_below hb4)
      have HKB := Lib.hid (KeepB.of_below (S := blksD A n ms) hb4 (fun b hb => by have := HLT1.out b hb; have := S1.out; omega))
      replace S1 := Lib.hid (Nat.le_trans S1.out hb4.size)
      clear hb4
      gi_wp2_with fail
      refine ⟨trivial, (CallsIn.inRound _ (callsIn_wide.2 (writeString_all w1.heap.size w1.heap.size _ ⟨t.toArray⟩ w4 S3.out HL2.out (by have := S1.out; have := HZ1.out; omega)))).mono ?_⟩
      rintro x2 w5 ⟨rfl, hi5, hb5, hk5⟩
      rw [cells_text] at hi5
      replace S3 := Lib.hid hi5
      replace S2 := Lib.hid (S2.out.trans hb5)
      replace HKO := Lib.hid (HKO.out.trans hk5)
      replace HKB := Lib.hid (HKB.out.t (KeepB.of_below (S := blksD A n ms) hb5 (fun b hb => by have := HLT.out b hb; have := HZ.out; omega)))
      replace S1 := Lib.hid (Nat.le_trans S1.out hb5.size)
      clear hb5 hi5 hk5
      gi_wp2_with fail
      refine ⟨trivial, (CallsIn.inRound _ (callsIn_wide.2 (writeByte_all w1.heap.size w1.heap.size _ 10 w5 S3.out HL3.out (by have := S1.out; have := HZ1.out; omega)))).mono ?_⟩
      rintro x2 w6 ⟨rfl, hi6, hb6, hk6⟩
      have hi6' : IsB w1.heap.size w1.heap.size (Lib.byteCells (txtK ds (pre ++ [x]))) w6 := by
        rw [HSN.out, ← cells_snoc]
        exact hi6
      replace S3 := Lib.hid hi6'
      replace S2 := Lib.hid (S2.out.trans hb6)
      replace HKO := Lib.hid (HKO.out.trans hk6)
      replace HKB := Lib.hid (HKB.out.t (KeepB.of_below (S := blksD A n ms) hb6 (fun b hb => by have := HLT.out b hb; have := HZ.out; omega)))
      replace S1 := Lib.hid (Nat.le_trans S1.out hb6.size)
      clear hb6 hi6 hk6 hi6'
      gi_wp2
      exact ⟨HKO.out.from _, HKB.out, S1.out, S2.out, S3.out⟩
    case done =>
      rintro D ys W' hD rfl ⟨s1, s2, s3⟩ hK
      rw [txtK_all (by rw [HLEN.out, HMN.out])] at s3
      have S1 := Lib.hid s1
      have S2 := Lib.hid s2
      have S3 := Lib.hid s3
      have HK := Lib.hid hK
      clear s1 s2 s3 hK hst
      gi_wp2_with fail
      refine ⟨trivial, (callsIn_wide.2 (bString_all w1.heap.size w1.heap.size _ W' S3.out (by have := S1.out; have := HZ1.out; omega))).mono ?_⟩
      rintro x w4 ⟨rfl, hb4, hk4⟩
      have hK4 := hk4.same D _ HK.out rfl
      have hb5 := S2.out.trans hb4
      have hbb : Below w.heap.size w w4 := HHB.out.trans (hb5.mono (by have := HZ.out; omega))
      have g2 : Blk w4 w.heap.size 9 #[.string ⟨#[]⟩] := (hb5.block _ (by have := HZ.out; omega)).trans HG2.out
      have g3 : Blk w4 (w.heap.size + 1) 25 #[.int .i64 0] := (hb5.block _ (by have := HZ.out; omega)).trans HG3.out
      have c2 := g2.at_ (i := 0) rfl
      have c3 := g3.at_ (i := 0) rfl
      have f2 := g2.frozen 0
      have f3 := g3.frozen 0
      obtain ⟨t, ht⟩ : ∃ t : ByteArray, (⟨(linesT ds).toArray⟩ : ByteArray) = t := ⟨_, rfl⟩
      have HTE := Lib.hid ht
      rw [ht]
      have q2 := ((g2.set_ 0 (.string t)).far (p := ⟨w.heap.size + 1, 0, none⟩) (by show w.heap.size ≠ w.heap.size + 1; omega) (.int .i64 0)).at_ (i := 0) rfl
      have q3 := ((g3.far (p := ⟨w.heap.size, 0, none⟩) (by show w.heap.size + 1 ≠ w.heap.size; omega) (.string t)).set_ 0 (.int .i64 0)).at_ (i := 0) rfl
      have HB9 := Lib.hid ((hbb.setCell (p := ⟨w.heap.size, 0, none⟩) (Nat.le_refl _) (.string t)).setCell (p := ⟨w.heap.size + 1, 0, none⟩) (Nat.le_succ _) (.int .i64 0))
      have HK9 := Lib.hid (((KeepsOthers.setCell w4 ⟨w.heap.size, 0, none⟩ (.string t)).trans (KeepsOthers.setCell _ ⟨w.heap.size + 1, 0, none⟩ (.int .i64 0))).same D _ hK4 rfl)
      clear hb4 hk4 hK4 hb5 hbb ht
      gi_wp2
      generalize (w4.setCell ⟨w.heap.size, 0, none⟩ (.string t)).setCell ⟨w.heap.size + 1, 0, none⟩ (.int .i64 0) = w9 at *
      refine ⟨by simp, .inl ⟨_, _, rfl, run_takeDeferred HK9.out, ?_⟩⟩
      have hbD := belowK_b (w := W1) (n₀ := W1.heap.size) (Nat.le_refl _) w9 D _ (.deferred none) hD HK9.out rfl rfl
      have q2' := (World.cell?_of_block (w := w9) (a := ⟨w.heap.size, 0, none⟩) (hbD.block w.heap.size (by have := HZ.out; have := HZ1.out; omega))).trans q2
      have q3' := (World.cell?_of_block (w := w9) (a := ⟨w.heap.size + 1, 0, none⟩) (hbD.block (w.heap.size + 1) (by have := HZ.out; have := HZ1.out; omega))).trans q3
      refine ⟨.tuple #[.string t, .int .i64 0], by simp [results, Tryz.results11, go_sem, q2', q3'], by rw [HTE.out]; rfl, ?_⟩
      exact HB9.out.trans (hbD.mono (by have := HZ.out; have := HZ1.out; omega))
end Go.Proofs.YtmabokmnniiadaaGreatDoor
