/-
  What is proved: contracts of numbered of package kinds, as an iterator, and of Find. No condition beyond those stated.
-/
import Derived.Test.YtmabokmnniiadaaGreatDoorMn
import Derived.Test.YtmabokmnniiadaaGreatDoorC6
import Derived.RangeFuncNested
namespace Go.Proofs.YtmabokmnniiadaaGreatDoor
open Go.RowKit Go.Shelf
attribute [local go_sem] Oper.semAt_some

/-- The one at a place, and what its cells hold, as a walk wants them. -/
theorem RowM.get {w : World} {A : Option Addr} {n k : Nat} {ms : List MD} {ds : List DscK} (h : RowM w A n ms ds) (hk : k < n) : ∃ b off z P m c e Q q f ps es, A = some ⟨b, off, none⟩ ∧ ms[k]? = some (z, (P, m, c), e, (Q, q, f)) ∧ ds[k]? = some (z, ps, e, es) ∧ Row w P m (ps.map Iv) ∧ Row w Q q (es.map Iv) ∧
    w.cell? ⟨b, off + k * 4, none⟩ = some (.int .i64 z) ∧ w.cell? ⟨b, off + k * 4 + 1, none⟩ = some (.slice P m c) ∧ w.cell? ⟨b, off + k * 4 + 2, none⟩ = some (.int .i64 e) ∧ w.cell? ⟨b, off + k * 4 + 3, none⟩ = some (.slice Q q f) := by
  obtain ⟨b, off, z, P, m, c, e, Q, q, f, ps, es, h1, h2, h3, h4, h5, h6, h7, h8, h9⟩ := h.at_ hk
  rw [Nat.mul_comm 4 k] at h6 h7 h8 h9
  exact ⟨b, off, z, P, m, c, e, Q, q, f, ps, es, h1, h2, h3, h4, h5, h6, h7, h8, h9⟩

theorem KeepB.lt {S : List Nat} {X Y : World} (h : KeepB S X Y) {b : Nat} (hb : b < X.heap.size) (hS : b ∈ S) : b < Y.heap.size := by
  have h1 := h b hS
  rw [Array.getElem?_eq_getElem hb] at h1
  exact (Array.getElem?_eq_some_iff.1 h1).1
/-- A number, and the descriptor that has it. -/
def numD (ms : List MD) (i : Nat) : Array Value := #[.int .i64 ((i : Int) + 1), mdV (ms.getD i md0)]
theorem getD_of {ms : List MD} {k : Nat} {d : MD} (h : ms[k]? = some d) : ms.getD k md0 = d := by rw [List.getD_eq_getElem?_getD, h]; rfl

abbrev StopsD (n f : Nat) (lb : Array Value) (S : List Nat) (ms : List MD) (w : World) : Prop :=
  SeqStopsK Fence.wide n Tryz.prog f lb (fun x : Fin ms.length => numD ms x.1) (KeepB S) (fun ys => ys = List.finRange ms.length) (fun pre => ∃ k, k ≤ ms.length ∧ pre = (List.finRange ms.length).take k) ms.length w

set_option maxRecDepth 100000 in
set_option maxHeartbeats 2000000 in
theorem numbered1_in (n : Nat) (A : Option Addr) (m c : Nat) (ms : List MD) (ds : List DscK) (bb y : Nat) (S : List Nat) (hA : ∀ b ∈ blksD A m ms, b ∈ S) (hm : m ≤ 1000) (J Jx : List (Fin ms.length) → World → Prop) (W : World) (hJ : AbidesFrom W.heap.size J) (hSl : ∀ b ∈ S, b < W.heap.size)
    (hY : ∀ pre x W, J pre W → pre.length < ms.length → YieldAt Fence.wide (n - 1) Tryz.prog y (numD ms x.1) W fun e W' =>
      (e = .returned (.bool true) ∧ J (pre ++ [x]) W' ∧ KeepB S W W') ∨ (e = .returned (.bool false) ∧ Jx (pre ++ [x]) W'))
    (hc : W.cell? ⟨bb, 0, none⟩ = some (.slice A m c)) (hR : RowM W A m ms ds) (h0 : J [] W) :
    CallsIn Fence.wide n Tryz.prog 53 #[.func (.yield y) #[] #[], .pointer (some ⟨bb, 0, none⟩)] W (SeqEnd (fun ys => ys = List.finRange ms.length) (fun pre => ∃ k, k ≤ ms.length ∧ pre = (List.finRange ms.length).take k) J Jx) := by
  have hlen := hR.2.1
  have HR := Lib.hid hR
  have HLEN := Lib.hid hlen
  have HA := Lib.hid hA
  have HJ := Lib.hid hJ
  have HSL := Lib.hid hSl
  clear hR hlen hA hJ hSl
  refine callsIn_of_wp Tryz.func53 rfl trivial ?_ rfl
  simp only [Tryz.ntmps53, List.size_toArray, List.length_cons, List.length_nil, Nat.reduceAdd, Nat.reduceSub, Array.replicate_succ, Array.replicate_zero, List.push_toArray, List.append_toArray, List.nil_append, List.cons_append]
  gi_wp2
  gi_loopw [7] (fun i wr => ∃ k : Nat, k ≤ m ∧ i = .int .i64 k ∧ J ((List.finRange ms.length).take k) wr ∧ KeepB S W wr)
    (fun i _ => m - (intOf i).toNat)
  case atStart => exact ⟨0, Nat.zero_le _, rfl, h0, KeepB.refl _ _⟩
  case round =>
    obtain ⟨k, hk, rfl, hJs, hkp⟩ := hrel
    have HK := Lib.hid hkp
    have HJs := Lib.hid hJs
    by_cases hlt : k < m
    · have hkN : k < ms.length := by have := HLEN.out; omega
      obtain ⟨b, off, z, P, pm, pc, e, Q, q, f, ps, es, rfl, hmk, hdk, r1, r2, d0, d1, d2, d3⟩ := (HR.out.keep hkp HA.out).get hlt
      have hx := below_box wr (descO z P pm pc e Q q f)
      have hbx : Blk (wr.alloc (descO z P pm pc e Q q f)) wr.heap.size 35 #[.int .i64 z, .slice P pm pc, .int .i64 e, .slice Q q f] := Blk.new _ _ _
      have a0 := hbx.at_ (i := 0) rfl
      have a1 := hbx.at_ (i := 1) rfl
      have a2 := hbx.at_ (i := 2) rfl
      have a3 := hbx.at_ (i := 3) rfl
      have hJ2 := HJ.out _ _ (wr.alloc (descO z P pm pc e Q q f)) none hJs ⟨hx.os, hx.tape, hx.output, hx.size, fun i hi _ => hx.block i hi⟩ (fun r e => by cases e)
      have hk2 := hkp.t (KeepB.of_below (S := S) hx (fun b hb => hkp.lt (HSL.out b hb) hb))
      have HK2 := Lib.hid hk2
      obtain ⟨fn, tmps, assign, body, hy, hRy⟩ := hY _ ⟨k, hkN⟩ _ hJ2 (by simp; omega)
      dsimp only [numD] at hy hRy
      rw [getD_of hmk] at hy
      dsimp only [mdV] at hy
      have HRy := Lib.hid hRy
      clear hRy hkp hJs hmk hdk r1 r2 hx hbx hJ2 hk2
      gi_wp2
      generalize wr.alloc (descO z P pm pc e Q q f) = W2 at *
      refine ⟨fun h => by simp [Fence.wide] at h, HRy.out.mono ?_⟩
      rintro e' W3 (⟨rfl, hJ4, hk4⟩ | ⟨rfl, hJx4⟩)
      · have HJ4 := Lib.hid hJ4
        have HK4 := Lib.hid hk4
        clear hJ4 hk4
        gi_wp2
        go_roundw
        case rel => exact ⟨k + 1, by omega, by go_num, by rw [fin_take_succ _ _ hkN]; exact HJ4.out, HK2.out.t HK4.out⟩
        case measure => simp [intOf]; omega
      · have HJx4 := Lib.hid hJx4
        clear hJx4
        gi_wp2
        refine bodyPost_ret (results_none rfl _ _ _) rfl ?_
        exact ⟨⟨_, rfl⟩, .inr ⟨_, ⟨k + 1, by omega, rfl⟩, by rw [fin_take_succ _ _ hkN]; exact HJx4.out⟩⟩
    · have HKL := Lib.hid (show k = ms.length by have := HLEN.out; omega)
      clear hkp hJs
      gi_wp2
      go_end0
      refine ⟨⟨_, rfl⟩, .inl ⟨_, rfl, ?_⟩⟩
      have := HJs.out
      rwa [HKL.out, fin_take_all] at this

theorem numbered1_stops (n : Nat) (A : Option Addr) (m c : Nat) (ms : List MD) (ds : List DscK) (bb : Nat) (hm : m ≤ 1000) (w : World) (hc : w.cell? ⟨bb, 0, none⟩ = some (.slice A m c)) (hR : RowM w A m ms ds) :
    StopsD n 53 #[.pointer (some ⟨bb, 0, none⟩)] (blksD A m ms) ms w := fun y J Jx W hW hJ _ hY h0 =>
  numbered1_in n A m c ms ds bb y _ (fun _ hb => hb) hm J Jx W hJ (fun b hb => Nat.lt_of_lt_of_le (hR.lt b hb) hW.size) hY (cell_ext hW hc) (hR.ext hW) h0

set_option maxHeartbeats 400000 in
theorem numbered_any (S : Option Addr) (n c : Nat) (w : World) :
    Calls Tryz.prog 32 #[.slice S n c] w fun e w' => e = .returned (.func (.func 53) #[] #[.pointer (some ⟨w.heap.size, 0, none⟩)]) ∧ w.alloc (.cells #[.slice S n c] 22) = w' := by
  go_enter Tryz.func32, Tryz.ntmps32
  go_wp2
  go_ret
  exact ⟨rfl, rfl⟩

/-! ### Find -/
theorem dSame_iff (a b : DscK) : dSame a.1 a.2.2.1 a.2.1 a.2.2.2 b.1 b.2.2.1 b.2.1 b.2.2.2 = decide (a = b) := by
  obtain ⟨z, ps, e, es⟩ := a
  obtain ⟨z', ps', e', es'⟩ := b
  simp only [dSame, Prod.mk.injEq]
  by_cases h1 : z = z' <;> by_cases h2 : ps = ps' <;> by_cases h3 : e = e' <;> by_cases h4 : es = es' <;> simp [h1, h2, h3, h4]
theorem kFind_first {d : DscK} : ∀ {l : List DscK} {k : Nat}, l[k]? = some d → (∀ j, j < k → l[j]? ≠ some d) → kFind l d = k + 1
  | [], k, h, _ => by simp at h
  | x :: l, 0, h, _ => by
    simp at h
    simp [kFind, h]
  | x :: l, k + 1, h, hn => by
    simp at h
    have hx : x ≠ d := fun e => hn 0 (by omega) (by simp [e])
    have ih := kFind_first h (fun j hj e => hn (j + 1) (by omega) (by simpa using e))
    unfold kFind
    rw [if_neg hx, ih, if_neg (by omega)]

/-- Not met yet. -/
def FindI (W1 : World) (ds : List DscK) (d : DscK) {N : Nat} (pre : List (Fin N)) (W' : World) : Prop := W1.heap.size ≤ W'.heap.size ∧ Below W1.heap.size W1 W' ∧ ∀ x ∈ pre, ds[x.1]? ≠ some d
/-- Met. -/
def FindX (W1 : World) (fb : Nat) (ds : List DscK) (d : DscK) (c : Code) {N : Nat} (pre : List (Fin N)) (W' : World) : Prop :=
  W1.heap.size ≤ W'.heap.size ∧ c = .exit 0 ∧ ∃ pre' x, pre = pre' ++ [x] ∧ (∀ y ∈ pre', ds[y.1]? ≠ some d) ∧ ds[x.1]? = some d ∧ Below W1.heap.size (W1.setCell ⟨fb, 0, none⟩ (.int .i64 ((x.1 : Int) + 1))) W'
theorem FindI.low {W1 X Y : World} {ds : List DscK} {d : DscK} {N : Nat} {pre : List (Fin N)} (h : FindI W1 ds d pre X) (hb : Below W1.heap.size X Y) : FindI W1 ds d pre Y := ⟨Nat.le_trans h.1 hb.size, h.2.1.trans hb, h.2.2⟩
theorem FindX.low {W1 X Y : World} {fb : Nat} {ds : List DscK} {d : DscK} {c : Code} {N : Nat} {pre : List (Fin N)} (h : FindX W1 fb ds d c pre X) (hb : Below W1.heap.size X Y) : FindX W1 fb ds d c pre Y := by
  obtain ⟨h1, h2, pre', x, h3, h4, h5, h6⟩ := h
  exact ⟨Nat.le_trans h1 hb.size, h2, pre', x, h3, h4, h5, h6.trans hb⟩

def findF (w : World) (A : Option Addr) (n c : Nat) (dv : Value) (bb rb k : Nat) (d : MD) : Act :=
  { tmps := #[.slice A n c, dv, undef, .pointer (some ⟨w.heap.size, 0, none⟩), .int .i64 0, .bool false, .pointer (some ⟨w.heap.size + 1, 0, none⟩), .int .i64 ((k : Int) + 1), .pointer (some ⟨rb, 0, none⟩), .slice A n c, .func (.func 53) #[] #[.pointer (some ⟨bb, 0, none⟩)], .int .i64 ((k : Int) + 1), mdV d, undef, undef, undef, undef, undef, undef, undef], defers := [] }

set_option maxRecDepth 100000 in
set_option maxHeartbeats 4000000 in
/-- Find. -/
theorem kfind_any (A : Option Addr) (n c : Nat) (ds : List DscK) (d : DscK) (P Q : Option Addr) (m c' q f : Nat) (w : World) (hR : RowD w A n ds) (hs : Sm ds) (hn : n ≤ 1000) (hP : Row w P m (d.2.1.map Iv)) (hQ : Row w Q q (d.2.2.2.map Iv)) (hd : sm1 d) :
    Calls Tryz.prog 19 #[.slice A n c, descV d.1 P m c' d.2.2.1 Q q f] w fun x w' => x = .returned (.tuple #[.int .i64 (kFind ds d : Nat), .bool (decide (0 < kFind ds d))]) ∧ Below w.heap.size w w' := by
  obtain ⟨z, ps, e, es⟩ := d
  dsimp only at hP hQ ⊢
  have hl1 := hP.1
  have hl2 := hQ.1
  simp at hl1 hl2
  have hm : m ≤ 1000 := by have := hd.1; dsimp only at this; omega
  have hq : q ≤ 1000 := by have := hd.2; dsimp only at this; omega
  have hb0 := below_le (below_box w (descO z P m c' e Q q f)) (below_box _ (.cells #[.int .i64 0] 3))
  have h3 : Blk ((w.alloc (descO z P m c' e Q q f)).alloc (.cells #[.int .i64 0] 3)) w.heap.size 35 #[.int .i64 z, .slice P m c', .int .i64 e, .slice Q q f] := Blk.alloc (Blk.new _ _ _) _
  have h6 : Blk ((w.alloc (descO z P m c' e Q q f)).alloc (.cells #[.int .i64 0] 3)) (w.heap.size + 1) 3 #[.int .i64 0] := heap_new (by simp) _
  have hz : ((w.alloc (descO z P m c' e Q q f)).alloc (.cells #[.int .i64 0] 3)).heap.size = w.heap.size + 2 := by simp
  obtain ⟨ms, hM⟩ := (hR.ext hb0).ms
  have hmn := hM.2.1
  have hdn := hM.1
  have hf0 : (∀ x : Fin ms.length, ds[x.1]? ≠ some (z, ps, e, es)) → kFind ds (z, ps, e, es) = 0 := fun h => kFind_zero.2 fun hm => by
    obtain ⟨k, hk, e'⟩ := List.getElem_of_mem hm
    exact h ⟨k, by omega⟩ (by rw [← e']; exact List.getElem?_eq_getElem hk)
  have hf1 : ∀ (k : Nat) (x : Fin ms.length), k ≤ ms.length → (∃ pre', (List.finRange ms.length).take k = pre' ++ [x] ∧ ∀ y ∈ pre', ds[y.1]? ≠ some (z, ps, e, es)) → ds[x.1]? = some (z, ps, e, es) → kFind ds (z, ps, e, es) = x.1 + 1 := fun k x hkl ⟨pre', h1, h2⟩ h3 => kFind_first h3 fun j hj => by
    have hk0 : k ≠ 0 := by rintro rfl; simp at h1
    obtain ⟨k', rfl⟩ : ∃ k', k = k' + 1 := ⟨k - 1, by omega⟩
    rw [fin_take_succ _ _ (by omega)] at h1
    obtain ⟨e1, e2⟩ := List.append_inj' h1 rfl
    have hx : x.1 = k' := by
      injection e2 with e2
      rw [← e2]
    have hjk : j < ms.length := by have := x.2; omega
    refine h2 ⟨j, hjk⟩ ?_
    rw [← e1]
    exact (fin_take_mem _ _ _).2 (by show j < k'; omega)
  generalize kFind ds (z, ps, e, es) = kf at *
  have HF0 := Lib.hid hf0
  have HF1 := Lib.hid hf1
  have HM := Lib.hid hM
  have HB := Lib.hid hb0
  have H3 := Lib.hid h3
  have H6 := Lib.hid h6
  have HZ := Lib.hid hz
  have HP := Lib.hid (hP.ext hb0)
  have HQ := Lib.hid (hQ.ext hb0)
  have HMN := Lib.hid hmn
  have HS := Lib.hid hs
  clear hf0 hf1 hM hb0 h3 h6 hz hP hQ hR hmn hdn hl1 hl2 hd hs
  refine (callsIn_wide (n := 3)).1 ?_
  refine callsIn_of_wp_marks Tryz.func19 rfl trivial ?_ rfl
  simp only [Tryz.ntmps19, List.size_toArray, List.length_cons, List.length_nil, Nat.reduceAdd, Nat.reduceSub, Array.replicate_succ, Array.replicate_zero, List.push_toArray, List.append_toArray, List.nil_append, List.cons_append]
  gi_wp2_with fail
  refine wpIn_scope_ahead 0 (fun _ _ => False) rfl ?_ (fun _ _ h => h.elim)
  gi_wp2_with fail
  generalize (w.alloc (descO z P m c' e Q q f)).alloc (.cells #[.int .i64 0] 3) = W0 at *
  refine wpIn_label ?_
  gi_wp2_with fail
  refine ⟨trivial, (callsIn_wide.2 (numbered_any _ _ _ _)).mono ?_⟩
  rintro x w' ⟨rfl, rfl⟩
  have hb1 := below_box W0 (.cells #[.slice A n c] 22)
  have hz : (W0.alloc (.cells #[.slice A n c] 22)).heap.size = w.heap.size + 3 := by simp [HZ.out]
  have e1 := cell_one (w := W0) (t := 22) (v := .slice A n c)
  have hM1 := HM.out.ext hb1
  have HH3 := Lib.hid (H3.out.ext hb1)
  have HH6 := Lib.hid (H6.out.ext hb1)
  have HHP := Lib.hid (HP.out.ext hb1)
  have HHQ := Lib.hid (HQ.out.ext hb1)
  have HHB := Lib.hid (below_le HB.out hb1)
  rw [HZ.out] at e1 ⊢
  generalize W0.alloc (.cells #[.slice A n c] 22) = W1 at *
  have hst := numbered1_stops (3 - 1) A n c ms ds (w.heap.size + 2) hn W1 e1 hM1
  have hlt := hM1.lt
  have HZ1 := Lib.hid (show w.heap.size + 3 ≤ W1.heap.size by omega)
  have HM1 := Lib.hid hM1
  have HLT := Lib.hid hlt
  clear HM HP HQ HB H3 H6 HZ hb1 e1 hM1 hz
  gi_wp2_with fail
  refine wpIn_rangeFunc_ownH (F := Fence.wide) (n := 3) rfl (by omega) (gf := 53) (lb := #[.pointer (some ⟨w.heap.size + 2, 0, none⟩)]) rfl trivial (enters_of Tryz.func53 (by kernel_rfl) rfl)
    hst (fun h k => h.t k) (KeepB.b hlt) (Below.refl _ _) (fun _ => rfl)
    (FindI W1 ds (z, ps, e, es)) (fun c => FindX W1 (w.heap.size + 1) ds (z, ps, e, es) c)
    (ownFrom_low _ _ (fun _ _ h => h.1) (fun _ X Y h hb => h.low hb))
    (fun c => ownFrom_low _ _ (fun _ _ h => h.1) (fun _ X Y h hb => h.low hb))
    ⟨Nat.le_refl _, Below.refl _ _, fun _ h => by cases h⟩
    (fun x a' W => ∃ rb d, W1.heap.size ≤ rb ∧ ms[x.1]? = some d ∧ a' = findF w A n c (descV z P m c' e Q q f) (w.heap.size + 2) rb x.1 d ∧ Blk W rb 35 (cells4 d).toArray)
    (fun x a' _ X Y row hs hg hr => by obtain ⟨rb, d, h1, h2, h3, h4⟩ := hs; exact ⟨rb, d, h1, h2, h3, h4.own hg hr⟩)
    ?assign ?body ?done ?stop
  case assign =>
    intro l0 pre x W' K hI hK
    have hk : ms[x.1]? = some (ms[x.1]) := List.getElem?_eq_getElem x.2
    dsimp only [numD]
    rw [getD_of hk]
    have HKX := Lib.hid hk
    generalize ms[x.1] = d at *
    obtain ⟨z1, ⟨P1, m1, c1⟩, y1, Q1, q1, f1⟩ := d
    have HK := Lib.hid hK
    have HI := Lib.hid hI
    clear hK hI hk hst
    dsimp only [mdV]
    gi_wp2
    have hx := below_box W' (descO z1 P1 m1 c1 y1 Q1 q1 f1)
    exact HK.out _ _ (keepsFrom_below hx) (KeepB.of_below (hx.mono HI.out.1) HLT.out) (HI.out.low (hx.mono HI.out.1)) ⟨W'.heap.size, _, HI.out.1, HKX.out, rfl, Blk.new _ _ _⟩
  case body =>
    rintro l0 pre x a' W' - - ⟨s1, s2, s3⟩ ⟨rb, d, hrb, hk, rfl, hbl⟩ -
    have hxn : x.1 < n := by have := x.2; have := HMN.out; omega
    obtain ⟨b1, o1, z1, P1, m1, c1, y1, Q1, q1, f1, ps1, es1, -, hk2, hd1, r1, r2, -, -, -, -⟩ := HM1.out.get hxn
    rw [hk] at hk2
    cases hk2
    have hsm := HS.out _ (List.mem_of_getElem? hd1)
    have hl1 := r1.1
    have hl2 := r2.1
    simp at hl1 hl2
    have hm1 : m1 ≤ 1000 := by have := hsm.1; dsimp only at this; omega
    have hq1 : q1 ≤ 1000 := by have := hsm.2; dsimp only at this; omega
    have a0 := hbl.at_ (i := 0) rfl
    have a1 := hbl.at_ (i := 1) rfl
    have a2 := hbl.at_ (i := 2) rfl
    have a3 := hbl.at_ (i := 3) rfl
    have h3 := HH3.out.ext s2
    have b0 := h3.at_ (i := 0) rfl
    have b1 := h3.at_ (i := 1) rfl
    have b2 := h3.at_ (i := 2) rfl
    have b3 := h3.at_ (i := 3) rfl
    have hcall := dsame_any z1 y1 P1 Q1 m1 c1 q1 f1 ps1 es1 z e P Q m c' q f ps es W' (r1.ext s2) (r2.ext s2) (HHP.out.ext s2) (HHQ.out.ext s2) hm1 hq1 hm hq
    rw [show dSame z1 y1 ps1 es1 z e ps es = decide ((z1, ps1, y1, es1) = (z, ps, e, es)) from dSame_iff (z1, ps1, y1, es1) (z, ps, e, es)] at hcall
    have HC := Lib.hid hcall
    have HD1 := Lib.hid hd1
    have S1 := Lib.hid s1
    have S2 := Lib.hid s2
    have S3 := Lib.hid s3
    have H6 := Lib.hid (HH6.out.ext s2)
    clear hcall hd1 s1 s2 s3 r1 r2 hsm hl1 hl2 h3 hbl hk hst
    simp only [findF, mdV]
    gi_wp2_with fail
    refine ⟨trivial, (CallsIn.inRound _ (callsIn_wide.2 HC.out)).mono ?_⟩
    rintro x2 w4 ⟨rfl, hb4⟩
    clear a0 a1 a2 a3 b0 b1 b2 b3 HC
    have hk4 : KeepsFrom W1.heap.size W' w4 := keepsFrom_below hb4
    have hkb : KeepB (blksD A n ms) W' w4 := KeepB.of_below (hb4.mono S1.out) HLT.out
    have HK4 := Lib.hid hk4
    have HKB := Lib.hid hkb
    have h6 := H6.out.ext hb4
    have f6 := h6.frozen 0
    have c6 := h6.at_ (i := 0) rfl
    have HS4 := Lib.hid (Nat.le_trans S1.out hb4.size)
    have HB4 := Lib.hid (S2.out.trans (hb4.mono S1.out))
    clear hk4 hkb h6 hb4 S1 S2 H6
    by_cases heq : (z1, ps1, y1, es1) = (z, ps, e, es)
    · rw [decide_eq_true heq]
      have HX := Lib.hid (show ds[x.1]? = some (z, ps, e, es) by rw [HD1.out, heq])
      clear heq
      gi_wp2
      refine ⟨HK4.out.trans (KeepsFrom.of_grownBy (grown_set w4 (w.heap.size + 1) 0 (.int .i64 ((x.1 : Int) + 1))) (fun j e => by cases e; have := HZ1.out; omega)), Nat.le_trans HS4.out (grown_set w4 (w.heap.size + 1) 0 (.int .i64 ((x.1 : Int) + 1))).size, rfl, pre, x, rfl, S3.out, HX.out, below_set HB4.out _ _⟩
    · rw [decide_eq_false heq]
      have HX := Lib.hid (show ds[x.1]? ≠ some (z, ps, e, es) by rw [HD1.out]; exact fun e => heq (Option.some.inj e))
      clear heq
      gi_wp2
      exact ⟨HK4.out, HKB.out, HS4.out, HB4.out, fun y hy => by
        rcases List.mem_append.1 hy with hy | hy
        · exact S3.out y hy
        · rw [List.mem_singleton.1 hy]; exact HX.out⟩
  case done =>
    rintro D ys W' hD rfl ⟨s1, s2, s3⟩ hK
    have hkf : kf = 0 := HF0.out fun x => s3 x (List.mem_finRange _)
    subst hkf
    have h6 := HH6.out.ext s2
    have c6 := h6.at_ (i := 0) rfl
    have HBB := Lib.hid (below_le HHB.out s2)
    have HK := Lib.hid hK
    have t6 := ext_cell c6
    clear s2 s3 hK h6 hst c6
    gi_wp2_with fail
    refine wpIn_wide.2 ?_
    refine wp_region_plan [(0, true), (1, true), (2, true), (3, true), (4, true)] (by kernel_rfl) (by kernel_rfl) ?_
    repeat (first | (refine plan_skip rfl rfl ?_; go_frame) | (refine plan_soft rfl rfl (fun K hK => ?_); go_simp; first | (refine hK _ ?_; clear hK K) | (apply Exists.intro; refine ⟨fun x => ?_, hK _ ?_⟩; (· (fail)); clear hK K; try go_frame)))
    refine plan_nil ?_; intro w5 h0b; have Hb5 := Lib.hid h0b; clear h0b
    have hK5 := (Hb5.out.block D (Array.getElem?_eq_some_iff.1 HK.out).1).trans HK.out
    clear t6
    gi_wp2
    refine ⟨by simp, .inl ⟨_, _, rfl, run_takeDeferred hK5, ?_⟩⟩
    have hbD := belowK_b (w := W1) (n₀ := W1.heap.size) (Nat.le_refl _) w5 D _ (.deferred none) hD hK5 rfl rfl
    refine ⟨.tuple #[.int .i64 0, .bool false], by simp [results, Tryz.results19, go_sem], by simp, ?_⟩
    exact (below_le HBB.out Hb5.out).trans (hbD.mono (by have := HZ1.out; omega))
  case stop =>
    rintro D cd pre W' hD ⟨j, hj, rfl⟩ ⟨s1, rfl, pre', x, hpre, s3, s4, s5⟩ hK
    have hkf : kf = x.1 + 1 := HF1.out j x hj ⟨pre', hpre, s3⟩ s4
    subst hkf
    have h6 := (HH6.out.set_ 0 (.int .i64 ((x.1 : Int) + 1))).below s5 (by have := HZ1.out; omega)
    have c6 := h6.cell 0
    simp at c6
    have HBB := Lib.hid ((HHB.out.setCell (p := ⟨w.heap.size + 1, 0, none⟩) (by show w.heap.size ≤ w.heap.size + 1; omega) (.int .i64 ((x.1 : Int) + 1))).trans (s5.mono (by have := HZ1.out; omega)))
    have HK := Lib.hid hK
    have t6 := ext_cell c6
    clear s5 s3 s4 hK h6 hst hpre c6
    gi_wp2_with fail
    refine wpIn_wide.2 ?_
    refine wp_region_plan [(0, true), (1, true), (2, true), (3, true), (4, true)] (by kernel_rfl) (by kernel_rfl) ?_
    repeat (first | (refine plan_skip rfl rfl ?_; go_frame) | (refine plan_soft rfl rfl (fun K hK => ?_); go_simp; first | (refine hK _ ?_; clear hK K) | (apply Exists.intro; refine ⟨fun x => ?_, hK _ ?_⟩; (· (fail)); clear hK K; try go_frame)))
    refine plan_nil ?_; intro w5 h0b; have Hb5 := Lib.hid h0b; clear h0b
    have hK5 := (Hb5.out.block D (Array.getElem?_eq_some_iff.1 HK.out).1).trans HK.out
    clear t6
    gi_wp2
    refine ⟨by simp, .inl ⟨_, _, rfl, run_takeDeferred hK5, ?_⟩⟩
    have hbD := belowK_b (w := W1) (n₀ := W1.heap.size) (Nat.le_refl _) w5 D _ (.deferred none) hD hK5 rfl rfl
    refine ⟨.tuple #[.int .i64 ((x.1 : Int) + 1), .bool true], by simp [results, Tryz.results19, go_sem], by simp, ?_⟩
    exact (below_le HBB.out Hb5.out).trans (hbD.mono (by have := HZ1.out; omega))
end Go.Proofs.YtmabokmnniiadaaGreatDoor
