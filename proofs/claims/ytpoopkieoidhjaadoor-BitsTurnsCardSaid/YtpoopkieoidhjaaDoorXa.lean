/-
  What is proved: BitsBack returns true. No condition beyond those stated.
-/
import Derived.Test.YtpoopkieoidhjaaDoorWa
import Derived.Test.YtpoopkieoidhjaaDoorMix
namespace Go.Proofs.YtpoopkieoidhjaaDoor
open Go.RowKit Go.Shelf

def noneW (n : Int) : List Nat := List.replicate ((n.toNat + 31) / 32) 0
theorem tb_none (n : Int) (k : Nat) : tb (noneW n) k = false := by
  unfold tb noneW
  rw [List.getD_eq_getElem?_getD, List.getElem?_replicate]
  split <;> simp
theorem fits_none (n : Int) : Fits (noneW n) := fun x hx => by
  rw [(List.mem_replicate.1 hx).2]; omega
theorem right_none {n : Int} (h0 : 0 ≤ n) (h1 : n ≤ 20000) : rightB n (noneW n) = true := by
  refine rightB_intro h0 h1 (by simp [noneW]) ?_
  right
  have : (noneW n).getD ((noneW n).length - 1) 0 = 0 := by
    unfold noneW
    rw [List.getD_eq_getElem?_getD, List.getElem?_replicate]
    split <;> simp
  rw [this]
  exact Nat.two_pow_pos _
theorem back_right {n : Int} {ws : List Nat} (hr : rightB n ws = true) (k : Nat) : rightB n (fillW (noneW n) ((listN n ws).take k) true) = true := by
  obtain ⟨h0, h1, _, _⟩ := rightB_elim hr
  exact right_fill _ _ (right_none h0 h1) fun i hi => ((mem_list hr i).1 (List.mem_of_mem_take hi)).1
theorem back_law {n : Int} {ws : List Nat} (hr : rightB n ws = true) (hF : Fits ws) : fillW (noneW n) (listN n ws) true = ws := by
  obtain ⟨h0, h1, h2, _⟩ := rightB_elim hr
  refine tb_ext (by rw [length_fillW, h2]; simp [noneW]) (fits_fillW (fits_none n) _ _) hF fun k => ?_
  rw [tb_fill _ _ (fun i hi => by have := ((mem_list hr i).1 hi).1; simp [noneW]; omega), tb_none]
  split
  · rename_i h; exact ((mem_list hr k).1 h).2.symm
  · rename_i h
    rcases Int.lt_or_le (k : Int) n with hk | hk
    · cases e : tb ws k
      · rfl
      · exact absurd ((mem_list hr k).2 ⟨hk, e⟩) h
    · exact (right_high hr k hk).symm
theorem back_step {n : Int} {ws : List Nat} {k x : Nat} (hx : (listN n ws)[k]? = some x) : setW (fillW (noneW n) ((listN n ws).take k) true) x true = fillW (noneW n) ((listN n ws).take (k + 1)) true := by
  obtain ⟨hk, rfl⟩ := List.getElem?_eq_some_iff.1 hx
  rw [List.take_succ_eq_append_getElem hk, fillW_snoc]

/-- Words lie in no box of bits. -/
theorem Row.unbox {w : World} {A : Option Addr} {m : Nat} {ws : List Nat} (h : Row w A m (ws.map U32)) {g : Nat} {t : TypeId} {n : Int} {v : Value} (hv : ∀ x, v ≠ U32 x) (hg : Blk w g t #[.int .i64 n, v]) (i : Nat) (u : Value) : Row (w.setCell ⟨g, i, none⟩ u) A m (ws.map U32) := by
  refine ⟨h.1, fun hm => ?_⟩
  obtain ⟨b, off, rfl, hc⟩ := h.2 hm
  have hl := h.1
  simp at hl
  have hne : b ≠ g := by
    rintro rfl
    have h0 := hc 0 (U32 (ws.getD 0 0)) (by simp; exact ⟨_, by rw [List.getElem?_eq_getElem (by omega)]; rfl, rfl⟩)
    rw [hg.cell] at h0
    match hoff : off + 0 with
    | 0 => rw [hoff] at h0; simp [U32] at h0
    | 1 => rw [hoff] at h0; simp at h0; exact hv _ h0
    | k + 2 => rw [hoff] at h0; simp at h0
  exact ⟨b, off, rfl, fun j v hv => by
    rw [World.cell?_setCell_other w _ _ u (fun e => hne (by cases e; rfl))]
    exact hc j v hv⟩

/-- Some bits, some number. -/
def GivesSome (w : World) (e : Ending) (w' : World) : Prop := ∃ code n us, GivesBits w code n us e w'
theorem make_some (n : Int) (aA aB aP : Addr) (w : World) (hS : BSent w aA aB aP) : Calls Tryd.prog 27 #[.int .i64 n] w (GivesSome w) := by
  by_cases h0 : 0 ≤ n
  · by_cases h1 : n ≤ 20000
    · exact (make_ok n aA aB aP w hS h0 h1).mono fun _ _ h => ⟨_, _, _, h⟩
    · exact (make_bad n aA aB aP w hS (by omega)).mono fun _ _ h => ⟨_, _, _, h⟩
  · exact (make_bad n aA aB aP w hS (by omega)).mono fun _ _ h => ⟨_, _, _, h⟩

/-- What holds from round to round. -/
def BackI (w w7 : World) (cb : Nat) (n : Int) (us : List Nat) (wr : World) : Prop :=
  ∃ C q f, Blk wr cb 24 #[.int .i64 n, .slice C q f] ∧ Row wr C q (us.map U32) ∧ Below w.heap.size w wr ∧ w7.grownBy wr (some cb)

theorem Row.grown {w w1 : World} {B : Nat} (hg : w.grownBy w1 (some B)) {A : Option Addr} {m : Nat} {xs : List Value} (h : Row w A m xs) (hA : ∀ a, A = some a → a.block ≠ B) : Row w1 A m xs :=
  ⟨h.1, fun hm => by
    obtain ⟨b, off, e, hc⟩ := h.2 hm
    exact ⟨b, off, e, fun j u hu => cell_grown hg (hc j u hu) (hA ⟨b, off, none⟩ e)⟩⟩

set_option maxRecDepth 100000 in
set_option maxHeartbeats 2000000 in
theorem back_any (A : Option Addr) (m c : Nat) (n : Int) (ws : List Nat) (aA aB aP : Addr) (w : World) (hS : BSent w aA aB aP) (hR : Row w A m (ws.map U32)) (hF : Fits ws) (hc : m ≤ c) :
    Calls Tryd.prog 8 #[.agg #[.int .i64 n, .slice A m c]] w (Holds w) := by
  have hx := below_box w (.cells #[.int .i64 n, .slice A m c] 24)
  have k0 : (w.alloc (.cells #[.int .i64 n, .slice A m c] 24)).cell? ⟨w.heap.size, 0, none⟩ = some (.int .i64 n) := by simp [go_sem]
  have k1 : (w.alloc (.cells #[.int .i64 n, .slice A m c] 24)).cell? ⟨w.heap.size, 1, none⟩ = some (.slice A m c) := by simp [go_sem]
  have hbl : Blk (w.alloc (.cells #[.int .i64 n, .slice A m c] 24)) w.heap.size 24 #[.int .i64 n, .slice A m c] := heap_new rfl _
  have HS := Lib.hid hS
  have HR := Lib.hid (row_cut hR)
  have HF := Lib.hid (fits_take hF 12)
  generalize ws.take 12 = vs at HR HF
  have HB := Lib.hid hx
  have HBL := Lib.hid hbl
  clear hS hR hx hbl hF
  go_enter Tryd.func8, Tryd.ntmps8
  go_wp2_with fail
  generalize w.alloc (.cells #[.int .i64 n, .slice A m c] 24) = W0 at *
  refine (shown_any aA aB aP W0 (HS.out.ext HB.out)).mono ?_
  rintro e w1 ⟨rfl, hb1⟩
  have e0 := cell_ext hb1 k0
  have e1 := cell_ext hb1 k1
  have HBL1 := Lib.hid (HBL.out.ext hb1)
  have HB1 := Lib.hid (below_le HB.out hb1)
  clear hb1 k0 k1 HBL HB
  go_wp2_with fail
  refine (cut_any A m c n w1 hc).mono ?_
  rintro e w2 ⟨⟨c', rfl⟩, hb2⟩
  generalize min m 12 = m' at *
  have h2 := HBL1.out.ext hb2
  have f0 := h2.frozen 0
  have f1 := h2.frozen 1
  have d0 := h2.cell 0
  have d1 := h2.cell 1
  have h3 := (h2.set_ 0 (.int .i64 n)).set_ 1 (.slice A m' c')
  have hb3 : Below w.heap.size w ((w2.setCell ⟨w.heap.size, 0, none⟩ (.int .i64 n)).setCell ⟨w.heap.size, 1, none⟩ (.slice A m' c')) :=
    ((below_le HB1.out hb2).setCell (p := ⟨w.heap.size, 0, none⟩) (Nat.le_refl _) _).setCell (p := ⟨w.heap.size, 1, none⟩) (Nat.le_refl _) _
  have k0 := h3.cell 0
  have k1 := h3.cell 1
  simp at k0 k1
  have H3 := Lib.hid h3
  have HB3 := Lib.hid hb3
  clear h2 h3 hb2 hb3 HB1 HBL1 e0 e1
  go_wp2_with fail
  generalize (w2.setCell ⟨w.heap.size, 0, none⟩ (.int .i64 n)).setCell ⟨w.heap.size, 1, none⟩ (.slice A m' c') = W3 at *
  clear f0 f1 d0 d1
  cases hr : rightB n vs
  · refine (make_some n aA aB aP W3 (HS.out.ext HB3.out)).mono ?_
    rintro e w4 ⟨code, n1, us, C, q, f, rfl, -, hb4⟩
    have hx := below_box w4 (.cells #[.int .i64 n1, .slice C q f] 24)
    have e0 := cell_ext (below_le hb4 hx) k0
    have e1 := cell_ext (below_le hb4 hx) k1
    have HB4 := Lib.hid (below_le HB3.out (below_le hb4 hx))
    have Hr := Lib.hid hr
    clear hr hb4 hx k0 k1
    go_wp2_with fail
    generalize w4.alloc (.cells #[.int .i64 n1, .slice C q f] 24) = W4 at *
    refine (right_any A m' c' n vs W4 (HR.out.ext HB4.out) HF.out).mono ?_
    rw [Hr.out]
    rintro e w5 ⟨rfl, hb5⟩
    have k0 := cell_ext hb5 e0
    have k1 := cell_ext hb5 e1
    have HB5 := Lib.hid (below_le HB4.out hb5)
    clear hb5 e0 e1
    go_wp2_with fail
    refine (list_any A m' c' n vs w5 (HR.out.ext HB5.out) HF.out).mono ?_
    rw [show listN n vs = [] by simp [listN, Hr.out]]
    rintro e w6 ⟨L, p, d, rfl, hL, -, hb6⟩
    have hp : p = 0 := by have := hL.1; simpa using this.symm
    subst hp
    have HB6 := Lib.hid (below_le HB5.out hb6)
    clear hb6 hL
    go_wp2
    go_ret
    exact ⟨rfl, HB6.out⟩
  · obtain ⟨hn0, hn1, -, -⟩ := rightB_elim hr
    refine (make_ok n aA aB aP W3 (HS.out.ext HB3.out) hn0 hn1).mono ?_
    rintro e w4 ⟨C, q, f, rfl, hR4, hb4⟩
    have hx := below_box w4 (.cells #[.int .i64 n, .slice C q f] 24)
    have hbc : Blk (w4.alloc (.cells #[.int .i64 n, .slice C q f] 24)) w4.heap.size 24 #[.int .i64 n, .slice C q f] := heap_new rfl _
    have hz4 : w4.heap.size < (w4.alloc (.cells #[.int .i64 n, .slice C q f] 24)).heap.size := by simp
    have e0 := cell_ext (below_le hb4 hx) k0
    have e1 := cell_ext (below_le hb4 hx) k1
    have HR4 := Lib.hid (hR4.ext hx)
    have HB4 := Lib.hid (below_le HB3.out (below_le hb4 hx))
    have hwc := HB3.out.size
    have hw0 : w.heap.size < W3.heap.size := lt_of_cell k0
    have hwd := hb4.size
    have Hr := Lib.hid hr
    have HBC := Lib.hid hbc
    clear hr hb4 hx k0 k1 hR4 hbc
    go_wp2_with fail
    generalize w4.alloc (.cells #[.int .i64 n, .slice C q f] 24) = W4 at *
    refine (right_any A m' c' n vs W4 (HR.out.ext HB4.out) HF.out).mono ?_
    rw [Hr.out]
    rintro e w5 ⟨rfl, hb5⟩
    have k0 := cell_ext hb5 e0
    have k1 := cell_ext hb5 e1
    have HB5 := Lib.hid (below_le HB4.out hb5)
    have HR5 := Lib.hid (HR4.out.ext hb5)
    have HBC5 := Lib.hid (HBC.out.ext hb5)
    have hz5 := hb5.size
    clear hb5 e0 e1 HR4 HBC
    go_wp2_with fail
    refine (list_any A m' c' n vs w5 (HR.out.ext HB5.out) HF.out).mono ?_
    rintro e w6 ⟨L, p, d, rfl, hL, hfr, hb6⟩
    have e0 := cell_ext hb6 k0
    have e1 := cell_ext hb6 k1
    have HB6 := Lib.hid (below_le HB5.out hb6)
    have HR6 := Lib.hid (HR5.out.ext hb6)
    have HBC6 := Lib.hid (HBC5.out.ext hb6)
    have HL := Lib.hid hL
    have HFR := Lib.hid hfr
    have hp : (listN n vs).length = p := by have := hL.1; simpa using this
    have hps : (p : Int) ≤ 30000 := by
      rw [← hp, list_length, count_eq Hr.out]
      have := List.countP_le_length (p := tb vs) (l := List.range n.toNat)
      simp at this
      omega
    have HP := Lib.hid hp
    have hz6 := hb6.size
    clear hL hb6 k0 k1 hp hfr HR5 HBC5
    go_wp2
    go_loopw [7] (fun i wr => ∃ k : Nat, k ≤ p ∧ i = .int .i64 k ∧ BackI w w6 w4.heap.size n (fillW (noneW n) ((listN n vs).take k) true) wr) (fun i _ => p - (intOf i).toNat)
    case atStart => exact ⟨0, Nat.zero_le _, rfl, C, q, f, HBC6.out, HR6.out, HB6.out, ⟨rfl, rfl, rfl, Nat.le_refl _, fun _ _ _ => rfl⟩⟩
    case round =>
      obtain ⟨k, hk, rfl, C2, q2, f2, hi1, hi2, hi3, hi4⟩ := hrel
      have I1 := Lib.hid hi1
      have I2 := Lib.hid hi2
      have I3 := Lib.hid hi3
      have I4 := Lib.hid hi4
      have b0 := cell_grown hi4 e0 (by show w.heap.size ≠ _; omega)
      have b1 := cell_grown hi4 e1 (by show w.heap.size ≠ _; omega)
      have c0 := hi1.cell 0
      have c1 := hi1.cell 1
      simp at c0 c1
      have hLr := HL.out.grown hi4 (fun a ea => by have := HFR.out a ea; omega)
      have HLr := Lib.hid hLr
      have hr2 := back_right Hr.out k
      have hf2 := fits_fillW (fits_none n) ((listN n vs).take k) true
      have hst : ∀ x, (listN n vs)[k]? = some x → setW (fillW (noneW n) ((listN n vs).take k) true) x true = fillW (noneW n) ((listN n vs).take (k + 1)) true := fun x => back_step
      generalize hus : fillW (noneW n) ((listN n vs).take k) true = us at *
      have HUS := Lib.hid hus
      have Hr2 := Lib.hid hr2
      have HST := Lib.hid hst
      clear hi1 hi2 hi3 hi4 hLr hus hr2 hst
      by_cases hlt : k < p
      · obtain ⟨b, off, x, rfl, hcx, hx⟩ := int_at HLr.out hlt
        have hxn := ((mem_list Hr.out x).1 (List.mem_of_getElem? hx)).1
        have HX := Lib.hid hx
        clear hx
        go_wp2
        have t0 := ext_cell c0
        have t1 := ext_cell c1
        have tx := ext_cell hcx
        refine wp_region_mix (by kernel_rfl) ?_
        first | (refine mix_skip 0 rfl (by kernel_rfl) rfl ?_; go_frame) | (refine mix_soft 0 rfl (by kernel_rfl) rfl (fun K hK => ?_); go_simp; first | (refine hK _ ?_; clear hK K) | (apply Exists.intro; refine ⟨fun x => ?_, hK _ ?_⟩; (· (fail)); clear hK K; try go_frame))
        first | (refine mix_skip 1 rfl (by kernel_rfl) rfl ?_; go_frame) | (refine mix_soft 1 rfl (by kernel_rfl) rfl (fun K hK => ?_); go_simp; first | (refine hK _ ?_; clear hK K) | (apply Exists.intro; refine ⟨fun x => ?_, hK _ ?_⟩; (· (fail)); clear hK K; try go_frame))
        first | (refine mix_skip 2 rfl (by kernel_rfl) rfl ?_; go_frame) | (refine mix_soft 2 rfl (by kernel_rfl) rfl (fun K hK => ?_); go_simp; first | (refine hK _ ?_; clear hK K) | (apply Exists.intro; refine ⟨fun x => ?_, hK _ ?_⟩; (· (fail)); clear hK K; try go_frame))
        first | (refine mix_skip 3 rfl (by kernel_rfl) rfl ?_; go_frame) | (refine mix_soft 3 rfl (by kernel_rfl) rfl (fun K hK => ?_); go_simp; first | (refine hK _ ?_; clear hK K) | (apply Exists.intro; refine ⟨fun x => ?_, hK _ ?_⟩; (· (fail)); clear hK K; try go_frame))
        first | (refine mix_skip 4 rfl (by kernel_rfl) rfl ?_; go_frame) | (refine mix_soft 4 rfl (by kernel_rfl) rfl (fun K hK => ?_); go_simp; first | (refine hK _ ?_; clear hK K) | (apply Exists.intro; refine ⟨fun x => ?_, hK _ ?_⟩; (· (fail)); clear hK K; try go_frame))
        refine mix_two 5 9 (by kernel_rfl) ?now5 ?now9
        case' now5 =>
          refine mix_now rfl rfl ?_; intro w7 hb7 hB7 K hK; go_simp
          refine (set_any C2 q2 f2 n us (x : Int) true aA aB aP w7 (HS.out.ext (below_le I3.out hB7)) (I2.out.ext hB7) hf2 0 (by rw [Hr2.out, show placeOk n (x : Int) = true by simp [placeOk]; omega, chk_true, chk_true, first2_z])).mono ?_
          rintro e w8 h8
          obtain ⟨C3, q3, f3, rfl, hR8, hb8⟩ := h8.ok
          rw [Int.toNat_natCast, HST.out x HX.out] at hR8
          refine hK _ _ (below_le hB7 hb8) ?_
          clear hK K h8
          try go_frame
          first | (refine mix_skip 6 rfl (by kernel_rfl) rfl ?_; go_frame) | (refine mix_soft 6 rfl (by kernel_rfl) rfl (fun K hK => ?_); go_simp; first | (refine hK _ ?_; clear hK K) | (apply Exists.intro; refine ⟨fun x => ?_, hK _ ?_⟩; (· (fail)); clear hK K; try go_frame))
          first | (refine mix_skip 7 rfl (by kernel_rfl) rfl ?_; go_frame) | (refine mix_soft 7 rfl (by kernel_rfl) rfl (fun K hK => ?_); go_simp; first | (refine hK _ ?_; clear hK K) | (apply Exists.intro; refine ⟨fun x => ?_, hK _ ?_⟩; (· (fail)); clear hK K; try go_frame))
          first | (refine mix_skip 8 rfl (by kernel_rfl) rfl ?_; go_frame) | (refine mix_soft 8 rfl (by kernel_rfl) rfl (fun K hK => ?_); go_simp; first | (refine hK _ ?_; clear hK K) | (apply Exists.intro; refine ⟨fun x => ?_, hK _ ?_⟩; (· (fail)); clear hK K; try go_frame))
          refine mix_one 9 (by kernel_rfl) ?_
          refine mix_now rfl rfl ?_; intro w9 hb9 hB9 K hK; go_simp
          refine hK _ _ (below_le hB9 (below_box _ _)) ?_
          clear hK K
          try go_frame
          have hnb : Blk (w9.alloc (.cells #[.int .i64 0, .slice none 0 0] 24)) w9.heap.size 24 #[.int .i64 0, .slice none 0 0] := heap_new rfl _
          have hRb := (hR8.ext hb9).ext (below_box w9 (.cells #[.int .i64 0, .slice none 0 0] 24))
          have hnz := hB9.size
          generalize w9.alloc (.cells #[.int .i64 0, .slice none 0 0] 24) = w10 at *
          generalize w9.heap.size = nb at *
          clear hR8 hb8 hb9 hB9 hb7 hB7
          refine mix_one 10 (by kernel_rfl) ?_
          refine mix_now rfl rfl ?_; intro wa hba hBa K hK
          have hna := hnb.ext hba
          have f0 := hna.frozen 0
          have f1 := hna.frozen 1
          have d0 := hna.cell 0
          have d1 := hna.cell 1
          go_simp
          refine hK _ _ ((hBa.setCell (p := ⟨nb, 0, none⟩) hnz _).setCell (p := ⟨nb, 1, none⟩) hnz _) ?_
          clear hK K
          try go_frame
          have hn3 := (hna.set_ 0 (.int .i64 n)).set_ 1 (.slice C3 q3 f3)
          have hR9 := ((hRb.ext hba).unbox (fun _ h => by cases h) hna 0 (.int .i64 n)).unbox (fun _ h => by cases h) (hna.set_ 0 (.int .i64 n)) 1 (.slice C3 q3 f3)
          generalize (wa.setCell ⟨nb, 0, none⟩ (.int .i64 n)).setCell ⟨nb, 1, none⟩ (.slice C3 q3 f3) = wb at *
          clear f0 f1 d0 d1 hna hnb hRb hba hBa
          first | (refine mix_skip 11 rfl (by kernel_rfl) rfl ?_; go_frame) | (refine mix_soft 11 rfl (by kernel_rfl) rfl (fun K hK => ?_); go_simp; first | (refine hK _ ?_; clear hK K) | (apply Exists.intro; refine ⟨fun x => ?_, hK _ ?_⟩; (· (fail)); clear hK K; try go_frame))
        case' now9 =>
          refine mix_now rfl rfl ?_; intro w7 hb7 hB7 K hK; go_simp
          refine hK _ _ (below_le hB7 (below_box _ _)) ?_
          clear hK K
          try go_frame
          have hnb : Blk (w7.alloc (.cells #[.int .i64 0, .slice none 0 0] 24)) w7.heap.size 24 #[.int .i64 0, .slice none 0 0] := heap_new rfl _
          have hnz := hB7.size
          generalize w7.alloc (.cells #[.int .i64 0, .slice none 0 0] 24) = w8 at *
          generalize w7.heap.size = nb at *
          refine mix_one 5 (by kernel_rfl) ?_
          refine mix_now rfl rfl ?_; intro w9 hb9 hB9 K hK; go_simp
          refine (set_any C2 q2 f2 n us (x : Int) true aA aB aP w9 (HS.out.ext (below_le I3.out hB9)) (I2.out.ext hB9) hf2 0 (by rw [Hr2.out, show placeOk n (x : Int) = true by simp [placeOk]; omega, chk_true, chk_true, first2_z])).mono ?_
          rintro e w10 h8
          obtain ⟨C3, q3, f3, rfl, hRb, hb8⟩ := h8.ok
          rw [Int.toNat_natCast, HST.out x HX.out] at hRb
          refine hK _ _ (below_le hB9 hb8) ?_
          clear hK K h8
          try go_frame
          have hnb := (hnb.ext hb9).ext hb8
          clear hb8 hb9 hB9 hb7 hB7
          first | (refine mix_skip 6 rfl (by kernel_rfl) rfl ?_; go_frame) | (refine mix_soft 6 rfl (by kernel_rfl) rfl (fun K hK => ?_); go_simp; first | (refine hK _ ?_; clear hK K) | (apply Exists.intro; refine ⟨fun x => ?_, hK _ ?_⟩; (· (fail)); clear hK K; try go_frame))
          first | (refine mix_skip 7 rfl (by kernel_rfl) rfl ?_; go_frame) | (refine mix_soft 7 rfl (by kernel_rfl) rfl (fun K hK => ?_); go_simp; first | (refine hK _ ?_; clear hK K) | (apply Exists.intro; refine ⟨fun x => ?_, hK _ ?_⟩; (· (fail)); clear hK K; try go_frame))
          first | (refine mix_skip 8 rfl (by kernel_rfl) rfl ?_; go_frame) | (refine mix_soft 8 rfl (by kernel_rfl) rfl (fun K hK => ?_); go_simp; first | (refine hK _ ?_; clear hK K) | (apply Exists.intro; refine ⟨fun x => ?_, hK _ ?_⟩; (· (fail)); clear hK K; try go_frame))
          refine mix_one 10 (by kernel_rfl) ?_
          refine mix_now rfl rfl ?_; intro wa hba hBa K hK
          have hna := hnb.ext hba
          have f0 := hna.frozen 0
          have f1 := hna.frozen 1
          have d0 := hna.cell 0
          have d1 := hna.cell 1
          go_simp
          refine hK _ _ ((hBa.setCell (p := ⟨nb, 0, none⟩) hnz _).setCell (p := ⟨nb, 1, none⟩) hnz _) ?_
          clear hK K
          try go_frame
          have hn3 := (hna.set_ 0 (.int .i64 n)).set_ 1 (.slice C3 q3 f3)
          have hR9 := ((hRb.ext hba).unbox (fun _ h => by cases h) hna 0 (.int .i64 n)).unbox (fun _ h => by cases h) (hna.set_ 0 (.int .i64 n)) 1 (.slice C3 q3 f3)
          generalize (wa.setCell ⟨nb, 0, none⟩ (.int .i64 n)).setCell ⟨nb, 1, none⟩ (.slice C3 q3 f3) = wb at *
          clear f0 f1 d0 d1 hna hnb hRb hba hBa
          first | (refine mix_skip 11 rfl (by kernel_rfl) rfl ?_; go_frame) | (refine mix_soft 11 rfl (by kernel_rfl) rfl (fun K hK => ?_); go_simp; first | (refine hK _ ?_; clear hK K) | (apply Exists.intro; refine ⟨fun x => ?_, hK _ ?_⟩; (· (fail)); clear hK K; try go_frame))
        all_goals
          refine mix_nil (by kernel_rfl) fun wc hbc hBc => ?_
          have hnc := hn3.ext hbc
          have hRc := hR9.ext hbc
          have g0 := hnc.cell 0
          have g1 := hnc.cell 1
          simp at g0 g1
          have hic := I1.out.ext hBc
          have f0 := hic.frozen 0
          have f1 := hic.frozen 1
          have d0 := hic.cell 0
          have d1 := hic.cell 1
          have hm3 := (hic.set_ 0 (.int .i64 n)).set_ 1 (.slice C3 q3 f3)
          have hRd := (hRc.unbox (fun _ h => by cases h) hic 0 (.int .i64 n)).unbox (fun _ h => by cases h) (hic.set_ 0 (.int .i64 n)) 1 (.slice C3 q3 f3)
          have HN := Lib.hid hm3
          have HRD := Lib.hid hRd
          have HBc := Lib.hid hBc
          clear hnc hRc hic hm3 hRd hbc hBc hn3 hR9 b0 b1 c0 c1 hcx t0 t1 tx e0 e1
          go_wp2
          go_roundw
          case rel =>
            refine ⟨k + 1, by omega, by go_num, C3, q3, f3, HN.out, HRD.out, ?_, ?_⟩
            · exact ((below_le I3.out HBc.out).setCell (p := ⟨w4.heap.size, 0, none⟩) (by show w.heap.size ≤ w4.heap.size; omega) _).setCell (p := ⟨w4.heap.size, 1, none⟩) (by show w.heap.size ≤ w4.heap.size; omega) _
            · have g2 := grown_set wc w4.heap.size 0 (.int .i64 n)
              have g3 := grown_set (wc.setCell ⟨w4.heap.size, 0, none⟩ (.int .i64 n)) w4.heap.size 1 (.slice C3 q3 f3)
              have hz := I4.out.size
              have hz2 := HBc.out.size
              exact ⟨g3.os.trans (g2.os.trans (HBc.out.os.trans I4.out.os)), g3.tape.trans (g2.tape.trans (HBc.out.tape.trans I4.out.tape)), g3.output.trans (g2.output.trans (HBc.out.output.trans I4.out.output)),
                Nat.le_trans hz (Nat.le_trans hz2 (Nat.le_trans g2.size g3.size)),
                fun i hi hne => (g3.block i (Nat.lt_of_lt_of_le (by omega) g2.size) hne).trans ((g2.block i (by omega) hne).trans ((HBc.out.block i (by omega)).trans (I4.out.block i hi hne)))⟩
          case measure => simp [intOf]; omega
      · have hkp : k = p := by omega
        subst hkp
        have hfin : us = vs := by
          have h := back_law Hr.out HF.out
          rw [← HUS.out, List.take_of_length_le (by rw [HP.out]; exact Nat.le_refl _)]
          exact h
        have HFI := Lib.hid hfin
        clear hfin
        go_wp2_with fail
        have hls := I2.out.1
        have hlr := HR.out.1
        simp at hls hlr
        have h := same_any A C2 n n m' c' q2 f2 vs us wr (HR.out.ext I3.out) I2.out HF.out hf2 (by rw [← hlr]; have := rightB_elim Hr.out; omega) (by rw [← hls, HFI.out]; have := rightB_elim Hr.out; omega)
        rw [show sameB n vs n us = true by simp [sameB, HFI.out]] at h
        refine h.mono ?_
        clear h
        rintro e w7 ⟨rfl, hb7⟩
        have HB7 := Lib.hid (below_le I3.out hb7)
        clear hb7
        go_wp2
        go_ret
        exact ⟨rfl, HB7.out⟩

end Go.Proofs.YtpoopkieoidhjaaDoor
