/-
  What is proved: DescSlots returns true. No condition beyond those stated.
-/
import Derived.Test.YtepnamlcofmccaaDoorCt1
namespace Go.Proofs.YtepnamlcofmccaaDoor
open Go.RowKit Go.Stop

/-- What DescSlots tells of slots and a place. -/
def SlOk (L : List Int) (a k : Int) (N lp lq : Nat) : Prop := L.Pairwise (· < ·) ∧ (k == 2) = hasB L a ∧ L.length = lp + N * lq
theorem slots_ok {z e n a : Int} {ps es : List Int} (h : formC z ps e es n = 0) : 0 ≤ n ∧ SlOk (slotsR z ps e es n) a (kindR z ps e es n a) n.toNat ps.length es.length := by
  obtain ⟨-, -, hn, -, -⟩ := form_zero h
  have hd := form_right h
  obtain ⟨N, rfl⟩ : ∃ N : Nat, n = N := ⟨n.toNat, by omega⟩
  refine ⟨hn.1, ?_, ?_, ?_⟩
  · unfold slotsR; rw [if_pos h]; exact slots_pair hd _
  · unfold slotsR kindR hasB
    rw [if_pos h, if_pos h, Int.toNat_natCast, Bool.eq_iff_iff, beq_iff_eq, decide_eq_true_eq]
    exact (kind_two hd).symm
  · unfold slotsR; rw [if_pos h, slots_len]
theorem pair_at {L : List Int} (h : L.Pairwise (· < ·)) {i j : Nat} (hij : i < j) (hj : j < L.length) : L.getD i 0 < L.getD j 0 := by
  have := List.pairwise_iff_getElem.1 h i j (by omega) hj hij
  simpa [hj, show i < L.length by omega] using this
theorem has_take (L : List Int) (a : Int) (k : Nat) (hk : k < L.length) : hasB (L.take (k + 1)) a = (hasB (L.take k) a || (L.getD k 0 == a)) := by
  unfold hasB
  have h1 : L.getD k 0 = L[k] := by simp [hk]
  rw [List.take_succ_eq_append_getElem hk, Bool.eq_iff_iff, h1]
  simp only [List.mem_append, List.mem_singleton, decide_eq_true_eq, Bool.or_eq_true, beq_iff_eq]
  constructor
  · rintro (h | h)
    · exact .inl h
    · exact .inr h.symm
  · rintro (h | h)
    · exact .inl h
    · exact .inr h.symm

set_option maxRecDepth 100000 in
set_option maxHeartbeats 8000000 in
theorem descSlots_any (z : Int) (P : Option Addr) (m c : Nat) (e : Int) (Q : Option Addr) (q f : Nat) (ps es : List Int) (n a : Int) (w : World) (hD : DE w) (hP : Row w P m (ps.map Iv)) (hQ : Row w Q q (es.map Iv)) (hm : m ≤ c) (hq : q ≤ f) :
    Calls Tryd.prog 4 #[descV z P m c e Q q f, .int .i64 n, .int .i64 a] w (Holds w) := by
  have hb0 := below_box w (descO z P m c e Q q f)
  have h2 : Blk (w.alloc (descO z P m c e Q q f)) w.heap.size 24 #[.int .i64 z, .slice P m c, .int .i64 e, .slice Q q f] := Blk.new _ _ _
  have HP := Lib.hid (row_cut hP)
  have HQ := Lib.hid (row_cut hQ)
  have HB := Lib.hid hb0
  have H2 := Lib.hid h2
  have HD := Lib.hid hD
  have HMC := Lib.hid hm
  have HQF := Lib.hid hq
  have hm20 : min m 20 ≤ 20 := Nat.min_le_right _ _
  have hq20 : min q 20 ≤ 20 := Nat.min_le_right _ _
  clear hb0 h2 hD hm hq hP hQ
  go_enter Tryd.func4, Tryd.ntmps4
  go_wp2_with fail
  generalize w.alloc (descO z P m c e Q q f) = W0 at *
  refine (dshown_any W0 (HD.out.ext HB.out)).mono ?_
  rintro x w1 ⟨rfl, hb1⟩
  have h2 := H2.out.ext hb1
  have k0 := h2.at_ (i := 0) rfl
  have k1 := h2.at_ (i := 1) rfl
  have k2 := h2.at_ (i := 2) rfl
  have k3 := h2.at_ (i := 3) rfl
  replace H2 := Lib.hid h2
  replace HB := Lib.hid (below_le HB.out hb1)
  clear h2 hb1
  go_wp2_with fail
  refine (dcut_any z e P Q m c q f w1 HMC.out HQF.out).mono ?_
  clear HMC HQF
  rintro x w2 ⟨rfl, hb2⟩
  have h2 := H2.out.ext hb2
  clear k0 k1 k2 k3
  have c0 := h2.at_ (i := 0) rfl
  have c1 := h2.at_ (i := 1) rfl
  have c2 := h2.at_ (i := 2) rfl
  have c3 := h2.at_ (i := 3) rfl
  have f0 := h2.frozen 0
  have f1 := h2.frozen 1
  have f2 := h2.frozen 2
  have f3 := h2.frozen 3
  generalize min m 20 = m' at *
  generalize min q 20 = q' at *
  generalize ps.take 20 = ps' at *
  generalize es.take 20 = es' at *
  have h9 := h2.set4 (.int .i64 z) (.slice P m' c) (.int .i64 e) (.slice Q q' f)
  replace HB := Lib.hid (below_set4 (below_le HB.out hb2) (Nat.le_refl _) (.int .i64 z) (.slice P m' c) (.int .i64 e) (.slice Q q' f))
  have k0 := h9.at_ (i := 0) rfl
  have k1 := h9.at_ (i := 1) rfl
  have k2 := h9.at_ (i := 2) rfl
  have k3 := h9.at_ (i := 3) rfl
  clear h2 h9 hb2 H2
  go_wp2_with fail
  generalize (((w2.setCell ⟨w.heap.size, 0, none⟩ (.int .i64 z)).setCell ⟨w.heap.size, 1, none⟩ (.slice P m' c)).setCell ⟨w.heap.size, 2, none⟩ (.int .i64 e)).setCell ⟨w.heap.size, 3, none⟩ (.slice Q q' f) = W3 at *
  clear c0 c1 c2 c3 f0 f1 f2 f3
  obtain ⟨n', hn'⟩ : ∃ n', min n 300 = n' := ⟨_, rfl⟩
  have hn1 : n' ≤ 300 := by omega
  rw [hn']
  clear hn'
  refine (slots_any z e n' P Q m' c q' f ps' es' W3 (HD.out.1.ext HB.out) (HP.out.ext HB.out) (HQ.out.ext HB.out) (by omega) (by omega) hn1).mono ?_
  rintro x w4 ⟨K, l, d, rfl, hK, -, hb4⟩
  replace k0 := cell_ext hb4 k0; replace k1 := cell_ext hb4 k1; replace k2 := cell_ext hb4 k2; replace k3 := cell_ext hb4 k3
  replace HB := Lib.hid (below_le HB.out hb4)
  have HK := Lib.hid hK
  clear hb4 hK
  go_wp2_with fail
  refine (kind_any z e n' a P Q m' c q' f ps' es' w4 (HD.out.1.ext HB.out) (HP.out.ext HB.out) (HQ.out.ext HB.out) (by omega) (by omega)).mono ?_
  rintro x w5 ⟨rfl, hb5⟩
  replace k0 := cell_ext hb5 k0; replace k1 := cell_ext hb5 k1; replace k2 := cell_ext hb5 k2; replace k3 := cell_ext hb5 k3; replace HK := Lib.hid (HK.out.ext hb5)
  replace HB := Lib.hid (below_le HB.out hb5)
  have hok := slots_ok (z := z) (e := e) (n := n') (a := a) (ps := ps') (es := es')
  have hlp := HP.out.1
  have hlq := HQ.out.1
  have hll := HK.out.1
  simp only [List.length_map] at hlp hlq hll
  have hL0 : formC z ps' e es' n' ≠ 0 → slotsR z ps' e es' n' = [] ∧ kindR z ps' e es' n' a = 0 := fun h => by
    unfold slotsR kindR
    rw [if_neg h, if_neg h]
    exact ⟨rfl, rfl⟩
  generalize slotsR z ps' e es' n' = L at *
  generalize kindR z ps' e es' n' a = kr at *
  generalize formC z ps' e es' n' = fc at *
  clear hb5
  by_cases h0 : fc = 0
  · obtain ⟨hn2, hsl⟩ := hok h0
    rw [hlp, hlq] at hsl
    obtain ⟨s1, s2, s3⟩ := hsl
    have hnq : n'.toNat * q' ≤ 300 * 20 := Nat.mul_le_mul (by omega) hq20
    obtain ⟨N, rfl⟩ : ∃ N : Nat, n' = N := ⟨n'.toNat, by omega⟩
    rw [Int.toNat_natCast] at s3 hnq
    have hl6 : l ≤ 6020 := by omega
    have x0 : ((fc : Int) != 0) = false := by simp [h0]
    have x0' : ((fc : Int) == 0) = true := by simp [h0]
    have hnq2 : (N : Int) * (q' : Int) = ((N * q' : Nat) : Int) := by simp
    have hlm : l = m' + N * q' := by omega
    generalize N * q' = nq at *
    have S1 := Lib.hid s1
    have S2 := Lib.hid s2
    have HLL := Lib.hid hll
    have HLM := Lib.hid hlm
    clear hok h0 hL0 s1 s2 s3 hll hlp hlq hlm
    go_wp2
    go_loopw [12, 13] (fun v i wr => ∃ k : Nat, k ≤ l ∧ i = .int .i64 k ∧ v = .bool (hasB (L.take k) a) ∧ Below w5.heap.size w5 wr) (fun _ i _ => l - (intOf i).toNat)
    case atStart => exact ⟨0, Nat.zero_le _, rfl, by simp [hasB], Below.refl _ _⟩
    case round =>
      obtain ⟨k, hk, rfl, hv, hb⟩ := hrel
      subst hv
      have Hb := Lib.hid hb
      have b1 := cell_ext hb k1
      have b3 := cell_ext hb k3
      clear hb
      by_cases hlt : k < l
      · obtain ⟨g1, o1, y, rfl, c1, e1, -⟩ := num_at (HK.out.ext Hb.out) hlt
        have hht := has_take L a k (by have := HLL.out; omega)
        rw [e1] at hht
        have HHT := Lib.hid hht
        generalize hasB (L.take k) a = hv at *
        have c1' := c1
        clear hht
        by_cases hk0 : k = 0
        · have z0 : decide (0 < (k : Int)) = false := decide_eq_false (by omega)
          have z0' : decide (0 < k) = false := decide_eq_false (by omega)
          have t1 := fun z : Ext wr => ext_cell c1 z
          clear e1 hk0
          cases hv
          · cases hya : (y == a)
            · rw [hya] at HHT
              go_wp2
              refine wp_region_plan [(0, true), (1, true), (2, true), (3, true), (4, true), (5, true), (6, true), (7, true), (8, true), (9, true), (10, true), (11, true), (12, true), (13, true)] (by kernel_rfl) (by kernel_rfl) ?_
              repeat (first | (refine plan_skip rfl rfl ?_; go_frame) | (refine plan_soft rfl rfl (fun K hK => ?_); go_simp; first | (refine hK _ ?_; clear hK K) | (apply Exists.intro; refine ⟨fun x => ?_, hK _ ?_⟩; (· (fail)); clear hK K; try go_frame)))
              refine plan_nil ?_; intro w6 h0b; have HB6 := Lib.hid h0b; clear h0b
              clear t1
              go_wp2
              go_roundw
              case rel => exact ⟨k + 1, by omega, by go_num, by rw [HHT.out]; rfl, below_le Hb.out HB6.out⟩
              case measure => simp [intOf]; omega
            · rw [hya] at HHT
              go_wp2
              refine wp_region_plan [(0, true), (1, true), (2, true), (3, true), (4, true), (5, true), (6, true), (7, true), (8, true), (9, true), (10, true), (11, true), (12, true), (13, true)] (by kernel_rfl) (by kernel_rfl) ?_
              repeat (first | (refine plan_skip rfl rfl ?_; go_frame) | (refine plan_soft rfl rfl (fun K hK => ?_); go_simp; first | (refine hK _ ?_; clear hK K) | (apply Exists.intro; refine ⟨fun x => ?_, hK _ ?_⟩; (· (fail)); clear hK K; try go_frame)))
              refine plan_nil ?_; intro w6 h0b; have HB6 := Lib.hid h0b; clear h0b
              clear t1
              go_wp2
              go_roundw
              case rel => exact ⟨k + 1, by omega, by go_num, by rw [HHT.out]; rfl, below_le Hb.out HB6.out⟩
              case measure => simp [intOf]; omega
          · go_wp2
            refine wp_region_plan [(0, true), (1, true), (2, true), (3, true), (4, true), (5, true), (6, true), (7, true), (8, true), (9, true), (10, true), (11, true), (12, true), (13, true)] (by kernel_rfl) (by kernel_rfl) ?_
            repeat (first | (refine plan_skip rfl rfl ?_; go_frame) | (refine plan_soft rfl rfl (fun K hK => ?_); go_simp; first | (refine hK _ ?_; clear hK K) | (apply Exists.intro; refine ⟨fun x => ?_, hK _ ?_⟩; (· (fail)); clear hK K; try go_frame)))
            refine plan_nil ?_; intro w6 h0b; have HB6 := Lib.hid h0b; clear h0b
            clear t1
            go_wp2
            go_roundw
            case rel => exact ⟨k + 1, by omega, by go_num, by rw [HHT.out]; rfl, below_le Hb.out HB6.out⟩
            case measure => simp [intOf]; omega
        · obtain ⟨j, hj⟩ : ∃ j, k - 1 = j := ⟨_, rfl⟩
          have hjm : j < l := by omega
          obtain ⟨b2, o2, x, e9, d2, e2, -⟩ := num_at (HK.out.ext Hb.out) hjm
          obtain ⟨rfl, rfl⟩ : b2 = g1 ∧ o2 = o1 := by cases e9; exact ⟨rfl, rfl⟩
          have hxy := pair_at S1.out (show j < k by omega) (by have := HLL.out; omega)
          rw [e1, e2] at hxy
          have z0 : decide (0 < (k : Int)) = true := decide_eq_true (by omega)
          have z0' : decide (0 < k) = true := decide_eq_true (by omega)
          have z1 : IntKind.i64.wrap ((k : Int) - 1) = (j : Int) := by rw [IntKind.wrap_i64]; omega
          have z2 : decide (y ≤ x) = false := decide_eq_false (by omega)
          have t1 := fun z : Ext wr => ext_cell c1 z
          have t2 := fun z : Ext wr => ext_cell d2 z
          clear e1 e2 e9 hk0 hj hxy
          cases hv
          · cases hya : (y == a)
            · rw [hya] at HHT
              go_wp2
              refine wp_region_plan [(0, true), (1, true), (2, true), (3, true), (4, true), (5, true), (6, true), (7, true), (8, true), (9, true), (10, true), (11, true), (12, true), (13, true)] (by kernel_rfl) (by kernel_rfl) ?_
              repeat (first | (refine plan_skip rfl rfl ?_; go_frame) | (refine plan_soft rfl rfl (fun K hK => ?_); go_simp; first | (refine hK _ ?_; clear hK K) | (apply Exists.intro; refine ⟨fun x => ?_, hK _ ?_⟩; (· (fail)); clear hK K; try go_frame)))
              refine plan_nil ?_; intro w6 h0b; have HB6 := Lib.hid h0b; clear h0b
              clear t1 t2 z1
              go_wp2
              go_roundw
              case rel => exact ⟨k + 1, by omega, by go_num, by rw [HHT.out]; rfl, below_le Hb.out HB6.out⟩
              case measure => simp [intOf]; omega
            · rw [hya] at HHT
              go_wp2
              refine wp_region_plan [(0, true), (1, true), (2, true), (3, true), (4, true), (5, true), (6, true), (7, true), (8, true), (9, true), (10, true), (11, true), (12, true), (13, true)] (by kernel_rfl) (by kernel_rfl) ?_
              repeat (first | (refine plan_skip rfl rfl ?_; go_frame) | (refine plan_soft rfl rfl (fun K hK => ?_); go_simp; first | (refine hK _ ?_; clear hK K) | (apply Exists.intro; refine ⟨fun x => ?_, hK _ ?_⟩; (· (fail)); clear hK K; try go_frame)))
              refine plan_nil ?_; intro w6 h0b; have HB6 := Lib.hid h0b; clear h0b
              clear t1 t2 z1
              go_wp2
              go_roundw
              case rel => exact ⟨k + 1, by omega, by go_num, by rw [HHT.out]; rfl, below_le Hb.out HB6.out⟩
              case measure => simp [intOf]; omega
          · go_wp2
            refine wp_region_plan [(0, true), (1, true), (2, true), (3, true), (4, true), (5, true), (6, true), (7, true), (8, true), (9, true), (10, true), (11, true), (12, true), (13, true)] (by kernel_rfl) (by kernel_rfl) ?_
            repeat (first | (refine plan_skip rfl rfl ?_; go_frame) | (refine plan_soft rfl rfl (fun K hK => ?_); go_simp; first | (refine hK _ ?_; clear hK K) | (apply Exists.intro; refine ⟨fun x => ?_, hK _ ?_⟩; (· (fail)); clear hK K; try go_frame)))
            refine plan_nil ?_; intro w6 h0b; have HB6 := Lib.hid h0b; clear h0b
            clear t1 t2 z1
            go_wp2
            go_roundw
            case rel => exact ⟨k + 1, by omega, by go_num, by rw [HHT.out]; rfl, below_le Hb.out HB6.out⟩
            case measure => simp [intOf]; omega
      · have hkl : k = L.length := by have := HLL.out; omega
        have hh : hasB (L.take k) a = (kr == 2) := by rw [S2.out, hkl, List.take_length]
        rw [hh]
        have hlm : (l : Int) = (m' : Int) + (nq : Int) := by have := HLM.out; omega
        clear hh hkl
        cases hkb : (kr == 2)
        all_goals
          go_wp2
          go_ret
          exact ⟨rfl, below_le HB.out Hb.out⟩
  · obtain ⟨rfl, rfl⟩ := hL0 h0
    have x0 : ((fc : Int) != 0) = true := by simp [h0]
    obtain rfl : l = 0 := by simpa using hll.symm
    clear hok h0 hL0 hll
    go_wp2
    go_ret
    exact ⟨rfl, HB.out⟩

end Go.Proofs.YtepnamlcofmccaaDoor
