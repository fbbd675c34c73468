/-
  What is proved: contracts of kind and Kind of the reference of descriptors. No condition beyond those stated.
-/
import Derived.Test.YtepnamlcofmccaaDoorCk
import Derived.Test.YtepnamlcofmccaaDoorCf
namespace Go.Proofs.YtepnamlcofmccaaDoor
open Go.RowKit

set_option maxHeartbeats 4000000 in
/-- The reference's kind. -/
theorem rkind0_any (z e n a : Int) (P Q : Option Addr) (m c q f : Nat) (ps es : List Int) (w : World) (hP : Row w P m (ps.map Iv)) (hQ : Row w Q q (es.map Iv)) (hm : m ≤ 1000) (hq : q ≤ 1000)
    (hz : 0 ≤ z ∧ z ≤ 1024) (he : 0 ≤ e ∧ e ≤ 256) (hne : 0 ≤ n * e ∧ n * e ≤ 131072) :
    Calls Tryd.prog 33 #[descV z P m c e Q q f, .int .i64 n, .int .i64 a] w fun x w' => x = .returned (.int .i64 (kindAt z ps e es n a)) ∧ Below w.heap.size w w' := by
  obtain ⟨hz1, hz2⟩ := hz
  obtain ⟨he1, he2⟩ := he
  obtain ⟨hne1, hne2⟩ := hne
  have hb1 := below_box w (descO z P m c e Q q f)
  have hh : Blk (w.alloc (descO z P m c e Q q f)) w.heap.size 24 #[.int .i64 z, .slice P m c, .int .i64 e, .slice Q q f] := Blk.new _ _ _
  obtain ⟨M, hM⟩ : ∃ M, n * e = M := ⟨_, rfl⟩
  obtain ⟨en, hen⟩ : ∃ en, z + M = en := ⟨_, rfl⟩
  have hen' : z + n * e = en := by rw [hM, hen]
  have he0 : ¬ a < 0 → ¬ en ≤ a → ¬ a < z → 0 < e := fun h0 h1 h2 => by
    rcases Int.lt_or_eq_of_le he1 with h | h
    · exact h
    · rw [← h] at hM; simp at hM; omega
  rw [hM] at hne1 hne2
  have hen2 : en ≤ 140000 := by omega
  have hen3 : 0 ≤ en := by omega
  have KN : Hid _ := Lib.hid (fun h => kind_none (ps := ps) (es := es) (a := a) hen' h)
  have KL : Hid _ := Lib.hid (kind_low (ps := ps) (es := es) (a := a) hen')
  have KH : Hid _ := Lib.hid (kind_high (ps := ps) (es := es) (a := a) hen')
  generalize kindAt z ps e es n a = k at *
  have HP := Lib.hid (hP.ext hb1)
  have HQ := Lib.hid (hQ.ext hb1)
  have HE := Lib.hid he0
  have HB := Lib.hid hb1
  have T0 := fun x : Ext (w.alloc (descO z P m c e Q q f)) => ext_cell (hh.at_ (i := 0) rfl) x
  have T2 := fun x : Ext (w.alloc (descO z P m c e Q q f)) => ext_cell (hh.at_ (i := 2) rfl) x
  have T3 := fun x : Ext (w.alloc (descO z P m c e Q q f)) => ext_cell (hh.at_ (i := 3) rfl) x
  obtain ⟨a0, a1, a2, a3⟩ : (w.alloc (descO z P m c e Q q f)).cell? ⟨w.heap.size, 0, none⟩ = some (.int .i64 z) ∧ (w.alloc (descO z P m c e Q q f)).cell? ⟨w.heap.size, 1, none⟩ = some (.slice P m c) ∧ (w.alloc (descO z P m c e Q q f)).cell? ⟨w.heap.size, 2, none⟩ = some (.int .i64 e) ∧ (w.alloc (descO z P m c e Q q f)).cell? ⟨w.heap.size, 3, none⟩ = some (.slice Q q f) := by simp [go_sem]
  clear hP hQ he0 hen' hb1 hh
  by_cases h0 : a < 0
  · have hk := KN.out (.inl h0)
    have HK := Lib.hid hk
    clear hk T0 T2 T3
    go_enter Tryd.func33, Tryd.ntmps33
    go_wp2
    go_ret
    exact ⟨ret_int HK.out.symm, HB.out⟩
  · by_cases h2 : a.tmod 4 = 0
    · have g3 : (a % 4 != 0) = false := by rw [← Int.tmod_eq_emod_of_nonneg (by omega), h2]; rfl
      by_cases h1 : en ≤ a
      · have hk := KN.out (.inr (.inl h1))
        have HK := Lib.hid hk
        clear hk T0 T2 T3 h2
        go_enter Tryd.func33, Tryd.ntmps33
        go_wp2
        go_ret
        exact ⟨ret_int HK.out.symm, HB.out⟩
      · have h1' : a < en := by omega
        by_cases h3 : a < z
        · have hk := KL.out h0 h1 h2 h3
          have h3' : decide (z ≤ a) = false := decide_eq_false (by omega)
          have HK := Lib.hid hk
          have hin := fun W h => in_any P m c ps a W h (by omega)
          clear hk h2
          generalize hasB ps a = b at *
          have HI := Lib.hid hin
          clear hin
          go_enter Tryd.func33, Tryd.ntmps33
          go_wp2_with fail
          generalize w.alloc (descO z P m c e Q q f) = W0 at *
          refine (HI.out _ HP.out).mono ?_
          rintro x w' ⟨rfl, rfl⟩
          cases b
          · go_wp2
            refine wp_region_plan [(0, true), (1, true), (2, true), (3, true), (4, true), (5, true), (6, true), (7, true), (8, true), (9, true), (10, true), (11, true), (12, true), (13, true), (14, true), (15, true), (16, true)] (by kernel_rfl) (by kernel_rfl) ?_
            repeat (first | (refine plan_skip rfl rfl ?_; go_frame) | (refine plan_soft rfl rfl (fun K hK => ?_); go_simp; first | (refine hK _ ?_; clear hK K) | (apply Exists.intro; refine ⟨fun x => ?_, hK _ ?_⟩; (· (fail)); clear hK K; try go_frame)))
            refine plan_nil ?_; intro w1 h0b; have HB1 := Lib.hid h0b; clear h0b
            clear T0 T2 T3
            go_wp2
            go_ret
            exact ⟨ret_int HK.out.symm, below_le HB.out HB1.out⟩
          · clear T0 T2 T3
            go_wp2
            go_ret
            exact ⟨ret_int HK.out.symm, HB.out⟩
        · have hk := KH.out h0 h1 h2 h3
          have h3' : decide (z ≤ a) = true := decide_eq_true (by omega)
          have he3 := HE.out h0 h1 h3
          have HK := Lib.hid hk
          have hin := fun W h => in_any Q q f es ((a - z) % e) W h (by omega)
          have hw1 : IntKind.i64.wrap (a - z) = a - z := IntWalk.i64_in _ (by omega)
          have hw2 : (a - z).tmod e = (a - z) % e := Int.tmod_eq_emod_of_nonneg (by omega)
          have hw4 := Int.emod_lt_of_pos (a - z) he3
          have hw5 := Int.emod_nonneg (a - z) (by omega : e ≠ 0)
          have hw3 : IntKind.i64.wrap ((a - z) % e) = (a - z) % e := IntWalk.i64_in _ (by omega)
          have hw6 : (e == 0) = false := beq_eq_false_iff_ne.2 (by omega)
          have hw7 : ¬ e = 0 := by omega
          generalize (a - z) % e = r at *
          clear hk h2
          generalize hasB es r = b at *
          have HI := Lib.hid hin
          clear hin
          go_enter Tryd.func33, Tryd.ntmps33
          go_wp2_with fail
          generalize w.alloc (descO z P m c e Q q f) = W0 at *
          refine wp_region_plan [(0, true), (1, true), (2, true), (3, true), (4, true), (5, true), (6, true), (7, true), (8, true), (9, true), (10, true), (11, true), (12, true), (13, true), (14, true), (15, true), (16, true)] (by kernel_rfl) (by kernel_rfl) ?_
          repeat (first | (refine plan_skip rfl rfl ?_; go_frame) | (refine plan_soft rfl rfl (fun K hK => ?_); go_simp; first | (refine hK _ ?_; clear hK K) | (apply Exists.intro; refine ⟨fun x => ?_, hK _ ?_⟩; (· (exact Calls.still (HI.out _ (HQ.out.ext x.below)))); clear hK K; try go_frame)))
          refine plan_nil ?_; intro w1 h0b; have HB1 := Lib.hid h0b; clear h0b
          clear T0 T2 T3 hw1 hw2 hw3 hw4 hw5 hw6 hw7
          cases b
          · go_wp2
            go_ret
            exact ⟨ret_int HK.out.symm, below_le HB.out HB1.out⟩
          · go_wp2
            go_ret
            exact ⟨ret_int HK.out.symm, below_le HB.out HB1.out⟩
    · have hk := KN.out (.inr (.inr h2))
      have g3 : (a % 4 != 0) = true := by rw [← Int.tmod_eq_emod_of_nonneg (by omega)]; exact bne_iff_ne.2 h2
      have HK := Lib.hid hk
      clear hk T0 T2 T3 h2
      go_enter Tryd.func33, Tryd.ntmps33
      go_wp2
      go_ret
      exact ⟨ret_int HK.out.symm, HB.out⟩

set_option maxHeartbeats 2000000 in
/-- The reference's Kind. -/
theorem rkind_any (z e n a : Int) (P Q : Option Addr) (m c q f : Nat) (ps es : List Int) (w : World) (hP : Row w P m (ps.map Iv)) (hQ : Row w Q q (es.map Iv)) (hm : m ≤ 1000) (hq : q ≤ 1000) :
    Calls Tryd.prog 16 #[descV z P m c e Q q f, .int .i64 n, .int .i64 a] w (GivesB w (kindR z ps e es n a) (formC z ps e es n)) := by
  have hb1 := below_box w (descO z P m c e Q q f)
  have hcall := rbytes_any z e n P Q m c q f ps es _ (hP.ext hb1) (hQ.ext hb1) hm hq
  have hfz := form_zero (z := z) (e := e) (n := n) (ps := ps) (es := es)
  have hbz : kindR z ps e es n a = if formC z ps e es n = 0 then kindAt z ps e es n a else 0 := rfl
  have hle := form_le (z := z) (e := e) (n := n) (ps := ps) (es := es)
  obtain ⟨a0, a1, a2, a3⟩ : (w.alloc (descO z P m c e Q q f)).cell? ⟨w.heap.size, 0, none⟩ = some (.int .i64 z) ∧ (w.alloc (descO z P m c e Q q f)).cell? ⟨w.heap.size, 1, none⟩ = some (.slice P m c) ∧ (w.alloc (descO z P m c e Q q f)).cell? ⟨w.heap.size, 2, none⟩ = some (.int .i64 e) ∧ (w.alloc (descO z P m c e Q q f)).cell? ⟨w.heap.size, 3, none⟩ = some (.slice Q q f) := by simp [go_sem]
  have hk := fun W h1 h2 => rkind0_any z e n a P Q m c q f ps es W h1 h2 hm hq
  generalize kindR z ps e es n a = kr at *
  generalize kindAt z ps e es n a = ka at *
  generalize bytesR z ps e es n = br at *
  generalize formC z ps e es n = no at *
  have HC := Lib.hid hcall
  have HFZ := Lib.hid hfz
  have HBZ := Lib.hid hbz
  have HB := Lib.hid hb1
  have HK := Lib.hid hk
  have HP := Lib.hid (hP.ext hb1)
  have HQ := Lib.hid (hQ.ext hb1)
  clear hcall hfz hbz hb1 hP hQ hk
  go_enter Tryd.func16, Tryd.ntmps16
  go_wp2_with fail
  generalize w.alloc (descO z P m c e Q q f) = W0 at *
  refine HC.out.mono ?_
  rintro x w1 ⟨rfl, hb1⟩
  replace a0 := cell_ext hb1 a0
  replace a1 := cell_ext hb1 a1
  replace a2 := cell_ext hb1 a2
  replace a3 := cell_ext hb1 a3
  replace HP := Lib.hid (HP.out.ext hb1)
  replace HQ := Lib.hid (HQ.out.ext hb1)
  replace HB := Lib.hid (below_le HB.out hb1)
  clear hb1 HC
  by_cases h0 : no = 0
  · have h0' : ((no : Int) != 0) = false := by simp [h0]
    obtain ⟨hz, he, hn, hne, -⟩ := HFZ.out h0
    have hcall := HK.out w1 HP.out HQ.out hz he hne
    have hBZ := HBZ.out
    rw [if_pos h0] at hBZ
    have HN := Lib.hid h0
    have HZ := Lib.hid hBZ
    have HC := Lib.hid hcall
    clear h0 hz he hn hne hcall hBZ HK HFZ HBZ
    go_wp2_with fail
    refine HC.out.mono ?_
    rintro x w2 ⟨rfl, hb2⟩
    replace HB := Lib.hid (below_le HB.out hb2)
    clear hb2 HC
    go_wp2
    go_ret2
    exact GivesB.mk HZ.out.symm (by rw [HN.out]; rfl) HB.out
  · have h0' : ((no : Int) != 0) = true := by simp [h0]
    have hBZ := HBZ.out
    rw [if_neg h0] at hBZ
    have HZ := Lib.hid hBZ
    clear h0 hBZ HK HFZ HBZ
    go_wp2
    go_ret2
    exact GivesB.mk HZ.out.symm rfl HB.out

end Go.Proofs.YtepnamlcofmccaaDoor
