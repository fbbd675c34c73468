/-
  What is proved: DescFields returns true. No condition beyond those stated.
-/
import Derived.Test.YtepnamlcofmccaaDoorCt1
namespace Go.Proofs.YtepnamlcofmccaaDoor
open Go.RowKit Go.Stop

theorem kind_field (z e n a : Int) (ps es : List Int) : (kindAt z ps e es n a != 0) = (decide (0 ≤ a) && decide (a.tmod 4 = 0) && decide (a < z + n * e)) := by
  unfold kindAt
  by_cases h : a < 0 ∨ z + n * e ≤ a ∨ a.tmod 4 ≠ 0
  · rw [if_pos h]
    rcases h with h | h | h
    · rw [decide_eq_false (show ¬ 0 ≤ a by omega)]; rfl
    · rw [decide_eq_false (show ¬ a < z + n * e by omega)]; simp
    · rw [decide_eq_false h]; simp
  · rw [if_neg h, decide_eq_true (show 0 ≤ a by omega), decide_eq_true (show a.tmod 4 = 0 by omega), decide_eq_true (show a < z + n * e by omega)]
    split
    · split <;> rfl
    · split <;> rfl
theorem form_bad_iff (z e n : Int) (ps es : List Int) (h : formC z ps e es n ≠ 0) : ((formC z ps e es n : Int) == 40) = !dRight z ps e es := by
  unfold formC at h ⊢
  cases hd : dRight z ps e es
  · rfl
  · rw [hd] at h
    simp only [if_true] at h ⊢
    split
    · rename_i hl; rw [if_pos hl] at h; exact absurd rfl h
    · rfl

set_option maxRecDepth 100000 in
set_option maxHeartbeats 4000000 in
theorem descFields_any (z : Int) (P : Option Addr) (m c : Nat) (e : Int) (Q : Option Addr) (q f : Nat) (ps es : List Int) (n a : Int) (w : World) (hD : DE w) (hP : Row w P m (ps.map Iv)) (hQ : Row w Q q (es.map Iv)) (hm : m ≤ c) (hq : q ≤ f) :
    Calls Tryd.prog 6 #[descV z P m c e Q q f, .int .i64 n, .int .i64 a] w (Holds w) := by
  have hb0 := below_box w (descO z P m c e Q q f)
  have h2 : Blk (w.alloc (descO z P m c e Q q f)) w.heap.size 24 #[.int .i64 z, .slice P m c, .int .i64 e, .slice Q q f] := Blk.new _ _ _
  have HP := Lib.hid (row_cut hP)
  have HQ := Lib.hid (row_cut hQ)
  have HB := Lib.hid hb0
  have H2 := Lib.hid h2
  have HD := Lib.hid hD
  have HMC := Lib.hid hm
  have HQF := Lib.hid hq
  have hm20 : min m 20 ≤ 20 := Nat.min_le_right _ _
  have hq20 : min q 20 ≤ 20 := Nat.min_le_right _ _
  clear hb0 h2 hD hm hq hP hQ
  go_enter Tryd.func6, Tryd.ntmps6
  go_wp2_with fail
  generalize w.alloc (descO z P m c e Q q f) = W0 at *
  refine (dshown_any W0 (HD.out.ext HB.out)).mono ?_
  rintro x w1 ⟨rfl, hb1⟩
  have h2 := H2.out.ext hb1
  have k0 := h2.at_ (i := 0) rfl
  have k1 := h2.at_ (i := 1) rfl
  have k2 := h2.at_ (i := 2) rfl
  have k3 := h2.at_ (i := 3) rfl
  replace H2 := Lib.hid h2
  replace HB := Lib.hid (below_le HB.out hb1)
  clear h2 hb1
  go_wp2_with fail
  refine (dcut_any z e P Q m c q f w1 HMC.out HQF.out).mono ?_
  clear HMC HQF
  rintro x w2 ⟨rfl, hb2⟩
  have h2 := H2.out.ext hb2
  clear k0 k1 k2 k3
  have c0 := h2.at_ (i := 0) rfl
  have c1 := h2.at_ (i := 1) rfl
  have c2 := h2.at_ (i := 2) rfl
  have c3 := h2.at_ (i := 3) rfl
  have f0 := h2.frozen 0
  have f1 := h2.frozen 1
  have f2 := h2.frozen 2
  have f3 := h2.frozen 3
  generalize min m 20 = m' at *
  generalize min q 20 = q' at *
  generalize ps.take 20 = ps' at *
  generalize es.take 20 = es' at *
  have h9 := h2.set4 (.int .i64 z) (.slice P m' c) (.int .i64 e) (.slice Q q' f)
  replace HB := Lib.hid (below_set4 (below_le HB.out hb2) (Nat.le_refl _) (.int .i64 z) (.slice P m' c) (.int .i64 e) (.slice Q q' f))
  have k0 := h9.at_ (i := 0) rfl
  have k1 := h9.at_ (i := 1) rfl
  have k2 := h9.at_ (i := 2) rfl
  have k3 := h9.at_ (i := 3) rfl
  clear h2 h9 hb2 H2
  go_wp2_with fail
  generalize (((w2.setCell ⟨w.heap.size, 0, none⟩ (.int .i64 z)).setCell ⟨w.heap.size, 1, none⟩ (.slice P m' c)).setCell ⟨w.heap.size, 2, none⟩ (.int .i64 e)).setCell ⟨w.heap.size, 3, none⟩ (.slice Q q' f) = W3 at *
  clear c0 c1 c2 c3 f0 f1 f2 f3
  obtain ⟨n', hn'⟩ : ∃ n', min n 300 = n' := ⟨_, rfl⟩
  have hn1 : n' ≤ 300 := by omega
  rw [hn']
  clear hn'
  refine (kind_any z e n' a P Q m' c q' f ps' es' W3 (HD.out.1.ext HB.out) (HP.out.ext HB.out) (HQ.out.ext HB.out) (by omega) (by omega)).mono ?_
  rintro x_ w4 ⟨rfl, hb_⟩
  replace k0 := cell_ext hb_ k0
  replace k1 := cell_ext hb_ k1
  replace k2 := cell_ext hb_ k2
  replace k3 := cell_ext hb_ k3
  replace HB := Lib.hid (below_le HB.out hb_)
  clear hb_
  have hfz := form_zero (z := z) (e := e) (n := n') (ps := ps') (es := es')
  have hfb := form_bad_iff z e n' ps' es'
  have hkf := kind_field z e n' a ps' es'
  have hkr : kindR z ps' e es' n' a = if formC z ps' e es' n' = 0 then kindAt z ps' e es' n' a else 0 := rfl
  have hrt := fun W h1 h2 => dright_any z e P Q m' c q' f ps' es' W h1 h2 (by omega) (by omega)
  generalize kindR z ps' e es' n' a = kr at *
  generalize formC z ps' e es' n' = fc at *
  generalize dRight z ps' e es' = rt at *
  have HR := Lib.hid hrt
  clear hrt
  by_cases h0 : fc = 0
  · obtain ⟨⟨hz1, hz2⟩, ⟨he1, he2⟩, ⟨hn2, hn3⟩, ⟨hne1, hne2⟩, -⟩ := hfz h0
    rw [if_pos h0] at hkr
    rw [← hkr] at hkf
    have x0 : ((fc : Int) != 0) = false := by simp [h0]
    obtain ⟨M, hM⟩ : ∃ M, n' * e = M := ⟨_, rfl⟩
    rw [hM] at hkf hne1 hne2
    clear hfz hfb hkr h0
    have HKF := Lib.hid hkf
    clear hkf
    by_cases g1 : 0 ≤ a
    · by_cases g2 : a.tmod 4 = 0
      · have x2 : (a % 4 == 0) = true := by rw [← Int.tmod_eq_emod_of_nonneg g1, g2]; rfl
        by_cases g3 : a < z + M
        · have hk : (kr != 0) = true := by rw [HKF.out, decide_eq_true g1, decide_eq_true g2, decide_eq_true g3]; rfl
          clear g2
          go_wp2
          go_ret
          exact ⟨rfl, HB.out⟩
        · have hk : (kr != 0) = false := by rw [HKF.out, decide_eq_false g3]; simp
          have g3' : decide (a < z + M) = false := decide_eq_false g3
          clear g2
          go_wp2
          go_ret
          exact ⟨rfl, HB.out⟩
      · have x2 : (a % 4 == 0) = false := by rw [← Int.tmod_eq_emod_of_nonneg g1]; exact beq_eq_false_iff_ne.2 g2
        have hk : (kr != 0) = false := by rw [HKF.out, decide_eq_false g2]; simp
        clear g2
        go_wp2
        go_ret
        exact ⟨rfl, HB.out⟩
    · have g1' : a < 0 := by omega
      have hk : (kr != 0) = false := by rw [HKF.out, decide_eq_false g1]; rfl
      go_wp2
      go_ret
      exact ⟨rfl, HB.out⟩
  · have hb := hfb h0
    rw [if_neg h0] at hkr
    subst hkr
    have x0 : ((fc : Int) != 0) = true := by simp [h0]
    have HBD := Lib.hid hb
    clear hfz hfb h0 hb hkf
    cases rt
    · have hb : ((fc : Int) == 40) = true := HBD.out
      go_wp2_with fail
      refine (HR.out w4 (HP.out.ext HB.out) (HQ.out.ext HB.out)).mono ?_
      rintro x_ w5 ⟨rfl, hb_⟩
      replace HB := Lib.hid (below_le HB.out hb_)
      clear hb_
      go_wp2
      go_ret
      exact ⟨rfl, HB.out⟩
    · have hb : ((fc : Int) == 40) = false := HBD.out
      go_wp2_with fail
      refine (HR.out w4 (HP.out.ext HB.out) (HQ.out.ext HB.out)).mono ?_
      rintro x_ w5 ⟨rfl, hb_⟩
      replace HB := Lib.hid (below_le HB.out hb_)
      clear hb_
      go_wp2
      go_ret
      exact ⟨rfl, HB.out⟩

end Go.Proofs.YtepnamlcofmccaaDoor
