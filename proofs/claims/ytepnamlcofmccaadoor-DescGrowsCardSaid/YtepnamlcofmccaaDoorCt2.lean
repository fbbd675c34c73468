/-
  What is proved: DescGrows returns true. No condition beyond those stated.
-/
import Derived.Test.YtepnamlcofmccaaDoorCt1
namespace Go.Proofs.YtepnamlcofmccaaDoor
open Go.RowKit Go.Stop

theorem form_cases (z e n : Int) (ps es : List Int) : formC z ps e es n = 0 ∨ formC z ps e es n = 40 ∨ formC z ps e es n = 41 := by
  unfold formC
  split
  · split
    · exact .inl rfl
    · exact .inr (.inr rfl)
  · exact .inr (.inl rfl)
theorem grow_kind {z e n a : Int} {ps es : List Int} (he : 0 ≤ e) : kindAt z ps e es n a = 0 ∨ kindAt z ps e es n a = kindAt z ps e es (n + 1) a := by
  unfold kindAt
  by_cases h : a < 0 ∨ z + n * e ≤ a ∨ a.tmod 4 ≠ 0
  · left; rw [if_pos h]
  · right
    have hm : (n + 1) * e = n * e + e := by rw [Int.add_mul, Int.one_mul]
    have h2 : ¬ (a < 0 ∨ z + (n + 1) * e ≤ a ∨ a.tmod 4 ≠ 0) := by rw [hm]; omega
    rw [if_neg h, if_neg h2]
theorem grow_bytes {z e n : Int} (hz : 0 ≤ z) (he : 0 ≤ e) (hn : 0 ≤ n * e) : bytesOf z e n ≤ bytesOf z e (n + 1) := by
  have hm : (n + 1) * e = n * e + e := by rw [Int.add_mul, Int.one_mul]
  unfold bytesOf
  rw [hm, Int.tdiv_eq_ediv_of_nonneg (by omega), Int.tdiv_eq_ediv_of_nonneg (by omega)]
  omega

/-- What DescGrows tells of two lengths, where both may be. -/
def GrowsOk (z e n : Int) (b0 b1 k0 k1 M : Int) : Prop := n * e + e = M ∧ 0 ≤ M ∧ 8 + z + M ≤ 131072 ∧ b1 = (8 + z + M + 7).tdiv 8 * 8 ∧ b0 ≤ b1 ∧ 0 ≤ b1 ∧ b1 ≤ 200000 ∧ b1.tmod 8 = 0 ∧ (k0 = 0 ∨ k0 = k1)
theorem grows_ok {z e n a : Int} {ps es : List Int} (h0 : formC z ps e es n = 0) (h1 : formC z ps e es (n + 1) = 0) : (0 ≤ z ∧ z ≤ 1024) ∧ (0 ≤ e ∧ e ≤ 256) ∧ 0 ≤ n ∧ GrowsOk z e n (bytesR z ps e es n) (bytesR z ps e es (n + 1)) (kindR z ps e es n a) (kindR z ps e es (n + 1) a) ((n + 1) * e) := by
  obtain ⟨hz, he, hn, hne, hle⟩ := form_zero h0
  obtain ⟨-, -, -, hne1, hle1⟩ := form_zero h1
  refine ⟨hz, he, hn.1, by rw [Int.add_mul, Int.one_mul], hne1.1, hle1, ?_, ?_, ?_, ?_, ?_, ?_⟩
  · unfold bytesR; rw [if_pos h1]; rfl
  · unfold bytesR; rw [if_pos h0, if_pos h1]; exact grow_bytes hz.1 he.1 hne.1
  · unfold bytesR bytesOf; rw [if_pos h1, Int.tdiv_eq_ediv_of_nonneg (by omega)]; omega
  · unfold bytesR bytesOf; rw [if_pos h1, Int.tdiv_eq_ediv_of_nonneg (by omega)]; omega
  · unfold bytesR bytesOf; rw [if_pos h1, Int.tdiv_eq_ediv_of_nonneg (by omega), Int.tmod_eq_emod_of_nonneg (by omega)]; omega
  · unfold kindR; rw [if_pos h0, if_pos h1]; exact grow_kind he.1

set_option maxRecDepth 100000 in
set_option maxHeartbeats 4000000 in
theorem descGrows_any (z : Int) (P : Option Addr) (m c : Nat) (e : Int) (Q : Option Addr) (q f : Nat) (ps es : List Int) (n a : Int) (w : World) (hD : DE w) (hn : -9223372036854775808 ≤ n ∧ n ≤ 9223372036854775807) (hP : Row w P m (ps.map Iv)) (hQ : Row w Q q (es.map Iv)) (hm : m ≤ c) (hq : q ≤ f) :
    Calls Tryd.prog 5 #[descV z P m c e Q q f, .int .i64 n, .int .i64 a] w (Holds w) := by
  have HN := Lib.hid hn
  clear hn
  have hb0 := below_box w (descO z P m c e Q q f)
  have h2 : Blk (w.alloc (descO z P m c e Q q f)) w.heap.size 24 #[.int .i64 z, .slice P m c, .int .i64 e, .slice Q q f] := Blk.new _ _ _
  have HP := Lib.hid (row_cut hP)
  have HQ := Lib.hid (row_cut hQ)
  have HB := Lib.hid hb0
  have H2 := Lib.hid h2
  have HD := Lib.hid hD
  have HMC := Lib.hid hm
  have HQF := Lib.hid hq
  have hm20 : min m 20 ≤ 20 := Nat.min_le_right _ _
  have hq20 : min q 20 ≤ 20 := Nat.min_le_right _ _
  clear hb0 h2 hD hm hq hP hQ
  go_enter Tryd.func5, Tryd.ntmps5
  go_wp2_with fail
  generalize w.alloc (descO z P m c e Q q f) = W0 at *
  refine (dshown_any W0 (HD.out.ext HB.out)).mono ?_
  rintro x w1 ⟨rfl, hb1⟩
  have h2 := H2.out.ext hb1
  have k0 := h2.at_ (i := 0) rfl
  have k1 := h2.at_ (i := 1) rfl
  have k2 := h2.at_ (i := 2) rfl
  have k3 := h2.at_ (i := 3) rfl
  replace H2 := Lib.hid h2
  replace HB := Lib.hid (below_le HB.out hb1)
  clear h2 hb1
  go_wp2_with fail
  refine (dcut_any z e P Q m c q f w1 HMC.out HQF.out).mono ?_
  clear HMC HQF
  rintro x w2 ⟨rfl, hb2⟩
  have h2 := H2.out.ext hb2
  clear k0 k1 k2 k3
  have c0 := h2.at_ (i := 0) rfl
  have c1 := h2.at_ (i := 1) rfl
  have c2 := h2.at_ (i := 2) rfl
  have c3 := h2.at_ (i := 3) rfl
  have f0 := h2.frozen 0
  have f1 := h2.frozen 1
  have f2 := h2.frozen 2
  have f3 := h2.frozen 3
  generalize min m 20 = m' at *
  generalize min q 20 = q' at *
  generalize ps.take 20 = ps' at *
  generalize es.take 20 = es' at *
  have h9 := h2.set4 (.int .i64 z) (.slice P m' c) (.int .i64 e) (.slice Q q' f)
  replace HB := Lib.hid (below_set4 (below_le HB.out hb2) (Nat.le_refl _) (.int .i64 z) (.slice P m' c) (.int .i64 e) (.slice Q q' f))
  have k0 := h9.at_ (i := 0) rfl
  have k1 := h9.at_ (i := 1) rfl
  have k2 := h9.at_ (i := 2) rfl
  have k3 := h9.at_ (i := 3) rfl
  clear h2 h9 hb2 H2
  go_wp2_with fail
  generalize (((w2.setCell ⟨w.heap.size, 0, none⟩ (.int .i64 z)).setCell ⟨w.heap.size, 1, none⟩ (.slice P m' c)).setCell ⟨w.heap.size, 2, none⟩ (.int .i64 e)).setCell ⟨w.heap.size, 3, none⟩ (.slice Q q' f) = W3 at *
  clear c0 c1 c2 c3 f0 f1 f2 f3
  obtain ⟨n', hn'⟩ : ∃ n', min n 300 = n' := ⟨_, rfl⟩
  have hn1 : n' ≤ 300 := by omega
  have hn0 : -9223372036854775808 ≤ n' := by have := HN.out; omega
  rw [hn']
  clear hn' HN
  refine (bytes_any z e n' P Q m' c q' f ps' es' W3 (HD.out.1.ext HB.out) (HD.out.2.1.ext HB.out) (HP.out.ext HB.out) (HQ.out.ext HB.out) (by omega) (by omega)).mono ?_
  rintro x_ w4 ⟨rfl, hb_⟩
  replace k0 := cell_ext hb_ k0
  replace k1 := cell_ext hb_ k1
  replace k2 := cell_ext hb_ k2
  replace k3 := cell_ext hb_ k3
  replace HB := Lib.hid (below_le HB.out hb_)
  clear hb_
  go_wp2_with fail
  refine (bytes_any z e (n' + 1) P Q m' c q' f ps' es' w4 (HD.out.1.ext HB.out) (HD.out.2.1.ext HB.out) (HP.out.ext HB.out) (HQ.out.ext HB.out) (by omega) (by omega)).mono ?_
  rintro x_ w5 ⟨rfl, hb_⟩
  replace k0 := cell_ext hb_ k0
  replace k1 := cell_ext hb_ k1
  replace k2 := cell_ext hb_ k2
  replace k3 := cell_ext hb_ k3
  replace HB := Lib.hid (below_le HB.out hb_)
  clear hb_
  go_wp2_with fail
  refine (kind_any z e n' a P Q m' c q' f ps' es' w5 (HD.out.1.ext HB.out) (HP.out.ext HB.out) (HQ.out.ext HB.out) (by omega) (by omega)).mono ?_
  rintro x_ w6 ⟨rfl, hb_⟩
  replace k0 := cell_ext hb_ k0
  replace k1 := cell_ext hb_ k1
  replace k2 := cell_ext hb_ k2
  replace k3 := cell_ext hb_ k3
  replace HB := Lib.hid (below_le HB.out hb_)
  clear hb_
  go_wp2_with fail
  refine (kind_any z e (n' + 1) a P Q m' c q' f ps' es' w6 (HD.out.1.ext HB.out) (HP.out.ext HB.out) (HQ.out.ext HB.out) (by omega) (by omega)).mono ?_
  rintro x_ w7 ⟨rfl, hb_⟩
  replace k0 := cell_ext hb_ k0
  replace k1 := cell_ext hb_ k1
  replace k2 := cell_ext hb_ k2
  replace k3 := cell_ext hb_ k3
  replace HB := Lib.hid (below_le HB.out hb_)
  clear hb_
  have hok := grows_ok (z := z) (e := e) (n := n') (a := a) (ps := ps') (es := es')
  have hfc := form_cases z e (n' + 1) ps' es'
  generalize formC z ps' e es' n' = f0 at *
  generalize formC z ps' e es' (n' + 1) = f1 at *
  generalize bytesR z ps' e es' n' = b0 at *
  generalize bytesR z ps' e es' (n' + 1) = b1 at *
  generalize kindR z ps' e es' n' a = d0 at *
  generalize kindR z ps' e es' (n' + 1) a = d1 at *
  have HFC := Lib.hid hfc
  by_cases h0 : f0 = 0
  · by_cases h1 : f1 = 0
    · obtain ⟨⟨hz1, hz2⟩, ⟨he1, he2⟩, hn2, hg⟩ := hok h0 h1
      obtain ⟨M, hM⟩ : ∃ M, (n' + 1) * e = M := ⟨_, rfl⟩
      rw [hM] at hg
      obtain ⟨-, g1, g2, g3, g4, g5, g6, g7, g8⟩ := hg
      have x0 : ((f0 : Int) != 0) = false := by simp [h0]
      have x1 : ((f1 : Int) != 0) = false := by simp [h1]
      have x0' : ((f0 : Int) == 0) = true := by simp [h0]
      have x1' : ((f1 : Int) == 0) = true := by simp [h1]
      have x2 : (b1.tmod 8 == 0) = true := by rw [g7]; rfl
      have x3 : (b1 % 8 == 0) = true := by rw [← Int.tmod_eq_emod_of_nonneg g5, g7]; rfl
      have x4 : decide (b0 ≤ b1) = true := decide_eq_true g4
      have G3 := Lib.hid g3
      have G8 := Lib.hid g8
      obtain ⟨st, sx, hs⟩ := HD.out.2.1.ext HB.out
      have hcall := round_ok (8 + z + M) (by omega) (by omega) st sx w7 hs
      rw [← G3.out] at hcall
      have HC := Lib.hid hcall
      clear hok hfc h0 h1 g3 g7 g8 hs hcall
      go_wp2_with fail
      refine (HC.out).mono ?_
      rintro x_ w8 ⟨rfl, hb_⟩
      replace HB := Lib.hid (below_le HB.out hb_)
      clear hb_
      clear hM k0 k1 k2 k3 HC
      rcases G8.out with h | h
      · have x5 : (d0 == 0) = true := by rw [h]; rfl
        clear h
        go_wp2
        go_ret
        exact ⟨rfl, HB.out⟩
      · subst h
        cases x5 : (d0 == 0)
        · go_wp2
          go_ret
          exact ⟨rfl, HB.out⟩
        · go_wp2
          go_ret
          exact ⟨rfl, HB.out⟩
    · have x0 : ((f0 : Int) != 0) = false := by simp [h0]
      have x1 : ((f1 : Int) != 0) = true := by simp [h1]
      have x1' : ((f1 : Int) == 0) = false := by simp [h1]
      clear hok hfc h0
      rcases HFC.out with h | rfl | rfl
      · exact absurd h h1
      · clear h1
        go_wp2
        go_ret
        exact ⟨rfl, HB.out⟩
      · clear h1
        go_wp2
        go_ret
        exact ⟨rfl, HB.out⟩
  · have x0 : ((f0 : Int) != 0) = true := by simp [h0]
    clear hok hfc h0
    rcases HFC.out with rfl | rfl | rfl
    · go_wp2
      go_ret
      exact ⟨rfl, HB.out⟩
    · go_wp2
      go_ret
      exact ⟨rfl, HB.out⟩
    · go_wp2
      go_ret
      exact ⟨rfl, HB.out⟩

end Go.Proofs.YtepnamlcofmccaaDoor
