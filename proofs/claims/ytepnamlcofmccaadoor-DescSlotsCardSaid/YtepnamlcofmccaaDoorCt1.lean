/-
  What is proved: DescLengths returns true. No condition beyond those stated.
-/
import Derived.Test.YtepnamlcofmccaaDoorCr
import Derived.Test.YtepnamlcofmccaaDoorCm
namespace Go.Proofs.YtepnamlcofmccaaDoor
open Go.RowKit Go.Stop

def Holds (w : World) (e : Ending) (w' : World) : Prop := e = .returned (.bool true) ∧ Below w.heap.size w w'

set_option maxRecDepth 100000 in
set_option maxHeartbeats 4000000 in
theorem descLengths_any (z : Int) (P : Option Addr) (m c : Nat) (e : Int) (Q : Option Addr) (q f : Nat) (ps es : List Int) (n : Int) (w : World) (hD : DE w) (hP : Row w P m (ps.map Iv)) (hQ : Row w Q q (es.map Iv)) (hm : m ≤ c) (hq : q ≤ f) :
    Calls Tryd.prog 3 #[descV z P m c e Q q f, .int .i64 n] w (Holds w) := by
  have hb0 := below_box w (descO z P m c e Q q f)
  have h2 : Blk (w.alloc (descO z P m c e Q q f)) w.heap.size 24 #[.int .i64 z, .slice P m c, .int .i64 e, .slice Q q f] := Blk.new _ _ _
  have HP := Lib.hid (row_cut hP)
  have HQ := Lib.hid (row_cut hQ)
  have HB := Lib.hid hb0
  have H2 := Lib.hid h2
  have HD := Lib.hid hD
  have HMC := Lib.hid hm
  have HQF := Lib.hid hq
  have hm20 : min m 20 ≤ 20 := Nat.min_le_right _ _
  have hq20 : min q 20 ≤ 20 := Nat.min_le_right _ _
  clear hb0 h2 hD hm hq hP hQ
  go_enter Tryd.func3, Tryd.ntmps3
  go_wp2_with fail
  generalize w.alloc (descO z P m c e Q q f) = W0 at *
  refine (dshown_any W0 (HD.out.ext HB.out)).mono ?_
  rintro x w1 ⟨rfl, hb1⟩
  have h2 := H2.out.ext hb1
  have k0 := h2.at_ (i := 0) rfl
  have k1 := h2.at_ (i := 1) rfl
  have k2 := h2.at_ (i := 2) rfl
  have k3 := h2.at_ (i := 3) rfl
  replace H2 := Lib.hid h2
  replace HB := Lib.hid (below_le HB.out hb1)
  clear h2 hb1
  go_wp2_with fail
  refine (dcut_any z e P Q m c q f w1 HMC.out HQF.out).mono ?_
  clear HMC HQF
  rintro x w2 ⟨rfl, hb2⟩
  have h2 := H2.out.ext hb2
  clear k0 k1 k2 k3
  have c0 := h2.at_ (i := 0) rfl
  have c1 := h2.at_ (i := 1) rfl
  have c2 := h2.at_ (i := 2) rfl
  have c3 := h2.at_ (i := 3) rfl
  have f0 := h2.frozen 0
  have f1 := h2.frozen 1
  have f2 := h2.frozen 2
  have f3 := h2.frozen 3
  generalize min m 20 = m' at *
  generalize min q 20 = q' at *
  generalize ps.take 20 = ps' at *
  generalize es.take 20 = es' at *
  have h9 := h2.set4 (.int .i64 z) (.slice P m' c) (.int .i64 e) (.slice Q q' f)
  replace HB := Lib.hid (below_set4 (below_le HB.out hb2) (Nat.le_refl _) (.int .i64 z) (.slice P m' c) (.int .i64 e) (.slice Q q' f))
  have k0 := h9.at_ (i := 0) rfl
  have k1 := h9.at_ (i := 1) rfl
  have k2 := h9.at_ (i := 2) rfl
  have k3 := h9.at_ (i := 3) rfl
  clear h2 h9 hb2 H2
  go_wp2_with fail
  generalize (((w2.setCell ⟨w.heap.size, 0, none⟩ (.int .i64 z)).setCell ⟨w.heap.size, 1, none⟩ (.slice P m' c)).setCell ⟨w.heap.size, 2, none⟩ (.int .i64 e)).setCell ⟨w.heap.size, 3, none⟩ (.slice Q q' f) = W3 at *
  clear c0 c1 c2 c3 f0 f1 f2 f3
  refine (bytes_any z e n P Q m' c q' f ps' es' W3 (HD.out.1.ext HB.out) (HD.out.2.1.ext HB.out) (HP.out.ext HB.out) (HQ.out.ext HB.out) (by omega) (by omega)).mono ?_
  rintro x_ w4 ⟨rfl, hb_⟩
  replace k0 := cell_ext hb_ k0
  replace k1 := cell_ext hb_ k1
  replace k2 := cell_ext hb_ k2
  replace k3 := cell_ext hb_ k3
  replace HB := Lib.hid (below_le HB.out hb_)
  clear hb_
  go_wp2_with fail
  refine (rbytes_any z e n P Q m' c q' f ps' es' w4 (HP.out.ext HB.out) (HQ.out.ext HB.out) (by omega) (by omega)).mono ?_
  rintro x_ w5 ⟨rfl, hb_⟩
  replace HB := Lib.hid (below_le HB.out hb_)
  clear hb_
  go_wp2
  go_ret
  exact ⟨rfl, HB.out⟩

end Go.Proofs.YtepnamlcofmccaaDoor
