/-
  What is proved: DescTexts returns true. No condition beyond those stated.
-/
import Derived.Test.YtepnamlcofmccaaGreatDoorCv
namespace Go.Proofs.YtepnamlcofmccaaGreatDoor
open Go.RowKit Go.Stop

theorem half_more (z : Int) (ps : List Int) : ps.length ≤ (halfT z ps).length := by
  have h3 := words_len (ps.map Lib.itoa)
  unfold halfT
  simp at h3 ⊢
  omega
theorem dsc_len (l : List UInt8) : (dsc0 (readT l)).2.1.length ≤ l.length ∧ (dsc0 (readT l)).2.2.2.length ≤ l.length := by
  cases h : readT l with
  | none => exact ⟨Nat.zero_le _, Nat.zero_le _⟩
  | some d =>
    obtain ⟨z, ps, e, es⟩ := d
    obtain ⟨rfl, -⟩ := read_some h
    have h1 := half_more z ps
    have h2 := half_more e es
    simp only [dsc0, Option.getD_some, printT, List.length_append]
    omega
theorem same_self (z e : Int) (ps es : List Int) : dSame z e ps es z e ps es = true := by simp [dSame]

set_option maxRecDepth 100000 in
set_option maxHeartbeats 4000000 in
theorem descTexts_any (z : Int) (P : Option Addr) (m c : Nat) (e : Int) (Q : Option Addr) (q f : Nat) (ps es : List Int) (s : ByteArray) (w : World) (hT : DT w) (hP : Row w P m (ps.map Iv)) (hQ : Row w Q q (es.map Iv)) (hm : m ≤ c) (hq : q ≤ f) :
    Calls Tryz.prog 3 #[descV z P m c e Q q f, .string s] w (Holds w) := by
  obtain ⟨hD, ht⟩ := hT
  obtain ⟨s', hs', hcut⟩ := lcut_any s
  have HT := Lib.hid ht
  have HC := Lib.hid hcut
  have HL := Lib.hid (dsc_len s'.data.toList)
  have HS := Lib.hid hs'
  clear ht hcut hs'
  have hb0 := below_box w (descO z P m c e Q q f)
  have h2 : Blk (w.alloc (descO z P m c e Q q f)) w.heap.size 24 #[.int .i64 z, .slice P m c, .int .i64 e, .slice Q q f] := Blk.new _ _ _
  have HP := Lib.hid (row_cut hP)
  have HQ := Lib.hid (row_cut hQ)
  have HB := Lib.hid hb0
  have H2 := Lib.hid h2
  have HD := Lib.hid hD
  have HMC := Lib.hid hm
  have HQF := Lib.hid hq
  have hm20 : min m 20 ≤ 20 := Nat.min_le_right _ _
  have hq20 : min q 20 ≤ 20 := Nat.min_le_right _ _
  clear hb0 h2 hD hm hq hP hQ
  go_enter Tryz.func3, Tryz.ntmps3
  go_wp2_with fail
  generalize w.alloc (descO z P m c e Q q f) = W0 at *
  refine (dshown_any W0 (HD.out.ext HB.out)).mono ?_
  rintro x w1 ⟨rfl, hb1⟩
  have h2 := H2.out.ext hb1
  have k0 := h2.at_ (i := 0) rfl
  have k1 := h2.at_ (i := 1) rfl
  have k2 := h2.at_ (i := 2) rfl
  have k3 := h2.at_ (i := 3) rfl
  replace H2 := Lib.hid h2
  replace HB := Lib.hid (below_le HB.out hb1)
  clear h2 hb1
  go_wp2_with fail
  refine (dcut_any z e P Q m c q f w1 HMC.out HQF.out).mono ?_
  clear HMC HQF
  rintro x w2 ⟨rfl, hb2⟩
  have h2 := H2.out.ext hb2
  clear k0 k1 k2 k3
  have c0 := h2.at_ (i := 0) rfl
  have c1 := h2.at_ (i := 1) rfl
  have c2 := h2.at_ (i := 2) rfl
  have c3 := h2.at_ (i := 3) rfl
  have f0 := h2.frozen 0
  have f1 := h2.frozen 1
  have f2 := h2.frozen 2
  have f3 := h2.frozen 3
  generalize min m 20 = m' at *
  generalize min q 20 = q' at *
  generalize ps.take 20 = ps' at *
  generalize es.take 20 = es' at *
  have h9 := h2.set4 (.int .i64 z) (.slice P m' c) (.int .i64 e) (.slice Q q' f)
  replace HB := Lib.hid (below_set4 (below_le HB.out hb2) (Nat.le_refl _) (.int .i64 z) (.slice P m' c) (.int .i64 e) (.slice Q q' f))
  have k0 := h9.at_ (i := 0) rfl
  have k1 := h9.at_ (i := 1) rfl
  have k2 := h9.at_ (i := 2) rfl
  have k3 := h9.at_ (i := 3) rfl
  clear h2 h9 hb2 H2
  go_wp2_with fail
  generalize (((w2.setCell ⟨w.heap.size, 0, none⟩ (.int .i64 z)).setCell ⟨w.heap.size, 1, none⟩ (.slice P m' c)).setCell ⟨w.heap.size, 2, none⟩ (.int .i64 e)).setCell ⟨w.heap.size, 3, none⟩ (.slice Q q' f) = W3 at *
  clear c0 c1 c2 c3 f0 f1 f2 f3
  refine (print_any z e P Q m' c q' f ps' es' W3 (HP.out.ext HB.out) (HQ.out.ext HB.out) (by omega) (by omega) (tab_ext HT.out HB.out)).mono ?_
  rintro x_ w4 ⟨rfl, hb_⟩
  replace k0 := cell_ext hb_ k0
  replace k1 := cell_ext hb_ k1
  replace k2 := cell_ext hb_ k2
  replace k3 := cell_ext hb_ k3
  replace HB := Lib.hid (below_le HB.out hb_)
  clear hb_
  go_wp2_with fail
  refine (rprint_any z e P Q m' c q' f ps' es' w4 (HP.out.ext HB.out) (HQ.out.ext HB.out) (by omega) (by omega)).mono ?_
  rintro x_ w5 ⟨rfl, hb_⟩
  replace HB := Lib.hid (below_le HB.out hb_)
  clear hb_
  generalize (⟨(prText z ps' e es').toArray⟩ : ByteArray) = sT at *
  generalize prNo z ps' e es' = no at *
  go_wp2_with fail
  refine (HC.out w5).mono ?_
  rintro x_ w6 ⟨rfl, hb_⟩
  replace HB := Lib.hid (below_le HB.out hb_)
  clear hb_
  go_wp2_with fail
  have hp := parse_any s' w6 (by have := HS.out; omega) (HD.out.2.2.ext HB.out) (HD.out.1.ext HB.out)
  have hr := fun W => rparse_any s' W (by have := HS.out; omega)
  rw [ref_read] at hr
  have hl := HL.out
  have hs200 : s'.data.toList.length ≤ 200 := by have := HS.out; simpa using this
  generalize readT s'.data.toList = o at *
  have HR := Lib.hid hr
  have HPA := Lib.hid hp
  have HLL := Lib.hid hl
  have H200 := Lib.hid hs200
  clear hr hp hl hs200
  refine HPA.out.mono ?_
  rintro x w7 ⟨dv, rfl, ⟨A, n, a, B, k, b, rfl, hA, hB, -, -⟩, hb7⟩
  have hnl : n ≤ 200 := by have h := hA.1; have h2 := HLL.out.1; have h3 := H200.out; simp at h; omega
  have hkl : k ≤ 200 := by have h := hB.1; have h2 := HLL.out.2; have h3 := H200.out; simp at h; omega
  have HA := Lib.hid hA
  have HBB := Lib.hid hB
  replace HB := Lib.hid (below_le HB.out hb7)
  clear hA hB hb7 HPA
  have hg : ∀ W x w', GivesParse W o x w' → ∃ A n a B k b, x = .returned (.tuple #[descV (dsc0 o).1 A n a (dsc0 o).2.2.1 B k b, .int .i64 ((if o.isSome then 0 else 40 : Nat) : Int)]) ∧ Row w' A n ((dsc0 o).2.1.map Iv) ∧ Row w' B k ((dsc0 o).2.2.2.map Iv) ∧ Below W.heap.size W w' := fun W x w' ⟨dv, h1, ⟨A, n, a, B, k, b, h2, h3, h4, _, _⟩, h5⟩ => ⟨A, n, a, B, k, b, by rw [h1, h2], h3, h4, h5⟩
  have HR2 : Hid (∀ W, Calls Tryz.prog 11 #[.string s'] W fun x w' => ∃ A n a B k b, x = .returned (.tuple #[descV (dsc0 o).1 A n a (dsc0 o).2.2.1 B k b, .int .i64 ((if o.isSome then 0 else 40 : Nat) : Int)]) ∧ Row w' A n ((dsc0 o).2.1.map Iv) ∧ Row w' B k ((dsc0 o).2.2.2.map Iv) ∧ Below W.heap.size W w') := Lib.hid fun W => (HR.out W).mono fun x w' h => hg W x w' h
  clear hg HR
  generalize (dsc0 o).1 = z1 at *
  generalize (dsc0 o).2.1 = p1 at *
  generalize (dsc0 o).2.2.1 = e1 at *
  generalize (dsc0 o).2.2.2 = r1 at *
  generalize (if o.isSome then 0 else 40 : Nat) = n1 at *
  have hx := below_box w7 (descO z1 A n a e1 B k b)
  have h1 : Blk (w7.alloc (descO z1 A n a e1 B k b)) w7.heap.size 24 #[.int .i64 z1, .slice A n a, .int .i64 e1, .slice B k b] := Blk.new _ _ _
  replace HA := Lib.hid (HA.out.ext hx)
  replace HBB := Lib.hid (HBB.out.ext hx)
  replace HB := Lib.hid (below_le HB.out hx)
  have a0 := h1.at_ (i := 0) rfl
  have a1 := h1.at_ (i := 1) rfl
  have a2 := h1.at_ (i := 2) rfl
  have a3 := h1.at_ (i := 3) rfl
  clear hx h1
  go_wp2_with fail
  generalize w7.alloc (descO z1 A n a e1 B k b) = W7 at *
  refine (HC.out W7).mono ?_
  rintro x w8 ⟨rfl, hb8⟩
  replace a0 := cell_ext hb8 a0; replace a1 := cell_ext hb8 a1; replace a2 := cell_ext hb8 a2; replace a3 := cell_ext hb8 a3; replace HA := Lib.hid (HA.out.ext hb8); replace HBB := Lib.hid (HBB.out.ext hb8)
  replace HB := Lib.hid (below_le HB.out hb8)
  clear hb8
  go_wp2_with fail
  refine (HR2.out w8).mono ?_
  rintro x w9 ⟨A2, n2, c2, B2, k2, d2, rfl, hA2, hB2, hb9⟩
  have hn2 : n2 = n := by rw [← hA2.1, HA.out.1]
  have hk2 : k2 = k := by rw [← hB2.1, HBB.out.1]
  subst hn2
  subst hk2
  replace a0 := cell_ext hb9 a0; replace a1 := cell_ext hb9 a1; replace a2 := cell_ext hb9 a2; replace a3 := cell_ext hb9 a3; replace HA := Lib.hid (HA.out.ext hb9); replace HBB := Lib.hid (HBB.out.ext hb9)
  replace HB := Lib.hid (below_le HB.out hb9)
  have hx := below_box w9 (descO z1 A2 n2 c2 e1 B2 k2 d2)
  have h1 : Blk (w9.alloc (descO z1 A2 n2 c2 e1 B2 k2 d2)) w9.heap.size 24 #[.int .i64 z1, .slice A2 n2 c2, .int .i64 e1, .slice B2 k2 d2] := Blk.new _ _ _
  have HA2 := Lib.hid (hA2.ext hx)
  have HB2 := Lib.hid (hB2.ext hx)
  replace a0 := cell_ext hx a0; replace a1 := cell_ext hx a1; replace a2 := cell_ext hx a2; replace a3 := cell_ext hx a3; replace HA := Lib.hid (HA.out.ext hx); replace HBB := Lib.hid (HBB.out.ext hx)
  replace HB := Lib.hid (below_le HB.out hx)
  have b0 := h1.at_ (i := 0) rfl
  have b1 := h1.at_ (i := 1) rfl
  have b2 := h1.at_ (i := 2) rfl
  have b3 := h1.at_ (i := 3) rfl
  clear hx h1 hA2 hB2 hb9 HR2
  have hn1 : ((n1 : Int) == n1) = true := beq_self_eq_true _
  have hno : ((no : Int) == no) = true := beq_self_eq_true _
  have hsT : (sT.toList == sT.toList) = true := beq_self_eq_true _
  go_wp2_with fail
  generalize w9.alloc (descO z1 A2 n2 c2 e1 B2 k2 d2) = W9 at *
  have hsm := rsame_any z1 e1 A B n2 a k2 b p1 r1 z1 e1 A2 B2 n2 c2 k2 d2 p1 r1 W9 HA.out HBB.out HA2.out HB2.out (by omega) (by omega) (by omega) (by omega)
  rw [same_self] at hsm
  refine hsm.mono ?_
  clear hsm
  rintro x w10 ⟨rfl, hb10⟩
  replace HB := Lib.hid (below_le HB.out hb10)
  clear hb10 a0 a1 a2 a3 b0 b1 b2 b3
  go_wp2
  go_ret
  exact ⟨rfl, HB.out⟩
end Go.Proofs.YtepnamlcofmccaaGreatDoor
