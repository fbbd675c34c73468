/-
  What is proved: DescBack returns true. No condition beyond those stated.
-/
import Derived.Test.YtepnamlcofmccaaGreatDoorCv
namespace Go.Proofs.YtepnamlcofmccaaGreatDoor
open Go.RowKit Go.Stop

theorem half_moreb (z : Int) (ps : List Int) : ps.length ≤ (halfT z ps).length := by
  have h3 := words_len (ps.map Lib.itoa)
  unfold halfT
  simp at h3 ⊢
  omega
theorem dsc_lenb (l : List UInt8) : (dsc0 (readT l)).2.1.length ≤ l.length ∧ (dsc0 (readT l)).2.2.2.length ≤ l.length := by
  cases h : readT l with
  | none => exact ⟨Nat.zero_le _, Nat.zero_le _⟩
  | some d =>
    obtain ⟨z, ps, e, es⟩ := d
    obtain ⟨rfl, -⟩ := read_some h
    have h1 := half_moreb z ps
    have h2 := half_moreb e es
    simp only [dsc0, Option.getD_some, printT, List.length_append]
    omega
theorem same_selfb (z e : Int) (ps es : List Int) : dSame z e ps es z e ps es = true := by simp [dSame]

/-- What is printed is read again. -/
theorem print_back (z e : Int) (ps es : List Int) (h1 : ps.length ≤ 20) (h2 : es.length ≤ 20) : ∃ (t : ByteArray) (n0 : Nat), t.size ≤ 1000 ∧ (⟨(prText z ps e es).toArray⟩ : ByteArray) = t ∧ prNo z ps e es = n0 ∧ ((n0 = 0 ∧ dRight z ps e es = true ∧ readT t.data.toList = some (z, ps, e, es)) ∨ (n0 = 40 ∧ dRight z ps e es = false)) := by
  refine ⟨_, _, ?_, rfl, rfl, ?_⟩
  · unfold prText
    cases hd : dRight z ps e es
    · rw [if_neg Bool.false_ne_true]
      exact Nat.zero_le _
    · rw [if_pos rfl]
      have hs := small_of hd
      have hz := bounds_of hd
      have l1 := halfK_len hz.1 hs.1 ps.length
      have l2 := halfK_len hz.2 hs.2 es.length
      rw [halfK_all (Nat.le_refl _)] at l1 l2
      show (printT z ps e es).length ≤ 1000
      simp only [printT, List.length_append, List.length_cons, List.length_nil]
      omega
  · unfold prNo prText
    cases hd : dRight z ps e es
    · exact .inr ⟨by rw [if_neg Bool.false_ne_true], rfl⟩
    · refine .inl ⟨by rw [if_pos rfl], rfl, ?_⟩
      rw [if_pos rfl]
      exact read_print hd
/-- What is read is printed again. -/
theorem print_read (s : ByteArray) : readT s.data.toList = none ∨ ∃ z ps e es, readT s.data.toList = some (z, ps, e, es) ∧ (⟨(prText z ps e es).toArray⟩ : ByteArray) = s ∧ prNo z ps e es = 0 := by
  cases h : readT s.data.toList with
  | none => exact .inl rfl
  | some d =>
    obtain ⟨z, ps, e, es⟩ := d
    obtain ⟨h1, h2⟩ := read_some h
    refine .inr ⟨z, ps, e, es, rfl, ?_, ?_⟩
    · unfold prText
      rw [if_pos h2, ← h1]
    · unfold prNo
      rw [if_pos h2]

set_option maxRecDepth 100000 in
set_option maxHeartbeats 4000000 in
theorem descBack_any (z : Int) (P : Option Addr) (m c : Nat) (e : Int) (Q : Option Addr) (q f : Nat) (ps es : List Int) (s : ByteArray) (w : World) (hT : DT w) (hP : Row w P m (ps.map Iv)) (hQ : Row w Q q (es.map Iv)) (hm : m ≤ c) (hq : q ≤ f) :
    Calls Tryz.prog 4 #[descV z P m c e Q q f, .string s] w (Holds w) := by
  obtain ⟨hD, ht⟩ := hT
  obtain ⟨s', hs', hcut⟩ := lcut_any s
  have HT := Lib.hid ht
  have HC := Lib.hid hcut
  have HL := Lib.hid (dsc_lenb s'.data.toList)
  have HS := Lib.hid hs'
  clear ht hcut hs'
  have hb0 := below_box w (descO z P m c e Q q f)
  have h2 : Blk (w.alloc (descO z P m c e Q q f)) w.heap.size 24 #[.int .i64 z, .slice P m c, .int .i64 e, .slice Q q f] := Blk.new _ _ _
  have HP := Lib.hid (row_cut hP)
  have HQ := Lib.hid (row_cut hQ)
  have HB := Lib.hid hb0
  have H2 := Lib.hid h2
  have HD := Lib.hid hD
  have HMC := Lib.hid hm
  have HQF := Lib.hid hq
  have hm20 : min m 20 ≤ 20 := Nat.min_le_right _ _
  have hq20 : min q 20 ≤ 20 := Nat.min_le_right _ _
  clear hb0 h2 hD hm hq hP hQ
  go_enter Tryz.func4, Tryz.ntmps4
  go_wp2_with fail
  generalize w.alloc (descO z P m c e Q q f) = W0 at *
  refine (dshown_any W0 (HD.out.ext HB.out)).mono ?_
  rintro x w1 ⟨rfl, hb1⟩
  have h2 := H2.out.ext hb1
  have k0 := h2.at_ (i := 0) rfl
  have k1 := h2.at_ (i := 1) rfl
  have k2 := h2.at_ (i := 2) rfl
  have k3 := h2.at_ (i := 3) rfl
  replace H2 := Lib.hid h2
  replace HB := Lib.hid (below_le HB.out hb1)
  clear h2 hb1
  go_wp2_with fail
  refine (dcut_any z e P Q m c q f w1 HMC.out HQF.out).mono ?_
  clear HMC HQF
  rintro x w2 ⟨rfl, hb2⟩
  have h2 := H2.out.ext hb2
  clear k0 k1 k2 k3
  have c0 := h2.at_ (i := 0) rfl
  have c1 := h2.at_ (i := 1) rfl
  have c2 := h2.at_ (i := 2) rfl
  have c3 := h2.at_ (i := 3) rfl
  have f0 := h2.frozen 0
  have f1 := h2.frozen 1
  have f2 := h2.frozen 2
  have f3 := h2.frozen 3
  generalize min m 20 = m' at *
  generalize min q 20 = q' at *
  generalize ps.take 20 = ps' at *
  generalize es.take 20 = es' at *
  have h9 := h2.set4 (.int .i64 z) (.slice P m' c) (.int .i64 e) (.slice Q q' f)
  replace HB := Lib.hid (below_set4 (below_le HB.out hb2) (Nat.le_refl _) (.int .i64 z) (.slice P m' c) (.int .i64 e) (.slice Q q' f))
  have k0 := h9.at_ (i := 0) rfl
  have k1 := h9.at_ (i := 1) rfl
  have k2 := h9.at_ (i := 2) rfl
  have k3 := h9.at_ (i := 3) rfl
  clear h2 h9 hb2 H2
  go_wp2_with fail
  generalize (((w2.setCell ⟨w.heap.size, 0, none⟩ (.int .i64 z)).setCell ⟨w.heap.size, 1, none⟩ (.slice P m' c)).setCell ⟨w.heap.size, 2, none⟩ (.int .i64 e)).setCell ⟨w.heap.size, 3, none⟩ (.slice Q q' f) = W3 at *
  clear c0 c1 c2 c3 f0 f1 f2 f3
  have hpl : ps'.length ≤ 20 := by have h := HP.out.1; simp at h; omega
  have hql : es'.length ≤ 20 := by have h := HQ.out.1; simp at h; omega
  obtain ⟨t0, n0, ht0, hpt0, hpn0, hcs0⟩ := print_back z e ps' es' hpl hql
  have hpr0 := print_any z e P Q m' c q' f ps' es' W3 (HP.out.ext HB.out) (HQ.out.ext HB.out) (by omega) (by omega) (tab_ext HT.out HB.out)
  unfold GivesPr at hpr0
  rw [hpt0, hpn0] at hpr0
  have hrt := fun W h1 h2 => dright_any z e P Q m' c q' f ps' es' W h1 h2 (by omega) (by omega)
  generalize dRight z ps' e es' = rt at *
  have HR := Lib.hid hrt
  have HC0 := Lib.hid hcs0
  clear hrt hpt0 hpn0 hpl hql hcs0
  refine hpr0.mono ?_
  clear hpr0
  rintro x w4 ⟨rfl, hb4⟩
  replace k0 := cell_ext hb4 k0; replace k1 := cell_ext hb4 k1; replace k2 := cell_ext hb4 k2; replace k3 := cell_ext hb4 k3
  replace HB := Lib.hid (below_le HB.out hb4)
  clear hb4
  go_wp2_with fail
  have hp := parse_any t0 w4 ht0 (HD.out.2.2.ext HB.out) (HD.out.1.ext HB.out)
  generalize readT t0.data.toList = o0 at *
  refine hp.mono ?_
  clear hp
  rintro x w5 ⟨dv, rfl, ⟨A, n, a, B, k, b, rfl, hA, hB, -, -⟩, hb5⟩
  rcases HC0.out with ⟨rfl, rfl, rfl⟩ | ⟨rfl, rfl⟩
  · skip
    have hn1 : n = m' := by rw [← hA.1, ← HP.out.1]; rfl
    have hk1 : k = q' := by rw [← hB.1, ← HQ.out.1]; rfl
    subst hn1
    subst hk1
    have hx := below_box w5 (descO z A n a e B k b)
    have h1 : Blk (w5.alloc (descO z A n a e B k b)) w5.heap.size 24 #[.int .i64 z, .slice A n a, .int .i64 e, .slice B k b] := Blk.new _ _ _
    have HA := Lib.hid (hA.ext hx)
    have HBB := Lib.hid (hB.ext hx)
    replace k0 := cell_ext hb5 k0; replace k1 := cell_ext hb5 k1; replace k2 := cell_ext hb5 k2; replace k3 := cell_ext hb5 k3
    replace k0 := cell_ext hx k0; replace k1 := cell_ext hx k1; replace k2 := cell_ext hx k2; replace k3 := cell_ext hx k3
    replace HB := Lib.hid (below_le (below_le HB.out hb5) hx)
    have a0 := h1.at_ (i := 0) rfl
    have a1 := h1.at_ (i := 1) rfl
    have a2 := h1.at_ (i := 2) rfl
    have a3 := h1.at_ (i := 3) rfl
    clear hx h1 hA hB hb5 HC0
    simp only [dsc0, Option.getD_some, Option.isSome_some, if_true] at HA HBB ⊢
    go_wp2_with fail
    generalize w5.alloc (descO z A n a e B k b) = W5 at *
    have hsm := dsame_any z e A B n a k b ps' es' z e P Q n c k f ps' es' W5 HA.out HBB.out (HP.out.ext HB.out) (HQ.out.ext HB.out) (by omega) (by omega) (by omega) (by omega)
    rw [same_selfb] at hsm
    refine hsm.mono ?_
    clear hsm
    rintro x w6 ⟨rfl, hb6⟩
    replace k0 := cell_ext hb6 k0; replace k1 := cell_ext hb6 k1; replace k2 := cell_ext hb6 k2; replace k3 := cell_ext hb6 k3
    replace HB := Lib.hid (below_le HB.out hb6)
    clear hb6 a0 a1 a2 a3 HA HBB
    go_wp2_with fail
    generalize w6 = W7 at *
    refine (HC.out W7).mono ?_
    rintro x w8 ⟨rfl, hb8⟩
    replace k0 := cell_ext hb8 k0; replace k1 := cell_ext hb8 k1; replace k2 := cell_ext hb8 k2; replace k3 := cell_ext hb8 k3
    replace HB := Lib.hid (below_le HB.out hb8)
    clear hb8
    go_wp2_with fail
    have hp := parse_any s' w8 (by have := HS.out; omega) (HD.out.2.2.ext HB.out) (HD.out.1.ext HB.out)
    have hl := HL.out
    have hs200 : s'.data.toList.length ≤ 200 := by have := HS.out; simpa using this
    have hcase := print_read s'
    generalize readT s'.data.toList = o at *
    have HCS := Lib.hid hcase
    have HLL := Lib.hid hl
    have H200 := Lib.hid hs200
    clear hl hs200 hcase
    refine hp.mono ?_
    clear hp
    rintro x w9 ⟨dv, rfl, ⟨A2, n2, a2, B2, j2, d2, rfl, hA, hB, -, -⟩, hb9⟩
    have hnl2 : n2 ≤ 200 := by have h := hA.1; have h2 := HLL.out.1; have h3 := H200.out; simp at h; omega
    have hkl2 : j2 ≤ 200 := by have h := hB.1; have h2 := HLL.out.2; have h3 := H200.out; simp at h; omega
    rcases HCS.out with rfl | ⟨z2, p2, e2, r2, rfl, hpt, hpn⟩
    · skip
      have hx := below_box w9 (descO 0 A2 n2 a2 0 B2 j2 d2)
      have h1 : Blk (w9.alloc (descO 0 A2 n2 a2 0 B2 j2 d2)) w9.heap.size 24 #[.int .i64 0, .slice A2 n2 a2, .int .i64 0, .slice B2 j2 d2] := Blk.new _ _ _
      have HA2 : Hid (Row (w9.alloc (descO 0 A2 n2 a2 0 B2 j2 d2)) A2 n2 (([] : List Int).map Iv)) := Lib.hid (hA.ext hx)
      have HB2 : Hid (Row (w9.alloc (descO 0 A2 n2 a2 0 B2 j2 d2)) B2 j2 (([] : List Int).map Iv)) := Lib.hid (hB.ext hx)
      replace k0 := cell_ext hb9 k0; replace k1 := cell_ext hb9 k1; replace k2 := cell_ext hb9 k2; replace k3 := cell_ext hb9 k3
      replace k0 := cell_ext hx k0; replace k1 := cell_ext hx k1; replace k2 := cell_ext hx k2; replace k3 := cell_ext hx k3
      replace HB := Lib.hid (below_le (below_le HB.out hb9) hx)
      have b0 := h1.at_ (i := 0) rfl
      have b1 := h1.at_ (i := 1) rfl
      have b2 := h1.at_ (i := 2) rfl
      have b3 := h1.at_ (i := 3) rfl
      clear hx h1 hA hB hb9 HCS HLL H200
      simp only [dsc0, Option.getD_none, Option.isSome_none, Bool.false_eq_true, if_false]
      go_wp2_with fail
      generalize w9.alloc (descO 0 A2 n2 a2 0 B2 j2 d2) = W9 at *
      have hpr := print_any 0 0 A2 B2 n2 a2 j2 d2 [] [] W9 HA2.out HB2.out (by omega) (by omega) (tab_ext HT.out HB.out)
      obtain rfl : n2 = 0 := HA2.out.1.symm
      unfold GivesPr at hpr
      generalize (⟨(prText 0 [] 0 []).toArray⟩ : ByteArray) = sU at *
      generalize prNo 0 [] 0 [] = nU at *
      refine hpr.mono ?_
      clear hpr
      rintro x w10 ⟨rfl, hb10⟩
      replace k0 := cell_ext hb10 k0; replace k1 := cell_ext hb10 k1; replace k2 := cell_ext hb10 k2; replace k3 := cell_ext hb10 k3; replace b0 := cell_ext hb10 b0; replace b1 := cell_ext hb10 b1; replace b2 := cell_ext hb10 b2; replace b3 := cell_ext hb10 b3
      replace HB := Lib.hid (below_le HB.out hb10)
      clear hb10 HA2 HB2
      go_wp2_with fail
      refine (HR.out w10 (HP.out.ext HB.out) (HQ.out.ext HB.out)).mono ?_
      rintro x w11 ⟨rfl, hb11⟩
      replace k0 := cell_ext hb11 k0; replace k1 := cell_ext hb11 k1; replace k2 := cell_ext hb11 k2; replace k3 := cell_ext hb11 k3; replace b0 := cell_ext hb11 b0; replace b1 := cell_ext hb11 b1; replace b2 := cell_ext hb11 b2; replace b3 := cell_ext hb11 b3
      replace HB := Lib.hid (below_le HB.out hb11)
      clear hb11
      go_wp2
      go_ret
      exact ⟨rfl, HB.out⟩
    · skip
      have hx := below_box w9 (descO z2 A2 n2 a2 e2 B2 j2 d2)
      have h1 : Blk (w9.alloc (descO z2 A2 n2 a2 e2 B2 j2 d2)) w9.heap.size 24 #[.int .i64 z2, .slice A2 n2 a2, .int .i64 e2, .slice B2 j2 d2] := Blk.new _ _ _
      have HA2 : Hid (Row (w9.alloc (descO z2 A2 n2 a2 e2 B2 j2 d2)) A2 n2 ((p2 : List Int).map Iv)) := Lib.hid (hA.ext hx)
      have HB2 : Hid (Row (w9.alloc (descO z2 A2 n2 a2 e2 B2 j2 d2)) B2 j2 ((r2 : List Int).map Iv)) := Lib.hid (hB.ext hx)
      replace k0 := cell_ext hb9 k0; replace k1 := cell_ext hb9 k1; replace k2 := cell_ext hb9 k2; replace k3 := cell_ext hb9 k3
      replace k0 := cell_ext hx k0; replace k1 := cell_ext hx k1; replace k2 := cell_ext hx k2; replace k3 := cell_ext hx k3
      replace HB := Lib.hid (below_le (below_le HB.out hb9) hx)
      have b0 := h1.at_ (i := 0) rfl
      have b1 := h1.at_ (i := 1) rfl
      have b2 := h1.at_ (i := 2) rfl
      have b3 := h1.at_ (i := 3) rfl
      clear hx h1 hA hB hb9 HCS HLL H200
      simp only [dsc0, Option.getD_some, Option.isSome_some, if_true]
      go_wp2_with fail
      generalize w9.alloc (descO z2 A2 n2 a2 e2 B2 j2 d2) = W9 at *
      have hpr := print_any z2 e2 A2 B2 n2 a2 j2 d2 p2 r2 W9 HA2.out HB2.out (by omega) (by omega) (tab_ext HT.out HB.out)
      unfold GivesPr at hpr
      rw [hpt, hpn] at hpr
      refine hpr.mono ?_
      clear hpr hpt hpn
      rintro x w10 ⟨rfl, hb10⟩
      replace k0 := cell_ext hb10 k0; replace k1 := cell_ext hb10 k1; replace k2 := cell_ext hb10 k2; replace k3 := cell_ext hb10 k3; replace b0 := cell_ext hb10 b0; replace b1 := cell_ext hb10 b1; replace b2 := cell_ext hb10 b2; replace b3 := cell_ext hb10 b3
      replace HB := Lib.hid (below_le HB.out hb10)
      clear hb10 HA2 HB2
      have hss : (s'.toList == s'.toList) = true := beq_self_eq_true _
      go_wp2_with fail
      refine (HR.out w10 (HP.out.ext HB.out) (HQ.out.ext HB.out)).mono ?_
      rintro x w11 ⟨rfl, hb11⟩
      replace k0 := cell_ext hb11 k0; replace k1 := cell_ext hb11 k1; replace k2 := cell_ext hb11 k2; replace k3 := cell_ext hb11 k3; replace b0 := cell_ext hb11 b0; replace b1 := cell_ext hb11 b1; replace b2 := cell_ext hb11 b2; replace b3 := cell_ext hb11 b3
      replace HB := Lib.hid (below_le HB.out hb11)
      clear hb11
      go_wp2_with fail
      refine (HC.out w11).mono ?_
      rintro x w12 ⟨rfl, hb12⟩
      replace HB := Lib.hid (below_le HB.out hb12)
      clear hb12 k0 k1 k2 k3 b0 b1 b2 b3
      go_wp2
      go_ret
      exact ⟨rfl, HB.out⟩
  · skip
    have hx := below_box w5 (descO (dsc0 o0).1 A n a (dsc0 o0).2.2.1 B k b)
    have h1 : Blk (w5.alloc (descO (dsc0 o0).1 A n a (dsc0 o0).2.2.1 B k b)) w5.heap.size 24 #[.int .i64 (dsc0 o0).1, .slice A n a, .int .i64 (dsc0 o0).2.2.1, .slice B k b] := Blk.new _ _ _
    have HA := Lib.hid (hA.ext hx)
    have HBB := Lib.hid (hB.ext hx)
    replace k0 := cell_ext hb5 k0; replace k1 := cell_ext hb5 k1; replace k2 := cell_ext hb5 k2; replace k3 := cell_ext hb5 k3
    replace k0 := cell_ext hx k0; replace k1 := cell_ext hx k1; replace k2 := cell_ext hx k2; replace k3 := cell_ext hx k3
    replace HB := Lib.hid (below_le (below_le HB.out hb5) hx)
    have a0 := h1.at_ (i := 0) rfl
    have a1 := h1.at_ (i := 1) rfl
    have a2 := h1.at_ (i := 2) rfl
    have a3 := h1.at_ (i := 3) rfl
    clear hx h1 hA hB hb5 HC0
    generalize (dsc0 o0).1 = z9 at *
    generalize (dsc0 o0).2.2.1 = e9 at *
    generalize (if o0.isSome then 0 else 40 : Nat) = n9 at *
    clear HA HBB
    go_wp2_with fail
    generalize w5.alloc (descO z9 A n a e9 B k b) = W7 at *
    clear a0 a1 a2 a3
    refine (HC.out W7).mono ?_
    rintro x w8 ⟨rfl, hb8⟩
    replace k0 := cell_ext hb8 k0; replace k1 := cell_ext hb8 k1; replace k2 := cell_ext hb8 k2; replace k3 := cell_ext hb8 k3
    replace HB := Lib.hid (below_le HB.out hb8)
    clear hb8
    go_wp2_with fail
    have hp := parse_any s' w8 (by have := HS.out; omega) (HD.out.2.2.ext HB.out) (HD.out.1.ext HB.out)
    have hl := HL.out
    have hs200 : s'.data.toList.length ≤ 200 := by have := HS.out; simpa using this
    have hcase := print_read s'
    generalize readT s'.data.toList = o at *
    have HCS := Lib.hid hcase
    have HLL := Lib.hid hl
    have H200 := Lib.hid hs200
    clear hl hs200 hcase
    refine hp.mono ?_
    clear hp
    rintro x w9 ⟨dv, rfl, ⟨A2, n2, a2, B2, j2, d2, rfl, hA, hB, -, -⟩, hb9⟩
    have hnl2 : n2 ≤ 200 := by have h := hA.1; have h2 := HLL.out.1; have h3 := H200.out; simp at h; omega
    have hkl2 : j2 ≤ 200 := by have h := hB.1; have h2 := HLL.out.2; have h3 := H200.out; simp at h; omega
    rcases HCS.out with rfl | ⟨z2, p2, e2, r2, rfl, hpt, hpn⟩
    · skip
      have hx := below_box w9 (descO 0 A2 n2 a2 0 B2 j2 d2)
      have h1 : Blk (w9.alloc (descO 0 A2 n2 a2 0 B2 j2 d2)) w9.heap.size 24 #[.int .i64 0, .slice A2 n2 a2, .int .i64 0, .slice B2 j2 d2] := Blk.new _ _ _
      have HA2 : Hid (Row (w9.alloc (descO 0 A2 n2 a2 0 B2 j2 d2)) A2 n2 (([] : List Int).map Iv)) := Lib.hid (hA.ext hx)
      have HB2 : Hid (Row (w9.alloc (descO 0 A2 n2 a2 0 B2 j2 d2)) B2 j2 (([] : List Int).map Iv)) := Lib.hid (hB.ext hx)
      replace k0 := cell_ext hb9 k0; replace k1 := cell_ext hb9 k1; replace k2 := cell_ext hb9 k2; replace k3 := cell_ext hb9 k3
      replace k0 := cell_ext hx k0; replace k1 := cell_ext hx k1; replace k2 := cell_ext hx k2; replace k3 := cell_ext hx k3
      replace HB := Lib.hid (below_le (below_le HB.out hb9) hx)
      have b0 := h1.at_ (i := 0) rfl
      have b1 := h1.at_ (i := 1) rfl
      have b2 := h1.at_ (i := 2) rfl
      have b3 := h1.at_ (i := 3) rfl
      clear hx h1 hA hB hb9 HCS HLL H200
      simp only [dsc0, Option.getD_none, Option.isSome_none, Bool.false_eq_true, if_false]
      go_wp2_with fail
      generalize w9.alloc (descO 0 A2 n2 a2 0 B2 j2 d2) = W9 at *
      have hpr := print_any 0 0 A2 B2 n2 a2 j2 d2 [] [] W9 HA2.out HB2.out (by omega) (by omega) (tab_ext HT.out HB.out)
      obtain rfl : n2 = 0 := HA2.out.1.symm
      unfold GivesPr at hpr
      generalize (⟨(prText 0 [] 0 []).toArray⟩ : ByteArray) = sU at *
      generalize prNo 0 [] 0 [] = nU at *
      refine hpr.mono ?_
      clear hpr
      rintro x w10 ⟨rfl, hb10⟩
      replace k0 := cell_ext hb10 k0; replace k1 := cell_ext hb10 k1; replace k2 := cell_ext hb10 k2; replace k3 := cell_ext hb10 k3; replace b0 := cell_ext hb10 b0; replace b1 := cell_ext hb10 b1; replace b2 := cell_ext hb10 b2; replace b3 := cell_ext hb10 b3
      replace HB := Lib.hid (below_le HB.out hb10)
      clear hb10 HA2 HB2
      go_wp2_with fail
      refine (HR.out w10 (HP.out.ext HB.out) (HQ.out.ext HB.out)).mono ?_
      rintro x w11 ⟨rfl, hb11⟩
      replace k0 := cell_ext hb11 k0; replace k1 := cell_ext hb11 k1; replace k2 := cell_ext hb11 k2; replace k3 := cell_ext hb11 k3; replace b0 := cell_ext hb11 b0; replace b1 := cell_ext hb11 b1; replace b2 := cell_ext hb11 b2; replace b3 := cell_ext hb11 b3
      replace HB := Lib.hid (below_le HB.out hb11)
      clear hb11
      go_wp2
      go_ret
      exact ⟨rfl, HB.out⟩
    · skip
      have hx := below_box w9 (descO z2 A2 n2 a2 e2 B2 j2 d2)
      have h1 : Blk (w9.alloc (descO z2 A2 n2 a2 e2 B2 j2 d2)) w9.heap.size 24 #[.int .i64 z2, .slice A2 n2 a2, .int .i64 e2, .slice B2 j2 d2] := Blk.new _ _ _
      have HA2 : Hid (Row (w9.alloc (descO z2 A2 n2 a2 e2 B2 j2 d2)) A2 n2 ((p2 : List Int).map Iv)) := Lib.hid (hA.ext hx)
      have HB2 : Hid (Row (w9.alloc (descO z2 A2 n2 a2 e2 B2 j2 d2)) B2 j2 ((r2 : List Int).map Iv)) := Lib.hid (hB.ext hx)
      replace k0 := cell_ext hb9 k0; replace k1 := cell_ext hb9 k1; replace k2 := cell_ext hb9 k2; replace k3 := cell_ext hb9 k3
      replace k0 := cell_ext hx k0; replace k1 := cell_ext hx k1; replace k2 := cell_ext hx k2; replace k3 := cell_ext hx k3
      replace HB := Lib.hid (below_le (below_le HB.out hb9) hx)
      have b0 := h1.at_ (i := 0) rfl
      have b1 := h1.at_ (i := 1) rfl
      have b2 := h1.at_ (i := 2) rfl
      have b3 := h1.at_ (i := 3) rfl
      clear hx h1 hA hB hb9 HCS HLL H200
      simp only [dsc0, Option.getD_some, Option.isSome_some, if_true]
      go_wp2_with fail
      generalize w9.alloc (descO z2 A2 n2 a2 e2 B2 j2 d2) = W9 at *
      have hpr := print_any z2 e2 A2 B2 n2 a2 j2 d2 p2 r2 W9 HA2.out HB2.out (by omega) (by omega) (tab_ext HT.out HB.out)
      unfold GivesPr at hpr
      rw [hpt, hpn] at hpr
      refine hpr.mono ?_
      clear hpr hpt hpn
      rintro x w10 ⟨rfl, hb10⟩
      replace k0 := cell_ext hb10 k0; replace k1 := cell_ext hb10 k1; replace k2 := cell_ext hb10 k2; replace k3 := cell_ext hb10 k3; replace b0 := cell_ext hb10 b0; replace b1 := cell_ext hb10 b1; replace b2 := cell_ext hb10 b2; replace b3 := cell_ext hb10 b3
      replace HB := Lib.hid (below_le HB.out hb10)
      clear hb10 HA2 HB2
      have hss : (s'.toList == s'.toList) = true := beq_self_eq_true _
      go_wp2_with fail
      refine (HR.out w10 (HP.out.ext HB.out) (HQ.out.ext HB.out)).mono ?_
      rintro x w11 ⟨rfl, hb11⟩
      replace k0 := cell_ext hb11 k0; replace k1 := cell_ext hb11 k1; replace k2 := cell_ext hb11 k2; replace k3 := cell_ext hb11 k3; replace b0 := cell_ext hb11 b0; replace b1 := cell_ext hb11 b1; replace b2 := cell_ext hb11 b2; replace b3 := cell_ext hb11 b3
      replace HB := Lib.hid (below_le HB.out hb11)
      clear hb11
      go_wp2_with fail
      refine (HC.out w11).mono ?_
      rintro x w12 ⟨rfl, hb12⟩
      replace HB := Lib.hid (below_le HB.out hb12)
      clear hb12 k0 k1 k2 k3 b0 b1 b2 b3
      go_wp2
      go_ret
      exact ⟨rfl, HB.out⟩
end Go.Proofs.YtepnamlcofmccaaGreatDoor
