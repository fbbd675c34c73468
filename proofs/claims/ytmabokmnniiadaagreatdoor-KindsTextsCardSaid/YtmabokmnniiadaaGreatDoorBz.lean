/-
  What is proved: the contract of Parse of the reference of descriptors. No condition beyond those stated.
-/
import Derived.Test.YtmabokmnniiadaaGreatDoorBy
namespace Go.Proofs.YtmabokmnniiadaaGreatDoor
open Go.RowKit

theorem str_ne {a b : ByteArray} (h : ¬ a = b) : (a.toList == b.toList) = false := by
  refine beq_eq_false_iff_ne.2 fun e => h ?_
  rw [ByteArray.toList_eq, ByteArray.toList_eq] at e
  apply ByteArray.ext
  exact Array.toList_inj.1 e

theorem ne59 {c : UInt8} (h : ¬ c = 59) : ((c.toNat : Int) != 59) = true :=
  bne_iff_ne.2 fun e => h (UInt8.toNat_inj.1 (show c.toNat = 59 by omega))

set_option maxRecDepth 100000 in
set_option maxHeartbeats 8000000 in
/-- The reference's Parse. -/
theorem rparse_any (s : ByteArray) (w : World) (hs : s.size ≤ 1000) :
    Calls Tryz.prog 41 #[.string s] w (GivesParse w (refReadT s.data.toList)) := by
  have hb1 := below_box w (descO 0 none 0 0 0 none 0 0)
  have h2 : Blk (w.alloc (descO 0 none 0 0 0 none 0 0)) w.heap.size 35 #[.int .i64 0, .slice none 0 0, .int .i64 0, .slice none 0 0] := Blk.new _ _ _
  obtain ⟨o, ho⟩ : ∃ o, refReadT s.data.toList = o := ⟨_, rfl⟩
  rw [ho]
  have HO := Lib.hid ho
  have HB := Lib.hid hb1
  have H2 := Lib.hid h2
  have hz0 : w.heap.size < (w.alloc (descO 0 none 0 0 0 none 0 0)).heap.size := h2.lt
  have HZ0 := Lib.hid hz0
  clear ho hb1 h2 hz0
  go_enter Tryz.func41, Tryz.ntmps41
  go_wp2
  generalize w.alloc (descO 0 none 0 0 0 none 0 0) = W0 at *
  go_loopw [4] (fun iv wr => ∃ k : Nat, k ≤ s.size ∧ iv = .int .i64 k ∧ (59 : UInt8) ∉ s.data.toList.take k ∧ Below W0.heap.size W0 wr) (fun iv _ => s.size - (intOf iv).toNat)
  case atStart => exact ⟨0, Nat.zero_le _, rfl, by simp, Below.refl _ _⟩
  case round =>
    obtain ⟨k, hk, rfl, hno, hbw⟩ := hrel
    have HN := Lib.hid hno
    have HW := Lib.hid hbw
    clear hno hbw
    by_cases hlt : k < s.size
    · obtain ⟨hck, hI⟩ := index_str s k hlt
      by_cases h59 : s[k] = 59
      · rw [h59] at hck hI
        have hI' : ∀ W : World, (Instr.index 9 (.string s) (.int .i64 (k : Int))).run Tryz.prog W = .ok (.int .u8 59) W := hI
        have hR := ref_at hck HN.out
        obtain ⟨s1, s2, hs1, hs2, e1, e2, l1, l2⟩ := str_parts s k hk
        have hn1 := rnumbers_any s1 wr (by omega)
        have hn2 := fun W => rnumbers_any s2 W (by omega)
        have hl1 := nums_len (s.data.toList.take k)
        have hl2 := nums_len (s.data.toList.drop k)
        rw [e1] at hn1
        rw [e2] at hn2
        rw [HO.out] at hR
        unfold refAtT at hR
        generalize numsOf (s.data.toList.take k) = La at *
        generalize numsOf (s.data.toList.drop k) = Lb at *
        have hl1' : La.length ≤ 1000 := by simp at hl1; omega
        have hl2' : Lb.length ≤ 1000 := by
          have : s.data.toList.length = s.size := by simp
          simp at hl2; omega
        have HR := Lib.hid hR
        have HN1 := Lib.hid hn1
        have HN2 := Lib.hid hn2
        clear hR hn1 hn2 hl1 hl2 hck hI h59 e1 e2 l1 l2 HO HN
        go_wp2_with fail
        refine HN1.out.mono ?_
        rintro x w2 ⟨P, m, c, rfl, hP, hmc, hPf, hb2⟩
        have HP := Lib.hid hP
        have HPF := Lib.hid (fun a e => Nat.le_trans HW.out.size (hPf a e) : ∀ a, P = some a → W0.heap.size ≤ a.block)
        replace HW := Lib.hid (below_le HW.out hb2)
        clear hP hPf hb2
        go_wp2_with fail
        refine (HN2.out w2).mono ?_
        rintro x w3 ⟨Q, q, f, rfl, hQ, hqf, hQf, hb3⟩
        replace HP := Lib.hid (HP.out.ext hb3)
        have HQ := Lib.hid hQ
        have HQF := Lib.hid (fun a e => Nat.le_trans HW.out.size (hQf a e) : ∀ a, Q = some a → W0.heap.size ≤ a.block)
        replace HW := Lib.hid (below_le HW.out hb3)
        replace HB := Lib.hid (below_le HB.out HW.out)
        replace H2 := Lib.hid (H2.out.ext HW.out)
        clear hQ hQf hb3 hs1 hs2 HN1 HN2 HW
        cases La with
        | nil =>
          obtain rfl : m = 0 := HP.out.1.symm
          have ho : o = none := HR.out
          obtain rfl := ho
          have h2 := H2.out
          have c0 := h2.at_ (i := 0) rfl
          have c1 := h2.at_ (i := 1) rfl
          have c2 := h2.at_ (i := 2) rfl
          have c3 := h2.at_ (i := 3) rfl
          have f0 := h2.frozen 0
          have f1 := h2.frozen 1
          have f2 := h2.frozen 2
          have f3 := h2.frozen 3
          have H9 := Lib.hid (h2.set4 (.int .i64 0) (.slice none 0 0) (.int .i64 0) (.slice none 0 0))
          have HB9 := Lib.hid (below_set4 HB.out (Nat.le_refl _) (.int .i64 0) (.slice none 0 0) (.int .i64 0) (.slice none 0 0))
          clear h2
          go_wp2
          have q0 := H9.out.at_ (i := 0) rfl
          have q1 := H9.out.at_ (i := 1) rfl
          have q2 := H9.out.at_ (i := 2) rfl
          have q3 := H9.out.at_ (i := 3) rfl
          exact bodyPost_ret (v := .tuple #[descV 0 none 0 0 0 none 0 0, .int .i64 40]) (by simp [results, Tryz.results41, go_sem, q0, q1, q2, q3]) rfl ⟨_, rfl, DescIs.none_ _ _, HB9.out⟩
        | cons z ps =>
          cases Lb with
          | nil =>
            obtain rfl : q = 0 := HQ.out.1.symm
            obtain ⟨n, rfl⟩ : ∃ n, m = n + 1 := ⟨ps.length, by have := HP.out.1; simpa using this.symm⟩
            have hm0 : ((n : Int) + 1 == 0) = false := beq_eq_false_iff_ne.2 (by omega)
            have ho : o = none := HR.out
            obtain rfl := ho
            have h2 := H2.out
            have c0 := h2.at_ (i := 0) rfl
            have c1 := h2.at_ (i := 1) rfl
            have c2 := h2.at_ (i := 2) rfl
            have c3 := h2.at_ (i := 3) rfl
            have f0 := h2.frozen 0
            have f1 := h2.frozen 1
            have f2 := h2.frozen 2
            have f3 := h2.frozen 3
            have H9 := Lib.hid (h2.set4 (.int .i64 0) (.slice none 0 0) (.int .i64 0) (.slice none 0 0))
            have HB9 := Lib.hid (below_set4 HB.out (Nat.le_refl _) (.int .i64 0) (.slice none 0 0) (.int .i64 0) (.slice none 0 0))
            clear h2
            go_wp2
            have q0 := H9.out.at_ (i := 0) rfl
            have q1 := H9.out.at_ (i := 1) rfl
            have q2 := H9.out.at_ (i := 2) rfl
            have q3 := H9.out.at_ (i := 3) rfl
            exact bodyPost_ret (v := .tuple #[descV 0 none 0 0 0 none 0 0, .int .i64 40]) (by simp [results, Tryz.results41, go_sem, q0, q1, q2, q3]) rfl ⟨_, rfl, DescIs.none_ _ _, HB9.out⟩
          | cons e es =>
            obtain ⟨n, rfl⟩ : ∃ n, m = n + 1 := ⟨ps.length, by have := HP.out.1; simpa using this.symm⟩
            obtain ⟨n', rfl⟩ : ∃ n', q = n' + 1 := ⟨es.length, by have := HQ.out.1; simpa using this.symm⟩
            have hm0 : ((n : Int) + 1 == 0) = false := beq_eq_false_iff_ne.2 (by omega)
            have hq0 : ((n' : Int) + 1 == 0) = false := beq_eq_false_iff_ne.2 (by omega)
            have hnl : n ≤ 1000 := by have := HP.out.1; simp at this hl1'; omega
            have hnl' : n' ≤ 1000 := by have := HQ.out.1; simp at this hl2'; omega
            obtain ⟨A, T1, hA, hAF⟩ := tail_slice HP.out hmc HPF.out
            obtain ⟨B, T2, hBR, hBF⟩ := tail_slice HQ.out hqf HQF.out
            obtain ⟨g1, o1, y1, rfl, c1, -, e1⟩ := num_at HP.out (k := 0) (by omega)
            obtain ⟨g2, o2, y2, rfl, c2, -, e2⟩ := num_at HQ.out (k := 0) (by omega)
            obtain rfl : z = y1 := by simpa using e1
            obtain rfl : e = y2 := by simpa using e2
            rw [Nat.add_zero] at c1 c2
            have t1 := fun x : Ext w3 => ext_cell c1 x
            have t2 := fun x : Ext w3 => ext_cell c2 x
            have HA := Lib.hid hA
            have HAF := Lib.hid hAF
            have HBR := Lib.hid hBR
            have HBF := Lib.hid hBF
            clear hA hAF hBR hBF e1 e2 c1 c2 HP HQ HPF HQF
            go_upto_region 9 with fail
            refine wp_region_mix (by kernel_rfl) ?_
            first | (refine mix_skip 0 rfl (by kernel_rfl) rfl ?_; go_frame) | (refine mix_soft 0 rfl (by kernel_rfl) rfl (fun K hK => ?_); go_simp; first | (refine hK _ ?_; clear hK K) | (apply Exists.intro; refine ⟨fun x => ?_, hK _ ?_⟩; (· (fail)); clear hK K; try go_frame))
            first | (refine mix_skip 1 rfl (by kernel_rfl) rfl ?_; go_frame) | (refine mix_soft 1 rfl (by kernel_rfl) rfl (fun K hK => ?_); go_simp; first | (refine hK _ ?_; clear hK K) | (apply Exists.intro; refine ⟨fun x => ?_, hK _ ?_⟩; (· (fail)); clear hK K; try go_frame))
            first | (refine mix_skip 2 rfl (by kernel_rfl) rfl ?_; go_frame) | (refine mix_soft 2 rfl (by kernel_rfl) rfl (fun K hK => ?_); go_simp; first | (refine hK _ ?_; clear hK K) | (apply Exists.intro; refine ⟨fun x => ?_, hK _ ?_⟩; (· (fail)); clear hK K; try go_frame))
            first | (refine mix_skip 3 rfl (by kernel_rfl) rfl ?_; go_frame) | (refine mix_soft 3 rfl (by kernel_rfl) rfl (fun K hK => ?_); go_simp; first | (refine hK _ ?_; clear hK K) | (apply Exists.intro; refine ⟨fun x => ?_, hK _ ?_⟩; (· (fail)); clear hK K; try go_frame))
            first | (refine mix_skip 4 rfl (by kernel_rfl) rfl ?_; go_frame) | (refine mix_soft 4 rfl (by kernel_rfl) rfl (fun K hK => ?_); go_simp; first | (refine hK _ ?_; clear hK K) | (apply Exists.intro; refine ⟨fun x => ?_, hK _ ?_⟩; (· (fail)); clear hK K; try go_frame))
            first | (refine mix_skip 5 rfl (by kernel_rfl) rfl ?_; go_frame) | (refine mix_soft 5 rfl (by kernel_rfl) rfl (fun K hK => ?_); go_simp; first | (refine hK _ ?_; clear hK K) | (apply Exists.intro; refine ⟨fun x => ?_, hK _ ?_⟩; (· (fail)); clear hK K; try go_frame))
            first | (refine mix_skip 6 rfl (by kernel_rfl) rfl ?_; go_frame) | (refine mix_soft 6 rfl (by kernel_rfl) rfl (fun K hK => ?_); go_simp; first | (refine hK _ ?_; clear hK K) | (apply Exists.intro; refine ⟨fun x => ?_, hK _ ?_⟩; (· (fail)); clear hK K; try go_frame))
            first | (refine mix_skip 7 rfl (by kernel_rfl) rfl ?_; go_frame) | (refine mix_soft 7 rfl (by kernel_rfl) rfl (fun K hK => ?_); go_simp; first | (refine hK _ ?_; clear hK K) | (apply Exists.intro; refine ⟨fun x => ?_, hK _ ?_⟩; (· (fail)); clear hK K; try go_frame))
            first | (refine mix_skip 8 rfl (by kernel_rfl) rfl ?_; go_frame) | (refine mix_soft 8 rfl (by kernel_rfl) rfl (fun K hK => ?_); go_simp; first | (refine hK _ ?_; clear hK K) | (apply Exists.intro; refine ⟨fun x => ?_, hK _ ?_⟩; (· (fail)); clear hK K; try go_frame))
            first | (refine mix_skip 9 rfl (by kernel_rfl) rfl ?_; go_frame) | (refine mix_soft 9 rfl (by kernel_rfl) rfl (fun K hK => ?_); go_simp; first | (refine hK _ ?_; clear hK K) | (apply Exists.intro; refine ⟨fun x => ?_, hK _ ?_⟩; (· (fail)); clear hK K; try go_frame))
            first | (refine mix_skip 10 rfl (by kernel_rfl) rfl ?_; go_frame) | (refine mix_soft 10 rfl (by kernel_rfl) rfl (fun K hK => ?_); go_simp; first | (refine hK _ ?_; clear hK K) | (apply Exists.intro; refine ⟨fun x => ?_, hK _ ?_⟩; (· (fail)); clear hK K; try go_frame))
            refine mix_one 11 (by kernel_rfl) ?_
            refine mix_now rfl rfl ?_; intro w4 hb_ hB_ K hK; go_simp
            have hx_ := below_box w4 (descO 0 none 0 0 0 none 0 0)
            have h7 : Blk (w4.alloc (descO 0 none 0 0 0 none 0 0)) w4.heap.size 35 #[.int .i64 0, .slice none 0 0, .int .i64 0, .slice none 0 0] := Blk.new _ _ _
            have HZ := Lib.hid (hB_.size)
            have H7 := Lib.hid h7
            refine hK _ _ (below_le hB_ hx_) ?_
            clear hK K hb_ hB_ hx_ h7 t1 t2
            generalize w4.alloc (descO 0 none 0 0 0 none 0 0) = W4 at *
            generalize w4.heap.size = Z at *
            refine mix_one 12 (by kernel_rfl) ?_
            refine mix_now rfl rfl ?_; intro w5 hb_ hB_ K hK
            have h7 := H7.out.ext hb_
            have c0 := h7.at_ (i := 0) rfl
            have c1 := h7.at_ (i := 1) rfl
            have c2 := h7.at_ (i := 2) rfl
            have c3 := h7.at_ (i := 3) rfl
            have f0 := h7.frozen 0
            have f1 := h7.frozen 1
            have f2 := h7.frozen 2
            have f3 := h7.frozen 3
            have hB9 := below_set4 hB_ HZ.out (.int .i64 z) (.slice A n (c - 1)) (.int .i64 e) (.slice B n' (f - 1))
            have H79 := Lib.hid (h7.set4 (.int .i64 z) (.slice A n (c - 1)) (.int .i64 e) (.slice B n' (f - 1)))
            have HB9 := Lib.hid hB9
            clear h7 hB9
            go_simp
            refine hK _ _ HB9.out ?_
            clear hK K hb_ hB_ c0 c1 c2 c3 f0 f1 f2 f3 H7
            generalize (((w5.setCell ⟨Z, 0, none⟩ (.int .i64 z)).setCell ⟨Z, 1, none⟩ (.slice A n (c - 1))).setCell ⟨Z, 2, none⟩ (.int .i64 e)).setCell ⟨Z, 3, none⟩ (.slice B n' (f - 1)) = W5 at *
            refine mix_nil (by kernel_rfl) fun w6 hb_ hB_ => ?_
            have H7 := Lib.hid (H79.out.ext hb_)
            replace HA := Lib.hid (HA.out.ext hB_)
            replace HBR := Lib.hid (HBR.out.ext hB_)
            replace H2 := Lib.hid (H2.out.ext hB_)
            replace HB := Lib.hid (below_le HB.out hB_)
            clear HB9 H79 hb_ hB_
            have hpr := rprint_any z e A B n (c - 1) n' (f - 1) ps es w6 HA.out HBR.out hnl hnl'
            have HPR := Lib.hid hpr
            have d0 := H7.out.at_ (i := 0) rfl
            have d1 := H7.out.at_ (i := 1) rfl
            have d2 := H7.out.at_ (i := 2) rfl
            have d3 := H7.out.at_ (i := 3) rfl
            clear hpr
            go_wp2_with fail
            refine HPR.out.mono ?_
            rintro x w7 ⟨rfl, hb7⟩
            replace H7 := Lib.hid (H7.out.ext hb7)
            replace HA := Lib.hid (HA.out.ext hb7)
            replace HBR := Lib.hid (HBR.out.ext hb7)
            replace H2 := Lib.hid (H2.out.ext hb7)
            replace HB := Lib.hid (below_le HB.out hb7)
            clear HPR hb7 d0 d1 d2 d3
            unfold prNo prText
            have HT0 : Hid (dRight z ps e es = true → printT z ps e es = s.data.toList → o = some (z, ps, e, es)) := Lib.hid fun h1 h2 => by rw [HR.out, if_pos ⟨h1, h2⟩]
            have HT1 : Hid (¬ (dRight z ps e es = true ∧ printT z ps e es = s.data.toList) → o = none) := Lib.hid fun h => by rw [HR.out, if_neg h]
            clear HR
            cases hd : dRight z ps e es
            · have HD := Lib.hid hd
              rw [if_neg Bool.false_ne_true, if_neg Bool.false_ne_true]
              clear hd
              have ho : o = none := HT1.out (fun h => by rw [HD.out] at h; cases h.1)
              obtain rfl := ho
              have h2 := H2.out
              have c0 := h2.at_ (i := 0) rfl
              have c1 := h2.at_ (i := 1) rfl
              have c2 := h2.at_ (i := 2) rfl
              have c3 := h2.at_ (i := 3) rfl
              have f0 := h2.frozen 0
              have f1 := h2.frozen 1
              have f2 := h2.frozen 2
              have f3 := h2.frozen 3
              have H9 := Lib.hid (h2.set4 (.int .i64 0) (.slice none 0 0) (.int .i64 0) (.slice none 0 0))
              have HB9 := Lib.hid (below_set4 HB.out (Nat.le_refl _) (.int .i64 0) (.slice none 0 0) (.int .i64 0) (.slice none 0 0))
              clear h2
              go_wp2
              have q0 := H9.out.at_ (i := 0) rfl
              have q1 := H9.out.at_ (i := 1) rfl
              have q2 := H9.out.at_ (i := 2) rfl
              have q3 := H9.out.at_ (i := 3) rfl
              exact bodyPost_ret (v := .tuple #[descV 0 none 0 0 0 none 0 0, .int .i64 40]) (by simp [results, Tryz.results41, go_sem, q0, q1, q2, q3]) rfl ⟨_, rfl, DescIs.none_ _ _, HB9.out⟩
            · have HD := Lib.hid hd
              rw [if_pos rfl, if_pos rfl]
              clear hd
              obtain ⟨sX, hsX⟩ : ∃ sX : ByteArray, (⟨(printT z ps e es).toArray⟩ : ByteArray) = sX := ⟨_, rfl⟩
              rw [hsX]
              have hiff : printT z ps e es = s.data.toList ↔ sX = s := by
                subst hsX
                constructor
                · intro h
                  rw [h]
                · intro h
                  rw [← h]
              have HX := Lib.hid hiff
              clear hsX hiff
              by_cases hts : sX = s
              · subst hts
                have hc1 : (sX.toList == sX.toList) = true := beq_self_eq_true _
                have HPT := Lib.hid (HX.out.2 rfl)
                have ho : o = some (z, ps, e, es) := HT0.out HD.out HPT.out
                obtain rfl := ho
                have h2 := H2.out
                have c0 := h2.at_ (i := 0) rfl
                have c1 := h2.at_ (i := 1) rfl
                have c2 := h2.at_ (i := 2) rfl
                have c3 := h2.at_ (i := 3) rfl
                have f0 := h2.frozen 0
                have f1 := h2.frozen 1
                have f2 := h2.frozen 2
                have f3 := h2.frozen 3
                have H9 := Lib.hid (h2.set4 (.int .i64 z) (.slice A n (c - 1)) (.int .i64 e) (.slice B n' (f - 1)))
                have HB9 := Lib.hid (below_set4 HB.out (Nat.le_refl _) (.int .i64 z) (.slice A n (c - 1)) (.int .i64 e) (.slice B n' (f - 1)))
                have HPZ := Lib.hid (HA.out.far (g := w.heap.size) (fun a e => by have h1 := HAF.out a e; have h2 := HZ0.out; omega) (fun b hb => heap_set4 _ hb (.int .i64 z) (.slice A n (c - 1)) (.int .i64 e) (.slice B n' (f - 1))))
                have HQZ := Lib.hid (HBR.out.far (g := w.heap.size) (fun a e => by have h1 := HBF.out a e; have h2 := HZ0.out; omega) (fun b hb => heap_set4 _ hb (.int .i64 z) (.slice A n (c - 1)) (.int .i64 e) (.slice B n' (f - 1))))
                have d0 := H7.out.at_ (i := 0) rfl
                have d1 := H7.out.at_ (i := 1) rfl
                have d2 := H7.out.at_ (i := 2) rfl
                have d3 := H7.out.at_ (i := 3) rfl
                clear h2
                go_wp2
                have q0 := H9.out.at_ (i := 0) rfl
                have q1 := H9.out.at_ (i := 1) rfl
                have q2 := H9.out.at_ (i := 2) rfl
                have q3 := H9.out.at_ (i := 3) rfl
                exact bodyPost_ret (v := .tuple #[descV z A n (c - 1) e B n' (f - 1), .int .i64 0]) (by simp [results, Tryz.results41, go_sem, q0, q1, q2, q3]) rfl ⟨_, rfl, ⟨A, n, _, B, n', _, rfl, HPZ.out, HQZ.out, fun a e => by have h1 := HAF.out a e; have h2 := HZ0.out; omega, fun a e => by have h1 := HBF.out a e; have h2 := HZ0.out; omega⟩, HB9.out⟩
              · have hc1 : (sX.toList == s.toList) = false := str_ne hts
                have HNE := Lib.hid hts
                have ho : o = none := HT1.out (fun h => HNE.out (HX.out.1 h.2))
                obtain rfl := ho
                have h2 := H2.out
                have c0 := h2.at_ (i := 0) rfl
                have c1 := h2.at_ (i := 1) rfl
                have c2 := h2.at_ (i := 2) rfl
                have c3 := h2.at_ (i := 3) rfl
                have f0 := h2.frozen 0
                have f1 := h2.frozen 1
                have f2 := h2.frozen 2
                have f3 := h2.frozen 3
                have H9 := Lib.hid (h2.set4 (.int .i64 0) (.slice none 0 0) (.int .i64 0) (.slice none 0 0))
                have HB9 := Lib.hid (below_set4 HB.out (Nat.le_refl _) (.int .i64 0) (.slice none 0 0) (.int .i64 0) (.slice none 0 0))
                clear h2
                go_wp2
                have q0 := H9.out.at_ (i := 0) rfl
                have q1 := H9.out.at_ (i := 1) rfl
                have q2 := H9.out.at_ (i := 2) rfl
                have q3 := H9.out.at_ (i := 3) rfl
                exact bodyPost_ret (v := .tuple #[descV 0 none 0 0 0 none 0 0, .int .i64 40]) (by simp [results, Tryz.results41, go_sem, q0, q1, q2, q3]) rfl ⟨_, rfl, DescIs.none_ _ _, HB9.out⟩
      · have hne := ne59 h59
        have hno := take_more hck h59 HN.out
        have HN' := Lib.hid hno
        clear hck hno h59
        generalize (s[k]).toNat = n at *
        go_wp2
        go_roundw
        case rel => exact ⟨k + 1, by omega, by go_num, HN'.out, HW.out⟩
        case measure => simp [intOf]; omega
    · have hno : o = none := by
        rw [← HO.out]
        refine ref_no ?_
        have := HN.out
        rw [List.take_of_length_le (by simp; omega)] at this
        exact this
      obtain rfl := hno
      have h2 := H2.out.ext HW.out
      have c0 := h2.at_ (i := 0) rfl
      have c1 := h2.at_ (i := 1) rfl
      have c2 := h2.at_ (i := 2) rfl
      have c3 := h2.at_ (i := 3) rfl
      have f0 := h2.frozen 0
      have f1 := h2.frozen 1
      have f2 := h2.frozen 2
      have f3 := h2.frozen 3
      have H9 := Lib.hid (h2.set4 (.int .i64 0) (.slice none 0 0) (.int .i64 0) (.slice none 0 0))
      have HB9 := Lib.hid (below_set4 (below_le HB.out HW.out) (Nat.le_refl _) (.int .i64 0) (.slice none 0 0) (.int .i64 0) (.slice none 0 0))
      clear h2
      go_wp2
      have q0 := H9.out.at_ (i := 0) rfl
      have q1 := H9.out.at_ (i := 1) rfl
      have q2 := H9.out.at_ (i := 2) rfl
      have q3 := H9.out.at_ (i := 3) rfl
      exact bodyPost_ret (v := .tuple #[descV 0 none 0 0 0 none 0 0, .int .i64 40]) (by simp [results, Tryz.results41, go_sem, q0, q1, q2, q3]) rfl ⟨_, rfl, DescIs.none_ _ _, HB9.out⟩
end Go.Proofs.YtmabokmnniiadaaGreatDoor
