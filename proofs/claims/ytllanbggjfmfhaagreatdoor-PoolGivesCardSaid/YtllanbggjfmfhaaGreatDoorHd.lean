/-
  What is proved: the contracts of keep of package pool. No condition beyond those stated.
-/
import Derived.Test.YtllanbggjfmfhaaGreatDoorHc
import Derived.Test.YtllanbggjfmfhaaGreatDoorMixs
namespace Go.Proofs.YtllanbggjfmfhaaGreatDoor
open Go.RowKit Go.Shelf

set_option maxRecDepth 100000 in
set_option maxHeartbeats 1000000 in
theorem keep_no (S : Option Addr) (m c : Nat) (T : Option Addr) (k d : Nat) (l : List Int) (ts : List (List Int)) (w : World) (hS : Row w S m (l.map Iv)) (hT : Tabs w T k ts) (hm : m ≤ 1000) (hk : k ≤ 1000) (hp : pRight l ts = false) :
    Calls Tryz.prog 27 #[.agg #[.slice S m c, .slice T k d]] w fun e w' => ∃ v, e = .returned (.tuple #[.pointer none, v]) ∧ ErrV_pool w' 100 v ∧ Below w.heap.size w w' := by
  have hb0 := below_box w (.cells #[.slice S m c, .slice T k d] 25)
  have hcall := pright_any S m c T k d l ts _ (hS.ext hb0) (hT.ext hb0) hm hk
  rw [hp] at hcall
  have HB := Lib.hid hb0
  have HC := Lib.hid hcall
  clear hS hT hb0 hp hcall
  go_enter Tryz.func27, Tryz.ntmps27
  go_wp2_with fail
  generalize w.alloc (.cells #[.slice S m c, .slice T k d] 25) = W0 at *
  refine HC.out.mono ?_
  rintro e w1 ⟨rfl, hb1⟩
  have HB1 := Lib.hid (below_le HB.out hb1)
  clear hb1 HC HB
  go_wp2_with fail
  refine (refuse_pool _ 100 (by omega) w1).mono ?_
  rintro e w2 ⟨v, rfl, hv, hb2⟩
  have HV := Lib.hid hv
  have HB2 := Lib.hid (below_le HB1.out hb2)
  clear hv hb2
  go_wp2
  exact bodyPost_ret (v := .tuple #[.pointer none, v]) (by simp [results, Tryz.results27, go_sem]) rfl ⟨v, rfl, HV.out, HB2.out⟩

set_option maxRecDepth 100000 in
set_option maxHeartbeats 2000000 in
theorem keep_ok (S : Option Addr) (m c : Nat) (T : Option Addr) (k d : Nat) (l : List Int) (ts : List (List Int)) (w : World) (hS : Row w S m (l.map Iv)) (hT : Tabs w T k ts) (hm : m ≤ 1000) (hk : k ≤ 1000) (hp : pRight l ts = true) :
    Calls Tryz.prog 27 #[.agg #[.slice S m c, .slice T k d]] w (GivesKeep w l ts) := by
  have hl := hS.1
  have htl := hT.1
  simp at hl
  subst hl
  subst htl
  have hb0 := below_box w (.cells #[.slice S l.length c, .slice T ts.length d] 25)
  have k0 : (w.alloc (.cells #[.slice S l.length c, .slice T ts.length d] 25)).cell? ⟨w.heap.size, 0, none⟩ = some (.slice S l.length c) := by simp [go_sem]
  have k1 : (w.alloc (.cells #[.slice S l.length c, .slice T ts.length d] 25)).cell? ⟨w.heap.size, 1, none⟩ = some (.slice T ts.length d) := by simp [go_sem]
  have hcall := pright_any S l.length c T ts.length d l ts _ (hS.ext hb0) (hT.ext hb0) hm hk
  rw [hp] at hcall
  have HS := Lib.hid (hS.ext hb0)
  have HT := Lib.hid (hT.ext hb0)
  have HB := Lib.hid hb0
  have HC := Lib.hid hcall
  clear hS hT hb0 hp hcall
  go_enter Tryz.func27, Tryz.ntmps27
  go_wp2_with fail
  generalize w.alloc (.cells #[.slice S l.length c, .slice T ts.length d] 25) = W0 at *
  refine HC.out.mono ?_
  rintro e w1 ⟨rfl, hb1⟩
  replace k0 := cell_ext hb1 k0
  replace k1 := cell_ext hb1 k1
  have HB1 := Lib.hid (below_le HB.out hb1)
  have HS1 := Lib.hid (HS.out.ext hb1)
  have HT1 := Lib.hid (HT.out.ext hb1)
  clear hb1 HC HB HS HT
  replace k0 := ext_cell k0
  replace k1 := ext_cell k1
  have hmk := run_make_tabs (ts.length : Int) (by omega) (by omega)
  simp only [Int.toNat_natCast] at hmk
  go_wp2
  refine wp_region_mix (by kernel_rfl) ?_
  first | (refine mix_skip 0 rfl (by kernel_rfl) rfl ?_; go_frame) | (refine mix_soft 0 rfl (by kernel_rfl) rfl (fun K hK => ?_); go_simp; first | (refine hK _ ?_; clear hK K) | (apply Exists.intro; refine ⟨fun x => ?_, hK _ ?_⟩; (· (fail)); clear hK K; try go_frame))
  first | (refine mix_skip 1 rfl (by kernel_rfl) rfl ?_; go_frame) | (refine mix_soft 1 rfl (by kernel_rfl) rfl (fun K hK => ?_); go_simp; first | (refine hK _ ?_; clear hK K) | (apply Exists.intro; refine ⟨fun x => ?_, hK _ ?_⟩; (· (fail)); clear hK K; try go_frame))
  first | (refine mix_skip 3 rfl (by kernel_rfl) rfl ?_; go_frame) | (refine mix_soft 3 rfl (by kernel_rfl) rfl (fun K hK => ?_); go_simp; first | (refine hK _ ?_; clear hK K) | (apply Exists.intro; refine ⟨fun x => ?_, hK _ ?_⟩; (· (fail)); clear hK K; try go_frame))
  first | (refine mix_skip 4 rfl (by kernel_rfl) rfl ?_; go_frame) | (refine mix_soft 4 rfl (by kernel_rfl) rfl (fun K hK => ?_); go_simp; first | (refine hK _ ?_; clear hK K) | (apply Exists.intro; refine ⟨fun x => ?_, hK _ ?_⟩; (· (fail)); clear hK K; try go_frame))
  first | (refine mix_skip 5 rfl (by kernel_rfl) rfl ?_; go_frame) | (refine mix_soft 5 rfl (by kernel_rfl) rfl (fun K hK => ?_); go_simp; first | (refine hK _ ?_; clear hK K) | (apply Exists.intro; refine ⟨fun x => ?_, hK _ ?_⟩; (· (fail)); clear hK K; try go_frame))
  refine mix_both 2 6 rfl rfl (by omega) rfl rfl (by kernel_rfl) (by kernel_rfl) (by kernel_rfl) (fun v u => by rfl)
    (fun v W => ∃ B, v = .slice (some ⟨B, 0, none⟩) l.length l.length ∧ w1.heap.size ≤ B ∧ Blk W B 3 (l.map Iv).toArray)
    (fun v W => ∃ B, v = .slice (some ⟨B, 0, none⟩) ts.length ts.length ∧ w1.heap.size ≤ B ∧ Blk W B 22 (nilsT ts.length))
    (fun v X Y hb ⟨B, h1, h2, h3⟩ => ⟨B, h1, h2, h3.ext hb⟩) (fun v X Y hb ⟨B, h1, h2, h3⟩ => ⟨B, h1, h2, h3.ext hb⟩) ?Hi ?Hj ?_
  case Hi =>
    rintro b (rfl | ⟨u, rfl⟩) w2 hb2 K hK
    all_goals
      go_simp
      refine (copied_pool S l.length c l w2 (HS1.out.ext hb2) (by omega)).mono ?_
      rintro e w3 ⟨B, rfl, h1, h2, h3⟩
      exact hK _ _ ⟨B, rfl, Nat.le_trans hb2.size h1, h2⟩ h3
  case Hj =>
    rintro b (rfl | ⟨u, rfl⟩) w2 hb2 K hK
    all_goals
      go_simp
      exact hK _ _ ⟨w2.heap.size, rfl, hb2.size, Blk.new _ _ _⟩ (below_box _ _)
  rintro vi vj w2 hb2 - ⟨SB, rfl, hs1, hs2⟩ ⟨TB, rfl, ht1, ht2⟩
  try go_frame
  have Hs2 := Lib.hid hs2
  have Ht2 := Lib.hid ht2
  have Hb2 := Lib.hid hb2
  clear hs2 ht2 hb2 hmk
  first | (refine mix_skip 7 rfl (by kernel_rfl) rfl ?_; go_frame) | (refine mix_soft 7 rfl (by kernel_rfl) rfl (fun K hK => ?_); go_simp; first | (refine hK _ ?_; clear hK K) | (apply Exists.intro; refine ⟨fun x => ?_, hK _ ?_⟩; (· (fail)); clear hK K; try go_frame))
  first | (refine mix_skip 8 rfl (by kernel_rfl) rfl ?_; go_frame) | (refine mix_soft 8 rfl (by kernel_rfl) rfl (fun K hK => ?_); go_simp; first | (refine hK _ ?_; clear hK K) | (apply Exists.intro; refine ⟨fun x => ?_, hK _ ?_⟩; (· (fail)); clear hK K; try go_frame))
  refine mix_one 9 (by kernel_rfl) ?_
  refine mix_now rfl rfl ?_; intro w3 hb3 hB3 K hK; go_simp
  have hx3 := below_box w3 (.cells #[.slice (some ⟨SB, 0, none⟩) l.length l.length, .slice (some ⟨TB, 0, none⟩) ts.length ts.length] 53)
  have hbk := Blk.new w3 53 #[.slice (some ⟨SB, 0, none⟩) l.length l.length, .slice (some ⟨TB, 0, none⟩) ts.length ts.length]
  replace Hs2 := Lib.hid (Hs2.out.ext (below_le hb3 hx3))
  replace Ht2 := Lib.hid (Ht2.out.ext (below_le hb3 hx3))
  have hKz : w1.heap.size ≤ w3.heap.size := hB3.size
  have HBK := Lib.hid hbk
  refine hK _ _ (below_le hB3 hx3) ?_
  replace Hb2 := Lib.hid (below_le hB3 hx3)
  clear hK K hb3 hB3 hx3 hbk
  try go_frame
  generalize w3.alloc (.cells #[.slice (some ⟨SB, 0, none⟩) l.length l.length, .slice (some ⟨TB, 0, none⟩) ts.length ts.length] 53) = W3 at *
  generalize w3.heap.size = KB at *
  first | (refine mix_skip 10 rfl (by kernel_rfl) rfl ?_; go_frame) | (refine mix_soft 10 rfl (by kernel_rfl) rfl (fun K hK => ?_); go_simp; first | (refine hK _ ?_; clear hK K) | (apply Exists.intro; refine ⟨fun x => ?_, hK _ ?_⟩; (· (fail)); clear hK K; try go_frame))
  refine mix_nil (by kernel_rfl) fun w4 hb4 hB4 => ?_
  replace k1 := k1 ⟨w4, hB4⟩
  dsimp only at k1
  clear k0
  replace Hs2 := Lib.hid (Hs2.out.ext hb4)
  replace Ht2 := Lib.hid (Ht2.out.ext hb4)
  replace HBK := Lib.hid (HBK.out.ext hb4)
  have HB5 := Lib.hid hB4
  have hws : w.heap.size ≤ w1.heap.size := HB1.out.size
  have hn1 : SB ≠ TB := blk_ne Hs2.out Ht2.out (by decide)
  have hn2 : KB ≠ SB := blk_ne HBK.out Hs2.out (by decide)
  have hn3 : KB ≠ TB := blk_ne HBK.out Ht2.out (by decide)
  have hLaid : Laid w4 w.heap.size TB ts.length [] [KB, SB, TB] := ⟨List.replicate ts.length (.slice none 0 0), by simp, by have := Ht2.out; simpa [nilsT] using this, (fun j t ht => by simp at ht)⟩
  have HLD := Lib.hid hLaid
  clear hb4 hB4 Hb2 HS1 hLaid Ht2
  go_wp2
  clear k1
  go_loopw [24] (fun i wr => ∃ j : Nat, j ≤ ts.length ∧ i = .int .i64 j ∧ Laid wr w.heap.size TB ts.length (ts.take j) [KB, SB, TB] ∧ Blk wr KB 53 #[.slice (some ⟨SB, 0, none⟩) l.length l.length, .slice (some ⟨TB, 0, none⟩) ts.length ts.length] ∧ Blk wr SB 3 (l.map Iv).toArray ∧ Below w1.heap.size w1 wr)
    (fun i _ => ts.length - (intOf i).toNat)
  case atStart => exact ⟨0, Nat.zero_le _, rfl, HLD.out, HBK.out, Hs2.out, HB5.out⟩
  case round =>
    obtain ⟨j, hj, rfl, q1, q2, q3, q4⟩ := hrel
    have Q1 := Lib.hid q1
    have Q2 := Lib.hid q2
    have Q3 := Lib.hid q3
    have Q4 := Lib.hid q4
    clear q1 q2 q3 q4
    by_cases hlt : j < ts.length
    · obtain ⟨tb, toff, A, n, cc, t, rfl, hct, -, hn, hRt, hmem, -⟩ := (HT1.out.ext Q4.out).at_ hlt
      have hk1 := ext_cell (by have := Q2.out.cell 1; simpa using this : wr.cell? ⟨KB, 1, none⟩ = some (.slice (some ⟨TB, 0, none⟩) ts.length ts.length))
      have hlen := hRt.1
      simp at hlen
      have hts : ts.take (j + 1) = ts.take j ++ [t] ++ (ts.take j).drop (j + 1) := by
        rw [List.drop_of_length_le (by simp; omega), List.append_nil, List.take_succ_eq_append_getElem hlt]
        simp [hlt] at hmem
        rw [hmem]
      have HRT := Lib.hid hRt
      have HTS := Lib.hid hts
      have HLEN := Lib.hid hlen
      clear hRt hmem hts hlen
      go_wp2
      refine wp_region_mixs 9 (by kernel_rfl) (by kernel_rfl) ?_
      first | (refine mixs_skip 0 rfl (by kernel_rfl) rfl ?_; go_frame) | (refine mixs_soft 0 rfl (by kernel_rfl) rfl (fun K hK => ?_); go_simp; first | (refine hK _ ?_; clear hK K) | (apply Exists.intro; refine ⟨fun x => ?_, hK _ ?_⟩; (· (fail)); clear hK K; try go_frame))
      first | (refine mixs_skip 1 rfl (by kernel_rfl) rfl ?_; go_frame) | (refine mixs_soft 1 rfl (by kernel_rfl) rfl (fun K hK => ?_); go_simp; first | (refine hK _ ?_; clear hK K) | (apply Exists.intro; refine ⟨fun x => ?_, hK _ ?_⟩; (· (fail)); clear hK K; try go_frame))
      first | (refine mixs_skip 2 rfl (by kernel_rfl) rfl ?_; go_frame) | (refine mixs_soft 2 rfl (by kernel_rfl) rfl (fun K hK => ?_); go_simp; first | (refine hK _ ?_; clear hK K) | (apply Exists.intro; refine ⟨fun x => ?_, hK _ ?_⟩; (· (fail)); clear hK K; try go_frame))
      first | (refine mixs_skip 3 rfl (by kernel_rfl) rfl ?_; go_frame) | (refine mixs_soft 3 rfl (by kernel_rfl) rfl (fun K hK => ?_); go_simp; first | (refine hK _ ?_; clear hK K) | (apply Exists.intro; refine ⟨fun x => ?_, hK _ ?_⟩; (· (fail)); clear hK K; try go_frame))
      first | (refine mixs_skip 4 rfl (by kernel_rfl) rfl ?_; go_frame) | (refine mixs_soft 4 rfl (by kernel_rfl) rfl (fun K hK => ?_); go_simp; first | (refine hK _ ?_; clear hK K) | (apply Exists.intro; refine ⟨fun x => ?_, hK _ ?_⟩; (· (fail)); clear hK K; try go_frame))
      first | (refine mixs_skip 5 rfl (by kernel_rfl) rfl ?_; go_frame) | (refine mixs_soft 5 rfl (by kernel_rfl) rfl (fun K hK => ?_); go_simp; first | (refine hK _ ?_; clear hK K) | (apply Exists.intro; refine ⟨fun x => ?_, hK _ ?_⟩; (· (fail)); clear hK K; try go_frame))
      first | (refine mixs_skip 6 rfl (by kernel_rfl) rfl ?_; go_frame) | (refine mixs_soft 6 rfl (by kernel_rfl) rfl (fun K hK => ?_); go_simp; first | (refine hK _ ?_; clear hK K) | (apply Exists.intro; refine ⟨fun x => ?_, hK _ ?_⟩; (· (fail)); clear hK K; try go_frame))
      clear hk1
      refine mixs_one 7 (by decide) (by kernel_rfl) rfl rfl ?_; intro w5 hb5 hB5 K hK; go_simp
      have hcall := copied_pool A n cc t w5 (HRT.out.ext hb5) hn
      refine hcall.mono ?_
      clear hcall
      rintro e w6 ⟨B, rfl, hB1, hB2, hb6⟩
      have hb56 := below_le hb5 hb6
      have hL6 := Q1.out.ext hb56
      have hK6 := Q2.out.ext hb56
      have hS6 := Q3.out.ext hb56
      have hKlt := (Q2.out.ext hb5).lt
      have hSlt := (Q3.out.ext hb5).lt
      have hTlt : TB < w5.heap.size := by obtain ⟨_, _, h, _⟩ := Q1.out.ext hb5; exact h.lt
      have hb6' := below_le hB5 hb6
      have HL6 := Lib.hid hL6
      have HK6 := Lib.hid hK6
      have HS6 := Lib.hid hS6
      have HB2 := Lib.hid hB2
      refine hK _ _ hb6' ?_
      clear hK K hB5 hb5 hb6 hb56 hL6 hK6 hS6 hB2 hb6'
      try go_frame
      first | (refine mixs_skip 8 rfl (by kernel_rfl) rfl ?_; go_frame) | (refine mixs_soft 8 rfl (by kernel_rfl) rfl (fun K hK => ?_); go_simp; first | (refine hK _ ?_; clear hK K) | (apply Exists.intro; refine ⟨fun x => ?_, hK _ ?_⟩; (· (fail)); clear hK K; try go_frame))
      refine mixs_last 9 (by kernel_rfl) (by kernel_rfl) rfl rfl ?_
      intro w7 hb7 hB7 K hK
      have hL7 := HL6.out.ext hb7
      have hset := hL7.set_ (by simp) j hlt t (by simp; omega) B (by omega) (HB2.out.ext hb7) (by simp; omega) (by have := HLEN.out; omega)
      obtain ⟨ov, hov⟩ : ∃ ov, w7.cell? ⟨TB, j, none⟩ = some ov := by
        obtain ⟨vs, h1, h2, -⟩ := hL7
        rw [h2.cell j]
        exact ⟨vs[j], by simp⟩
      have hfz : w7.frozen? ⟨TB, j, none⟩ = false := by
        obtain ⟨vs, h1, h2, -⟩ := hL7
        exact h2.frozen j
      rw [List.take_take, Nat.min_self, ← HTS.out] at hset
      have HSET := Lib.hid hset
      have HK7 := Lib.hid ((HK6.out.ext hb7).far (p := ⟨TB, j, none⟩) (by show KB ≠ TB; exact hn3) (.slice (some ⟨B, 0, none⟩) t.length t.length))
      have HS7 := Lib.hid ((HS6.out.ext hb7).far (p := ⟨TB, j, none⟩) (by show SB ≠ TB; exact hn1) (.slice (some ⟨B, 0, none⟩) t.length t.length))
      have HB7 := Lib.hid ((below_le Q4.out hB7).setCell (p := ⟨TB, j, none⟩) (by show w1.heap.size ≤ TB; omega) (.slice (some ⟨B, 0, none⟩) t.length t.length))
      clear hb7 hB7 hL7 hset
      go_simp
      refine hK _ _ fun w8 hb8 => ?_
      clear hK K hov hfz
      replace HSET := Lib.hid (HSET.out.ext hb8)
      replace HK7 := Lib.hid (HK7.out.ext hb8)
      replace HS7 := Lib.hid (HS7.out.ext hb8)
      replace HB7 := Lib.hid (below_le HB7.out hb8)
      clear hb8
      try go_frame
      go_wp2
      go_roundw
      case rel => exact ⟨j + 1, by omega, by go_num, HSET.out, HK7.out, HS7.out, HB7.out⟩
      case measure => simp [intOf]; omega
    · have HE := Lib.hid (show ts.take j = ts from List.take_of_length_le (by omega))
      go_wp2
      refine bodyPost_ret (v := .tuple #[.pointer (some ⟨KB, 0, none⟩), .nilIface]) (by simp [results, Tryz.results27, go_sem]) rfl ⟨KB, SB, TB, rfl, ⟨Q2.out, Q3.out, ?_, by omega, by omega, by omega⟩, below_le HB1.out Q4.out⟩
      have := Q1.out
      rwa [HE.out] at this

end Go.Proofs.YtllanbggjfmfhaaGreatDoor
