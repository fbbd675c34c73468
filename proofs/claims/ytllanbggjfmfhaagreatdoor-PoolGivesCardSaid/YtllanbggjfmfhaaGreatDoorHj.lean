/-
  What is proved: contracts of New and Counts of package pool. No condition beyond those stated.
-/
import Derived.Test.YtllanbggjfmfhaaGreatDoorHi
import Derived.Deep.DeepCutAuto
import Derived.RegionTactic
import Derived.ChangeAlike
namespace Go.Proofs.YtllanbggjfmfhaaGreatDoor
open Go.RowKit Go.Shelf

def pnewC (b : Int) : Nat := if 1 ≤ b ∧ b ≤ 32 then 0 else 2
def tab0 : List Int := List.replicate 32 0
def pnewL (b : Int) : List Int := if 1 ≤ b ∧ b ≤ 32 then List.replicate b.toNat 0 else []
def pnewT (b : Int) : List (List Int) := if 1 ≤ b ∧ b ≤ 32 then List.replicate b.toNat tab0 else []

set_option maxRecDepth 100000 in
set_option maxHeartbeats 1000000 in
theorem pnew_no (b : Int) (w : World) (hE : EType w) (h : ¬ (1 ≤ b ∧ b ≤ 32)) : Calls Tryz.prog 21 #[.int .i64 b] w (GivesErr w [] [] 2) := by
  have hb0 := below_box w (.cells #[.slice none 0 0, .slice none 0 0] 25)
  have h2 : Blk (w.alloc (.cells #[.slice none 0 0, .slice none 0 0] 25)) w.heap.size 25 #[.slice none 0 0, .slice none 0 0] := heap_new rfl _
  have HB := Lib.hid hb0
  have H2 := Lib.hid h2
  have HE := Lib.hid (hE.ext hb0)
  clear hb0 h2 hE
  by_cases h1 : b < 1
  case' pos => go_enter Tryz.func21, Tryz.ntmps21
  case' neg =>
    have hd : decide (b > 32) = true := by simp; omega
    go_enter Tryz.func21, Tryz.ntmps21
  all_goals
    go_wp2_with fail
    generalize w.alloc (.cells #[.slice none 0 0, .slice none 0 0] 25) = W0 at *
    refine (refuse_pool _ 2 (by omega) W0).mono ?_
    rintro e w3 ⟨v, rfl, hv, hb3⟩
    have hnum := number_pool 2 v w3 hv (HE.out.ext hb3)
    have HB3 := Lib.hid hb3
    clear hv hb3
    go_wp2_with fail
    refine hnum.mono ?_
    clear hnum
    rintro e w4 ⟨rfl, hb4⟩
    obtain ⟨⟨c0, c1, f0, f1⟩, q0, q1, hB⟩ := res_two (a' := .slice none 0 0) (b' := .slice none 0 0) (H2.out.ext (below_le HB3.out hb4)) (below_le HB.out (below_le HB3.out hb4)) (by omega)
    have HB4 := Lib.hid hB
    clear hb4 hB
    go_wp2
    exact bodyPost_ret (v := .tuple #[.agg #[.slice none 0 0, .slice none 0 0], .int .i64 2]) (by simp [results, Tryz.results21, go_sem, q0, q1]) rfl ⟨_, rfl, PoolF.none_, HB4.out⟩

theorem Laid.nil {w : World} {base TB k : Nat} {X : List Nat} (h : Blk w TB 22 (nilsT k)) : Laid w base TB k [] X :=
  ⟨List.replicate k (.slice none 0 0), by simp, by simpa [nilsT] using h, (fun j t ht => by simp at ht)⟩
theorem zeros_iv (n : Nat) : zerosI n = ((List.replicate n 0).map Iv).toArray := by
  unfold zerosI
  simp [Iv]

set_option maxRecDepth 100000 in
set_option maxHeartbeats 2000000 in
theorem pnew_ok (n : Nat) (w : World) (h1 : 1 ≤ n) (h32 : n ≤ 32) : Calls Tryz.prog 21 #[.int .i64 (n : Int)] w (GivesErr w (List.replicate n 0) (List.replicate n tab0) 0) := by
  have hmi := run_make_ints (n : Int) (by omega) (by omega)
  have hmt := run_make_tabs (n : Int) (by omega) (by omega)
  simp only [Int.toNat_natCast] at hmi hmt
  have hd : decide ((n : Int) > 32) = false := by simp; omega
  have hd1 : decide ((n : Int) < 1) = false := by simp; omega
  have hb0 := below_box w (.cells #[.slice none 0 0, .slice none 0 0] 25)
  have h2 : Blk (w.alloc (.cells #[.slice none 0 0, .slice none 0 0] 25)) w.heap.size 25 #[.slice none 0 0, .slice none 0 0] := heap_new rfl _
  have HB := Lib.hid hb0
  have H2 := Lib.hid h2
  clear hb0 h2
  go_enter Tryz.func21, Tryz.ntmps21
  go_upto_region 3 with fail
  generalize w.alloc (.cells #[.slice none 0 0, .slice none 0 0] 25) = W0 at *
  go_cut [4] (fun s4 wx => ∃ PB SB TB, s4 = .pointer (some ⟨PB, 0, none⟩) ∧ Blk wx PB 25 #[.slice (some ⟨SB, 0, none⟩) n n, .slice (some ⟨TB, 0, none⟩) n n] ∧ Blk wx SB 3 (zerosI n) ∧ Blk wx TB 22 (nilsT n) ∧ W0.heap.size ≤ PB ∧ W0.heap.size ≤ SB ∧ W0.heap.size ≤ TB ∧ Below W0.heap.size W0 wx)
  case first =>
    go_region
    all_goals
      go_wp2_with fail
      go_meet
      first
        | exact ⟨_, _, _, rfl, Blk.drew (heap_new (by simp) _), Blk.drew (Blk.alloc (heap_new (by simp) _) _), Blk.drew (Blk.alloc (Blk.alloc (heap_new rfl _) _) _), by omega, by omega, by omega, (below_le (below_le (below_box _ _) (below_box _ _)) (below_box _ _)).drew⟩
        | exact ⟨_, _, _, rfl, Blk.drew (heap_new (by simp) _), Blk.drew (Blk.alloc (Blk.alloc (heap_new rfl _) _) _), Blk.drew (Blk.alloc (heap_new (by simp) _) _), by omega, by omega, by omega, (below_le (below_le (below_box _ _) (below_box _ _)) (below_box _ _)).drew⟩
        | exact ⟨_, _, _, rfl, Blk.drew (Blk.alloc (heap_new (by simp) _) _), Blk.drew (heap_new (by simp) _), Blk.drew (Blk.alloc (Blk.alloc (heap_new rfl _) _) _), by omega, by omega, by omega, (below_le (below_le (below_box _ _) (below_box _ _)) (below_box _ _)).drew⟩
        | exact ⟨_, _, _, rfl, Blk.drew (Blk.alloc (heap_new (by simp) _) _), Blk.drew (Blk.alloc (Blk.alloc (heap_new rfl _) _) _), Blk.drew (heap_new (by simp) _), by omega, by omega, by omega, (below_le (below_le (below_box _ _) (below_box _ _)) (below_box _ _)).drew⟩
        | exact ⟨_, _, _, rfl, Blk.drew (Blk.alloc (Blk.alloc (heap_new rfl _) _) _), Blk.drew (heap_new (by simp) _), Blk.drew (Blk.alloc (heap_new (by simp) _) _), by omega, by omega, by omega, (below_le (below_le (below_box _ _) (below_box _ _)) (below_box _ _)).drew⟩
        | exact ⟨_, _, _, rfl, Blk.drew (Blk.alloc (Blk.alloc (heap_new rfl _) _) _), Blk.drew (Blk.alloc (heap_new (by simp) _) _), Blk.drew (heap_new (by simp) _), by omega, by omega, by omega, (below_le (below_le (below_box _ _) (below_box _ _)) (below_box _ _)).drew⟩
  case rest =>
    obtain ⟨PB, SB, TB, rfl, hP, hS, hT, bp, bs, bt, hbx⟩ := hcut
    have hn1 : SB ≠ TB := blk_ne hS hT (by decide)
    have hn2 : PB ≠ SB := blk_ne hP hS (by decide)
    have hn3 : PB ≠ TB := blk_ne hP hT (by decide)
    have hLaid := Laid.nil (base := W0.heap.size) (X := [PB, SB, TB]) hT
    have hW := H2.out.lt
    have HP := Lib.hid hP
    have HS := Lib.hid hS
    have HL := Lib.hid hLaid
    have HBX := Lib.hid hbx
    clear hP hS hT hLaid hbx hmi hmt
    go_wp2
    go_loopw [21] (fun i wr => ∃ j : Nat, j ≤ n ∧ i = .int .i64 j ∧ Laid wr W0.heap.size TB n (List.replicate j tab0) [PB, SB, TB] ∧ Blk wr PB 25 #[.slice (some ⟨SB, 0, none⟩) n n, .slice (some ⟨TB, 0, none⟩) n n] ∧ Blk wr SB 3 (zerosI n) ∧ Below W0.heap.size W0 wr)
      (fun i _ => n - (intOf i).toNat)
    case atStart => exact ⟨0, Nat.zero_le _, rfl, HL.out, HP.out, HS.out, HBX.out⟩
    case round =>
      obtain ⟨j, hj, rfl, q1, q2, q3, q4⟩ := hrel
      have Q1 := Lib.hid q1
      have Q2 := Lib.hid q2
      have Q3 := Lib.hid q3
      have Q4 := Lib.hid q4
      clear q1 q2 q3 q4
      by_cases hlt : j < n
      · have hk1 := ext_cell (by have := Q2.out.cell 1; simpa using this : wr.cell? ⟨PB, 1, none⟩ = some (.slice (some ⟨TB, 0, none⟩) n n))
        go_wp2
        refine wp_region_mixs 5 (by kernel_rfl) (by kernel_rfl) ?_
        first | (refine mixs_skip 0 rfl (by kernel_rfl) rfl ?_; go_frame) | (refine mixs_soft 0 rfl (by kernel_rfl) rfl (fun K hK => ?_); go_simp; first | (refine hK _ ?_; clear hK K) | (apply Exists.intro; refine ⟨fun x => ?_, hK _ ?_⟩; (· (fail)); clear hK K; try go_frame))
        first | (refine mixs_skip 1 rfl (by kernel_rfl) rfl ?_; go_frame) | (refine mixs_soft 1 rfl (by kernel_rfl) rfl (fun K hK => ?_); go_simp; first | (refine hK _ ?_; clear hK K) | (apply Exists.intro; refine ⟨fun x => ?_, hK _ ?_⟩; (· (fail)); clear hK K; try go_frame))
        first | (refine mixs_skip 2 rfl (by kernel_rfl) rfl ?_; go_frame) | (refine mixs_soft 2 rfl (by kernel_rfl) rfl (fun K hK => ?_); go_simp; first | (refine hK _ ?_; clear hK K) | (apply Exists.intro; refine ⟨fun x => ?_, hK _ ?_⟩; (· (fail)); clear hK K; try go_frame))
        clear hk1
        refine mixs_one 3 (by decide) (by kernel_rfl) rfl rfl ?_; intro w5 hb5 hB5 K hK; go_simp
        refine (make_any w5).mono ?_
        rintro e w6 ⟨B, rfl, hB1, hB2, hb6⟩
        rw [List.length_replicate]
        have hKlt := (Q2.out.ext hb5).lt
        have hSlt := (Q3.out.ext hb5).lt
        have hTlt : TB < w5.heap.size := by obtain ⟨_, _, h, _⟩ := Q1.out.ext hb5; exact h.lt
        have hs5 := (below_le Q4.out hb5).size
        have HL6 := Lib.hid (Q1.out.ext (below_le hb5 hb6))
        have HP6 := Lib.hid (Q2.out.ext (below_le hb5 hb6))
        have HS6 := Lib.hid (Q3.out.ext (below_le hb5 hb6))
        have HB2 := Lib.hid hB2
        refine hK _ _ (below_le hB5 hb6) ?_
        clear hK K hB5 hb5 hb6 hB2
        try go_frame
        first | (refine mixs_skip 4 rfl (by kernel_rfl) rfl ?_; go_frame) | (refine mixs_soft 4 rfl (by kernel_rfl) rfl (fun K hK => ?_); go_simp; first | (refine hK _ ?_; clear hK K) | (apply Exists.intro; refine ⟨fun x => ?_, hK _ ?_⟩; (· (fail)); clear hK K; try go_frame))
        refine mixs_last 5 (by kernel_rfl) (by kernel_rfl) rfl rfl ?_
        intro w7 hb7 hB7 K hK
        have hL7 := HL6.out.ext hb7
        have hset := hL7.set_ (by simp) j hlt tab0 (by simp) B (by omega) (HB2.out.ext hb7) (by simp; omega) (by decide)
        obtain ⟨ov, hov⟩ : ∃ ov, w7.cell? ⟨TB, j, none⟩ = some ov := by
          obtain ⟨vs, h1, h2, -⟩ := hL7
          rw [h2.cell j]
          exact ⟨vs[j], by simp⟩
        have hfz : w7.frozen? ⟨TB, j, none⟩ = false := by
          obtain ⟨vs, h1, h2, -⟩ := hL7
          exact h2.frozen j
        rw [List.take_of_length_le (by simp), List.drop_of_length_le (by simp), List.append_nil, ← List.replicate_succ', show tab0.length = 32 from rfl] at hset
        have HSET := Lib.hid hset
        have HP7 := Lib.hid ((HP6.out.ext hb7).far (p := ⟨TB, j, none⟩) (by show PB ≠ TB; exact hn3) (.slice (some ⟨B, 0, none⟩) 32 32))
        have HS7 := Lib.hid ((HS6.out.ext hb7).far (p := ⟨TB, j, none⟩) (by show SB ≠ TB; exact hn1) (.slice (some ⟨B, 0, none⟩) 32 32))
        have HB7 := Lib.hid ((below_le Q4.out hB7).setCell (p := ⟨TB, j, none⟩) (by show W0.heap.size ≤ TB; omega) (.slice (some ⟨B, 0, none⟩) 32 32))
        clear hb7 hB7 hL7 hset
        go_simp
        refine hK _ _ fun w8 hb8 => ?_
        clear hK K hov hfz
        replace HSET := Lib.hid (HSET.out.ext hb8)
        replace HP7 := Lib.hid (HP7.out.ext hb8)
        replace HS7 := Lib.hid (HS7.out.ext hb8)
        replace HB7 := Lib.hid (below_le HB7.out hb8)
        clear hb8
        try go_frame
        go_wp2
        go_roundw
        case rel => exact ⟨j + 1, by omega, by go_num, HSET.out, HP7.out, HS7.out, HB7.out⟩
        case measure => simp [intOf]; omega
      · obtain rfl : j = n := by omega
        have g0 := Q2.out.cell 0
        have g1 := Q2.out.cell 1
        simp at g0 g1
        have hrow := Q3.out.row
        rw [zeros_iv] at hrow
        simp only [List.size_toArray, List.length_map, List.length_replicate] at hrow
        have hL := Q1.out
        have hpf := poolF_mk (l := List.replicate j 0) (ts := List.replicate j tab0) hrow (fun a e => by cases e; exact bs) (Nat.le_refl j) (by rw [List.length_replicate]; exact hL) bt
        rw [List.length_replicate] at hpf
        obtain ⟨⟨c0, c1, f0, f1⟩, q0, q1, hB⟩ := res_two (a' := .slice (some ⟨SB, 0, none⟩) j j) (b' := .slice (some ⟨TB, 0, none⟩) j j) (H2.out.ext Q4.out) (below_le HB.out Q4.out) (by omega)
        have HPF := Lib.hid (((hpf.far (p := ⟨w.heap.size, 0, none⟩) hW (.slice (some ⟨SB, 0, none⟩) j j)).far (p := ⟨w.heap.size, 1, none⟩) hW (.slice (some ⟨TB, 0, none⟩) j j)).mono (base' := w.heap.size) (by omega))
        have HB4 := Lib.hid hB
        clear hrow hL hpf hB
        go_wp2
        exact bodyPost_ret (v := .tuple #[.agg #[.slice (some ⟨SB, 0, none⟩) j j, .slice (some ⟨TB, 0, none⟩) j j], .int .i64 0]) (by simp [results, Tryz.results21, go_sem, q0, q1]) rfl ⟨_, rfl, HPF.out, HB4.out⟩

/-- pool.New. -/
theorem pnew_any (b : Int) (w : World) (hE : EType w) : Calls Tryz.prog 21 #[.int .i64 b] w (GivesErr w (pnewL b) (pnewT b) (pnewC b)) := by
  unfold pnewL pnewT pnewC
  by_cases h : 1 ≤ b ∧ b ≤ 32
  · rw [if_pos h, if_pos h, if_pos h]
    have := pnew_ok b.toNat w (by omega) (by omega)
    rwa [Int.toNat_of_nonneg (by omega)] at this
  · rw [if_neg h, if_neg h, if_neg h]
    exact pnew_no b w hE h

end Go.Proofs.YtllanbggjfmfhaaGreatDoor
