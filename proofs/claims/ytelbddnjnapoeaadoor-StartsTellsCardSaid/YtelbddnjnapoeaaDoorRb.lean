/-
  What is proved: contracts of worth, on, Right and Has of the reference. No condition beyond those stated.
-/
import Derived.Test.YtelbddnjnapoeaaDoorRa
import Derived.Test.YtelbddnjnapoeaaDoorSq
namespace Go.Proofs.YtelbddnjnapoeaaDoor
open Go.RowKit

theorem pow_bound (k : Nat) (hk : k ≤ 31) : 1 ≤ 2 ^ k ∧ 2 ^ k ≤ 2147483648 := by
  have h1 := Nat.two_pow_pos k
  have h2 : 2 ^ k ≤ 2 ^ 31 := Nat.pow_le_pow_right (by omega) hk
  exact ⟨h1, h2⟩

set_option maxHeartbeats 400000 in
theorem worth_any (i : Int) (w : World) (h0 : 0 ≤ i) (h1 : i ≤ 1000000) :
    Calls Tryd.prog 64 #[.int .i64 i] w fun e w' => e = .returned (.int .u32 ((2 ^ (i.toNat % 32) : Nat) : Int)) ∧ w = w' := by
  go_enter Tryd.func64, Tryd.ntmps64
  go_wp2
  go_loop [3, 4] (fun x j => ∃ k : Nat, (k : Int) ≤ i % 32 ∧ j = .int .i64 k ∧ x = .int .u32 ((2 ^ k : Nat) : Int)) (fun _ j => (i % 32 - intOf j).toNat)
  case atStart => exact ⟨0, by omega, rfl, rfl⟩
  case round =>
    obtain ⟨k, hk, rfl, rfl⟩ := hrel
    obtain ⟨p0, p1⟩ := pow_bound k (by omega)
    by_cases hlt : (k : Int) < i % 32
    · obtain ⟨q0, q1⟩ := pow_bound (k + 1) (by omega)
      have hs : 2 ^ (k + 1) = 2 * 2 ^ k := by rw [Nat.pow_succ]; omega
      generalize hx : 2 ^ k = x at *
      have HX := Lib.hid hx
      have HS := Lib.hid hs
      have q2 : 2 * x ≤ 2147483648 := by omega
      clear hx hs
      go_wp2
      go_round
      case rel => exact ⟨k + 1, by omega, by go_num, by rw [HS.out]; go_num⟩
      case measure => simp [intOf]; omega
    · have hke : i.toNat % 32 = k := by omega
      have HK := Lib.hid hke
      clear hke
      go_wp2
      go_ret
      exact ⟨ret_int (by rw [HK.out]), rfl⟩

set_option maxHeartbeats 400000 in
theorem on_any (A : Option Addr) (m c : Nat) (n : Int) (ws : List Nat) (i : Int) (w : World) (hR : Row w A m (ws.map U32)) (hF : Fits ws) (h0 : 0 ≤ i) (h1 : i / 32 < m) (hi : i ≤ 100000) :
    Calls Tryd.prog 55 #[.agg #[.int .i64 n, .slice A m c], .int .i64 i] w fun e w' => e = .returned (.bool (tb ws i.toNat)) ∧ Below w.heap.size w w' := by
  obtain ⟨b, off, x, rfl, hc, hx, hlt⟩ := word_at (k := (i / 32).toNat) hR hF (by omega)
  have Hx := Lib.hid hx
  have hc' := cell_ext (below_box w (.cells #[.int .i64 n, .slice (some ⟨b, off, none⟩) m c] 24)) hc
  have hcx := ext_cell hc'
  clear hR hF hx hc hc'
  have hp := pow_bound (i.toNat % 32) (by omega)
  have hb0 := Lib.hid (below_box w (.cells #[.int .i64 n, .slice (some ⟨b, off, none⟩) m c] 24))
  obtain ⟨d, hd⟩ : ∃ d : Nat, 2 ^ (i.toNat % 32) = d := ⟨_, rfl⟩
  rw [hd] at hp
  have HD := Lib.hid hd
  have AW : Hid (∀ w, Calls Tryd.prog 64 #[.int .i64 i] w fun e w' => e = .returned (.int .u32 (d : Int)) ∧ w = w') := Lib.hid (fun w => by have h := worth_any i w h0 (by omega); rw [hd] at h; exact h)
  obtain ⟨hp0, hp1⟩ := hp
  have hne : ¬ (d : Int) = 0 := by omega
  have hne2 : ((d : Int) == 0) = false := by simpa using hne
  have hq0 : 0 ≤ i / 32 := by omega
  have hq1 : IntKind.i64.wrap (i.tdiv 32) = i / 32 := by rw [IntKind.wrap_i64, Int.tdiv_eq_ediv_of_nonneg h0]; omega
  obtain ⟨y, hy⟩ : ∃ y : Nat, x / d = y := ⟨_, rfl⟩
  have hyl : y < 4294967296 := by rw [← hy]; exact Nat.lt_of_le_of_lt (Nat.div_le_self _ _) hlt
  have hq2 : IntKind.u32.wrap ((x : Int).tdiv (d : Int)) = (y : Int) := by
    rw [Int.tdiv_eq_ediv_of_nonneg (by omega), show ((x : Int) / (d : Int)) = ((x / d : Nat) : Int) by simp, hy]
    simp [IntKind.wrap, IntKind.bits, IntKind.signed]; omega
  have hq3 : IntKind.u32.wrap ((y : Int).tmod 2) = ((y % 2 : Nat) : Int) := by
    rw [Int.tmod_eq_emod_of_nonneg (by omega)]
    simp [IntKind.wrap, IntKind.bits, IntKind.signed]; omega
  have hne3 : ¬ d = 0 := by omega
  have HQ : Hid (IntKind.u32.wrap ((x : Int) / (d : Int)) = (y : Int)) := Lib.hid (by
    rw [show ((x : Int) / (d : Int)) = ((x / d : Nat) : Int) by simp, hy]
    simp [IntKind.wrap, IntKind.bits, IntKind.signed]; omega)
  have HY := Lib.hid hy
  clear hy
  clear hd
  go_enter Tryd.func55, Tryd.ntmps55
  go_wp2
  refine wp_region_plan [(0, true), (1, true), (2, true), (3, true), (4, true), (5, true), (6, true), (7, true), (8, true), (9, true), (10, true), (11, true)] (by kernel_rfl) (by kernel_rfl) ?_
  obtain ⟨hc0, hc1⟩ := box_cells (w := w) (t := 24) (v0 := .int .i64 n) (v1 := .slice (some ⟨b, off, none⟩) m c)
  repeat (first | (refine plan_skip rfl rfl ?_; go_frame) | (refine plan_soft rfl rfl (fun K hK => ?_); go_simp; first | (refine hK _ ?_; clear hK K) | (apply Exists.intro; refine ⟨fun x => ?_, hK _ ?_⟩; (· (exact Calls.still (AW.out _))); clear hK K; try go_frame)))
  refine plan_nil ?_; intro w1 h0b; have Hb1 := Lib.hid h0b; clear h0b
  go_wp2
  go_ret
  refine ⟨ret_bool ?_, below_le hb0.out Hb1.out⟩
  have h := div_mod_two x (i.toNat % 32)
  rw [HD.out] at h
  rw [tb, show i.toNat / 32 = (i / 32).toNat by omega, ← Hx.out, ← h, HY.out]
  clear hq1 hq2 hq3 h HY HD Hx
  rw [Bool.eq_iff_iff]
  rw [HQ.out, Int.tmod_eq_emod_of_nonneg (by omega)]
  simp only [beq_iff_eq]
  omega

theorem right_of_off {n : Int} {ws : List Nat} (hF : Fits ws) (h0 : 0 ≤ n) (h1 : n ≤ 20000) (h2 : ws.length = (n.toNat + 31) / 32) (h3 : ∀ j : Nat, n ≤ (j : Int) → j < 32 * ws.length → tb ws j = false) : rightB n ws = true := by
  refine rightB_intro h0 h1 h2 ?_
  by_cases hz : n.toNat % 32 = 0
  · exact .inl hz
  · right
    refine Nat.lt_pow_two_of_testBit _ fun b hb => ?_
    rcases Nat.lt_or_ge b 32 with hb2 | hb2
    · have h := h3 (32 * (ws.length - 1) + b) (by omega) (by omega)
      unfold tb at h
      rwa [show (32 * (ws.length - 1) + b) / 32 = ws.length - 1 by omega, show (32 * (ws.length - 1) + b) % 32 = b by omega] at h
    · exact big_bit (getD_lt hF _) hb2

set_option maxHeartbeats 1000000 in
/-- The reference's Right. -/
theorem refright_any (A : Option Addr) (m c : Nat) (n : Int) (ws : List Nat) (w : World) (hR : Row w A m (ws.map U32)) (hF : Fits ws) :
    Calls Tryd.prog 37 #[.agg #[.int .i64 n, .slice A m c]] w fun e w' => e = .returned (.bool (rightB n ws)) ∧ Below w.heap.size w w' := by
  have hl := hR.1
  simp at hl
  have hb0 := below_box w (.cells #[.int .i64 n, .slice A m c] 24)
  have HR := Lib.hid (hR.ext hb0)
  have HB := Lib.hid hb0
  have HF := Lib.hid hF
  have k0 := box0 (w := w) (t := 24) (v0 := .int .i64 n) (v1 := .slice A m c)
  have k1 := box1 (w := w) (t := 24) (v0 := .int .i64 n) (v1 := .slice A m c)
  clear hR hb0 hF
  by_cases h0 : n < 0
  · have HQ : Hid (rightB n ws = false) := Lib.hid (by simp [rightB]; omega)
    clear hl
    go_enter Tryd.func37, Tryd.ntmps37
    go_wp2
    go_ret
    exact ⟨ret_bool HQ.out.symm, HB.out⟩
  by_cases h1 : 20000 < n
  · have HQ : Hid (rightB n ws = false) := Lib.hid (by simp [rightB]; omega)
    clear hl
    go_enter Tryd.func37, Tryd.ntmps37
    go_wp2
    go_ret
    exact ⟨ret_bool HQ.out.symm, HB.out⟩
  by_cases h2 : (m : Int) = (n + 31) / 32
  · have h02 : ((m : Int) != (n + 31) / 32) = false := by simpa using h2
    have hm1 : m ≤ 700 := by omega
    have H2 := Lib.hid h2
    have HL := Lib.hid hl
    clear hl h2
    go_enter Tryd.func37, Tryd.ntmps37
    go_wp2
    generalize w.alloc (.cells #[.int .i64 n, .slice A m c] 24) = W0 at *
    go_loopw [3] (fun i wr => ∃ k : Nat, n ≤ (k : Int) ∧ (k : Int) ≤ 32 * m ∧ i = .int .i64 k ∧ (∀ j : Nat, n ≤ (j : Int) → j < k → tb ws j = false) ∧ Below W0.heap.size W0 wr) (fun i _ => (32 * (m : Int) - intOf i).toNat)
    case atStart => exact ⟨n.toNat, by omega, by have := H2.out; omega, by rw [Int.toNat_of_nonneg (by omega)], fun j h1 h2 => by omega, Below.refl _ _⟩
    case round =>
      obtain ⟨k, hk0, hk1, rfl, hz, hb⟩ := hrel
      have HZ := Lib.hid hz
      have e0 := cell_ext hb k0
      have e1 := cell_ext hb k1
      have Hb := Lib.hid hb
      clear hz hb
      by_cases hlt : (k : Int) < 32 * (m : Int)
      · go_wp2_with fail
        have h := on_any A m c n ws (k : Int) wr (HR.out.ext Hb.out) HF.out (by omega) (by omega) (by omega)
        rw [Int.toNat_natCast] at h
        cases ht : tb ws k
        · rw [ht] at h
          refine h.mono ?_
          clear h
          have HT := Lib.hid ht
          clear ht
          rintro e w1 ⟨rfl, hb1⟩
          have HB1 := Lib.hid (below_le Hb.out hb1)
          clear hb1
          go_wp2
          go_roundw
          case rel => exact ⟨k + 1, by omega, by omega, by go_num, fun j h1 h2 => by
            rcases Nat.lt_or_ge j k with h | h
            · exact HZ.out j h1 h
            · obtain rfl : j = k := by omega
              exact HT.out, HB1.out⟩
          case measure => simp [intOf]; omega
        · rw [ht] at h
          refine h.mono ?_
          clear h
          have HT := Lib.hid ht
          clear ht
          rintro e w1 ⟨rfl, hb1⟩
          have HB1 := Lib.hid (below_le Hb.out hb1)
          clear hb1
          go_wp2
          go_ret
          refine ⟨ret_bool ?_, below_le HB.out HB1.out⟩
          cases hr : rightB n ws
          · rfl
          · have := right_high hr k hk0
            rw [HT.out] at this
            cases this
      · go_wp2
        go_ret
        refine ⟨ret_bool ?_, below_le HB.out Hb.out⟩
        have := H2.out
        have := HL.out
        exact (right_of_off HF.out (by omega) (by omega) (by omega) (fun j h1 h2 => HZ.out j h1 (by omega))).symm
  · have h02 : ((m : Int) != (n + 31) / 32) = true := by simpa using h2
    have HQ : Hid (rightB n ws = false) := Lib.hid (by simp [rightB]; omega)
    clear hl h2
    go_enter Tryd.func37, Tryd.ntmps37
    go_wp2
    go_ret
    exact ⟨ret_bool HQ.out.symm, HB.out⟩

end Go.Proofs.YtelbddnjnapoeaaDoor
