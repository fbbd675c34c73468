/-
  What is proved: contracts of math/bits.OnesCount32, and of Count of package bits. No condition beyond those stated.
-/
import Derived.Test.YtelbddnjnapoeaaDoorBc
import Derived.Lib.BitFns
namespace Go.Proofs.YtelbddnjnapoeaaDoor
open Go.RowKit

def ones8 (y : Nat) : Nat := ((List.range 8).filter y.testBit).length
theorem pop8_ones : ∀ n : Fin 256, Lib.pop8 (n.val : Int) = (ones8 n.val : Int) := by decide +kernel
theorem ones8_le (y : Nat) : ones8 y ≤ 8 := by
  have := List.length_filter_le y.testBit (List.range 8)
  simpa [ones8] using this

theorem byte_bit (x k j : Nat) (hj : j < 8) : (x / 2 ^ k % 256).testBit j = x.testBit (k + j) := by
  rw [show (256 : Nat) = 2 ^ 8 from rfl, Nat.testBit_mod_two_pow, Nat.testBit_div_two_pow]
  simp [hj, Nat.add_comm]

theorem filter_len_congr {p q : Nat → Bool} (l : List Nat) (h : ∀ i ∈ l, p i = q i) : (l.filter p).length = (l.filter q).length := by
  rw [List.filter_congr h]

theorem ones8_byte (x k : Nat) : ones8 (x / 2 ^ k % 256) = ((List.range' k 8).filter x.testBit).length := by
  have e : List.range' k 8 = (List.range 8).map (k + ·) := by rw [List.range'_eq_map_range]
  rw [e, List.filter_map, List.length_map]
  exact filter_len_congr _ fun i hi => by simpa using byte_bit x k i (by simpa using hi)

theorem onesN_bytes (x : Nat) : onesN x = ones8 (x / 2 ^ 24 % 256) + ones8 (x / 2 ^ 16 % 256) + ones8 (x / 2 ^ 8 % 256) + ones8 (x % 256) := by
  have h0 := ones8_byte x 0
  simp only [Nat.pow_zero, Nat.div_one] at h0
  rw [h0, ones8_byte, ones8_byte, ones8_byte]
  have e : List.range 32 = List.range' 0 8 ++ (List.range' 8 8 ++ (List.range' 16 8 ++ List.range' 24 8)) := by decide
  rw [onesN, e]
  simp only [List.filter_append, List.length_append]
  omega

theorem pop8_nat (y : Nat) (hy : y < 256) : Lib.pop8 (y : Int) = (ones8 y : Int) := pop8_ones ⟨y, hy⟩

theorem and255 (y : Nat) (hy : y < 4294967296) : bits .and .u32 (y : Int) 255 = ((y % 256 : Nat) : Int) := by
  have h := u32_and_nat y 255 hy (by decide)
  rw [show (255 : Nat) = 2 ^ 8 - 1 from rfl, Nat.and_two_pow_sub_one_eq_mod] at h
  exact h

set_option maxHeartbeats 1000000 in
set_option maxRecDepth 100000 in
theorem ones32_any (x : Nat) (w : World) (hx : x < 4294967296) :
    Calls Tryd.prog 45 #[.int .u32 x] w fun e w' => e = .returned (.int .i64 (onesN x)) ∧ Below w.heap.size w w' := by
  have a24 : 0 ≤ (x : Int) / 16777216 := by omega
  have b24 : (x : Int) / 16777216 ≤ 255 := by omega
  have e16 : bits .and .u32 ((x : Int) / 65536) 255 = (x : Int) / 65536 % 256 := by
    have := and255 (x / 65536) (by omega)
    rw [show ((x : Int) / 65536) = ((x / 65536 : Nat) : Int) by omega, this]; omega
  have e8 : bits .and .u32 ((x : Int) / 256) 255 = (x : Int) / 256 % 256 := by
    have := and255 (x / 256) (by omega)
    rw [show ((x : Int) / 256) = ((x / 256 : Nat) : Int) by omega, this]; omega
  have e0 : bits .and .u32 (x : Int) 255 = (x : Int) % 256 := by
    have := and255 x hx
    rw [this]; omega
  have HX := Lib.hid hx
  clear hx
  go_enter Tryd.func45, Tryd.ntmps45
  go_wp2
  refine wp_region_plan [(0, true), (1, true), (2, true), (3, true), (4, true), (5, true), (6, true), (7, true), (8, true), (9, true), (10, true), (11, true), (12, true), (13, true), (14, true), (15, true), (16, true), (17, true), (18, true)] (by kernel_rfl) (by kernel_rfl) ?_
  repeat (first | (refine plan_skip rfl rfl ?_; go_frame) | (refine plan_soft rfl rfl (fun K hK => ?_); go_simp; first | (refine hK _ ?_; clear hK K) | (apply Exists.intro; refine ⟨fun x => ?_, hK _ ?_⟩; (· (fail)); clear hK K; try go_frame)))
  refine plan_nil ?_; intro w1 h0b; have Hb1 := Lib.hid h0b; clear h0b
  go_wp2
  go_ret
  refine ⟨ret_int ?_, Hb1.out⟩
  have hx := HX.out
  have p3 : Lib.pop8 ((x : Int) / 16777216) = (ones8 (x / 16777216) : Int) := by have h := pop8_nat (x / 16777216) (by omega); rwa [show ((x / 16777216 : Nat) : Int) = (x : Int) / 16777216 by omega] at h
  have p2 : Lib.pop8 ((x : Int) / 65536 % 256) = (ones8 (x / 65536 % 256) : Int) := by have h := pop8_nat (x / 65536 % 256) (by omega); rwa [show ((x / 65536 % 256 : Nat) : Int) = (x : Int) / 65536 % 256 by omega] at h
  have p1 : Lib.pop8 ((x : Int) / 256 % 256) = (ones8 (x / 256 % 256) : Int) := by have h := pop8_nat (x / 256 % 256) (by omega); rwa [show ((x / 256 % 256 : Nat) : Int) = (x : Int) / 256 % 256 by omega] at h
  have p0 : Lib.pop8 ((x : Int) % 256) = (ones8 (x % 256) : Int) := by have h := pop8_nat (x % 256) (by omega); rwa [show ((x % 256 : Nat) : Int) = (x : Int) % 256 by omega] at h
  have l3 := ones8_le (x / 16777216)
  have l2 := ones8_le (x / 65536 % 256)
  have l1 := ones8_le (x / 256 % 256)
  have l0 := ones8_le (x % 256)
  have q := onesN_bytes x
  simp only [show (2 : Nat) ^ 24 = 16777216 from rfl, show (2 : Nat) ^ 16 = 65536 from rfl, show (2 : Nat) ^ 8 = 256 from rfl, Nat.mod_eq_of_lt (show x / 16777216 < 256 by omega)] at q
  clear e16 e8 e0
  rw [p3, p2, p1, p0, q]
  have w8 : ∀ z : Int, IntKind.u8.wrap z = z % 256 := fun z => by simp [IntKind.wrap, IntKind.bits, IntKind.signed]
  rw [w8, w8, w8, IntKind.wrap_i64]
  omega

theorem sum_take_succ (ws : List Nat) (f : Nat → Nat) (k : Nat) (hk : k < ws.length) : ((ws.take (k + 1)).map f).sum = ((ws.take k).map f).sum + f (ws.getD k 0) := by
  rw [List.take_succ_eq_append_getElem hk, List.getD_eq_getElem?_getD, List.getElem?_eq_getElem hk]
  simp only [List.map_append, List.map_cons, List.map_nil, List.sum_append, List.sum_cons, List.sum_nil, Nat.add_zero, Option.getD_some]
theorem onesN_le (x : Nat) : onesN x ≤ 32 := by
  have := List.length_filter_le x.testBit (List.range 32)
  simpa [onesN] using this
theorem sum_ones_le (ws : List Nat) : (ws.map onesN).sum ≤ 32 * ws.length := by
  induction ws with
  | nil => simp
  | cons x r ih => have := onesN_le x; simp; omega

set_option maxHeartbeats 1000000 in
/-- bits.Count, whatever the bits are. -/
theorem count_any (A : Option Addr) (m c : Nat) (n : Int) (ws : List Nat) (w : World) (hR : Row w A m (ws.map U32)) (hF : Fits ws) :
    Calls Tryd.prog 29 #[.agg #[.int .i64 n, .slice A m c]] w fun e w' => e = .returned (.int .i64 (countN n ws)) ∧ Below w.heap.size w w' := by
  have hl := hR.1
  simp at hl
  have hb0 := below_box w (.cells #[.int .i64 n, .slice A m c] 24)
  have H0 := Lib.hid (hR.ext hb0)
  have HF := Lib.hid hF
  have HL := Lib.hid hl
  have HB := Lib.hid hb0
  clear hR hF hl hb0
  cases hr : rightB n ws
  · have HH : Hid (countN n ws = 0) := Lib.hid (by simp [countN, hr])
    have Hr := Lib.hid hr
    clear hr
    go_enter Tryd.func29, Tryd.ntmps29
    go_wp2_with fail
    refine (right_any A m c n ws _ H0.out HF.out).mono ?_
    rintro e w1 ⟨rfl, hb1⟩
    have HB1 := Lib.hid hb1
    clear hb1
    rw [Hr.out]
    go_wp2
    go_ret
    exact ⟨ret_int (by rw [HH.out]; rfl), below_le HB.out HB1.out⟩
  · obtain ⟨g0, g1, g2, _⟩ := rightB_elim hr
    have HH : Hid (countN n ws = (ws.map onesN).sum) := Lib.hid (by simp [countN, hr])
    have Hr := Lib.hid hr
    have hm : m ≤ 700 := by have := HL.out; omega
    clear hr g2 g0 g1
    go_enter Tryd.func29, Tryd.ntmps29
    go_wp2_with fail
    refine (right_any A m c n ws _ H0.out HF.out).mono ?_
    rintro e w1 ⟨rfl, hb1⟩
    have k1 := cell_ext hb1 (box1 (w := w) (t := 24) (v0 := .int .i64 n) (v1 := .slice A m c))
    have HB1 := Lib.hid hb1
    clear hb1
    rw [Hr.out]
    go_wp2
    go_loopw [3, 11] (fun s i wr => ∃ k : Nat, k ≤ m ∧ i = .int .i64 k ∧ s = .int .i64 (((ws.take k).map onesN).sum : Nat) ∧ Below w1.heap.size w1 wr) (fun _ i _ => m - (intOf i).toNat)
    case atStart => exact ⟨0, Nat.zero_le _, rfl, rfl, Below.refl _ _⟩
    case round =>
      obtain ⟨k, hk, rfl, rfl, hb⟩ := hrel
      have kr := cell_ext hb k1
      have Hb := Lib.hid hb
      have hs1 : ((ws.take k).map onesN).sum ≤ 100000 := by
        have h1 := sum_ones_le (ws.take k)
        have h2 : (ws.take k).length ≤ k := List.length_take_le _ _
        omega
      generalize hs : ((ws.take k).map onesN).sum = s at hs1 ⊢
      have Hs := Lib.hid hs
      clear hb hs
      by_cases hlt : k < m
      · obtain ⟨b, off, x, rfl, c1, e1, l1⟩ := word_at ((H0.out.ext HB1.out).ext Hb.out) HF.out hlt
        have E1 := Lib.hid e1
        have L1 := Lib.hid l1
        have ho := onesN_le x
        clear e1 l1
        go_wp2_with fail
        refine (ones32_any x _ L1.out).mono ?_
        rintro e w2 ⟨rfl, hb2⟩
        have HB2 := Lib.hid hb2
        clear hb2
        go_wp2
        go_roundw
        case rel => exact ⟨k + 1, by omega, by go_num, by rw [sum_take_succ ws onesN k (by have := HL.out; omega), Hs.out, ← E1.out]; go_num, below_le Hb.out HB2.out⟩
        case measure => simp [intOf]; omega
      · go_wp2
        go_ret
        refine ⟨ret_int ?_, below_le (below_le HB.out HB1.out) Hb.out⟩
        rw [HH.out, ← Hs.out, List.take_of_length_le (by have := HL.out; omega)]

end Go.Proofs.YtelbddnjnapoeaaDoor
