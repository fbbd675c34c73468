/-
  What is proved: contracts of small functions of package bits. No condition beyond those stated.
-/
import Derived.Test.YtelbddnjnapoeaaDoorBSpec
import Derived.Test.YtelbddnjnapoeaaDoorRows
import Derived.WalkSpells
import Derived.WalkLawsBesides
namespace Go.Proofs.YtelbddnjnapoeaaDoor
open Go.RowKit

set_option maxHeartbeats 400000 in
theorem wordsFor_any (n : Int) (w : World) (h0 : 0 ≤ n) (h1 : n ≤ 20000) :
    Calls Tryd.prog 52 #[.int .i64 n] w fun e w' => e = .returned (.int .i64 ((n + 31) / 32)) ∧ w = w' := by
  go_enter Tryd.func52, Tryd.ntmps52
  go_wp2
  go_ret
  exact ⟨ret_int (by omega), rfl⟩

theorem isOn_eq (x : Nat) (i : Int) (hx : x < 4294967296) : (bits .and .u32 ((x : Int) / 2 ^ (i % 32).toNat) 1 == 1) = x.testBit (i % 32).toNat := by
  generalize (i % 32).toNat = k
  have h1 : ((x : Int) / 2 ^ k) = ((x / 2 ^ k : Nat) : Int) := by simp
  have h2 := u32_and_nat (x / 2 ^ k) 1 (Nat.lt_of_le_of_lt (Nat.div_le_self _ _) hx) (by decide)
  rw [h1, show (1 : Int) = ((1 : Nat) : Int) from rfl, h2, ← and_one]
  rw [Bool.eq_iff_iff]
  simp
  omega

theorem word_at {A : Option Addr} {n : Nat} {ws : List Nat} {w : World} {k : Nat} (hR : Row w A n (ws.map U32)) (hF : Fits ws) (hk : k < n) :
    ∃ b off x, A = some ⟨b, off, none⟩ ∧ w.cell? ⟨b, off + k, none⟩ = some (.int .u32 ((x : Nat) : Int)) ∧ x = ws.getD k 0 ∧ x < 4294967296 := by
  obtain ⟨b, off, rfl, hc⟩ := hR.at_ (k := k) hk
  have hl := hR.1
  simp at hl
  refine ⟨b, off, ws[k]'(by omega), rfl, by simpa [U32] using hc, by simp [show k < ws.length by omega], hF _ (List.getElem_mem _)⟩

set_option maxHeartbeats 400000 in
theorem isOn_any (A : Option Addr) (n c : Nat) (ws : List Nat) (i : Int) (w : World) (hR : Row w A n (ws.map U32)) (hF : Fits ws) (h0 : 0 ≤ i) (h1 : i / 32 < n) (hi : i ≤ 100000) :
    Calls Tryd.prog 56 #[.slice A n c, .int .i64 i] w fun e w' => e = .returned (.bool (tb ws i.toNat)) ∧ w = w' := by
  obtain ⟨b, off, x, rfl, hc, hx, hlt⟩ := word_at (k := (i / 32).toNat) hR hF (by omega)
  have Hx := Lib.hid hx
  have Hl := Lib.hid hlt
  clear hR hF hx hlt
  go_enter Tryd.func56, Tryd.ntmps56
  go_wp2
  go_ret
  refine ⟨ret_bool ?_, rfl⟩
  rw [isOn_eq x i Hl.out, Hx.out, tb]
  congr 1
  · congr 1; omega
  · omega

theorem pow_lt32 (i : Int) : (2 : Int) ^ (i % 32).toNat % 4294967296 = ((2 ^ (i % 32).toNat : Nat) : Int) ∧ 2 ^ (i % 32).toNat < 4294967296 := by
  have h : (i % 32).toNat < 32 := by omega
  generalize (i % 32).toNat = k at h
  have h2 : 2 ^ k < 2 ^ 32 := Nat.pow_lt_pow_right (by decide) h
  have h3 : ((2 : Int) ^ k) = ((2 ^ k : Nat) : Int) := by simp
  rw [h3]
  generalize 2 ^ k = y at h2
  have h2' : y < 4294967296 := h2
  omega

theorem getD_set (ws : List Nat) (k x : Nat) (hk : k < ws.length) : (ws.set k x).getD k 0 = x := by
  simp [hk]

set_option maxHeartbeats 400000 in
theorem turn_any (A : Option Addr) (n c : Nat) (ws : List Nat) (i : Int) (on : Bool) (w : World) (hR : Row w A n (ws.map U32)) (hF : Fits ws) (h0 : 0 ≤ i) (h1 : i / 32 < n) (hi : i ≤ 100000)
    (hf : ∀ b off, A = some ⟨b, off, none⟩ → w.frozen? ⟨b, off + i.toNat / 32, none⟩ = false) :
    Calls Tryd.prog 61 #[.slice A n c, .int .i64 i, .bool on] w fun e w' => e = .returned (.tuple #[]) ∧ ∃ b off, A = some ⟨b, off, none⟩ ∧ w' = w.setCell ⟨b, off + i.toNat / 32, none⟩ (U32 ((setW ws i.toNat on).getD (i.toNat / 32) 0)) := by
  have hl := hR.1
  simp at hl
  obtain ⟨b, off, x, rfl, hc, hx, hlt⟩ := word_at (k := (i / 32).toNat) hR hF (by omega)
  have hz := hf b off rfl
  have e1 : i.toNat / 32 = (i / 32).toNat := by omega
  have e2 : i.toNat % 32 = (i % 32).toNat := by omega
  rw [e1] at hz
  have Hx := Lib.hid hx
  have Hl := Lib.hid hlt
  have H1 := Lib.hid e1
  have H2 := Lib.hid e2
  have HL := Lib.hid hl
  clear hR hF hx hlt hf e1 e2 hl
  have hp := Lib.hid (pow_lt32 i)
  cases on
  · go_enter Tryd.func61, Tryd.ntmps61
    go_wp2
    go_end0
    refine ⟨rfl, b, off, rfl, ?_⟩
    rw [H1.out, setW, H1.out, H2.out, getD_set _ _ _ (by have := HL.out; omega), ← Hx.out, hp.out.1, u32_andNot_nat x _ Hl.out hp.out.2]
    rfl
  · go_enter Tryd.func61, Tryd.ntmps61
    go_wp2
    go_end0
    refine ⟨rfl, b, off, rfl, ?_⟩
    rw [H1.out, setW, H1.out, H2.out, getD_set _ _ _ (by have := HL.out; omega), ← Hx.out, hp.out.1, u32_or_nat x _ Hl.out hp.out.2]
    rfl

/-- What a box of bits holds, in whatever later world. -/
theorem box_cells {w : World} {t : TypeId} {v0 v1 : Value} : (∀ x : Ext (w.alloc (.cells #[v0, v1] t)), x.val.cell? ⟨w.heap.size, 0, none⟩ = some v0) ∧ (∀ x : Ext (w.alloc (.cells #[v0, v1] t)), x.val.cell? ⟨w.heap.size, 1, none⟩ = some v1) :=
  ⟨ext_cell (by simp [go_sem]), ext_cell (by simp [go_sem])⟩
theorem below_box (w : World) (o : Obj) : Below w.heap.size w (w.alloc o) := (Below.refl _ _).alloc (Nat.le_refl _) _

set_option maxHeartbeats 400000 in
theorem right_neg (A : Option Addr) (m c : Nat) (n : Int) (w : World) (h0 : n < 0) :
    Calls Tryd.prog 36 #[.agg #[.int .i64 n, .slice A m c]] w fun e w' => e = .returned (.bool false) ∧ Below w.heap.size w w' := by
  go_enter Tryd.func36, Tryd.ntmps36
  go_wp2
  refine wp_region_plan [(0, true), (1, true), (2, true), (3, true), (4, true), (5, true), (6, true), (7, true), (8, true), (9, true), (10, true), (11, true), (12, true), (13, true), (14, true), (15, true), (16, true)] (by kernel_rfl) (by kernel_rfl) ?_
  obtain ⟨hc0, hc1⟩ := box_cells (w := w) (t := 24) (v0 := .int .i64 n) (v1 := .slice A m c)
  repeat (first | (refine plan_skip rfl rfl ?_; go_frame) | (refine plan_soft rfl rfl (fun K hK => ?_); go_simp; first | (refine hK _ ?_; clear hK K) | (apply Exists.intro; refine ⟨fun x => ?_, hK _ ?_⟩; (· (fail)); clear hK K; try go_frame)))
  refine plan_nil fun w1 hb1 => ?_
  have hb := below_le (below_box w _) hb1
  go_wp2
  go_ret
  exact ⟨rfl, hb⟩

set_option maxHeartbeats 400000 in
theorem right_big (A : Option Addr) (m c : Nat) (n : Int) (w : World) (h0 : 20000 < n) :
    Calls Tryd.prog 36 #[.agg #[.int .i64 n, .slice A m c]] w fun e w' => e = .returned (.bool false) ∧ Below w.heap.size w w' := by
  have h00 : decide (n < 0) = false := by simp; omega
  go_enter Tryd.func36, Tryd.ntmps36
  go_wp2
  refine wp_region_plan [(0, true), (1, true), (2, true), (3, true), (4, true), (5, true), (6, true), (7, true), (8, true), (9, true), (10, true), (11, true), (12, true), (13, true), (14, true), (15, true), (16, true)] (by kernel_rfl) (by kernel_rfl) ?_
  obtain ⟨hc0, hc1⟩ := box_cells (w := w) (t := 24) (v0 := .int .i64 n) (v1 := .slice A m c)
  repeat (first | (refine plan_skip rfl rfl ?_; go_frame) | (refine plan_soft rfl rfl (fun K hK => ?_); go_simp; first | (refine hK _ ?_; clear hK K) | (apply Exists.intro; refine ⟨fun x => ?_, hK _ ?_⟩; (· (fail)); clear hK K; try go_frame)))
  refine plan_nil fun w1 hb1 => ?_
  have hb := below_le (below_box w _) hb1
  go_wp2
  go_ret
  exact ⟨rfl, hb⟩

set_option maxHeartbeats 400000 in
theorem right_len (A : Option Addr) (m c : Nat) (n : Int) (w : World) (h0 : 0 ≤ n) (h1 : n ≤ 20000) (hm : ¬ (m : Int) = (n + 31) / 32) :
    Calls Tryd.prog 36 #[.agg #[.int .i64 n, .slice A m c]] w fun e w' => e = .returned (.bool false) ∧ Below w.heap.size w w' := by
  have h00 : decide (n < 0) = false := by simp; omega
  have h01 : decide (20000 < n) = false := by simp; omega
  have h02 : ((m : Int) != (n + 31) / 32) = true := by simpa using hm
  clear hm
  go_enter Tryd.func36, Tryd.ntmps36
  go_wp2
  refine wp_region_plan [(0, true), (1, true), (2, true), (3, true), (4, true), (5, true), (6, true), (7, true), (8, true), (9, true), (10, true), (11, true), (12, true), (13, true), (14, true), (15, true), (16, true)] (by kernel_rfl) (by kernel_rfl) ?_
  obtain ⟨hc0, hc1⟩ := box_cells (w := w) (t := 24) (v0 := .int .i64 n) (v1 := .slice A m c)
  repeat (first | (refine plan_skip rfl rfl ?_; go_frame) | (refine plan_soft rfl rfl (fun K hK => ?_); go_simp; first | (refine hK _ ?_; clear hK K) | (apply Exists.intro; refine ⟨fun x => ?_, hK _ ?_⟩; (· (exact Calls.still (wordsFor_any _ _ h0 h1))); clear hK K; try go_frame)))
  refine plan_nil fun w1 hb1 => ?_
  have hb := below_le (below_box w _) hb1
  go_wp2
  go_ret
  exact ⟨rfl, hb⟩

set_option maxHeartbeats 400000 in
theorem right_even (A : Option Addr) (m c : Nat) (n : Int) (w : World) (h0 : 0 ≤ n) (h1 : n ≤ 20000) (hm : (m : Int) = (n + 31) / 32) (hu : n % 32 = 0) :
    Calls Tryd.prog 36 #[.agg #[.int .i64 n, .slice A m c]] w fun e w' => e = .returned (.bool true) ∧ Below w.heap.size w w' := by
  have h00 : decide (n < 0) = false := by simp; omega
  have h01 : decide (20000 < n) = false := by simp; omega
  have h02 : ((m : Int) != (n + 31) / 32) = false := by simpa using hm
  clear hm
  have h03 : (n % 32 != 0) = false := by simpa using hu
  clear hu
  go_enter Tryd.func36, Tryd.ntmps36
  go_wp2
  refine wp_region_plan [(0, true), (1, true), (2, true), (3, true), (4, true), (5, true), (6, true), (7, true), (8, true), (9, true), (10, true), (11, true), (12, true), (13, true), (14, true), (15, true), (16, true)] (by kernel_rfl) (by kernel_rfl) ?_
  obtain ⟨hc0, hc1⟩ := box_cells (w := w) (t := 24) (v0 := .int .i64 n) (v1 := .slice A m c)
  repeat (first | (refine plan_skip rfl rfl ?_; go_frame) | (refine plan_soft rfl rfl (fun K hK => ?_); go_simp; first | (refine hK _ ?_; clear hK K) | (apply Exists.intro; refine ⟨fun x => ?_, hK _ ?_⟩; (· (exact Calls.still (wordsFor_any _ _ h0 h1))); clear hK K; try go_frame)))
  refine plan_nil fun w1 hb1 => ?_
  have hb := below_le (below_box w _) hb1
  have k0 := hc0 ⟨w1, hb1⟩
  dsimp only at k0
  go_wp2
  go_ret
  exact ⟨rfl, hb⟩

theorem shr_zero (x k : Nat) : ((x : Int) / 2 ^ k == 0) = (x / 2 ^ k == 0) := by
  have h1 : ((x : Int) / 2 ^ k) = ((x / 2 ^ k : Nat) : Int) := by simp
  rw [h1, Bool.eq_iff_iff]
  simp only [beq_iff_eq]
  omega

set_option maxHeartbeats 400000 in
theorem right_odd (A : Option Addr) (m c : Nat) (n : Int) (ws : List Nat) (w : World) (h0 : 0 ≤ n) (h1 : n ≤ 20000) (hm : (m : Int) = (n + 31) / 32) (hu : ¬ n % 32 = 0) (hR : Row w A m (ws.map U32)) (hF : Fits ws) :
    Calls Tryd.prog 36 #[.agg #[.int .i64 n, .slice A m c]] w fun e w' => e = .returned (.bool (ws.getD (ws.length - 1) 0 / 2 ^ (n.toNat % 32) == 0)) ∧ Below w.heap.size w w' := by
  have h00 : decide (n < 0) = false := by simp; omega
  have h01 : decide (20000 < n) = false := by simp; omega
  have h02 : ((m : Int) != (n + 31) / 32) = false := by simpa using hm
  have h03 : (n % 32 != 0) = true := by simpa using hu
  have hm1 : 1 ≤ m := by omega
  have hm2 : m ≤ 700 := by omega
  have hl := hR.1
  simp at hl
  obtain ⟨b, off, x, rfl, hc, hx, hlt⟩ := word_at (k := m - 1) hR hF (by omega)
  have Hx := Lib.hid hx
  have Hl := Lib.hid hlt
  have HL := Lib.hid hl
  have Hm := Lib.hid hm
  clear hm hR hF hx hlt hl
  go_enter Tryd.func36, Tryd.ntmps36
  go_wp2
  refine wp_region_plan [(0, true), (1, true), (2, true), (3, true), (4, true), (5, true), (6, true), (7, true), (8, true), (9, true), (10, true), (11, true), (12, true), (13, true), (14, true), (15, true), (16, true)] (by kernel_rfl) (by kernel_rfl) ?_
  obtain ⟨hc0, hc1⟩ := box_cells (w := w) (t := 24) (v0 := .int .i64 n) (v1 := .slice (some ⟨b, off, none⟩) m c)
  have hb0 := below_box w (.cells #[.int .i64 n, .slice (some ⟨b, off, none⟩) m c] 24)
  repeat (first | (refine plan_skip rfl rfl ?_; go_frame) | (refine plan_soft rfl rfl (fun K hK => ?_); go_simp; first | (refine hK _ ?_; clear hK K) | (apply Exists.intro; refine ⟨fun x => ?_, hK _ ?_⟩; (· (exact Calls.still (wordsFor_any _ _ h0 h1))); clear hK K; try go_frame)))
  refine plan_nil fun w1 hb1 => ?_
  have hb := below_le hb0 hb1
  have k0 := hc0 ⟨w1, hb1⟩
  have k1 := hc1 ⟨w1, hb1⟩
  dsimp only at k0 k1
  have k2 := cell_ext hb hc
  clear hc0 hc1 hc
  go_wp2
  go_ret
  refine ⟨ret_bool ?_, hb⟩
  rw [HL.out, ← Hx.out, show n.toNat % 32 = (n % 32).toNat by omega]
  exact shr_zero _ _

/-- bits.Right, whatever the bits are. -/
theorem right_any (A : Option Addr) (m c : Nat) (n : Int) (ws : List Nat) (w : World) (hR : Row w A m (ws.map U32)) (hF : Fits ws) :
    Calls Tryd.prog 36 #[.agg #[.int .i64 n, .slice A m c]] w fun e w' => e = .returned (.bool (rightB n ws)) ∧ Below w.heap.size w w' := by
  have hl := hR.1
  simp at hl
  by_cases h0 : n < 0
  · rw [show rightB n ws = false by simp [rightB]; omega]
    exact right_neg A m c n w h0
  by_cases h1 : 20000 < n
  · rw [show rightB n ws = false by simp [rightB]; omega]
    exact right_big A m c n w h1
  by_cases h2 : (m : Int) = (n + 31) / 32
  · have e0 : decide (0 ≤ n) = true := by simp; omega
    have e1 : decide (n ≤ 20000) = true := by simp; omega
    have e2 : (ws.length == (n.toNat + 31) / 32) = true := by simp; omega
    by_cases h3 : n % 32 = 0
    · have e3 : (n.toNat % 32 == 0) = true := by simp; omega
      rw [show rightB n ws = true by simp only [rightB, e0, e1, e2, e3, Bool.and_self, Bool.true_or]]
      exact right_even A m c n w (by omega) (by omega) h2 h3
    · have e3 : (n.toNat % 32 == 0) = false := by simp; omega
      rw [show rightB n ws = (ws.getD (ws.length - 1) 0 / 2 ^ (n.toNat % 32) == 0) by simp only [rightB, e0, e1, e2, e3, Bool.true_and, Bool.false_or]]
      exact right_odd A m c n ws w (by omega) (by omega) h2 h3 hR hF
  · rw [show rightB n ws = false by simp [rightB]; omega]
    exact right_len A m c n w (by omega) (by omega) h2

end Go.Proofs.YtelbddnjnapoeaaDoor
