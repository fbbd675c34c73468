/-
  What is proved: contracts of slices.Equal at []uint32, and of Same of package bits. No condition beyond those stated.
-/
import Derived.Test.YtpoopkieoidhjaaDoorBb
namespace Go.Proofs.YtpoopkieoidhjaaDoor
open Go.RowKit

theorem take_eq_succ {xs ys : List Nat} {k : Nat} (hx : k < xs.length) (hy : k < ys.length) (h : xs.take k = ys.take k) : xs.take (k + 1) = ys.take (k + 1) ↔ xs.getD k 0 = ys.getD k 0 := by
  rw [List.take_succ_eq_append_getElem hx, List.take_succ_eq_append_getElem hy, h]
  constructor
  · intro e
    have := List.append_cancel_left e
    simpa [hx, hy] using this
  · intro e
    have e' : xs[k] = ys[k] := by simpa [hx, hy] using e
    rw [e']

set_option maxHeartbeats 1000000 in
/-- slices.Equal of two lists of words. -/
theorem equal_any (A B : Option Addr) (n c m d : Nat) (xs ys : List Nat) (w : World) (hA : Row w A n (xs.map U32)) (hB : Row w B m (ys.map U32)) (hF : Fits xs) (hG : Fits ys) (hn : n ≤ 1099511627776) (hm : m ≤ 1099511627776) :
    Calls Tryd.prog 47 #[.slice A n c, .slice B m d] w fun e w' => e = .returned (.bool (decide (xs = ys))) ∧ Below w.heap.size w w' := by
  have hx := hA.1
  have hy := hB.1
  simp at hx hy
  by_cases he : n = m
  · subst he
    have hq : ((n : Int) != (n : Int)) = false := by simp
    have HA := Lib.hid hA
    have HB := Lib.hid hB
    have HX := Lib.hid hx
    have HY := Lib.hid hy
    clear hA hB hx hy
    go_enter Tryd.func47, Tryd.ntmps47
    go_wp2
    go_loopw [13] (fun i wr => ∃ k : Nat, k ≤ n ∧ i = .int .i64 k ∧ xs.take k = ys.take k ∧ Below w.heap.size w wr) (fun i _ => n - (intOf i).toNat)
    case atStart => exact ⟨0, Nat.zero_le _, rfl, rfl, Below.refl _ _⟩
    case round =>
      obtain ⟨k, hk, rfl, ht, hb⟩ := hrel
      have HT := Lib.hid ht
      have Hb := Lib.hid hb
      clear ht hb
      by_cases hlt : k < n
      · obtain ⟨b1, o1, x, rfl, c1, e1, l1⟩ := word_at (HA.out.ext Hb.out) hF hlt
        obtain ⟨b2, o2, y, rfl, c2, e2, l2⟩ := word_at (HB.out.ext Hb.out) hG hlt
        have E1 := Lib.hid e1
        have E2 := Lib.hid e2
        clear e1 e2
        have t1 := fun z : Ext wr => ext_cell c1 z
        have t2 := fun z : Ext wr => ext_cell c2 z
        clear c1 c2
        by_cases hxy : x = y
        · have hd : ((x : Int) != (y : Int)) = false := by simp; omega
          have HXY := Lib.hid hxy
          clear hxy
          go_wp2
          refine wp_region_plan [(0, true), (1, true), (2, true), (3, true), (4, true), (5, true), (6, true), (7, true), (8, true)] (by kernel_rfl) (by kernel_rfl) ?_
          repeat (first | (refine plan_skip rfl rfl ?_; go_frame) | (refine plan_soft rfl rfl (fun K hK => ?_); go_simp; first | (refine hK _ ?_; clear hK K) | (apply Exists.intro; refine ⟨fun x => ?_, hK _ ?_⟩; (· (fail)); clear hK K; try go_frame)))
          refine plan_nil ?_; intro w1 h0b; have Hb1 := Lib.hid h0b; clear h0b
          clear t1 t2
          go_wp2
          go_roundw
          case rel => exact ⟨k + 1, by omega, by go_num, (take_eq_succ (by have := HX.out; omega) (by have := HY.out; omega) HT.out).2 (by rw [← E1.out, ← E2.out]; exact HXY.out), below_le Hb.out Hb1.out⟩
          case measure => simp [intOf]; omega
        · have hd : ((x : Int) != (y : Int)) = true := by simp; omega
          have HXY := Lib.hid hxy
          clear hxy
          go_wp2
          refine wp_region_plan [(0, true), (1, true), (2, true), (3, true), (4, true), (5, true), (6, true), (7, true), (8, true)] (by kernel_rfl) (by kernel_rfl) ?_
          repeat (first | (refine plan_skip rfl rfl ?_; go_frame) | (refine plan_soft rfl rfl (fun K hK => ?_); go_simp; first | (refine hK _ ?_; clear hK K) | (apply Exists.intro; refine ⟨fun x => ?_, hK _ ?_⟩; (· (fail)); clear hK K; try go_frame)))
          refine plan_nil ?_; intro w1 h0b; have Hb1 := Lib.hid h0b; clear h0b
          clear t1 t2
          go_wp2
          go_ret
          refine ⟨ret_bool ?_, below_le Hb.out Hb1.out⟩
          have hne : ¬ xs = ys := fun e => HXY.out (by rw [E1.out, E2.out, e])
          simp [hne]
      · go_wp2
        go_ret
        refine ⟨ret_bool ?_, Hb.out⟩
        have h1 := HT.out
        rw [List.take_of_length_le (by have := HX.out; omega), List.take_of_length_le (by have := HY.out; omega)] at h1
        simp [h1]
  · have hq : ((n : Int) != (m : Int)) = true := by simp; omega
    have hne : ¬ xs = ys := fun e => he (by rw [← hx, ← hy, e])
    have HN := Lib.hid hne
    clear hne he hx hy hA hB
    go_enter Tryd.func47, Tryd.ntmps47
    go_wp2
    go_ret
    exact ⟨ret_bool (by simp [HN.out]), Below.refl _ _⟩

def sameB (n : Int) (xs : List Nat) (m : Int) (ys : List Nat) : Bool := (n == m) && decide (xs = ys)

set_option maxHeartbeats 400000 in
/-- bits.Same. -/
theorem same_any (A B : Option Addr) (n m : Int) (k c l d : Nat) (xs ys : List Nat) (w : World) (hA : Row w A k (xs.map U32)) (hB : Row w B l (ys.map U32)) (hF : Fits xs) (hG : Fits ys) (hn : k ≤ 1099511627776) (hm : l ≤ 1099511627776) :
    Calls Tryd.prog 25 #[.agg #[.int .i64 n, .slice A k c], .agg #[.int .i64 m, .slice B l d]] w fun e w' => e = .returned (.bool (sameB n xs m ys)) ∧ Below w.heap.size w w' := by
  have hb0 : Below w.heap.size w ((w.alloc (.cells #[.int .i64 n, .slice A k c] 24)).alloc (.cells #[.int .i64 m, .slice B l d] 24)) := below_le (below_box _ _) (below_box _ _)
  have HA := Lib.hid (hA.ext hb0)
  have HB := Lib.hid (hB.ext hb0)
  have Hb := Lib.hid hb0
  clear hA hB hb0
  by_cases he : n = m
  · have hd : (n == m) = true := by simpa using he
    have HH : Hid (sameB n xs m ys = decide (xs = ys)) := Lib.hid (by simp [sameB, he])
    clear he
    go_enter Tryd.func25, Tryd.ntmps25
    go_wp2_with fail
    refine (equal_any A B k c l d xs ys _ HA.out HB.out hF hG hn hm).mono ?_
    rintro e w1 ⟨rfl, hb1⟩
    have Hb1 := Lib.hid hb1
    clear hb1
    go_wp2
    go_ret
    exact ⟨ret_bool HH.out.symm, below_le Hb.out Hb1.out⟩
  · have hd : (n == m) = false := by simpa using he
    have HH : Hid (sameB n xs m ys = false) := Lib.hid (by simp [sameB, he])
    clear he
    go_enter Tryd.func25, Tryd.ntmps25
    go_wp2
    go_ret
    exact ⟨ret_bool HH.out.symm, Hb.out⟩

end Go.Proofs.YtpoopkieoidhjaaDoor
