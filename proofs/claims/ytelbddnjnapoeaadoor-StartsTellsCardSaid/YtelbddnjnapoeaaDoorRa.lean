/-
  What is proved: the contract of Same of the reference. No condition beyond those stated.
-/
import Derived.Test.YtelbddnjnapoeaaDoorBc
namespace Go.Proofs.YtelbddnjnapoeaaDoor
open Go.RowKit

set_option maxRecDepth 100000 in
set_option maxHeartbeats 2000000 in
/-- The reference's Same. -/
theorem refsame_any (A B : Option Addr) (n m : Int) (k c l d : Nat) (xs ys : List Nat) (w : World) (hA : Row w A k (xs.map U32)) (hB : Row w B l (ys.map U32)) (hF : Fits xs) (hG : Fits ys) (hn : k ≤ 1099511627776) (hm : l ≤ 1099511627776) :
    Calls Tryd.prog 15 #[.agg #[.int .i64 n, .slice A k c], .agg #[.int .i64 m, .slice B l d]] w fun e w' => e = .returned (.bool (sameB n xs m ys)) ∧ Below w.heap.size w w' := by
  have hx := hA.1
  have hy := hB.1
  simp at hx hy
  have hb0 : Below w.heap.size w ((w.alloc (.cells #[.int .i64 n, .slice A k c] 24)).alloc (.cells #[.int .i64 m, .slice B l d] 24)) := below_le (below_box _ _) (below_box _ _)
  have HA := Lib.hid (hA.ext hb0)
  have HB := Lib.hid (hB.ext hb0)
  have Hb0 := Lib.hid hb0
  clear hA hB hb0
  by_cases hnm : n = m
  · have hd : (n != m) = false := by simpa using hnm
    have HH : Hid (sameB n xs m ys = decide (xs = ys)) := Lib.hid (by simp [sameB, hnm])
    clear hnm
    by_cases he : k = l
    · subst he
      have hq : ((k : Int) != (k : Int)) = false := by simp
      have HX := Lib.hid hx
      have HY := Lib.hid hy
      clear hx hy
      have k1 : ((w.alloc (.cells #[.int .i64 n, .slice A k c] 24)).alloc (.cells #[.int .i64 m, .slice B k d] 24)).cell? ⟨w.heap.size, 1, none⟩ = some (.slice A k c) := by simp [go_sem]
      have k2 : ((w.alloc (.cells #[.int .i64 n, .slice A k c] 24)).alloc (.cells #[.int .i64 m, .slice B k d] 24)).cell? ⟨w.heap.size + 1, 1, none⟩ = some (.slice B k d) := by simp [go_sem]
      go_enter Tryd.func15, Tryd.ntmps15
      go_wp2
      generalize (w.alloc (.cells #[.int .i64 n, .slice A k c] 24)).alloc (.cells #[.int .i64 m, .slice B k d] 24) = W0 at *
      go_loopw [5] (fun i wr => ∃ j : Nat, j ≤ k ∧ i = .int .i64 j ∧ xs.take j = ys.take j ∧ Below W0.heap.size W0 wr) (fun i _ => k - (intOf i).toNat)
      case atStart => exact ⟨0, Nat.zero_le _, rfl, rfl, Below.refl _ _⟩
      case round =>
        obtain ⟨j, hj, rfl, ht, hb⟩ := hrel
        have HT := Lib.hid ht
        have Hb := Lib.hid hb
        have u1 := cell_ext hb k1
        clear ht hb
        by_cases hlt : j < k
        · obtain ⟨b1, o1, x, rfl, c1, e1, l1⟩ := word_at (HA.out.ext Hb.out) hF hlt
          obtain ⟨b2, o2, y, rfl, c2, e2, l2⟩ := word_at (HB.out.ext Hb.out) hG hlt
          have E1 := Lib.hid e1
          have E2 := Lib.hid e2
          clear e1 e2
          have t1 := fun z : Ext wr => ext_cell c1 z
          have t2 := fun z : Ext wr => ext_cell c2 z
          have v1 := fun z : Ext wr => ext_cell u1 z
          have v2 := fun z : Ext wr => ext_cell (cell_ext Hb.out k2) z
          clear c1 c2
          by_cases hxy : x = y
          · have hdd : ((x : Int) != (y : Int)) = false := by simp; omega
            have HXY := Lib.hid hxy
            clear hxy
            go_wp2
            refine wp_region_plan [(0, true), (1, true), (2, true), (3, true), (4, true), (5, true), (6, true), (7, true), (8, true), (9, true), (10, true)] (by kernel_rfl) (by kernel_rfl) ?_
            repeat (first | (refine plan_skip rfl rfl ?_; go_frame) | (refine plan_soft rfl rfl (fun K hK => ?_); go_simp; first | (refine hK _ ?_; clear hK K) | (apply Exists.intro; refine ⟨fun x => ?_, hK _ ?_⟩; (· (fail)); clear hK K; try go_frame)))
            refine plan_nil ?_; intro w1 h0b; have Hb1 := Lib.hid h0b; clear h0b
            clear t1 t2 v1 v2
            go_wp2
            go_roundw
            case rel => exact ⟨j + 1, by omega, by go_num, (take_eq_succ (by have := HX.out; omega) (by have := HY.out; omega) HT.out).2 (by rw [← E1.out, ← E2.out]; exact HXY.out), below_le Hb.out Hb1.out⟩
            case measure => simp [intOf]; omega
          · have hdd : ((x : Int) != (y : Int)) = true := by simp; omega
            have HXY := Lib.hid hxy
            clear hxy
            go_wp2
            refine wp_region_plan [(0, true), (1, true), (2, true), (3, true), (4, true), (5, true), (6, true), (7, true), (8, true), (9, true), (10, true)] (by kernel_rfl) (by kernel_rfl) ?_
            repeat (first | (refine plan_skip rfl rfl ?_; go_frame) | (refine plan_soft rfl rfl (fun K hK => ?_); go_simp; first | (refine hK _ ?_; clear hK K) | (apply Exists.intro; refine ⟨fun x => ?_, hK _ ?_⟩; (· (fail)); clear hK K; try go_frame)))
            refine plan_nil ?_; intro w1 h0b; have Hb1 := Lib.hid h0b; clear h0b
            clear t1 t2 v1 v2
            go_wp2
            go_ret
            refine ⟨ret_bool ?_, below_le Hb0.out (below_le Hb.out Hb1.out)⟩
            have hne : ¬ xs = ys := fun e => HXY.out (by rw [E1.out, E2.out, e])
            rw [HH.out]
            simp [hne]
        · go_wp2
          go_ret
          refine ⟨ret_bool ?_, below_le Hb0.out Hb.out⟩
          have h1 := HT.out
          rw [List.take_of_length_le (by have := HX.out; omega), List.take_of_length_le (by have := HY.out; omega)] at h1
          rw [HH.out]
          simp [h1]
    · have hq : ((k : Int) != (l : Int)) = true := by simp; omega
      have hne : ¬ xs = ys := fun e => he (by rw [← hx, ← hy, e])
      have HN := Lib.hid hne
      clear hne he hx hy
      go_enter Tryd.func15, Tryd.ntmps15
      go_wp2
      go_ret
      exact ⟨ret_bool (by rw [HH.out]; simp [HN.out]), Hb0.out⟩
  · have hd : (n != m) = true := by simpa using hnm
    have HH : Hid (sameB n xs m ys = false) := Lib.hid (by simp [sameB, hnm])
    clear hnm
    go_enter Tryd.func15, Tryd.ntmps15
    go_wp2
    go_ret
    exact ⟨ret_bool HH.out.symm, Hb0.out⟩

end Go.Proofs.YtelbddnjnapoeaaDoor
