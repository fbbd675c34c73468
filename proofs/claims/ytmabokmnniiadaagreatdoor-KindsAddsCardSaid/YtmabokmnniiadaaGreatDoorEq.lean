/-
  What is proved: the contract of slices.Equal at lists of numbers. No condition beyond those stated.
-/
import Derived.Test.YtmabokmnniiadaaGreatDoorRi
namespace Go.Proofs.YtmabokmnniiadaaGreatDoor
open Go.RowKit

set_option maxHeartbeats 1000000 in
theorem equal_any (A B : Option Addr) (n c m d : Nat) (xs ys : List Int) (w : World) (hA : Row w A n (xs.map Iv)) (hB : Row w B m (ys.map Iv)) (hn : n ≤ 1000) (hm : m ≤ 1000) :
    Calls Tryz.prog 50 #[.slice A n c, .slice B m d] w fun e w' => e = .returned (.bool (decide (xs = ys))) ∧ Below w.heap.size w w' := by
  have hx := hA.1
  have hy := hB.1
  simp at hx hy
  by_cases he : n = m
  · subst he
    have hq : ((n : Int) != (n : Int)) = false := by simp
    have HA := Lib.hid hA
    have HB := Lib.hid hB
    have HX := Lib.hid hx
    have HY := Lib.hid hy
    clear hA hB hx hy
    go_enter Tryz.func50, Tryz.ntmps50
    go_wp2
    go_loopw [13] (fun i wr => ∃ k : Nat, k ≤ n ∧ i = .int .i64 k ∧ xs.take k = ys.take k ∧ Below w.heap.size w wr) (fun i _ => n - (intOf i).toNat)
    case atStart => exact ⟨0, Nat.zero_le _, rfl, rfl, Below.refl _ _⟩
    case round =>
      obtain ⟨k, hk, rfl, ht, hb⟩ := hrel
      have HT := Lib.hid ht
      have Hb := Lib.hid hb
      clear ht hb
      by_cases hlt : k < n
      · obtain ⟨b1, o1, x, rfl, c1, e1, -⟩ := num_at (HA.out.ext Hb.out) hlt
        obtain ⟨b2, o2, y, rfl, c2, e2, -⟩ := num_at (HB.out.ext Hb.out) hlt
        have E1 := Lib.hid e1
        have E2 := Lib.hid e2
        clear e1 e2
        have t1 := fun z : Ext wr => ext_cell c1 z
        have t2 := fun z : Ext wr => ext_cell c2 z
        clear c1 c2
        by_cases hxy : x = y
        · have hd : (x != y) = false := by simpa using hxy
          have HXY := Lib.hid hxy
          clear hxy
          go_wp2
          refine wp_region_plan [(0, true), (1, true), (2, true), (3, true), (4, true), (5, true), (6, true), (7, true), (8, true)] (by kernel_rfl) (by kernel_rfl) ?_
          repeat (first | (refine plan_skip rfl rfl ?_; go_frame) | (refine plan_soft rfl rfl (fun K hK => ?_); go_simp; first | (refine hK _ ?_; clear hK K) | (apply Exists.intro; refine ⟨fun x => ?_, hK _ ?_⟩; (· (fail)); clear hK K; try go_frame)))
          refine plan_nil ?_; intro w1 h0b; have Hb1 := Lib.hid h0b; clear h0b
          clear t1 t2
          go_wp2
          go_roundw
          case rel => exact ⟨k + 1, by omega, by go_num, (take_eq_next (by have := HX.out; omega) (by have := HY.out; omega) HT.out).2 (by rw [E1.out, E2.out]; exact HXY.out), below_le Hb.out Hb1.out⟩
          case measure => simp [intOf]; omega
        · have hd : (x != y) = true := by simpa using hxy
          have HXY := Lib.hid hxy
          clear hxy
          go_wp2
          refine wp_region_plan [(0, true), (1, true), (2, true), (3, true), (4, true), (5, true), (6, true), (7, true), (8, true)] (by kernel_rfl) (by kernel_rfl) ?_
          repeat (first | (refine plan_skip rfl rfl ?_; go_frame) | (refine plan_soft rfl rfl (fun K hK => ?_); go_simp; first | (refine hK _ ?_; clear hK K) | (apply Exists.intro; refine ⟨fun x => ?_, hK _ ?_⟩; (· (fail)); clear hK K; try go_frame)))
          refine plan_nil ?_; intro w1 h0b; have Hb1 := Lib.hid h0b; clear h0b
          clear t1 t2
          go_wp2
          go_ret
          refine ⟨ret_bool ?_, below_le Hb.out Hb1.out⟩
          have hne : ¬ xs = ys := fun e => HXY.out (by rw [← E1.out, ← E2.out, e])
          simp [hne]
      · go_wp2
        go_ret
        refine ⟨ret_bool ?_, Hb.out⟩
        have h1 := HT.out
        rw [List.take_of_length_le (by have := HX.out; omega), List.take_of_length_le (by have := HY.out; omega)] at h1
        simp [h1]
  · have hq : ((n : Int) != (m : Int)) = true := by simp; omega
    have hne : ¬ xs = ys := fun e => he (by rw [← hx, ← hy, e])
    have HN := Lib.hid hne
    clear hne he hx hy hA hB
    go_enter Tryz.func50, Tryz.ntmps50
    go_wp2
    go_ret
    exact ⟨ret_bool (by simp [HN.out]), Below.refl _ _⟩

end Go.Proofs.YtmabokmnniiadaaGreatDoor
