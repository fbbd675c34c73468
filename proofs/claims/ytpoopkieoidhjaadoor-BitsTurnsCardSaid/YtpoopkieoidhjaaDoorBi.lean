/-
  What is proved: the contract of Either of package bits. No condition beyond those stated.
-/
import Derived.Test.YtpoopkieoidhjaaDoorBh
import Derived.Test.YtpoopkieoidhjaaDoorTail
namespace Go.Proofs.YtpoopkieoidhjaaDoor
open Go.RowKit

/-- Behind k words. -/
def orTo (xs bs : List Nat) (k : Nat) : List Nat := orW (xs.take k) (bs.take k) ++ xs.drop k
theorem orTo_zero (xs bs : List Nat) : orTo xs bs 0 = xs := by simp [orTo, orW]
theorem orTo_all (xs bs : List Nat) (h : xs.length = bs.length) : orTo xs bs xs.length = orW xs bs := by
  simp [orTo, h]
  rw [← h]
  simp
theorem length_orTo (xs bs : List Nat) (k : Nat) (h : xs.length = bs.length) : (orTo xs bs k).length = xs.length := by
  simp [orTo, orW, h]
  omega
theorem orTo_get (xs bs : List Nat) (k : Nat) (ha : k < xs.length) (h : xs.length = bs.length) : (orTo xs bs k).getD k 0 = xs.getD k 0 := by
  have hl : (orW (xs.take k) (bs.take k)).length = k := by simp [orW]; omega
  simp only [orTo, List.getD_eq_getElem?_getD]
  rw [List.getElem?_append_right (by omega), hl]
  simp
theorem orTo_succ (xs bs : List Nat) (k : Nat) (ha : k < xs.length) (h : xs.length = bs.length) : orTo xs bs (k + 1) = (orTo xs bs k).set k (xs.getD k 0 ||| bs.getD k 0) := by
  have hb : k < bs.length := by omega
  have hl : (orW (xs.take k) (bs.take k)).length = k := by simp [orW]; omega
  unfold orTo
  rw [List.set_append_right _ _ (by omega), hl, Nat.sub_self, List.drop_eq_getElem_cons ha, List.set_cons_zero, List.take_succ_eq_append_getElem ha, List.take_succ_eq_append_getElem hb]
  have e : List.zipWith (· ||| ·) (xs.take k ++ [xs[k]]) (bs.take k ++ [bs[k]]) = List.zipWith (· ||| ·) (xs.take k) (bs.take k) ++ [xs[k] ||| bs[k]] := by
    rw [List.zipWith_append (by simp; omega)]
    rfl
  rw [orW, e, List.getD_eq_getElem?_getD, List.getD_eq_getElem?_getD, List.getElem?_eq_getElem ha, List.getElem?_eq_getElem hb, List.append_assoc]
  rfl
theorem fits_orW {xs bs : List Nat} (h : Fits xs) (k : Fits bs) : Fits (orW xs bs) := by
  intro x hx
  obtain ⟨i, hi, rfl⟩ := List.mem_iff_getElem.1 hx
  simp only [orW, List.getElem_zipWith]
  exact Nat.or_lt_two_pow (n := 32) (h _ (List.getElem_mem _)) (k _ (List.getElem_mem _))

theorem grown_set (w : World) (B k : Nat) (u : Value) : w.grownBy (w.setCell ⟨B, k, none⟩ u) (some B) :=
  ⟨rfl, rfl, rfl, by simp [World.setCell], fun i _ hi => Below.heap_setCell _ _ _ i (fun e => hi (by rw [e]))⟩

theorem enters45 : ∀ args W, (callFunc 45 args).run Tryd.prog W = .ok (.enter 45 args) W := fun args W => by simp [go_sem]

set_option maxHeartbeats 1000000 in
theorem either1_changes (m : Nat) (xs bs : List Nat) (bb : Nat) (A : Option Addr) (c : Nat) (w : World) (hF : Fits xs) (hG : Fits bs) (hm : xs.length = m) (hm2 : bs.length = m) (hmm : m ≤ 700)
    (c1 : w.cell? ⟨bb, 1, none⟩ = some (.slice A m c)) (hR : Row w A m (bs.map U32)) :
    Changes 45 #[.pointer (some ⟨bb, 0, none⟩)] m xs (orW xs bs) w := by
  intro W B hb hB hK
  have HB := Lib.hid hb
  have HK := Lib.hid hK
  have HR := Lib.hid hR
  have H1 := Lib.hid hm
  have H2 := Lib.hid hm2
  have HC := Lib.hid c1
  clear hb hK hR hm hm2 c1
  simp only [List.append_toArray, List.cons_append, List.nil_append]
  go_enter Tryd.func45, Tryd.ntmps45
  go_wp2
  go_loopw [6] (fun i wr => ∃ k : Nat, k ≤ m ∧ i = .int .i64 k ∧ Blk wr B 47 ((orTo xs bs k).map U32).toArray ∧ W.grownBy wr (some B)) (fun i _ => m - (intOf i).toNat)
  case atStart => exact ⟨0, Nat.zero_le _, rfl, by rw [orTo_zero]; exact HK.out, World.grownBy.refl _ _⟩
  case round =>
    obtain ⟨k, hk, rfl, hbk, hg⟩ := hrel
    have HBK := Lib.hid hbk
    have HG := Lib.hid hg
    clear hbk hg
    by_cases hlt : k < m
    · have hbel : Below w.heap.size w wr := HB.out.trans (below_grown HG.out hB HB.out.size)
      have c1 := cell_ext hbel HC.out
      obtain ⟨b2, o2, y, rfl, c2, e2, l2⟩ := word_at (HR.out.ext hbel) hG hlt
      have c3 := HBK.out.cell k
      have f3 := HBK.out.frozen k
      have hka : k < xs.length := by have := H1.out; omega
      have hx : ((orTo xs bs k).map U32).toArray[k]? = some (.int .u32 ((xs.getD k 0 : Nat) : Int)) := by
        have h1 := orTo_get xs bs k hka (by rw [H1.out, H2.out])
        have h2 : k < (orTo xs bs k).length := by rw [length_orTo _ _ _ (by rw [H1.out, H2.out])]; exact hka
        simp [h2] at h1 ⊢
        rw [h1]
        rfl
      rw [hx] at c3
      have lx := getD_lt hF k
      generalize hxe : xs.getD k 0 = x at c3 lx
      have HX := Lib.hid hxe
      have E2 := Lib.hid e2
      have LX := Lib.hid lx
      have L2 := Lib.hid l2
      clear hxe e2 hx hbel lx l2 hF hG
      go_wp2
      refine wp_region_tail 11 (by kernel_rfl) (by kernel_rfl) ?_; simp only [List.take_succ_cons, List.take_zero, List.drop_succ_cons, List.drop_zero]
      have t1 := ext_cell c1
      have t2 := ext_cell c2
      have t3 := ext_cell c3
      repeat (first | (refine head_skip rfl ?_; go_frame) | (refine head_soft rfl (fun K hK => ?_); go_simp; first | (refine hK _ ?_; clear hK K) | (apply Exists.intro; refine ⟨fun x => ?_, hK _ ?_⟩; (· (fail)); clear hK K; try go_frame)))
      refine head_nil fun w2 hb2 => ?_
      have hbk2 := HBK.out.ext hb2
      have d3 := cell_ext hb2 c3
      have f4 := hbk2.frozen k
      have HBK2 := Lib.hid hbk2
      have Hb2 := Lib.hid hb2
      clear hbk2 hb2 t1 t2 t3 c1 c2 c3 f3
      go_wp2
      go_roundw
      case rel =>
        refine ⟨k + 1, by omega, by go_num, ?_, ?_⟩
        · have h1 := HBK2.out.set_ k (U32 (xs.getD k 0 ||| bs.getD k 0))
          rw [HX.out, ← E2.out] at h1
          rw [u32_or_nat x y LX.out L2.out, orTo_succ xs bs k hka (by rw [H1.out, H2.out]), HX.out, ← E2.out]
          have e : ((orTo xs bs k).map U32).toArray.setIfInBounds k (U32 (x ||| y)) = (((orTo xs bs k).set k (x ||| y)).map U32).toArray := by simp [List.map_set]
          rw [e] at h1
          exact h1
        · have h2 : wr.grownBy w2 (some B) := ⟨Hb2.out.os, Hb2.out.tape, Hb2.out.output, Hb2.out.size, fun i hi _ => Hb2.out.block i hi⟩
          exact (HG.out.trans h2).trans (grown_set w2 B k _)
      case measure => simp [intOf]; omega
    · go_wp2
      go_end0
      obtain rfl : k = m := by omega
      refine ⟨rfl, ?_, HG.out⟩
      have h := HBK.out
      rw [← H1.out, orTo_all _ _ (by rw [H1.out, H2.out])] at h
      exact h

end Go.Proofs.YtpoopkieoidhjaaDoor
