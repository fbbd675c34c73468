/-
  What is proved: contracts of those functions that this program has, and plain facts beside them. No condition beyond those stated.
-/
import Derived.Test.YtelbddnjnapoeaaDoorBh
import Derived.Test.YtelbddnjnapoeaaDoorTail
namespace Go.Proofs.YtelbddnjnapoeaaDoor
open Go.RowKit

/-- Behind k words. -/
def orTo (xs bs : List Nat) (k : Nat) : List Nat := orW (xs.take k) (bs.take k) ++ xs.drop k
theorem orTo_zero (xs bs : List Nat) : orTo xs bs 0 = xs := by simp [orTo, orW]
theorem orTo_all (xs bs : List Nat) (h : xs.length = bs.length) : orTo xs bs xs.length = orW xs bs := by
  simp [orTo, h]
  rw [← h]
  simp
theorem length_orTo (xs bs : List Nat) (k : Nat) (h : xs.length = bs.length) : (orTo xs bs k).length = xs.length := by
  simp [orTo, orW, h]
  omega
theorem orTo_get (xs bs : List Nat) (k : Nat) (ha : k < xs.length) (h : xs.length = bs.length) : (orTo xs bs k).getD k 0 = xs.getD k 0 := by
  have hl : (orW (xs.take k) (bs.take k)).length = k := by simp [orW]; omega
  simp only [orTo, List.getD_eq_getElem?_getD]
  rw [List.getElem?_append_right (by omega), hl]
  simp
theorem orTo_succ (xs bs : List Nat) (k : Nat) (ha : k < xs.length) (h : xs.length = bs.length) : orTo xs bs (k + 1) = (orTo xs bs k).set k (xs.getD k 0 ||| bs.getD k 0) := by
  have hb : k < bs.length := by omega
  have hl : (orW (xs.take k) (bs.take k)).length = k := by simp [orW]; omega
  unfold orTo
  rw [List.set_append_right _ _ (by omega), hl, Nat.sub_self, List.drop_eq_getElem_cons ha, List.set_cons_zero, List.take_succ_eq_append_getElem ha, List.take_succ_eq_append_getElem hb]
  have e : List.zipWith (· ||| ·) (xs.take k ++ [xs[k]]) (bs.take k ++ [bs[k]]) = List.zipWith (· ||| ·) (xs.take k) (bs.take k) ++ [xs[k] ||| bs[k]] := by
    rw [List.zipWith_append (by simp; omega)]
    rfl
  rw [orW, e, List.getD_eq_getElem?_getD, List.getD_eq_getElem?_getD, List.getElem?_eq_getElem ha, List.getElem?_eq_getElem hb, List.append_assoc]
  rfl
theorem fits_orW {xs bs : List Nat} (h : Fits xs) (k : Fits bs) : Fits (orW xs bs) := by
  intro x hx
  obtain ⟨i, hi, rfl⟩ := List.mem_iff_getElem.1 hx
  simp only [orW, List.getElem_zipWith]
  exact Nat.or_lt_two_pow (n := 32) (h _ (List.getElem_mem _)) (k _ (List.getElem_mem _))

theorem grown_set (w : World) (B k : Nat) (u : Value) : w.grownBy (w.setCell ⟨B, k, none⟩ u) (some B) :=
  ⟨rfl, rfl, rfl, by simp [World.setCell], fun i _ hi => Below.heap_setCell _ _ _ i (fun e => hi (by rw [e]))⟩



end Go.Proofs.YtelbddnjnapoeaaDoor
