/-
  What is proved: the contract of numbers of the reference of descriptors. No condition beyond those stated.
-/
import Derived.Test.YtmabokmnniiadaaGreatDoorIt
import Derived.Test.YtmabokmnniiadaaGreatDoorC4
import Derived.Test.YtmabokmnniiadaaGreatDoorRi
import Derived.Test.YtmabokmnniiadaaGreatDoorPush
namespace Go.Proofs.YtmabokmnniiadaaGreatDoor
open Go.RowKit

/-! ### The numbers so far -/
def numsK (l : List UInt8) (k : Nat) : List Int × Bool := (l.take k).foldl numStep ([], false)
theorem numsK_zero (l : List UInt8) : numsK l 0 = ([], false) := rfl
theorem numsK_succ {l : List UInt8} {k : Nat} {c : UInt8} (h : l[k]? = some c) : numsK l (k + 1) = numStep (numsK l k) c := by
  unfold numsK
  rw [List.take_add_one, h, Option.toList_some, List.foldl_append]
  rfl
theorem numsK_all {l : List UInt8} {k : Nat} (h : l.length ≤ k) : (numsK l k).1 = numsOf l := by
  unfold numsK numsOf
  rw [List.take_of_length_le h]
theorem step_flag (a : List Int × Bool) (c : UInt8) : (numStep a c).2 = isDig c := by
  unfold numStep
  split
  · rename_i h
    split <;> exact h.symm
  · rename_i h
    simpa using h
theorem numsK_inv {l : List UInt8} : ∀ k, k ≤ l.length → ((numsK l k).2 = true → 1 ≤ (numsK l k).1.length) ∧ (∀ x ∈ (numsK l k).1, 0 ≤ x ∧ x ≤ 10000) ∧ (numsK l k).1.length ≤ k
  | 0, _ => ⟨fun h => by simp [numsK] at h, fun x h => by simp [numsK] at h, by simp [numsK]⟩
  | k + 1, hk => by
    obtain ⟨h1, h2, h3⟩ := numsK_inv (l := l) k (by omega)
    have hc : l[k]? = some l[k] := List.getElem?_eq_getElem (by omega)
    rw [numsK_succ hc]
    generalize numsK l k = a at *
    obtain ⟨L, b⟩ := a
    generalize l[k] = c at *
    unfold numStep
    by_cases hd : isDig c = true
    · rw [if_pos hd]
      have hc2 : 48 ≤ c.toNat ∧ c.toNat ≤ 57 := by simpa [isDig] using hd
      by_cases hb : b = true
      · rw [if_pos hb]
        have hL := h1 hb
        simp only at hL h2 h3 ⊢
        refine ⟨fun _ => by simpa [setLast] using hL, fun x hx => ?_, by simp [setLast]; omega⟩
        rcases List.mem_or_eq_of_mem_set hx with hx | rfl
        · exact h2 x hx
        · have h0 : 0 ≤ L.getD (L.length - 1) 0 := by
            rw [List.getD_eq_getElem?_getD, List.getElem?_eq_getElem (by omega)]
            exact (h2 _ (List.getElem_mem _)).1
          omega
      · rw [if_neg hb]
        simp only at h2 h3 ⊢
        refine ⟨fun _ => by simp, fun x hx => ?_, by simp; omega⟩
        rcases List.mem_append.1 hx with hx | hx
        · exact h2 x hx
        · rw [List.mem_singleton.1 hx]
          omega
    · rw [if_neg hd]
      exact ⟨fun h => (by cases h), h2, by simp only at h3 ⊢; omega⟩

/-- One cell of an owned row, read and written. -/
theorem owns_at {w : World} {base : Nat} {e : TypeId} {v : Value} {n k : Nat} {xs : List Value} (h : w.ownsRow base e 1 v n xs) (hk : k < n) :
    ∃ g cap u, v = .slice (some ⟨g, 0, none⟩) n cap ∧ base ≤ g ∧ w.cell? ⟨g, k, none⟩ = some u ∧ xs[k]? = some u ∧ w.frozen? ⟨g, k, none⟩ = false ∧ ∀ y, (w.setCell ⟨g, k, none⟩ y).ownsRow base e 1 v n (xs.set k y) := by
  obtain ⟨hl, ⟨_, h0⟩ | ⟨g, cap, cur, rfl, hg, hb, h1, h2, h3, h4⟩⟩ := h
  · omega
  · have hB : Blk w g e cur := hb
    have hkc : k < cur.size := by omega
    have hxk : xs[k]? = some cur[k] := by
      rw [← h4, List.getElem?_take, if_pos (by omega)]
      simp [hkc]
    refine ⟨g, cap, cur[k], rfl, hg, ?_, hxk, hB.frozen k, fun y => ⟨by simpa using hl, .inr ⟨g, cap, _, rfl, hg, hB.set_ k y, h1, h2, by simpa using h3, ?_⟩⟩⟩
    · rw [hB.cell]
      simp [hkc]
    · rw [← h4]
      simp [List.take_set]

theorem index_str (s : ByteArray) (k : Nat) (h : k < s.size) : s.data.toList[k]? = some s[k] ∧ ∀ W : World, (Instr.index 9 (.string s) (.int .i64 (k : Int))).run Tryz.prog W = .ok (.int .u8 (s[k].toNat : Nat)) W := by
  refine ⟨?_, fun W => ?_⟩
  · have h' : k < s.data.toList.length := by simpa using h
    rw [List.getElem?_eq_getElem h']
    rfl
  · rw [run_index_string W _ s _ _ Tryz.underlying9, dif_pos ⟨by omega, by omega⟩]
    rfl

/-- A list of numbers, handed back. -/
def GivesL8 (w : World) (L : List Int) (x : Ending) (w' : World) : Prop := ∃ A m c, x = .returned (.slice A m c) ∧ Row w' A m (L.map Iv) ∧ m ≤ c ∧ (∀ a, A = some a → w.heap.size ≤ a.block) ∧ Below w.heap.size w w'
theorem GivesL8.mk {w w' : World} {v : Value} {L : List Int} {n : Nat} (h : w'.ownsRow w.heap.size 3 1 v n (L.map Iv)) (hb : Below w.heap.size w w') : GivesL8 w L (.returned v) w' := by
  obtain ⟨hl, ⟨rfl, rfl⟩ | ⟨g, cap, cur, rfl, hg, hbk, h1, h2, h3, h4⟩⟩ := h
  · have : L = [] := by simpa using hl
    subst this
    exact ⟨none, 0, 0, rfl, Row.none_, Nat.le_refl _, (fun _ h => by cases h), hb⟩
  · have hB : Blk w' g 3 cur := hbk
    have hR := hB.row.take n (by omega)
    refine ⟨_, _, _, rfl, ?_, h1, (fun a e => by cases e; exact hg), hb⟩
    rw [← h4, Nat.mul_one]
    exact hR

theorem num_info8 : (Tryz.prog.info? 3).map (fun i => (i.zero, i.size, i.bytes)) = some (some (.int .i64 0), 1, 8) := by kernel_rfl
theorem stop_here8 {p : Prop} (h : True → p) : p := h trivial
end Go.Proofs.YtmabokmnniiadaaGreatDoor
