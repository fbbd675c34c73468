/-
  What is proved: what the walk of Parse of the reference of descriptors needs. No condition beyond those stated.
-/
import Derived.Test.YtmabokmnniiadaaGreatDoorC9
import Derived.Test.YtmabokmnniiadaaGreatDoorCz
import Derived.Test.YtmabokmnniiadaaGreatDoorCp
namespace Go.Proofs.YtmabokmnniiadaaGreatDoor
open Go.RowKit

/-! ### The plain law -/
def refAtT (a b s : List UInt8) : Option Dsc :=
  match numsOf a, numsOf b with
  | z :: ps, e :: es => if dRight z ps e es = true ∧ printT z ps e es = s then some (z, ps, e, es) else none
  | _, _ => none
theorem ref_at {l : List UInt8} {k : Nat} (h : l[k]? = some 59) (hn : (59 : UInt8) ∉ l.take k) : refReadT l = refAtT (l.take k) (l.drop k) l := by
  have hk : k < l.length := (List.getElem?_eq_some_iff.1 h).1
  have hd : l.drop k = 59 :: l.drop (k + 1) := by
    rw [List.drop_eq_getElem_cons hk]
    congr 1
    rw [List.getElem?_eq_getElem hk] at h
    exact Option.some.inj h
  have hm : (59 : UInt8) ∈ l := List.mem_of_getElem? h
  have he : l = l.take k ++ 59 :: l.drop (k + 1) := by rw [← hd, List.take_append_drop]
  obtain ⟨h1, h2⟩ := take_no (b := l.drop (k + 1)) hn
  rw [← he, ← hd] at h2
  rw [← he] at h1
  unfold refReadT refAtT
  rw [if_pos hm, h1, h2]
  cases numsOf (l.take k) with
  | nil => rfl
  | cons z ps => cases numsOf (l.drop k) <;> rfl
theorem ref_no {l : List UInt8} (h : (59 : UInt8) ∉ l) : refReadT l = none := by
  unfold refReadT
  rw [if_neg h]
theorem take_more {l : List UInt8} {k : Nat} {c : UInt8} (h : l[k]? = some c) (hc : c ≠ 59) (hn : (59 : UInt8) ∉ l.take k) : (59 : UInt8) ∉ l.take (k + 1) := by
  rw [List.take_add_one, h, Option.toList_some]
  intro hm
  rcases List.mem_append.1 hm with hm | hm
  · exact hn hm
  · exact hc (List.mem_singleton.1 hm).symm
theorem nums_len (l : List UInt8) : (numsOf l).length ≤ l.length := by
  rw [← numsK_all (Nat.le_refl _)]
  exact (numsK_inv l.length (Nat.le_refl _)).2.2

/-- The two parts of a text. -/
theorem str_parts (s : ByteArray) (k : Nat) (h : k ≤ s.size) : ∃ s1 s2 : ByteArray, (∀ W : World, (Instr.slice 9 (.string s) none (some (.int .i64 (k : Int))) none).run Tryz.prog W = .ok (.string s1) W) ∧ (∀ W : World, (Instr.slice 9 (.string s) (some (.int .i64 (k : Int))) none none).run Tryz.prog W = .ok (.string s2) W) ∧
    s1.data.toList = s.data.toList.take k ∧ s2.data.toList = s.data.toList.drop k ∧ s1.size ≤ s.size ∧ s2.size ≤ s.size := by
  refine ⟨s.extract 0 k, s.extract k s.size, fun W => ?_, fun W => ?_, ?_, ?_, ?_, ?_⟩
  · rw [run_slice_string_to_if W _ _ _ _ Tryz.underlying9, if_pos ⟨by omega, by omega⟩]
    rfl
  · rw [run_slice_string_from_if W _ _ _ _ Tryz.underlying9, if_pos ⟨by omega, by omega⟩]
    rfl
  · rw [ByteArray.data_extract]
    simp
  · rw [ByteArray.data_extract]
    simp
    rw [List.take_of_length_le]
    show (List.drop k s.data.toList).length ≤ s.size - k
    simp
  · rw [ByteArray.size_extract]; omega
  · rw [ByteArray.size_extract]; omega

/-- A list without its first number. -/
theorem tail_slice {w : World} {A : Option Addr} {n c b : Nat} {x : Int} {l : List Int} (hR : Row w A (n + 1) ((x :: l).map Iv)) (hc : n + 1 ≤ c) (hA : ∀ a, A = some a → b ≤ a.block) : ∃ A' : Option Addr, (∀ W : World, (Instr.slice 33 (.slice A (n + 1) c) (some (.int .i64 1)) none none).run Tryz.prog W = .ok (.slice A' n (c - 1)) W) ∧ Row w A' n (l.map Iv) ∧ (∀ a, A' = some a → b ≤ a.block) := by
  have hl := hR.1
  obtain ⟨g, off, rfl, hcell⟩ := hR.2 (by omega)
  simp at hl
  by_cases h1 : c = 1
  · refine ⟨some ⟨g, off, none⟩, fun W => ?_, ⟨by simpa using hl, fun h => absurd h (by omega)⟩, hA⟩
    subst h1
    obtain rfl : n = 0 := by omega
    go_simp
  · refine ⟨some ⟨g, off + 1, none⟩, fun W => ?_, ⟨by simpa using hl, fun h => ⟨g, off + 1, rfl, fun j u hu => ?_⟩⟩, fun a e => by cases e; exact hA ⟨g, off, none⟩ rfl⟩
    · have h1' : ¬ (c = 1) := h1
      go_simp
      intro h
      omega
    · have := hcell (j + 1) u (by simpa using hu)
      rw [show off + 1 + j = off + (j + 1) by omega]
      exact this
end Go.Proofs.YtmabokmnniiadaaGreatDoor
