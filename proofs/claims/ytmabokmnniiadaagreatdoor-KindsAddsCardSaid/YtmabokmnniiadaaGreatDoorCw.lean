/-
  What is proved: the contract of half of package desc. No condition beyond those stated.
-/
import Derived.Test.YtmabokmnniiadaaGreatDoorBw
import Derived.Test.YtmabokmnniiadaaGreatDoorC3
import Derived.Test.YtmabokmnniiadaaGreatDoorRi
import Derived.Test.YtmabokmnniiadaaGreatDoorShelf
import Derived.Lib.SmallJoins
import Derived.Lib.ItoaLen
import Derived.Lib.AppendIntMem
namespace Go.Proofs.YtmabokmnniiadaaGreatDoor
open Go.RowKit Go.Sort

abbrev Tab (w : World) : Prop := Lib.TabIs Tryz.prog w "internal/strconv.uint64pow10" .u64 Lib.pow10Tab
theorem gP0 : Tryz.prog.globalNamed "internal/strconv.uint64pow10" = some 2 := by kernel_rfl
theorem tab_ext {w w' : World} (h : Tab w) (hb : Below w.heap.size w w') : Tab w' := Joins.tab_stays gP0 h hb (Nat.le_refl _)

theorem isBAt_grow {B b : Nat} {p : Value} {bs : List Value} {w : World} (h : IsBAt B b p bs w) (k : Nat) (os : Array Obj) : IsBAt B b p bs (grow (w.drewN k) os) := by
  have hlt := h.lt
  obtain ⟨hB, v, hb, hown, hne⟩ := h
  exact ⟨hB, v, (Lib.heap_grow_old w k os b hlt).trans hb, Lib.ownsRow_grow hown k os, hne⟩
theorem isB_grow {B b : Nat} {bs : List Value} {w : World} (h : IsB B b bs w) (k : Nat) (os : Array Obj) : IsB B b bs (grow (w.drewN k) os) := by
  rcases h with h | h
  · exact .inl (isBAt_grow h k os)
  · exact .inr (isBAt_grow h k os)

/-- strconv.Itoa, at a small number. -/
theorem itoa_any (z : Int) (h : 0 ≤ z ∧ z ≤ 1024) (w : World) (ht : Tab w) : Calls Tryz.prog 68 #[.int .i64 z] w fun e w' => e = .returned (.string ⟨(Lib.itoa z).toArray⟩) ∧ (∀ B b bs, IsB B b bs w → IsB B b bs w') ∧ Below w.heap.size w w' := by
  refine (Tryz.strconv_Itoa z (by omega) (by omega) w ht).mono ?_
  rintro e w' ⟨he, k, os, rfl⟩
  exact ⟨he, fun B b bs hb => isB_grow hb k os, Lib.below_grow _ w (Nat.le_refl _) k os⟩

/-! ### The text, as far as it is written -/
def halfK (z : Int) (ps : List Int) (k : Nat) : List UInt8 := Lib.itoa z ++ (58 :: wordsT ((ps.take k).map Lib.itoa))
theorem words_append : ∀ (a b : List (List UInt8)), wordsT (a ++ b) = wordsT a ++ wordsT b
  | [], _ => rfl
  | x :: a, b => by
    show 32 :: (x ++ wordsT (a ++ b)) = 32 :: (x ++ wordsT a) ++ wordsT b
    rw [words_append a b]
    simp
theorem halfK_succ {z : Int} {ps : List Int} {k : Nat} {x : Int} (h : ps[k]? = some x) : halfK z ps (k + 1) = halfK z ps k ++ (32 :: Lib.itoa x) := by
  unfold halfK
  rw [List.take_add_one, h, Option.toList_some, List.map_append, words_append]
  simp [wordsT]
theorem itoa_len {z : Int} (h : 0 ≤ z ∧ z ≤ 1024) : (Lib.itoa z).length ≤ 21 := Lib.itoa_length_le z (by omega) (by omega)
theorem halfK_len {z : Int} {ps : List Int} (hz : 0 ≤ z ∧ z ≤ 1024) (hp : smallB ps) : ∀ k, (halfK z ps k).length ≤ 22 + 22 * k
  | 0 => by
    have := itoa_len hz
    simp [halfK, wordsT]
    omega
  | k + 1 => by
    have h := halfK_len hz hp k
    by_cases hk : k < ps.length
    · rw [halfK_succ (List.getElem?_eq_getElem hk)]
      have := itoa_len (hp _ (List.getElem_mem hk))
      simp
      omega
    · have : halfK z ps (k + 1) = halfK z ps k := by
        unfold halfK
        rw [List.take_of_length_le (by omega), List.take_of_length_le (by omega)]
      rw [this]
      omega
theorem halfK_all {z : Int} {ps : List Int} {k : Nat} (h : ps.length ≤ k) : halfK z ps k = halfT z ps := by
  unfold halfK halfT
  rw [List.take_of_length_le h]
theorem cells_snoc (l : List UInt8) (c : UInt8) : Lib.byteCells l ++ [.int .u8 (c.toNat : Nat)] = Lib.byteCells (l ++ [c]) := by simp [Lib.byteCells]
theorem cells_text (l m : List UInt8) : Lib.byteCells l ++ Lib.strCells ⟨m.toArray⟩ = Lib.byteCells (l ++ m) := by rw [Lib.byteCells_append]; rfl

set_option maxRecDepth 100000 in
set_option maxHeartbeats 4000000 in
/-- half. -/
theorem half_any (z : Int) (A : Option Addr) (m c : Nat) (ps : List Int) (w : World) (hR : Row w A m (ps.map Iv)) (hz : 0 ≤ z ∧ z ≤ 1024) (hp : smallB ps) (hm : m ≤ 1000) (ht : Tab w) :
    Calls Tryz.prog 54 #[.int .i64 z, .slice A m c] w fun e w' => e = .returned (.string ⟨(halfT z ps).toArray⟩) ∧ Below w.heap.size w w' := by
  have hl := hR.1
  simp at hl
  have hfr := Lib.fresh_isBuilder 55 5 w
  have hb0 := below_box w (.cells #[.pointer none, .slice none 0 0] 55)
  have hsz := hb0.size
  have HI := Lib.hid hfr
  have HR := Lib.hid hR
  have HT := Lib.hid ht
  have HB := Lib.hid hb0
  have HP := Lib.hid hp
  have HZ := Lib.hid hz
  have HL := Lib.hid hl
  clear hfr hb0 hR ht hp hl
  go_enter Tryz.func54, Tryz.ntmps54
  go_wp2_with fail
  generalize w.alloc (.cells #[.pointer none, .slice none 0 0] 55) = W0 at *
  refine (itoa_any z HZ.out W0 (tab_ext HT.out HB.out)).mono ?_
  rintro x w1 ⟨rfl, hk1, hb1⟩
  replace HI := Lib.hid (hk1 _ _ _ HI.out)
  replace HB := Lib.hid (below_le HB.out hb1)
  clear hk1 hb1
  go_wp2_with fail
  refine (writeString_any w.heap.size w.heap.size [] ⟨(Lib.itoa z).toArray⟩ w1 HI.out (by have := itoa_len HZ.out; simp [ByteArray.size]; omega) HB.out.size).mono ?_
  rintro x w2 ⟨rfl, hi2, hb2⟩
  rw [show ([] : List Value) = Lib.byteCells [] from rfl, cells_text] at hi2
  replace HI := Lib.hid hi2
  replace HB := Lib.hid (HB.out.trans hb2)
  clear hi2 hb2
  go_wp2_with fail
  refine (writeByte_any w.heap.size w.heap.size _ 58 w2 HI.out (by have := itoa_len HZ.out; rw [Lib.byteCells_length]; simp; omega) HB.out.size).mono ?_
  rintro x w3 ⟨rfl, hi3, hb3⟩
  have hk0 : Lib.byteCells ([] ++ Lib.itoa z) ++ [.int .u8 (58 : Nat)] = Lib.byteCells (halfK z ps 0) := (cells_snoc _ 58).trans (by simp [halfK, wordsT])
  rw [hk0] at hi3
  replace HI := Lib.hid hi3
  replace HB := Lib.hid (HB.out.trans hb3)
  clear hi3 hb3 hk0
  go_wp2
  go_loopw [14] (fun i wr => ∃ k : Nat, k ≤ m ∧ i = .int .i64 k ∧ IsB w.heap.size w.heap.size (Lib.byteCells (halfK z ps k)) wr ∧ Below w.heap.size w wr) (fun i _ => m - (intOf i).toNat)
  case atStart => exact ⟨0, Nat.zero_le _, rfl, HI.out, HB.out⟩
  case round =>
    clear HI HB
    obtain ⟨k, hk, rfl, hi, hb⟩ := hrel
    have HI := Lib.hid hi
    have HB := Lib.hid hb
    clear hi hb
    by_cases hlt : k < m
    · obtain ⟨b1, o1, x, rfl, c1, e1, e2⟩ := num_at (HR.out.ext HB.out) hlt
      have HE := Lib.hid (halfK_succ (z := z) e2)
      have HX := Lib.hid (HP.out x (List.mem_of_getElem? e2))
      have HLN := Lib.hid (halfK_len HZ.out HP.out k)
      clear e1 e2
      go_wp2_with fail
      refine (writeByte_any w.heap.size w.heap.size _ 32 wr HI.out (by have := HLN.out; rw [Lib.byteCells_length]; omega) HB.out.size).mono ?_
      rintro y w4 ⟨rfl, hi4, hb4⟩
      rw [show Lib.byteCells (halfK z ps k) ++ [.int .u8 (32 : Nat)] = Lib.byteCells (halfK z ps k ++ [32]) from cells_snoc _ 32] at hi4
      replace HI := Lib.hid hi4
      replace HB := Lib.hid (HB.out.trans hb4)
      clear hi4 hb4 c1
      go_wp2_with fail
      refine (itoa_any x HX.out w4 (tab_ext HT.out HB.out)).mono ?_
      rintro y w5 ⟨rfl, hk5, hb5⟩
      replace HI := Lib.hid (hk5 _ _ _ HI.out)
      replace HB := Lib.hid (below_le HB.out hb5)
      clear hk5 hb5
      go_wp2_with fail
      refine (writeString_any w.heap.size w.heap.size _ ⟨(Lib.itoa x).toArray⟩ w5 HI.out (by have := itoa_len HX.out; have := HLN.out; rw [Lib.byteCells_length]; simp [ByteArray.size]; omega) HB.out.size).mono ?_
      rintro y w6 ⟨rfl, hi6, hb6⟩
      rw [cells_text, List.append_assoc, List.singleton_append, ← HE.out] at hi6
      replace HI := Lib.hid hi6
      replace HB := Lib.hid (HB.out.trans hb6)
      clear hi6 hb6
      go_wp2
      go_roundw
      case rel => exact ⟨k + 1, by omega, by go_num, HI.out, HB.out⟩
      case measure => simp [intOf]; omega
    · have HE := Lib.hid (halfK_all (z := z) (ps := ps) (k := k) (by have := HL.out; omega))
      go_wp2_with fail
      rw [HE.out] at HI
      refine (Tryz.Builder_String_any w.heap.size w.heap.size _ wr HI.out HB.out.size).mono ?_
      rintro y w4 ⟨rfl, hb4⟩
      replace HB := Lib.hid (HB.out.trans hb4)
      clear hb4
      go_wp2
      go_ret
      exact ⟨rfl, HB.out⟩
end Go.Proofs.YtmabokmnniiadaaGreatDoor
