/-
  What is proved: the contract of numeral of package desc. No condition beyond those stated.
-/
import Derived.Test.YtmabokmnniiadaaGreatDoorIt
import Derived.Test.YtmabokmnniiadaaGreatDoorC3
import Derived.Lib.OthersKept
namespace Go.Proofs.YtmabokmnniiadaaGreatDoor
open Go.RowKit

theorem bytes_drop (s : ByteArray) (pos : Nat) (h : pos < s.size) : s.data.toList.drop pos = s[pos] :: s.data.toList.drop (pos + 1) := by
  have h' : pos < s.data.toList.length := by simpa using h
  rw [List.drop_eq_getElem_cons h']
  rfl

/-- A number, and whether it is one. -/
def GivesNum (w : World) (o : Option Nat) (x : Ending) (w' : World) : Prop := x = .returned (.tuple #[.int .i64 (o.getD 0 : Nat), .bool o.isSome]) ∧ Below w.heap.size w w'
theorem GivesNum.mk {w w' : World} {o : Option Nat} {a : Int} {b : Bool} (h : a = (o.getD 0 : Nat)) (k : b = o.isSome) (hb : Below w.heap.size w w') : GivesNum w o (.returned (.tuple #[.int .i64 a, .bool b])) w' := ⟨by rw [h, k], hb⟩

theorem val_int {a b : Int} (h : a = b) : Value.int .i64 a = .int .i64 b := by rw [h]

set_option maxHeartbeats 4000000 in
theorem numeral_any (s : ByteArray) (w : World) (hs : s.size ≤ 1000000) :
    Calls Tryz.prog 87 #[.string s] w (GivesNum w (numT s.data.toList)) := by
  go_enter Tryz.func87, Tryz.ntmps87
  go_wp2
  go_loopw [4] (fun v wr => ∃ n pos : Nat, pos ≤ s.size ∧ n ≤ 1024 ∧ v = .int .i64 n ∧ wr.heap[w.heap.size]? = some (.stringIter s pos) ∧ Below w.heap.size w wr ∧ numT s.data.toList = numGo n (decide (0 < pos)) (s.data.toList.drop pos) ∧ (pos = 0 → n = 0)) (fun _ wr => s.size - wr.iterPos w.heap.size)
  case atStart =>
    exact ⟨0, 0, Nat.zero_le _, by omega, rfl, World.iter_heap w s 0, below_box _ _, rfl, fun _ => rfl⟩
  case round =>
    obtain ⟨n, pos, hpos, hn, rfl, hit, hb, hnum, hp0⟩ := hrel
    have HP0 := Lib.hid hp0
    clear hp0
    have hsz : w.heap.size < wr.heap.size := (Array.getElem?_eq_some_iff.1 hit).1
    have HB := Lib.hid hb
    by_cases hp : pos < s.size
    · rw [bytes_drop s pos hp] at hnum
      have hit2 := fun p => Lib.iterAt_heap wr w.heap.size s pos p hit
      have hb2 := fun p => Lib.below_iterAt hb (k := w.heap.size) (by omega) s p
      by_cases ha : (s[pos]'hp).toNat < 128
      · have hnx : ∀ ty, (Instr.next (.pointer (some ⟨w.heap.size, 0, none⟩)) true ty).run Tryz.prog wr = _ := fun ty => Lib.run_next_ascii_at wr w.heap.size s pos ty hit hp ha
        rw [numGo] at hnum
        generalize (s[pos]'hp).toNat = c at *
        have HN := Lib.hid hnum
        have HI := Lib.hid hit2
        have HB2 := Lib.hid hb2
        clear hnum hit2 hb2 hb
        by_cases h1 : c < 48
        · have hno := HN.out
          rw [if_pos (.inl h1)] at hno
          have HO := Lib.hid hno
          clear hno
          go_wp2
          go_ret2
          exact GivesNum.mk (by rw [HO.out]; rfl) (by rw [HO.out]; rfl) (HB2.out _)
        · by_cases h2 : 57 < c
          · have hno := HN.out
            rw [if_pos (.inr (.inl h2))] at hno
            have HO := Lib.hid hno
            clear hno
            go_wp2
            go_ret2
            exact GivesNum.mk (by rw [HO.out]; rfl) (by rw [HO.out]; rfl) (HB2.out _)
          · by_cases h3 : 0 < pos ∧ n = 0
            · obtain ⟨h3, rfl⟩ := h3
              have hno := HN.out
              rw [if_pos (.inr (.inr ⟨by simpa using h3, rfl⟩))] at hno
              have HO := Lib.hid hno
              clear hno
              go_wp2
              go_ret2
              exact GivesNum.mk (by rw [HO.out]; rfl) (by rw [HO.out]; rfl) (HB2.out _)
            · have hgo := HN.out
              rw [if_neg (by simp only [decide_eq_true_eq]; omega)] at hgo
              have h1' : 48 ≤ c := by omega
              have h2' : c ≤ 57 := by omega
              by_cases h4 : 1024 < 10 * n + (c - 48)
              · rw [if_pos h4] at hgo
                have HO := Lib.hid hgo
                have h4' : 1024 < 10 * (n : Int) + ((c : Int) - 48) := by omega
                clear hgo h4
                by_cases h5 : 0 < pos
                · have h6 : ((n : Int) == 0) = false := by rw [beq_eq_false_iff_ne]; omega
                  have h7 : (n == 0) = false := by rw [beq_eq_false_iff_ne]; omega
                  clear h3
                  go_wp2
                  go_ret2
                  exact GivesNum.mk (by rw [HO.out]; rfl) (by rw [HO.out]; rfl) (HB2.out _)
                · clear h3
                  go_wp2
                  go_ret2
                  exact GivesNum.mk (by rw [HO.out]; rfl) (by rw [HO.out]; rfl) (HB2.out _)
              · rw [if_neg h4] at hgo
                have HO := Lib.hid hgo
                have h4' : ¬ 1024 < 10 * (n : Int) + ((c : Int) - 48) := by omega
                have h4'' : 10 * (n : Int) + ((c : Int) - 48) ≤ 1024 := by omega
                clear hgo
                by_cases h5 : 0 < pos
                case' pos =>
                  have h6 : ((n : Int) == 0) = false := by rw [beq_eq_false_iff_ne]; omega
                  have h7 : (n == 0) = false := by rw [beq_eq_false_iff_ne]; omega
                all_goals
                  clear h3 h4
                  go_wp2
                  go_roundw
                  case rel => exact ⟨10 * n + (c - 48), pos + 1, by omega, by omega, val_int (by omega), HI.out _, HB2.out _, by rw [HO.out]; simp, fun h => absurd h (by omega)⟩
                  case measure =>
                    have h8 := HI.out (pos + 1)
                    simp only [World.iterPos, h8, hit]
                    omega
      · have hd := decode_high s pos hp (by omega)
        have hdl := decode_le s pos
        have hnx : ∀ ty, (Instr.next (.pointer (some ⟨w.heap.size, 0, none⟩)) true ty).run Tryz.prog wr = _ := fun ty => Lib.run_next_any_at wr w.heap.size s pos ty hit hp
        obtain ⟨hd1, hd2⟩ := hd
        rw [numGo, if_pos (.inr (.inl (by omega)))] at hnum
        generalize (Utf8.decode s pos).1 = d at *
        generalize (Utf8.decode s pos).2 = dw at *
        have HO := Lib.hid hnum
        have HI := Lib.hid hit2
        have HB2 := Lib.hid hb2
        have hd3 : ¬ d < 48 := by omega
        have hd4 : 57 < d := by omega
        clear hnum hit2 hb2 hb
        go_wp2
        go_ret2
        exact GivesNum.mk (by rw [HO.out]; rfl) (by rw [HO.out]; rfl) (HB2.out _)
    · have hnx : ∀ ty, (Instr.next (.pointer (some ⟨w.heap.size, 0, none⟩)) true ty).run Tryz.prog wr = _ := fun ty => Lib.run_next_end_at wr w.heap.size s pos ty hit hp
      have hd : s.data.toList.drop pos = [] := List.drop_eq_nil_of_le (by simp; omega)
      rw [hd, numGo] at hnum
      have HN := Lib.hid hnum
      clear hnum hd hb
      go_wp2
      go_ret2
      have hl : s.toList.isEmpty = decide (pos = 0) := by
        rw [ByteArray.toList_eq]
        have hz : s.data.toList.length = s.size := by simp
        cases hL : s.data.toList with
        | nil => rw [hL] at hz; simp at hz; simp; omega
        | cons a b => rw [hL] at hz; simp at hz; simp; omega
      by_cases h0 : pos = 0
      · exact GivesNum.mk (by rw [HN.out, HP0.out h0, h0]; rfl) (by rw [HN.out, hl, h0]; rfl) HB.out
      · have h1 : 0 < pos := by omega
        exact GivesNum.mk (by rw [HN.out, decide_eq_true h1]; rfl) (by rw [HN.out, hl, decide_eq_true h1, decide_eq_false h0]; rfl) HB.out

end Go.Proofs.YtmabokmnniiadaaGreatDoor
