/-
  What is proved: contracts of Few and shown of the laws. No condition beyond those stated.
-/
import Derived.Test.YtncopnknjohplaaDoorNh
namespace Go.Proofs.YtncopnknjohplaaDoor
open Go.RowKit Go.Shelf

theorem Row.cut {w : World} {A : Option Addr} {m : Nat} {xs : List Value} (h : Row w A m xs) (k : Nat) (hk : k ≤ m) : Row w A k (xs.take k) := by
  refine ⟨by have := h.1; simp; omega, fun h0 => ?_⟩
  obtain ⟨b, off, e, hc⟩ := h.2 (by omega)
  exact ⟨b, off, e, fun j u hu => hc j u (by rw [List.getElem?_take] at hu; split at hu <;> simp_all)⟩
theorem row_few {w : World} {A : Option Addr} {m : Nat} {l : List Int} (h : Row w A m (l.map Iv)) : Row w A (min m 34) ((l.take 34).map Iv) := by
  have h1 := h.cut (min m 34) (Nat.min_le_left _ _)
  have hl := h.1
  simp at hl
  rw [← List.map_take, Nat.min_comm, ← List.take_take, List.take_of_length_le (l := l) (by omega), Nat.min_comm] at h1
  exact h1

set_option maxHeartbeats 400000 in
theorem few_any (A : Option Addr) (m c : Nat) (w : World) (hc : m ≤ c) :
    Calls Tryd.prog 10 #[.slice A m c] w fun e w' => (e = .returned (.slice A (min m 34) c)) ∧ w = w' := by
  by_cases h : 34 < (m : Int)
  · have hm : min m 34 = 34 := by omega
    rw [hm]
    have hcc : (34 : Int) ≤ c := by omega
    clear hm
    go_enter Tryd.func10, Tryd.ntmps10
    go_wp2
    go_ret
    exact ⟨rfl, rfl⟩
  · have hm : min m 34 = m := by omega
    rw [hm]
    clear hm
    go_enter Tryd.func10, Tryd.ntmps10
    go_wp2
    go_ret
    exact ⟨rfl, rfl⟩

theorem run_six (a b c d e f : Int) (W : World) :
    (Instr.buildSlice 22 6 #[(0, .int .i64 a), (1, .int .i64 b), (2, .int .i64 c), (3, .int .i64 d), (4, .int .i64 e), (5, .int .i64 f)]).run Tryd.prog W = .ok (.slice (some ⟨W.heap.size, 0, none⟩) 6 6) (W.alloc (.cells #[.int .i64 a, .int .i64 b, .int .i64 c, .int .i64 d, .int .i64 e, .int .i64 f] 3)) := by
  go_simp
theorem run_one4 (W : World) :
    (Instr.buildSlice 22 1 #[(0, .int .i64 4)]).run Tryd.prog W = .ok (.slice (some ⟨W.heap.size, 0, none⟩) 1 1) (W.alloc (.cells #[.int .i64 4] 3)) := by
  go_simp
theorem row_new (w : World) (l : List Int) (cs : Array Value) (h : cs = (l.map Iv).toArray) : Row (w.alloc (.cells cs 3)) (some ⟨w.heap.size, 0, none⟩) l.length (l.map Iv) := by
  subst h
  have := (Blk.new w 3 (l.map Iv).toArray).row
  simpa using this

set_option maxRecDepth 100000 in
set_option maxHeartbeats 2000000 in
/-- shown. -/
theorem shown_any (aS aR : Addr) (w : World) (hS : RSent w aS aR) :
    Calls Tryd.prog 9 #[] w fun e w' => e = .returned (.bool true) ∧ Below w.heap.size w w' := by
  have HS := Lib.hid hS
  have hr6 := run_six
  have hr1 := run_one4
  have hx := below_box w (.cells #[.int .i64 0, .int .i64 0, .int .i64 5, .int .i64 0, .int .i64 0, .int .i64 0] 3)
  have HL := Lib.hid (row_new w [0, 0, 5, 0, 0, 0] _ rfl)
  have HB := Lib.hid hx
  clear hS hx
  simp only [Iv, List.map_cons, List.map_nil] at HL
  go_enter Tryd.func9, Tryd.ntmps9
  go_wp2_with fail
  generalize w.alloc (.cells #[.int .i64 0, .int .i64 0, .int .i64 5, .int .i64 0, .int .i64 0, .int .i64 0] 3) = W0 at *
  have HL : Hid (Row W0 (some ⟨w.heap.size, 0, none⟩) 6 (([0, 0, 5, 0, 0, 0] : List Int).map Iv)) := HL
  have h := first_any _ 6 6 [0, 0, 5, 0, 0, 0] 3 W0 HL.out (by omega)
  rw [show firstR [0, 0, 5, 0, 0, 0] 3 = some (3, 6) by decide +kernel] at h
  refine h.mono ?_
  clear h
  rintro e w1 ⟨rfl, hb1⟩
  replace HL := Lib.hid (HL.out.ext hb1)
  replace HB := Lib.hid (below_le HB.out hb1)
  clear hb1
  simp only [Option.getD_some, Option.isSome_some]
  go_wp2_with fail
  have h := put_any _ 6 6 [0, 0, 5, 0, 0, 0] 3 2 aS aR w1 (HS.out.ext HB.out) HL.out (by omega) (by omega) (by omega)
  rw [show codeP [0, 0, 5, 0, 0, 0] 3 2 = 0 by decide +kernel, show resP [0, 0, 5, 0, 0, 0] 3 2 = [0, 0, 5, 3, 4, 0] by decide +kernel] at h
  refine h.mono ?_
  clear h
  rintro e w2 ⟨A1, m1, c1, rfl, hR1, -, hb2⟩
  have hm1 : m1 = 6 := by have := hR1.1; simpa using this.symm
  subst hm1
  have HM := Lib.hid hR1
  replace HL := Lib.hid (HL.out.ext hb2)
  replace HB := Lib.hid (below_le HB.out hb2)
  clear hb2 hR1
  go_wp2_with fail
  have h := cut_any A1 6 c1 [0, 0, 5, 3, 4, 0] 3 aS aR w2 (HS.out.ext HB.out) HM.out (by omega)
  rw [show codeC [0, 0, 5, 3, 4, 0] 3 = 0 by decide +kernel, show resC [0, 0, 5, 3, 4, 0] 3 = [0, 0, 5, 0, 0, 0] by decide +kernel, show numC [0, 0, 5, 3, 4, 0] 3 = 2 by decide +kernel] at h
  refine h.mono ?_
  clear h
  rintro e w3 ⟨A2, m2, c2, rfl, hR2, -, hb3⟩
  have hm2 : m2 = 6 := by have := hR2.1; simpa using this.symm
  subst hm2
  have HO := Lib.hid hR2
  replace HL := Lib.hid (HL.out.ext hb3)
  replace HM := Lib.hid (HM.out.ext hb3)
  replace HB := Lib.hid (below_le HB.out hb3)
  clear hb3 hR2
  go_wp2_with fail
  have h := put_any _ 6 6 [0, 0, 5, 0, 0, 0] 1 2 aS aR w3 (HS.out.ext HB.out) HL.out (by omega) (by omega) (by omega)
  rw [show codeP [0, 0, 5, 0, 0, 0] 1 2 = 91 by decide +kernel, show resP [0, 0, 5, 0, 0, 0] 1 2 = [] by decide +kernel] at h
  refine h.mono ?_
  clear h
  rintro e w4 ⟨A3, m3, c3, rfl, -, -, hb4⟩
  replace HL := Lib.hid (HL.out.ext hb4)
  replace HM := Lib.hid (HM.out.ext hb4)
  replace HO := Lib.hid (HO.out.ext hb4)
  replace HB := Lib.hid (below_le HB.out hb4)
  clear hb4
  have hx := below_box w4 (.cells #[.int .i64 0, .int .i64 0, .int .i64 5, .int .i64 3, .int .i64 4, .int .i64 0] 3)
  have HT := Lib.hid (row_new w4 [0, 0, 5, 3, 4, 0] _ rfl)
  simp only [Iv, List.map_cons, List.map_nil] at HT
  replace HL := Lib.hid (HL.out.ext hx)
  replace HM := Lib.hid (HM.out.ext hx)
  replace HO := Lib.hid (HO.out.ext hx)
  replace HB := Lib.hid (below_le HB.out hx)
  clear hx
  go_wp2_with fail
  generalize w4.alloc (.cells #[.int .i64 0, .int .i64 0, .int .i64 5, .int .i64 3, .int .i64 4, .int .i64 0] 3) = W4 at *
  have HT : Hid (Row W4 (some ⟨w4.heap.size, 0, none⟩) 6 (([0, 0, 5, 3, 4, 0] : List Int).map Iv)) := HT
  have h := ints_any A1 _ 6 c1 6 6 [0, 0, 5, 3, 4, 0] [0, 0, 5, 3, 4, 0] W4 HM.out HT.out (by omega) (by omega)
  rw [show decide (([0, 0, 5, 3, 4, 0] : List Int) = [0, 0, 5, 3, 4, 0]) = true by simp] at h
  refine h.mono ?_
  clear h
  rintro e w5 ⟨rfl, hb5⟩
  replace HL := Lib.hid (HL.out.ext hb5)
  replace HM := Lib.hid (HM.out.ext hb5)
  replace HO := Lib.hid (HO.out.ext hb5)
  replace HB := Lib.hid (below_le HB.out hb5)
  clear hb5
  go_wp2_with fail
  have h := ints_any A2 _ 6 c2 6 6 [0, 0, 5, 0, 0, 0] [0, 0, 5, 0, 0, 0] w5 HO.out HL.out (by omega) (by omega)
  rw [show decide (([0, 0, 5, 0, 0, 0] : List Int) = [0, 0, 5, 0, 0, 0]) = true by simp] at h
  refine h.mono ?_
  clear h
  rintro e w6 ⟨rfl, hb6⟩
  have hx := below_box w6 (.cells #[.int .i64 4] 3)
  have HF := Lib.hid (row_new w6 [4] _ rfl)
  simp only [Iv, List.map_cons, List.map_nil] at HF
  replace HM := Lib.hid ((HM.out.ext hb6).ext hx)
  replace HB := Lib.hid (below_le HB.out (below_le hb6 hx))
  clear hb6 hx
  go_wp2_with fail
  generalize w6.alloc (.cells #[.int .i64 4] 3) = W6 at *
  have HF : Hid (Row W6 (some ⟨w6.heap.size, 0, none⟩) 1 (([4] : List Int).map Iv)) := HF
  have h := whole_any _ 1 1 [4] W6 HF.out (by omega)
  rw [show wholeL [4] = false by decide +kernel] at h
  refine h.mono ?_
  clear h
  rintro e w7 ⟨rfl, hb7⟩
  replace HM := Lib.hid (HM.out.ext hb7)
  replace HB := Lib.hid (below_le HB.out hb7)
  clear hb7
  go_wp2_with fail
  have h := longest_any A1 6 c1 [0, 0, 5, 3, 4, 0] w7 HM.out (by omega)
  rw [show longR [0, 0, 5, 3, 4, 0] = 2 by decide +kernel] at h
  refine h.mono ?_
  clear h
  rintro e w8 ⟨rfl, hb8⟩
  replace HB := Lib.hid (below_le HB.out hb8)
  clear hb8
  go_wp2
  go_ret
  exact ⟨rfl, HB.out⟩

end Go.Proofs.YtncopnknjohplaaDoor
