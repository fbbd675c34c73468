/-
  What is proved: the contracts of slices.Index and slices.Contains at lists of numbers. No condition beyond those stated.
-/
import Derived.Test.YtepnamlcofmccaaGreatDoorRi
namespace Go.Proofs.YtepnamlcofmccaaGreatDoor
open Go.RowKit

def hasB (xs : List Int) (y : Int) : Bool := decide (y ∈ xs)

def GivesAt (w : World) (xs : List Int) (y : Int) (e : Ending) (w' : World) : Prop := ∃ i : Int, e = .returned (.int .i64 i) ∧ (decide (i ≥ 0) = hasB xs y) ∧ w = w'

set_option maxHeartbeats 1000000 in
theorem index_any (A : Option Addr) (n c : Nat) (xs : List Int) (y : Int) (w : World) (hR : Row w A n (xs.map Iv)) (hn : n ≤ 100000) :
    Calls Tryz.prog 62 #[.slice A n c, .int .i64 y] w (GivesAt w xs y) := by
  have hl := hR.1
  simp at hl
  have HR := Lib.hid hR
  have HL := Lib.hid hl
  clear hR hl
  go_enter Tryz.func62, Tryz.ntmps62
  go_wp2
  go_loop [8] (fun i => ∃ k : Nat, k ≤ n ∧ i = .int .i64 k ∧ ∀ j, j < k → xs.getD j 0 ≠ y) (fun i => n - (intOf i).toNat)
  case atStart => exact ⟨0, Nat.zero_le _, rfl, fun j hj => absurd hj (by omega)⟩
  case round =>
    obtain ⟨k, hk, rfl, hz⟩ := hrel
    have HZ := Lib.hid hz
    clear hz
    by_cases hlt : k < n
    · obtain ⟨b, off, x, rfl, hcx, hx, hx2⟩ := num_at HR.out hlt
      have HX := Lib.hid hx
      have HX2 := Lib.hid hx2
      clear hx hx2
      by_cases hxy : y = x
      · have hd : (y == x) = true := by simpa using hxy
        have HD := Lib.hid hxy
        clear hxy
        go_wp2
        go_ret
        refine ⟨(k : Int), rfl, ?_, rfl⟩
        unfold hasB
        rw [decide_eq_true (by omega), decide_eq_true (by rw [HD.out]; exact List.mem_of_getElem? HX2.out)]
      · have hd : (y == x) = false := by simpa using hxy
        have HD := Lib.hid hxy
        clear hxy
        go_wp2
        go_round
        case rel => exact ⟨k + 1, by omega, by go_num, fun j hj => by
          by_cases e : j = k
          · rw [e, HX.out]; exact fun h => HD.out h.symm
          · exact HZ.out j (by omega)⟩
        case measure => simp [intOf]; omega
    · go_wp2
      go_ret
      refine ⟨-1, rfl, ?_, rfl⟩
      unfold hasB
      rw [decide_eq_false (by omega), decide_eq_false]
      intro h
      obtain ⟨j, hj, e⟩ := List.mem_iff_getElem.1 h
      exact HZ.out j (by have := HL.out; omega) (by simpa [hj] using e)

set_option maxHeartbeats 400000 in
theorem contains_any (A : Option Addr) (n c : Nat) (xs : List Int) (y : Int) (w : World) (hR : Row w A n (xs.map Iv)) (hn : n ≤ 100000) :
    Calls Tryz.prog 49 #[.slice A n c, .int .i64 y] w fun e w' => e = .returned (.bool (hasB xs y)) ∧ w = w' := by
  have hcall := index_any A n c xs y w hR hn
  clear hR
  go_enter Tryz.func49, Tryz.ntmps49
  go_wp2_with fail
  refine hcall.mono ?_
  clear hcall
  rintro e w' ⟨i, rfl, hi, rfl⟩
  cases hh : hasB xs y
  · rw [hh] at hi
    have HH := Lib.hid hh
    clear hh
    go_wp2
    go_ret
    exact ⟨ret_bool HH.out.symm, rfl⟩
  · rw [hh] at hi
    have HH := Lib.hid hh
    clear hh
    go_wp2
    go_ret
    exact ⟨ret_bool HH.out.symm, rfl⟩

end Go.Proofs.YtepnamlcofmccaaGreatDoor
