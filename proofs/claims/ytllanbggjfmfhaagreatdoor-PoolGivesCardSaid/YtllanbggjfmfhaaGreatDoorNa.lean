/-
  What is proved: contracts of small functions of package run. No condition beyond those stated.
-/
import Derived.Test.YtllanbggjfmfhaaGreatDoorRi
import Derived.Test.YtllanbggjfmfhaaGreatDoorApp
namespace Go.Proofs.YtllanbggjfmfhaaGreatDoor
open Go.RowKit

theorem heap_new {w : World} {g : Nat} (hg : w.heap.size = g) (o : Obj) : (w.alloc o).heap[g]? = some o := by
  subst hg
  exact heap_alloc_new w o
theorem below_box (w : World) (o : Obj) : Below w.heap.size w (w.alloc o) := (Below.refl _ _).alloc (Nat.le_refl _) _

def knownB (s : Int) : Bool := decide (0 ≤ s) && decide (s ≤ 5)
def rightL (l : List Int) : Bool := decide (1 ≤ l.length) && decide (l.length ≤ 32) && l.all knownB
def okAt (l : List Int) (i : Nat) : Bool := !(l.getD i 0 == 4) || (!(i == 0) && (l.getD (i - 1) 0 == 3 || l.getD (i - 1) 0 == 4))
def wholeL (l : List Int) : Bool := rightL l && (List.range l.length).all (okAt l)

set_option maxHeartbeats 400000 in
theorem is1_any (S : Option Addr) (n c : Nat) (ss : List Int) (x : Int) (bb : Nat) (w : World) (hc : w.cell? ⟨bb, 0, none⟩ = some (.slice S n c)) (hR : Row w S n (ss.map Iv)) (hn : n ≤ 100) :
    Calls Tryz.prog 74 #[.int .i64 x, .pointer (some ⟨bb, 0, none⟩)] w fun e w' => e = .returned (.bool (ss.any fun s => x == s)) ∧ w = w' := by
  have hl := hR.1
  simp at hl
  have HR := Lib.hid hR
  have HL := Lib.hid hl
  clear hR hl
  go_enter Tryz.func74, Tryz.ntmps74
  go_wp2
  go_loop [8] (fun i => ∃ k : Nat, k ≤ n ∧ i = .int .i64 k ∧ ∀ j, j < k → (x == ss.getD j 0) = false) (fun i => n - (intOf i).toNat)
  case atStart => exact ⟨0, Nat.zero_le _, rfl, fun j hj => absurd hj (by omega)⟩
  case round =>
    obtain ⟨k, hk, rfl, hz⟩ := hrel
    have HZ := Lib.hid hz
    clear hz
    by_cases hlt : k < n
    · obtain ⟨b, off, y, rfl, hcy, hy, hy2⟩ := num_at HR.out hlt
      have HY := Lib.hid hy
      have HY2 := Lib.hid hy2
      clear hy hy2
      by_cases hxy : x = y
      · have hd : (x == y) = true := by simpa using hxy
        have HD := Lib.hid hd
        clear hxy
        go_wp2
        go_ret
        refine ⟨ret_bool ?_, rfl⟩
        exact (List.any_eq_true.2 ⟨y, List.mem_of_getElem? HY2.out, HD.out⟩).symm
      · have hd : (x == y) = false := by simpa using hxy
        have HD := Lib.hid hd
        clear hxy
        go_wp2
        go_round
        case rel => exact ⟨k + 1, by omega, by go_num, fun j hj => by
          by_cases e : j = k
          · rw [e, HY.out]; exact HD.out
          · exact HZ.out j (by omega)⟩
        case measure => simp [intOf]; omega
    · go_wp2
      go_ret
      refine ⟨ret_bool (Eq.symm ?_), rfl⟩
      rw [List.any_eq_false]
      intro s hs
      obtain ⟨j, hj, rfl⟩ := List.mem_iff_getElem.1 hs
      have := HZ.out j (by have := HL.out; omega)
      rw [List.getD_eq_getElem?_getD, List.getElem?_eq_getElem hj] at this
      simpa using this

set_option maxHeartbeats 400000 in
theorem is_any (S : Option Addr) (n c : Nat) (w : World) :
    Calls Tryz.prog 55 #[.slice S n c] w fun e w' => e = .returned (.func (.func 74) #[] #[.pointer (some ⟨w.heap.size, 0, none⟩)]) ∧ w.alloc (.cells #[.slice S n c] 22) = w' := by
  go_enter Tryz.func55, Tryz.ntmps55
  go_wp2
  go_ret
  exact ⟨rfl, rfl⟩

set_option maxHeartbeats 400000 in
theorem right1_any (x : Int) (w : World) :
    Calls Tryz.prog 71 #[.int .i64 x] w fun e w' => e = .returned (.bool (knownB x)) ∧ w = w' := by
  by_cases h0 : 0 ≤ x
  · by_cases h1 : x ≤ 5
    · have HD : Hid (knownB x = true) := Lib.hid (by simp [knownB, h0, h1])
      go_enter Tryz.func71, Tryz.ntmps71
      go_wp2
      go_ret
      exact ⟨ret_bool HD.out.symm, rfl⟩
    · have HD : Hid (knownB x = false) := Lib.hid (by simp [knownB]; omega)
      go_enter Tryz.func71, Tryz.ntmps71
      go_wp2
      go_ret
      exact ⟨ret_bool HD.out.symm, rfl⟩
  · have HD : Hid (knownB x = false) := Lib.hid (by simp [knownB]; omega)
    go_enter Tryz.func71, Tryz.ntmps71
    go_wp2
    go_ret
    exact ⟨ret_bool HD.out.symm, rfl⟩

set_option maxHeartbeats 1000000 in
/-- run.each with one thing that must be. -/
theorem each_any (f : Nat) (cap : Array Value) (hf : ∀ args W, (callFunc f args).run Tryz.prog W = .ok (.enter f args) W) (p : Int → Bool) (A : Option Addr) (n c : Nat) (l : List Int) (fb : Nat) (w : World)
    (hR : Row w A n (l.map Iv)) (hn : n ≤ 1000) (hfb : w.cell? ⟨fb, 0, none⟩ = some (.func (.func f) #[] cap)) (hm : ∀ x, Calls Tryz.prog f (#[.int .i64 x] ++ cap) w fun e w' => e = .returned (.bool (p x)) ∧ w = w') :
    Calls Tryz.prog 54 #[.slice A n c, .slice (some ⟨fb, 0, none⟩) 1 1] w fun e w' => e = .returned (.bool (l.all p)) ∧ w = w' := by
  have hl := hR.1
  simp at hl
  have HR := Lib.hid hR
  have HL := Lib.hid hl
  have HM := Lib.hid hm
  clear hR hl hm
  go_enter Tryz.func54, Tryz.ntmps54
  go_wp2
  go_loop [11] (fun i => ∃ k : Nat, k ≤ n ∧ i = .int .i64 k ∧ ∀ j, j < k → p (l.getD j 0) = true) (fun i => n - (intOf i).toNat)
  case atStart => exact ⟨0, Nat.zero_le _, rfl, fun j hj => absurd hj (by omega)⟩
  case round =>
    obtain ⟨k, hk, rfl, hz⟩ := hrel
    have HZ := Lib.hid hz
    clear hz
    by_cases hlt : k < n
    · obtain ⟨b, off, y, rfl, hcy, hy, hy2⟩ := num_at HR.out hlt
      have HY := Lib.hid hy
      have HY2 := Lib.hid hy2
      clear hy hy2
      go_wp2
      refine wp_loop_rounds 2 ?_
      rw [rounds_succ]
      go_wp2_with fail
      have h := HM.out y
      cases hp : p y
      · rw [hp] at h
        have HP := Lib.hid hp
        refine h.mono ?_
        clear h hp
        rintro e w' ⟨rfl, rfl⟩
        go_wp2
        go_ret
        refine ⟨ret_bool (Eq.symm ?_), rfl⟩
        rw [List.all_eq_false]
        exact ⟨y, List.mem_of_getElem? HY2.out, by rw [HP.out]; exact Bool.false_ne_true⟩
      · rw [hp] at h
        have HP := Lib.hid hp
        refine h.mono ?_
        clear h hp
        rintro e w' ⟨rfl, rfl⟩
        go_wp2
        rw [rounds_succ]
        go_wp2
        go_round
        case rel => exact ⟨k + 1, by omega, by go_num, fun j hj => by
          by_cases e : j = k
          · rw [e, HY.out]; exact HP.out
          · exact HZ.out j (by omega)⟩
        case measure => simp [intOf]; omega
    · go_wp2
      go_ret
      refine ⟨ret_bool (Eq.symm ?_), rfl⟩
      rw [List.all_eq_true]
      intro s hs
      obtain ⟨j, hj, rfl⟩ := List.mem_iff_getElem.1 hs
      have := HZ.out j (by have := HL.out; omega)
      rw [List.getD_eq_getElem?_getD, List.getElem?_eq_getElem hj] at this
      simpa using this

end Go.Proofs.YtllanbggjfmfhaaGreatDoor
