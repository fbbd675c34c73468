/-
  What is proved: the contract of Right of package desc. No condition beyond those stated.
-/
import Derived.Test.YtmabokmnniiadaaGreatDoorCb
import Derived.Test.YtmabokmnniiadaaGreatDoorC5
namespace Go.Proofs.YtmabokmnniiadaaGreatDoor
open Go.RowKit

abbrev descV (z : Int) (P : Option Addr) (m c : Nat) (e : Int) (Q : Option Addr) (q f : Nat) : Value := .agg #[.int .i64 z, .slice P m c, .int .i64 e, .slice Q q f]
abbrev descO (z : Int) (P : Option Addr) (m c : Nat) (e : Int) (Q : Option Addr) (q f : Nat) : Obj := .cells #[.int .i64 z, .slice P m c, .int .i64 e, .slice Q q f] 35

set_option maxRecDepth 100000 in
set_option maxHeartbeats 2000000 in
theorem dright_any (z e : Int) (P Q : Option Addr) (m c q f : Nat) (ps es : List Int) (w : World) (hP : Row w P m (ps.map Iv)) (hQ : Row w Q q (es.map Iv)) (hm : m ≤ 1000) (hq : q ≤ 1000) :
    Calls Tryz.prog 20 #[descV z P m c e Q q f] w fun x w' => x = .returned (.bool (dRight z ps e es)) ∧ Below w.heap.size w w' := by
  have hb1 := below_box w (descO z P m c e Q q f)
  obtain ⟨a0, a1, a2, a3⟩ : (w.alloc (descO z P m c e Q q f)).cell? ⟨w.heap.size, 0, none⟩ = some (.int .i64 z) ∧ (w.alloc (descO z P m c e Q q f)).cell? ⟨w.heap.size, 1, none⟩ = some (.slice P m c) ∧ (w.alloc (descO z P m c e Q q f)).cell? ⟨w.heap.size, 2, none⟩ = some (.int .i64 e) ∧ (w.alloc (descO z P m c e Q q f)).cell? ⟨w.heap.size, 3, none⟩ = some (.slice Q q f) := by simp [go_sem]
  have hS : dRight z ps e es = (partB z 1024 && partB e 256 && riseB z (-1) ps && riseB e (-1) es) := rfl
  have p1 := part_any z 1024
  have p2 := part_any e 256
  have HP := Lib.hid (hP.ext hb1)
  have HQ := Lib.hid (hQ.ext hb1)
  have HB := Lib.hid hb1
  have P1 := Lib.hid p1
  have P2 := Lib.hid p2
  generalize dRight z ps e es = r at *
  have W1 : Hid (∀ W : World, Row W P m (ps.map Iv) → Calls Tryz.prog 45 #[.int .i64 z, .slice P m c] W fun x w' => x = .returned (.bool (riseB z (-1) ps)) ∧ Below W.heap.size W w') := Lib.hid fun W h => within_any z P m c ps W h hm
  have W2 : Hid (∀ W : World, Row W Q q (es.map Iv) → Calls Tryz.prog 45 #[.int .i64 e, .slice Q q f] W fun x w' => x = .returned (.bool (riseB e (-1) es)) ∧ Below W.heap.size W w') := Lib.hid fun W h => within_any e Q q f es W h hq
  generalize partB z 1024 = b1 at *
  generalize partB e 256 = b2 at *
  generalize riseB z (-1) ps = b3 at *
  generalize riseB e (-1) es = b4 at *
  have HS := Lib.hid hS
  clear hS hP hQ hb1 p1 p2
  go_enter Tryz.func20, Tryz.ntmps20
  go_wp2_with fail
  generalize w.alloc (descO z P m c e Q q f) = W0 at *
  refine (P1.out _).mono ?_
  rintro x w' ⟨rfl, rfl⟩
  cases b1
  · go_wp2
    go_ret
    exact ⟨ret_bool (by rw [HS.out]; simp), HB.out⟩
  · go_wp2_with fail
    refine (P2.out _).mono ?_
    rintro x w' ⟨rfl, rfl⟩
    cases b2
    · go_wp2
      go_ret
      exact ⟨ret_bool (by rw [HS.out]; simp), HB.out⟩
    · go_wp2_with fail
      refine (W1.out _ HP.out).mono ?_
      rintro x w2 ⟨rfl, hb2⟩
      replace a2 := cell_ext hb2 a2
      replace a3 := cell_ext hb2 a3
      replace HQ := Lib.hid (HQ.out.ext hb2)
      replace HB := Lib.hid (below_le HB.out hb2)
      clear hb2
      cases b3
      · go_wp2
        go_ret
        exact ⟨ret_bool (by rw [HS.out]; simp), HB.out⟩
      · go_wp2_with fail
        refine (W2.out _ HQ.out).mono ?_
        rintro x w3 ⟨rfl, hb3⟩
        replace HB := Lib.hid (below_le HB.out hb3)
        clear hb3
        go_wp2
        go_ret
        exact ⟨ret_bool (by rw [HS.out]; simp), HB.out⟩

end Go.Proofs.YtmabokmnniiadaaGreatDoor
