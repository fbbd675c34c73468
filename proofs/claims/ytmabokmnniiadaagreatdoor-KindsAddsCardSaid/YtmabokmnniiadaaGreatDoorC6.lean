/-
  What is proved: the contract of Same of package desc. No condition beyond those stated.
-/
import Derived.Test.YtmabokmnniiadaaGreatDoorC2
import Derived.Test.YtmabokmnniiadaaGreatDoorC5
import Derived.Test.YtmabokmnniiadaaGreatDoorEq
namespace Go.Proofs.YtmabokmnniiadaaGreatDoor
open Go.RowKit

/-- Two descriptors are the same. -/
def dSame (z e : Int) (ps es : List Int) (z' e' : Int) (ps' es' : List Int) : Bool := decide (z = z') && decide (e = e') && decide (ps = ps') && decide (es = es')
theorem dbox {w : World} {t : TypeId} {a b c d : Value} : (w.alloc (.cells #[a, b, c, d] t)).cell? ⟨w.heap.size, 0, none⟩ = some a ∧ (w.alloc (.cells #[a, b, c, d] t)).cell? ⟨w.heap.size, 1, none⟩ = some b ∧ (w.alloc (.cells #[a, b, c, d] t)).cell? ⟨w.heap.size, 2, none⟩ = some c ∧ (w.alloc (.cells #[a, b, c, d] t)).cell? ⟨w.heap.size, 3, none⟩ = some d := by simp [go_sem]
theorem below_alloc (w : World) (o : Obj) : Below w.heap.size w (w.alloc o) := (Below.refl _ _).alloc (Nat.le_refl _) _

set_option maxHeartbeats 2000000 in
theorem dsame_any (z e : Int) (P Q : Option Addr) (m c q f : Nat) (ps es : List Int) (z' e' : Int) (P' Q' : Option Addr) (m' c' q' f' : Nat) (ps' es' : List Int) (w : World) (hP : Row w P m (ps.map Iv)) (hQ : Row w Q q (es.map Iv)) (hP' : Row w P' m' (ps'.map Iv)) (hQ' : Row w Q' q' (es'.map Iv))
    (hm : m ≤ 1000) (hq : q ≤ 1000) (hm' : m' ≤ 1000) (hq' : q' ≤ 1000) :
    Calls Tryz.prog 29 #[.agg #[.int .i64 z, .slice P m c, .int .i64 e, .slice Q q f], .agg #[.int .i64 z', .slice P' m' c', .int .i64 e', .slice Q' q' f']] w fun x w' => x = .returned (.bool (dSame z e ps es z' e' ps' es')) ∧ Below w.heap.size w w' := by
  have hb1 := below_alloc w (.cells #[.int .i64 z, .slice P m c, .int .i64 e, .slice Q q f] 35)
  have hb2 := below_alloc (w.alloc (.cells #[.int .i64 z, .slice P m c, .int .i64 e, .slice Q q f] 35)) (.cells #[.int .i64 z', .slice P' m' c', .int .i64 e', .slice Q' q' f'] 35)
  have hb := below_le hb1 hb2
  obtain ⟨a0, a1, a2, a3⟩ := dbox (w := w) (t := 35) (a := .int .i64 z) (b := .slice P m c) (c := .int .i64 e) (d := .slice Q q f)
  obtain ⟨b0, b1, b2, b3⟩ := dbox (w := w.alloc (.cells #[.int .i64 z, .slice P m c, .int .i64 e, .slice Q q f] 35)) (t := 35) (a := .int .i64 z') (b := .slice P' m' c') (c := .int .i64 e') (d := .slice Q' q' f')
  replace a0 := cell_ext hb2 a0
  replace a1 := cell_ext hb2 a1
  replace a2 := cell_ext hb2 a2
  replace a3 := cell_ext hb2 a3
  have hz : (w.alloc (.cells #[.int .i64 z, .slice P m c, .int .i64 e, .slice Q q f] 35)).heap.size = w.heap.size + 1 := by simp
  rw [hz] at b0 b1 b2 b3
  have e1 := equal_any P P' m c m' c' ps ps' _ (hP.ext hb) (hP'.ext hb) hm hm'
  have E1 := Lib.hid e1
  have HQ := Lib.hid (hQ.ext hb)
  have HQ' := Lib.hid (hQ'.ext hb)
  have HB := Lib.hid hb
  have hS : dSame z e ps es z' e' ps' es' = (decide (z = z') && decide (e = e') && decide (ps = ps') && decide (es = es')) := rfl
  generalize dSame z e ps es z' e' ps' es' = r at *
  clear hP hP' hQ hQ' hb1 hb2 hb e1 hz
  by_cases hzz : z = z'
  · by_cases hee : e = e'
    · rw [decide_eq_true hzz, decide_eq_true hee] at hS
      have d0 : (z == z') = true := by simpa using hzz
      have d2 : (e == e') = true := by simpa using hee
      generalize decide (ps = ps') = r1 at *
      have HS := Lib.hid hS
      clear hS hzz hee
      go_enter Tryz.func29, Tryz.ntmps29
      go_wp2_with fail
      generalize (w.alloc (.cells #[.int .i64 z, .slice P m c, .int .i64 e, .slice Q q f] 35)).alloc (.cells #[.int .i64 z', .slice P' m' c', .int .i64 e', .slice Q' q' f'] 35) = W0 at *
      refine E1.out.mono ?_
      rintro x w1 ⟨rfl, hb1⟩
      replace a3 := cell_ext hb1 a3
      replace b3 := cell_ext hb1 b3
      have e2 := equal_any Q Q' q f q' f' es es' w1 (HQ.out.ext hb1) (HQ'.out.ext hb1) hq hq'
      have E2 := Lib.hid e2
      replace HB := Lib.hid (below_le HB.out hb1)
      clear hb1 e2 E1 a0 a1 a2 b0 b1 b2 d0 d2
      cases r1
      · go_wp2
        go_ret
        exact ⟨ret_bool (by rw [HS.out]; simp), HB.out⟩
      · generalize decide (es = es') = r2 at *
        go_wp2_with fail
        refine E2.out.mono ?_
        rintro x w2 ⟨rfl, hb2⟩
        replace HB := Lib.hid (below_le HB.out hb2)
        clear hb2 a3 b3
        go_wp2
        go_ret
        exact ⟨ret_bool (by rw [HS.out]; simp), HB.out⟩
    · rw [decide_eq_false hee] at hS
      have d0 : (z == z') = true := by simpa using hzz
      have d2 : (e == e') = false := by simpa using hee
      have HS := Lib.hid hS
      clear hS hzz hee E1
      go_enter Tryz.func29, Tryz.ntmps29
      go_wp2
      go_ret
      exact ⟨ret_bool (by rw [HS.out]; simp), HB.out⟩
  · rw [decide_eq_false hzz] at hS
    have d0 : (z == z') = false := by simpa using hzz
    have HS := Lib.hid hS
    clear hS hzz E1
    go_enter Tryz.func29, Tryz.ntmps29
    go_wp2
    go_ret
    exact ⟨ret_bool (by rw [HS.out]; simp), HB.out⟩

end Go.Proofs.YtmabokmnniiadaaGreatDoor
