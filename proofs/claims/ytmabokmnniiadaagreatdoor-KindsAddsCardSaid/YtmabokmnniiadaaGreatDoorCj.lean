/-
  What is proved: contracts of those functions that this program has, and plain facts beside them. No condition beyond those stated.
-/
import Derived.Test.YtmabokmnniiadaaGreatDoorCc
import Derived.Test.YtmabokmnniiadaaGreatDoorC6
import Derived.Test.YtmabokmnniiadaaGreatDoorCt
namespace Go.Proofs.YtmabokmnniiadaaGreatDoor
open Go.RowKit

theorem riseI_of {e : Int} {l : List Int} {i : Nat} {x : Int} (h : l.getD i 0 = x) : riseI e l i = (decide (0 ≤ x) && decide (x.tmod 4 = 0) && decide (x < e) && (i == 0 || decide (l.getD (i - 1) 0 < x))) := by unfold riseI; rw [h]
theorem all_take {p : Nat → Bool} {n : Nat} (h : ∀ j, j < n → p j = true) : (List.range n).all p = true := List.all_eq_true.2 fun j hj => h j (List.mem_range.1 hj)
theorem all_not {p : Nat → Bool} {n k : Nat} (hk : k < n) (h : p k = false) : (List.range n).all p = false := by
  rw [Bool.eq_false_iff]
  intro h1
  rw [List.all_eq_true.1 h1 k (List.mem_range.2 hk)] at h
  cases h

set_option maxHeartbeats 4000000 in
theorem rising_any (e : Int) (A : Option Addr) (m c : Nat) (l : List Int) (w : World) (hR : Row w A m (l.map Iv)) (hm : m ≤ 1000) :
    Calls Tryz.prog 63 #[.slice A m c, .int .i64 e] w fun x w' => x = .returned (.bool (riseB e (-1) l)) ∧ Below w.heap.size w w' := by
  have hl := hR.1
  simp at hl
  rw [rise_all]
  have HR := Lib.hid hR
  have HL := Lib.hid hl
  clear hR hl
  go_enter Tryz.func63, Tryz.ntmps63
  go_wp2
  go_loopw [5] (fun i wr => ∃ k : Nat, k ≤ m ∧ i = .int .i64 k ∧ (∀ j, j < k → riseI e l j = true) ∧ Below w.heap.size w wr) (fun i _ => m - (intOf i).toNat)
  case atStart => exact ⟨0, Nat.zero_le _, rfl, fun j h => absurd h (by omega), Below.refl _ _⟩
  case round =>
    obtain ⟨k, hk, rfl, ht, hb⟩ := hrel
    have HT := Lib.hid ht
    have Hb := Lib.hid hb
    clear ht hb
    by_cases hlt : k < m
    · obtain ⟨b1, o1, x, rfl, c1, e1, -⟩ := num_at (HR.out.ext Hb.out) hlt
      have hri := riseI_of (e := e) e1
      have hgo : riseI e l k = true → ∀ j, j < k + 1 → riseI e l j = true := fun h j hj => by
        by_cases ej : j = k
        · rw [ej]; exact h
        · exact HT.out j (by omega)
      have hno : riseI e l k = false → (List.range l.length).all (riseI e l) = false := fun h => all_not (by have := HL.out; omega) h
      have HGO := Lib.hid hgo
      have HNO := Lib.hid hno
      have HRI := Lib.hid hri
      have t1 := fun z : Ext wr => ext_cell c1 z
      clear e1 c1 hgo hno hri
      generalize riseI e l k = r at *
      by_cases h0 : 0 ≤ x
      case' neg =>
        have h0' : decide (x < 0) = true := decide_eq_true (by omega)
        have hr : r = false := by rw [HRI.out, decide_eq_false h0]; rfl
        have hz := HNO.out hr
      case' pos =>
        have h0' : decide (x < 0) = false := decide_eq_false (by omega)
        by_cases h1 : x.tmod 4 = 0
        case' neg =>
          have h1' : (x.tmod 4 != 0) = true := bne_iff_ne.2 h1
          have hr : r = false := by rw [HRI.out, decide_eq_false h1]; simp
          have hz := HNO.out hr
        case' pos =>
          have h1' : (x.tmod 4 != 0) = false := by rw [h1]; rfl
          by_cases h2 : x < e
          case' neg =>
            have h2' : decide (e ≤ x) = true := decide_eq_true (by omega)
            have hr : r = false := by rw [HRI.out, decide_eq_false h2]; simp
            have hz := HNO.out hr
          case' pos =>
            have h2' : decide (e ≤ x) = false := decide_eq_false (by omega)
            by_cases h3 : k = 0
            case' pos =>
              have hr : r = true := by rw [HRI.out, decide_eq_true h0, decide_eq_true h1, decide_eq_true h2, h3]; rfl
              have hz := HGO.out hr
              have h3' : decide (0 < (k : Int)) = false := decide_eq_false (by omega)
              have h3'' : decide (0 < k) = false := decide_eq_false (by omega)
              clear h3
            case' neg =>
              obtain ⟨j, hj⟩ : ∃ j, k - 1 = j := ⟨_, rfl⟩
              have hjm : j < m := by omega
              obtain ⟨b2, o2, y, e9, c2, e2, -⟩ := num_at (HR.out.ext Hb.out) hjm
              obtain ⟨rfl, rfl⟩ : b2 = b1 ∧ o2 = o1 := by cases e9; exact ⟨rfl, rfl⟩
              have t2 := fun z : Ext wr => ext_cell c2 z
              have hri := HRI.out
              rw [hj, e2, decide_eq_true h0, decide_eq_true h1, decide_eq_true h2, show (k == 0) = false from beq_eq_false_iff_ne.2 h3] at hri
              have HRI2 := Lib.hid hri
              have h3' : decide (0 < (k : Int)) = true := decide_eq_true (by omega)
              have h3'' : decide (0 < k) = true := decide_eq_true (by omega)
              have w1 : IntKind.i64.wrap ((k : Int) - 1) = (j : Int) := by rw [IntKind.wrap_i64]; omega
              clear e9 c2 e2 hri hj
              by_cases h4 : y < x
              case' pos =>
                have hr : r = true := by rw [HRI2.out, decide_eq_true h4]; rfl
                have h4' : decide (x ≤ y) = false := decide_eq_false (by omega)
                have hz := HGO.out hr
              case' neg =>
                have hr : r = false := by rw [HRI2.out, decide_eq_false h4]; rfl
                have h4' : decide (x ≤ y) = true := decide_eq_true (by omega)
                have hz := HNO.out hr
      all_goals
        have HZ := Lib.hid hz
        clear hz hr
        try clear h1
        go_wp2
        refine wp_region_plan [(0, true), (1, true), (2, true), (3, true), (4, true), (5, true), (6, true), (7, true), (8, true), (9, true), (10, true), (11, true), (12, true), (13, true), (14, true), (15, true), (16, true), (17, true), (18, true), (19, true), (20, true), (21, true), (22, true), (23, true), (24, true), (25, true), (26, true), (27, true), (28, true), (29, true), (30, true), (31, true), (32, true), (33, true), (34, true), (35, true), (36, true)] (by kernel_rfl) (by kernel_rfl) ?_
        repeat (first | (refine plan_skip rfl rfl ?_; go_frame) | (refine plan_soft rfl rfl (fun K hK => ?_); go_simp; first | (refine hK _ ?_; clear hK K) | (apply Exists.intro; refine ⟨fun x => ?_, hK _ ?_⟩; (· (fail)); clear hK K; try go_frame)))
        refine plan_nil ?_; intro w1 h0b; have Hb1 := Lib.hid h0b; clear h0b
        clear t1
        try clear t2 w1
        go_wp2
        first
          | (go_ret; exact ⟨ret_bool HZ.out.symm, below_le Hb.out Hb1.out⟩)
          | (go_roundw
             case rel => exact ⟨k + 1, by omega, by go_num, HZ.out, below_le Hb.out Hb1.out⟩
             case measure => simp [intOf]; omega)
    · have HE := Lib.hid (show k = l.length by have := HL.out; omega)
      go_wp2
      go_ret
      refine ⟨ret_bool ?_, Hb.out⟩
      rw [all_take fun j hj => HT.out j (by have := HE.out; omega)]

theorem dright_eq (z e : Int) (ps es : List Int) : dRight z ps e es = (decide (0 ≤ z) && decide (z ≤ 1024) && decide (z.tmod 4 = 0) && decide (0 ≤ e) && decide (e ≤ 256) && decide (e.tmod 4 = 0) && riseB z (-1) ps && riseB e (-1) es) := by
  simp only [dRight, partB, Bool.and_assoc]

set_option maxHeartbeats 8000000 in
/-- The reference's Right. -/
theorem rright_any (z e : Int) (P Q : Option Addr) (m c q f : Nat) (ps es : List Int) (w : World) (hP : Row w P m (ps.map Iv)) (hQ : Row w Q q (es.map Iv)) (hm : m ≤ 1000) (hq : q ≤ 1000) :
    Calls Tryz.prog 46 #[descV z P m c e Q q f] w fun x w' => x = .returned (.bool (dRight z ps e es)) ∧ Below w.heap.size w w' := by
  have hb1 := below_box w (descO z P m c e Q q f)
  obtain ⟨a0, a1, a2, a3⟩ : (w.alloc (descO z P m c e Q q f)).cell? ⟨w.heap.size, 0, none⟩ = some (.int .i64 z) ∧ (w.alloc (descO z P m c e Q q f)).cell? ⟨w.heap.size, 1, none⟩ = some (.slice P m c) ∧ (w.alloc (descO z P m c e Q q f)).cell? ⟨w.heap.size, 2, none⟩ = some (.int .i64 e) ∧ (w.alloc (descO z P m c e Q q f)).cell? ⟨w.heap.size, 3, none⟩ = some (.slice Q q f) := by simp [go_sem]
  have hS := dright_eq z e ps es
  have W1 : Hid (∀ W : World, Row W P m (ps.map Iv) → Calls Tryz.prog 63 #[.slice P m c, .int .i64 z] W fun x w' => x = .returned (.bool (riseB z (-1) ps)) ∧ Below W.heap.size W w') := Lib.hid fun W h => rising_any z P m c ps W h hm
  have W2 : Hid (∀ W : World, Row W Q q (es.map Iv) → Calls Tryz.prog 63 #[.slice Q q f, .int .i64 e] W fun x w' => x = .returned (.bool (riseB e (-1) es)) ∧ Below W.heap.size W w') := Lib.hid fun W h => rising_any e Q q f es W h hq
  have HP := Lib.hid (hP.ext hb1)
  have HQ := Lib.hid (hQ.ext hb1)
  have HB := Lib.hid hb1
  generalize dRight z ps e es = r at *
  generalize riseB z (-1) ps = b3 at *
  generalize riseB e (-1) es = b4 at *
  have HS := Lib.hid hS
  clear hS hP hQ hb1
  by_cases z0 : 0 ≤ z
  case' neg =>
    have hr : r = false := by rw [HS.out, decide_eq_false z0]; simp
    have y0 : z < 0 := by omega
  case' pos =>
    by_cases z1 : z ≤ 1024
    case' neg =>
      have hr : r = false := by rw [HS.out, decide_eq_false z1]; simp
      have y1 : 1024 < z := by omega
    case' pos =>
      by_cases z2 : z.tmod 4 = 0
      case' neg =>
        have hr : r = false := by rw [HS.out, decide_eq_false z2]; simp
        have y2 : (z.tmod 4 == 0) = false := beq_eq_false_iff_ne.2 z2
        have y2' : (z % 4 == 0) = false := by rw [← Int.tmod_eq_emod_of_nonneg z0]; exact y2
        clear z2
      case' pos =>
        have y2 : (z.tmod 4 == 0) = true := by rw [z2]; rfl
        have y2' : (z % 4 == 0) = true := by rw [← Int.tmod_eq_emod_of_nonneg z0]; exact y2
        by_cases e0 : 0 ≤ e
        case' neg =>
          have hr : r = false := by rw [HS.out, decide_eq_false e0]; simp
          have x0 : e < 0 := by omega
          clear z2
        case' pos =>
          by_cases e1 : e ≤ 256
          case' neg =>
            have hr : r = false := by rw [HS.out, decide_eq_false e1]; simp
            have x1 : 256 < e := by omega
            clear z2
          case' pos =>
            by_cases e2 : e.tmod 4 = 0
            case' neg =>
              have hr : r = false := by rw [HS.out, decide_eq_false e2]; simp
              have x2 : (e.tmod 4 == 0) = false := beq_eq_false_iff_ne.2 e2
              have x2' : (e % 4 == 0) = false := by rw [← Int.tmod_eq_emod_of_nonneg e0]; exact x2
              clear e2 z2
            case' pos =>
              have x2 : (e.tmod 4 == 0) = true := by rw [e2]; rfl
              have x2' : (e % 4 == 0) = true := by rw [← Int.tmod_eq_emod_of_nonneg e0]; exact x2
              have hS : r = (b3 && b4) := by rw [HS.out, decide_eq_true z0, decide_eq_true z1, decide_eq_true z2, decide_eq_true e0, decide_eq_true e1, decide_eq_true e2]; rfl
              have HS2 := Lib.hid hS
              clear hS e2 z2
  case pos =>
    go_enter Tryz.func46, Tryz.ntmps46
    go_wp2_with fail
    generalize w.alloc (descO z P m c e Q q f) = W0 at *
    refine (W1.out _ HP.out).mono ?_
    rintro x w2 ⟨rfl, hb2⟩
    replace a2 := cell_ext hb2 a2
    replace a3 := cell_ext hb2 a3
    replace HQ := Lib.hid (HQ.out.ext hb2)
    replace HB := Lib.hid (below_le HB.out hb2)
    clear hb2
    cases b3
    · go_wp2
      go_ret
      exact ⟨ret_bool (by rw [HS2.out]; simp), HB.out⟩
    · go_wp2_with fail
      refine (W2.out _ HQ.out).mono ?_
      rintro x w3 ⟨rfl, hb3⟩
      replace HB := Lib.hid (below_le HB.out hb3)
      clear hb3
      go_wp2
      go_ret
      exact ⟨ret_bool (by rw [HS2.out]; simp), HB.out⟩
  all_goals
    have HR := Lib.hid hr
    clear hr
    go_enter Tryz.func46, Tryz.ntmps46
    go_wp2
    go_ret
    exact ⟨ret_bool (by rw [HR.out]), HB.out⟩

set_option maxHeartbeats 2000000 in
/-- The reference's Same. -/
theorem rsame_any (z e : Int) (P Q : Option Addr) (m c q f : Nat) (ps es : List Int) (z' e' : Int) (P' Q' : Option Addr) (m' c' q' f' : Nat) (ps' es' : List Int) (w : World) (hP : Row w P m (ps.map Iv)) (hQ : Row w Q q (es.map Iv)) (hP' : Row w P' m' (ps'.map Iv)) (hQ' : Row w Q' q' (es'.map Iv))
    (hm : m ≤ 1000) (hq : q ≤ 1000) (hm' : m' ≤ 1000) (hq' : q' ≤ 1000) :
    Calls Tryz.prog 27 #[.agg #[.int .i64 z, .slice P m c, .int .i64 e, .slice Q q f], .agg #[.int .i64 z', .slice P' m' c', .int .i64 e', .slice Q' q' f']] w fun x w' => x = .returned (.bool (dSame z e ps es z' e' ps' es')) ∧ Below w.heap.size w w' := by
  have hb1 := below_alloc w (.cells #[.int .i64 z, .slice P m c, .int .i64 e, .slice Q q f] 35)
  have hb2 := below_alloc (w.alloc (.cells #[.int .i64 z, .slice P m c, .int .i64 e, .slice Q q f] 35)) (.cells #[.int .i64 z', .slice P' m' c', .int .i64 e', .slice Q' q' f'] 35)
  have hb := below_le hb1 hb2
  obtain ⟨a0, a1, a2, a3⟩ := dbox (w := w) (t := 35) (a := .int .i64 z) (b := .slice P m c) (c := .int .i64 e) (d := .slice Q q f)
  obtain ⟨b0, b1, b2, b3⟩ := dbox (w := w.alloc (.cells #[.int .i64 z, .slice P m c, .int .i64 e, .slice Q q f] 35)) (t := 35) (a := .int .i64 z') (b := .slice P' m' c') (c := .int .i64 e') (d := .slice Q' q' f')
  replace a0 := cell_ext hb2 a0
  replace a1 := cell_ext hb2 a1
  replace a2 := cell_ext hb2 a2
  replace a3 := cell_ext hb2 a3
  have hz : (w.alloc (.cells #[.int .i64 z, .slice P m c, .int .i64 e, .slice Q q f] 35)).heap.size = w.heap.size + 1 := by simp
  rw [hz] at b0 b1 b2 b3
  have e1 := ints_any P P' m c m' c' ps ps' _ (hP.ext hb) (hP'.ext hb) (by omega) (by omega)
  have E1 := Lib.hid e1
  have HQ := Lib.hid (hQ.ext hb)
  have HQ' := Lib.hid (hQ'.ext hb)
  have HB := Lib.hid hb
  have hS : dSame z e ps es z' e' ps' es' = (decide (z = z') && decide (e = e') && decide (ps = ps') && decide (es = es')) := rfl
  generalize dSame z e ps es z' e' ps' es' = r at *
  clear hP hP' hQ hQ' hb1 hb2 hb e1 hz
  by_cases hzz : z = z'
  · by_cases hee : e = e'
    · rw [decide_eq_true hzz, decide_eq_true hee] at hS
      have d0 : (z == z') = true := by simpa using hzz
      have d2 : (e == e') = true := by simpa using hee
      generalize decide (ps = ps') = r1 at *
      have HS := Lib.hid hS
      clear hS hzz hee
      go_enter Tryz.func27, Tryz.ntmps27
      go_wp2_with fail
      generalize (w.alloc (.cells #[.int .i64 z, .slice P m c, .int .i64 e, .slice Q q f] 35)).alloc (.cells #[.int .i64 z', .slice P' m' c', .int .i64 e', .slice Q' q' f'] 35) = W0 at *
      refine E1.out.mono ?_
      rintro x w1 ⟨rfl, hb1⟩
      replace a3 := cell_ext hb1 a3
      replace b3 := cell_ext hb1 b3
      have e2 := ints_any Q Q' q f q' f' es es' w1 (HQ.out.ext hb1) (HQ'.out.ext hb1) (by omega) (by omega)
      have E2 := Lib.hid e2
      replace HB := Lib.hid (below_le HB.out hb1)
      clear hb1 e2 E1 a0 a1 a2 b0 b1 b2 d0 d2
      cases r1
      · go_wp2
        go_ret
        exact ⟨ret_bool (by rw [HS.out]; simp), HB.out⟩
      · generalize decide (es = es') = r2 at *
        go_wp2_with fail
        refine E2.out.mono ?_
        rintro x w2 ⟨rfl, hb2⟩
        replace HB := Lib.hid (below_le HB.out hb2)
        clear hb2 a3 b3
        go_wp2
        go_ret
        exact ⟨ret_bool (by rw [HS.out]; simp), HB.out⟩
    · rw [decide_eq_false hee] at hS
      have d0 : (z == z') = true := by simpa using hzz
      have d2 : (e == e') = false := by simpa using hee
      have HS := Lib.hid hS
      clear hS hzz hee E1
      go_enter Tryz.func27, Tryz.ntmps27
      go_wp2
      go_ret
      exact ⟨ret_bool (by rw [HS.out]; simp), HB.out⟩
  · rw [decide_eq_false hzz] at hS
    have d0 : (z == z') = false := by simpa using hzz
    have HS := Lib.hid hS
    clear hS hzz E1
    go_enter Tryz.func27, Tryz.ntmps27
    go_wp2
    go_ret
    exact ⟨ret_bool (by rw [HS.out]; simp), HB.out⟩



end Go.Proofs.YtmabokmnniiadaaGreatDoor
