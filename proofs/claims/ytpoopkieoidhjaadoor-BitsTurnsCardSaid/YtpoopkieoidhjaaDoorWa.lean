/-
  What is proved: BitsWalks returns true. No condition beyond those stated.
-/
import Derived.Test.YtpoopkieoidhjaaDoorBo
import Derived.Test.YtpoopkieoidhjaaDoorSs
import Derived.Test.YtpoopkieoidhjaaDoorSa
namespace Go.Proofs.YtpoopkieoidhjaaDoor
open Go.RowKit Go.Shelf

theorem int_at {A : Option Addr} {n : Nat} {l : List Nat} {w : World} {k : Nat} (hR : Row w A n (l.map I64)) (hk : k < n) :
    ∃ b off x, A = some ⟨b, off, none⟩ ∧ w.cell? ⟨b, off + k, none⟩ = some (.int .i64 ((x : Nat) : Int)) ∧ l[k]? = some x := by
  obtain ⟨b, off, rfl, hc⟩ := hR.at_ (k := k) hk
  have hl := hR.1
  simp at hl
  refine ⟨b, off, l[k]'(by omega), rfl, by simpa [I64] using hc, List.getElem?_eq_getElem _⟩

theorem count_le (n : Int) (ws : List Nat) : countN n ws ≤ 20000 := by
  cases hr : rightB n ws
  · simp [countN, hr]
  · rw [count_eq hr]
    obtain ⟨h0, h1, _, _⟩ := rightB_elim hr
    have := List.countP_le_length (p := tb ws) (l := List.range n.toNat)
    simp at this
    omega

set_option maxRecDepth 100000 in
set_option maxHeartbeats 2000000 in
theorem walks_any (A : Option Addr) (m c : Nat) (n : Int) (ws : List Nat) (aA aB aP : Addr) (w : World) (hS : BSent w aA aB aP) (hR : Row w A m (ws.map U32)) (hF : Fits ws) (hc : m ≤ c) :
    Calls Tryd.prog 7 #[.agg #[.int .i64 n, .slice A m c]] w (Holds w) := by
  have hx := below_box w (.cells #[.int .i64 n, .slice A m c] 24)
  have k0 : (w.alloc (.cells #[.int .i64 n, .slice A m c] 24)).cell? ⟨w.heap.size, 0, none⟩ = some (.int .i64 n) := by simp [go_sem]
  have k1 : (w.alloc (.cells #[.int .i64 n, .slice A m c] 24)).cell? ⟨w.heap.size, 1, none⟩ = some (.slice A m c) := by simp [go_sem]
  have hbl : Blk (w.alloc (.cells #[.int .i64 n, .slice A m c] 24)) w.heap.size 24 #[.int .i64 n, .slice A m c] := heap_new rfl _
  have HS := Lib.hid hS
  have HR := Lib.hid (row_cut hR)
  have HF := Lib.hid (fits_take hF 12)
  generalize ws.take 12 = vs at HR HF
  have HB := Lib.hid hx
  have HBL := Lib.hid hbl
  clear hS hR hx hbl hF
  go_enter Tryd.func7, Tryd.ntmps7
  go_wp2_with fail
  generalize w.alloc (.cells #[.int .i64 n, .slice A m c] 24) = W0 at *
  refine (shown_any aA aB aP W0 (HS.out.ext HB.out)).mono ?_
  rintro e w1 ⟨rfl, hb1⟩
  have e0 := cell_ext hb1 k0
  have e1 := cell_ext hb1 k1
  have HBL1 := Lib.hid (HBL.out.ext hb1)
  have HB1 := Lib.hid (below_le HB.out hb1)
  clear hb1 k0 k1 HBL HB
  go_wp2_with fail
  refine (cut_any A m c n w1 hc).mono ?_
  rintro e w2 ⟨⟨c', rfl⟩, hb2⟩
  generalize min m 12 = m' at *
  have h2 := HBL1.out.ext hb2
  have f0 := h2.frozen 0
  have f1 := h2.frozen 1
  have d0 := h2.cell 0
  have d1 := h2.cell 1
  have h3 := (h2.set_ 0 (.int .i64 n)).set_ 1 (.slice A m' c')
  have hb3 : Below w.heap.size w ((w2.setCell ⟨w.heap.size, 0, none⟩ (.int .i64 n)).setCell ⟨w.heap.size, 1, none⟩ (.slice A m' c')) :=
    ((below_le HB1.out hb2).setCell (p := ⟨w.heap.size, 0, none⟩) (Nat.le_refl _) _).setCell (p := ⟨w.heap.size, 1, none⟩) (Nat.le_refl _) _
  have k0 := h3.cell 0
  have k1 := h3.cell 1
  simp at k0 k1
  have H3 := Lib.hid h3
  have HB3 := Lib.hid hb3
  clear h2 h3 hb2 hb3 HB1 HBL1 e0 e1
  go_wp2_with fail
  generalize (w2.setCell ⟨w.heap.size, 0, none⟩ (.int .i64 n)).setCell ⟨w.heap.size, 1, none⟩ (.slice A m' c') = W3 at *
  clear f0 f1 d0 d1
  refine (list_any A m' c' n vs W3 (HR.out.ext HB3.out) HF.out).mono ?_
  rintro e w4 ⟨L, p, d, rfl, hL, -, hb4⟩
  have e0 := cell_ext hb4 k0
  have e1 := cell_ext hb4 k1
  have HB4 := Lib.hid (below_le HB3.out hb4)
  have HL := Lib.hid hL
  have hp : (listN n vs).length = p := by have := hL.1; simpa using this
  have hps : (p : Int) ≤ 30000 := by
    rw [← hp, list_length]
    have := count_le n vs
    omega
  have HP := Lib.hid hp
  clear hL hb4 k0 k1 hp
  go_wp2
  go_loopw [5, 6] (fun s i wr => ∃ k : Nat, k ≤ p ∧ i = .int .i64 k ∧ s = .int .i64 (fromAt (listN n vs) k : Nat) ∧ Below w4.heap.size w4 wr) (fun _ i _ => p - (intOf i).toNat)
  case atStart => exact ⟨0, Nat.zero_le _, rfl, rfl, Below.refl _ _⟩
  case round =>
    obtain ⟨k, hk, rfl, rfl, hb⟩ := hrel
    have k0 := cell_ext hb e0
    have k1 := cell_ext hb e1
    have HB5 := Lib.hid (below_le HB4.out hb)
    have Hb := Lib.hid hb
    have hnx := next_list (n := n) (ws := vs) k (by rw [HP.out]; exact hk)
    have HN := Lib.hid hnx
    clear hb hnx
    by_cases hlt : k < p
    · obtain ⟨b, off, x, rfl, hcx, hx⟩ := int_at (HL.out.ext Hb.out) hlt
      obtain ⟨x1, x2, x3, x4⟩ := list_from hx
      have X2 := Lib.hid x2
      have X3 := Lib.hid x3
      have HX := Lib.hid hx
      have hxs : (x : Int) ≤ 20000 := by omega
      have d1 : decide ((x : Int) < (fromAt (listN n vs) k : Nat)) = false := by simp; omega
      have d2 : decide (x < fromAt (listN n vs) k) = false := by simp; omega
      clear x2 x3 x4 hx
      generalize hfr : fromAt (listN n vs) k = fr at *
      have d0 : ((x : Int) != (x : Int)) = false := by simp
      go_wp2_with fail
      have h := next_any A m' c' n vs (fr : Int) true wr (HR.out.ext HB5.out) HF.out
      rw [HN.out, HX.out] at h
      refine h.mono ?_
      clear h
      rintro e w6 ⟨rfl, hb6⟩
      have j0 := cell_ext hb6 k0
      have j1 := cell_ext hb6 k1
      have jx := cell_ext hb6 hcx
      have HB6 := Lib.hid (below_le HB5.out hb6)
      have Hb6 := Lib.hid (below_le Hb.out hb6)
      clear hb6 k0 k1 hcx
      simp only [Option.getD_some, Option.isSome_some]
      go_wp2_with fail
      have h := has_any A m' c' n vs (x : Int) w6 (HR.out.ext HB6.out) HF.out
      rw [X3.out] at h
      refine h.mono ?_
      clear h
      rintro e w7 ⟨rfl, hb7⟩
      have Hb7 := Lib.hid (below_le Hb6.out hb7)
      clear hb7
      go_wp2
      go_roundw
      case rel => exact ⟨k + 1, by omega, by go_num, by rw [X2.out]; go_num, Hb7.out⟩
      case measure => simp [intOf]; omega
    · have hkp : k = p := by omega
      have HK := Lib.hid hkp
      have hfs : (fromAt (listN n vs) k : Int) ≤ 30000 := by
        cases k with
        | zero => simp [fromAt]
        | succ k =>
          cases hx : (listN n vs)[k]? with
          | none => have := List.getElem?_eq_none_iff.1 hx; have := HP.out; omega
          | some x => obtain ⟨_, x2, _, x4⟩ := list_from hx; rw [x2]; omega
      clear hkp
      go_wp2_with fail
      have h := next_any A m' c' n vs (fromAt (listN n vs) k : Nat) true wr (HR.out.ext HB5.out) HF.out
      rw [HN.out, List.getElem?_eq_none (by rw [HP.out, HK.out]; exact Nat.le_refl _)] at h
      refine h.mono ?_
      clear h
      rintro e w6 ⟨rfl, hb6⟩
      have j0 := cell_ext hb6 k0
      have j1 := cell_ext hb6 k1
      have HB6 := Lib.hid (below_le HB5.out hb6)
      clear hb6 k0 k1
      simp only [Option.getD_none, Option.isSome_none]
      go_wp2_with fail
      have h := count_any A m' c' n vs w6 (HR.out.ext HB6.out) HF.out
      rw [← list_length, HP.out] at h
      refine h.mono ?_
      clear h
      rintro e w7 ⟨rfl, hb7⟩
      have HB7 := Lib.hid (below_le HB6.out hb7)
      clear hb7
      go_wp2
      go_ret
      exact ⟨ret_bool (by simp), HB7.out⟩

end Go.Proofs.YtpoopkieoidhjaaDoor
