/-
  What is proved: the contract of Ints of the reference. No condition beyond those stated.
-/
import Derived.Test.YtmabokmnniiadaaGreatDoorLib
import Derived.Test.YtmabokmnniiadaaGreatDoorRows
import Derived.WalkSpells
import Derived.WalkLawsBesides
import Derived.Laws.AppendOwn
namespace Go.Proofs.YtmabokmnniiadaaGreatDoor
open Go.RowKit

def Iv (x : Int) : Value := .int .i64 x

theorem num_at {A : Option Addr} {n : Nat} {l : List Int} {w : World} {k : Nat} (hR : Row w A n (l.map Iv)) (hk : k < n) :
    ∃ b off x, A = some ⟨b, off, none⟩ ∧ w.cell? ⟨b, off + k, none⟩ = some (.int .i64 x) ∧ l.getD k 0 = x ∧ l[k]? = some x := by
  obtain ⟨b, off, rfl, hc⟩ := hR.at_ (k := k) hk
  have hl := hR.1
  simp at hl
  refine ⟨b, off, l[k]'(by omega), rfl, by simpa [Iv] using hc, by simp [show k < l.length by omega], List.getElem?_eq_getElem _⟩

theorem take_eq_next {xs ys : List Int} {k : Nat} (hx : k < xs.length) (hy : k < ys.length) (h : xs.take k = ys.take k) : xs.take (k + 1) = ys.take (k + 1) ↔ xs.getD k 0 = ys.getD k 0 := by
  rw [List.take_succ_eq_append_getElem hx, List.take_succ_eq_append_getElem hy, h]
  constructor
  · intro e
    have := List.append_cancel_left e
    simpa [hx, hy] using this
  · intro e
    have e' : xs[k] = ys[k] := by simpa [hx, hy] using e
    rw [e']

set_option maxHeartbeats 1000000 in
/-- Are two lists the same? -/
theorem ints_any (A B : Option Addr) (n c m d : Nat) (xs ys : List Int) (w : World) (hA : Row w A n (xs.map Iv)) (hB : Row w B m (ys.map Iv)) (hn : n ≤ 1099511627776) (hm : m ≤ 1099511627776) :
    Calls Tryz.prog 49 #[.slice A n c, .slice B m d] w fun e w' => e = .returned (.bool (decide (xs = ys))) ∧ Below w.heap.size w w' := by
  have hx := hA.1
  have hy := hB.1
  simp at hx hy
  by_cases he : n = m
  · subst he
    have hq : ((n : Int) != (n : Int)) = false := by simp
    have HA := Lib.hid hA
    have HB := Lib.hid hB
    have HX := Lib.hid hx
    have HY := Lib.hid hy
    clear hA hB hx hy
    go_enter Tryz.func49, Tryz.ntmps49
    go_wp2
    go_loopw [5] (fun i wr => ∃ k : Nat, k ≤ n ∧ i = .int .i64 k ∧ xs.take k = ys.take k ∧ Below w.heap.size w wr) (fun i _ => n - (intOf i).toNat)
    case atStart => exact ⟨0, Nat.zero_le _, rfl, rfl, Below.refl _ _⟩
    case round =>
      obtain ⟨k, hk, rfl, ht, hb⟩ := hrel
      have HT := Lib.hid ht
      have Hb := Lib.hid hb
      clear ht hb
      by_cases hlt : k < n
      · obtain ⟨b1, o1, x, rfl, c1, e1, -⟩ := num_at (HA.out.ext Hb.out) hlt
        obtain ⟨b2, o2, y, rfl, c2, e2, -⟩ := num_at (HB.out.ext Hb.out) hlt
        have E1 := Lib.hid e1
        have E2 := Lib.hid e2
        clear e1 e2
        have t1 := fun z : Ext wr => ext_cell c1 z
        have t2 := fun z : Ext wr => ext_cell c2 z
        clear c1 c2
        by_cases hxy : x = y
        · have hd : (x != y) = false := by simpa using hxy
          have HXY := Lib.hid hxy
          clear hxy
          go_wp2
          refine wp_region_plan [(0, true), (1, true), (2, true), (3, true), (4, true), (5, true), (6, true), (7, true), (8, true)] (by kernel_rfl) (by kernel_rfl) ?_
          repeat (first | (refine plan_skip rfl rfl ?_; go_frame) | (refine plan_soft rfl rfl (fun K hK => ?_); go_simp; first | (refine hK _ ?_; clear hK K) | (apply Exists.intro; refine ⟨fun x => ?_, hK _ ?_⟩; (· (fail)); clear hK K; try go_frame)))
          refine plan_nil ?_; intro w1 h0b; have Hb1 := Lib.hid h0b; clear h0b
          clear t1 t2
          go_wp2
          go_roundw
          case rel => exact ⟨k + 1, by omega, by go_num, (take_eq_next (by have := HX.out; omega) (by have := HY.out; omega) HT.out).2 (by rw [E1.out, E2.out]; exact HXY.out), below_le Hb.out Hb1.out⟩
          case measure => simp [intOf]; omega
        · have hd : (x != y) = true := by simpa using hxy
          have HXY := Lib.hid hxy
          clear hxy
          go_wp2
          refine wp_region_plan [(0, true), (1, true), (2, true), (3, true), (4, true), (5, true), (6, true), (7, true), (8, true)] (by kernel_rfl) (by kernel_rfl) ?_
          repeat (first | (refine plan_skip rfl rfl ?_; go_frame) | (refine plan_soft rfl rfl (fun K hK => ?_); go_simp; first | (refine hK _ ?_; clear hK K) | (apply Exists.intro; refine ⟨fun x => ?_, hK _ ?_⟩; (· (fail)); clear hK K; try go_frame)))
          refine plan_nil ?_; intro w1 h0b; have Hb1 := Lib.hid h0b; clear h0b
          clear t1 t2
          go_wp2
          go_ret
          refine ⟨ret_bool ?_, below_le Hb.out Hb1.out⟩
          have hne : ¬ xs = ys := fun e => HXY.out (by rw [← E1.out, ← E2.out, e])
          simp [hne]
      · go_wp2
        go_ret
        refine ⟨ret_bool ?_, Hb.out⟩
        have h1 := HT.out
        rw [List.take_of_length_le (by have := HX.out; omega), List.take_of_length_le (by have := HY.out; omega)] at h1
        simp [h1]
  · have hq : ((n : Int) != (m : Int)) = true := by simp; omega
    have hne : ¬ xs = ys := fun e => he (by rw [← hx, ← hy, e])
    have HN := Lib.hid hne
    clear hne he hx hy hA hB
    go_enter Tryz.func49, Tryz.ntmps49
    go_wp2
    go_ret
    exact ⟨ret_bool (by simp [HN.out]), Below.refl _ _⟩

/-- A list of the call's own, as it is handed back. -/
theorem row_of_owns {W : World} {base : Nat} {t : TypeId} {v : Value} {n : Nat} {xs : List Value} (h : W.ownsRow base t 1 v n xs) :
    ∃ A c, v = .slice A n c ∧ Row W A n xs ∧ (∀ a, A = some a → base ≤ a.block) := by
  have hlen := h.1
  rcases h.2 with ⟨rfl, rfl⟩ | ⟨b, cap, cur, rfl, hb, hcur, hk, hcap, hsz, htk⟩
  · exact ⟨none, 0, rfl, ⟨by simpa using hlen, fun h => absurd h (by omega)⟩, (fun _ e => by cases e)⟩
  · refine ⟨_, _, rfl, ⟨by simpa using hlen, fun _ => ⟨b, 0, rfl, fun j u hu => ?_⟩⟩, (fun a e => by cases e; exact hb)⟩
    rw [Nat.zero_add, cell_of_row W b j cur t (0, 0) hcur]
    rw [← htk, List.getElem?_take] at hu
    split at hu
    · simpa using hu
    · cases hu

end Go.Proofs.YtmabokmnniiadaaGreatDoor
