/-
  What is proved: the contract of Count of package run. No condition beyond those stated.
-/
import Derived.Test.YtllanbggjfmfhaaGreatDoorNi
import Derived.Maps.OwnOps
import Derived.Maps.Own
import Derived.Maps.OwnSet
import Derived.Maps.Views
namespace Go.Proofs.YtllanbggjfmfhaaGreatDoor
open Go.RowKit Go.Maps

theorem stop_here {p : Prop} (h : True → p) : p := h trivial
theorem law3 : Keyed Tryz.prog 3 := int_keyed Tryz.underlying3
def Wf (l : List Int) : Prop := ∀ x ∈ l, (Lit.int .i64 x).wf = true
def countL (l : List Int) (s : Int) : Nat := l.countP (· == s)
theorem count_snoc (l : List Int) (k : Nat) (hk : k < l.length) (s : Int) : countL (l.take (k + 1)) s = countL (l.take k) s + if l.getD k 0 == s then 1 else 0 := by
  unfold countL
  rw [List.take_succ_eq_append_getElem hk, List.countP_append]
  simp [hk, List.countP_cons]
theorem count_len (l : List Int) (s : Int) : countL l s ≤ l.length := List.countP_le_length

/-- What the map reads as. -/
def Counts (l : List Int) (k : Nat) (D : DataW Unit) : Prop := ∀ x, (Lit.int .i64 x).wf = true → D.atKey (.int .i64 x) (.lit (.int .i64 0)) = .lit (.int .i64 (countL (l.take k) x : Nat))

set_option maxRecDepth 100000 in
set_option maxHeartbeats 1000000 in
/-- run.Count. -/
theorem count_any (A : Option Addr) (m c : Nat) (l : List Int) (s : Int) (w : World) (hR : Row w A m (l.map Iv)) (hm : m ≤ 1000) (hF : Wf l) (hs : (Lit.int .i64 s).wf = true) :
    Calls Tryz.prog 48 #[.slice A m c, .int .i64 s] w fun e w' => e = .returned (.int .i64 (countL l s : Nat)) ∧ Below w.heap.size w w' := by
  have hl := hR.1
  simp at hl
  have hmm := @run_makeMap Tryz.prog
  have HR := Lib.hid hR
  have HL := Lib.hid hl
  have HF := Lib.hid hF
  have HS := Lib.hid hs
  clear hR hl hF hs
  go_enter Tryz.func48, Tryz.ntmps48
  go_wp2
  go_loopw [11] (fun i wr => ∃ (k : Nat) (D : DataW Unit), k ≤ m ∧ i = .int .i64 k ∧ wr.ownsMap Tryz.prog 3 (plainElem Tryz.prog 3) w.heap.size k D ∧ Counts l k D ∧ Below w.heap.size w wr) (fun i _ => m - (intOf i).toNat)
  case atStart => exact ⟨0, .map [], Nat.zero_le _, rfl, World.ownsMap_made _ _ _ _, fun x _ => by simp [countL]; rfl, (Below.refl _ _).alloc (Nat.le_refl _) _⟩
  case round =>
    obtain ⟨k, D, hk, rfl, hown, hct, hb⟩ := hrel
    have HO := Lib.hid hown
    have HC := Lib.hid hct
    have Hb := Lib.hid hb
    clear hown hct hb
    by_cases hlt : k < m
    · obtain ⟨b, off, x, rfl, hcx, hx, hx2⟩ := num_at (HR.out.ext Hb.out) hlt
      have hwx := HF.out x (List.mem_of_getElem? hx2)
      have hat := HC.out x hwx
      have hcl := count_len (l.take k) x
      have hcl2 : (l.take k).length ≤ k := List.length_take_le _ _
      have hsn : Hid (∀ y, countL (l.take (k + 1)) y = countL (l.take k) y + if x == y then 1 else 0) := Lib.hid (fun y => by rw [count_snoc l k (by have := HL.out; omega), hx])
      obtain ⟨cc, hcc⟩ : ∃ cc, countL (l.take k) x = cc := ⟨_, rfl⟩
      rw [hcc] at hat hcl
      have HAT := Lib.hid hat
      have HWX := Lib.hid hwx
      have HCC := Lib.hid hcc
      have hcm : cc ≤ 1000 := by omega
      clear hx hx2 hwx hat hcc hcl hcl2
      go_wp2_with (at_lookup; refine stop_here ?_)
      intro _
      refine wpList_lookup_own_int _ rfl (.tmp 15) (.tmp 16) 98 rfl 3 3 .i64 law3 Tryz.underlying98 Tryz.underlying3 (zero_int _) w.heap.size k D rfl HO.out _ _ rfl (keyOf_int_mk Tryz.underlying3 HWX.out) ?_
      intro c' hat' _
      have hc' : c' = (cc : Int) := by
        have := HAT.out.symm.trans hat'
        injection this with this
        injection this with _ this
        exact this.symm
      subst hc'
      clear hat'
      go_wp2_with (at_mapUpdate; refine stop_here ?_)
      intro _
      refine wpList_mapUpdate_own _ rfl (.tmp 15) (.tmp 16) (.tmp 18) 98 rfl 3 3 law3 Tryz.underlying98 _ w.heap.size k D rfl HO.out (by unfold maxLen; omega) _ _ _ rfl rfl (keyOf_int_mk Tryz.underlying3 HWX.out) _ [] (plainElem_int Tryz.underlying3 (WalkArith.wf_i64 (by omega))) ?_
      intro w1 hown1 hgrow1
      have HO1 := Lib.hid hown1
      have HG1 := Lib.hid hgrow1
      clear hown1 hgrow1
      go_wp2
      go_roundw
      case rel =>
        refine ⟨k + 1, _, by omega, by go_num, HO1.out, fun y hy => ?_, Hb.out.grown HG1.out Hb.out.size (fun j hj => by cases hj; exact Nat.le_refl _)⟩
        rw [hsn.out y]
        by_cases hxy : x = y
        · subst hxy
          rw [atKey_put_same HO.out.isMap (by simp [WideAt.IsKeyLit]), HCC.out]
          simp
        · rw [atKey_put_other (fun h => hxy (by injection h with _ h; exact h.symm)), HC.out y hy]
          simp [hxy]
      case measure => simp [intOf]; omega
    · have hkm : k = m := by omega
      have HFIN : Hid (countL (l.take k) s = countL l s) := Lib.hid (by rw [List.take_of_length_le (by have := HL.out; omega)])
      clear hkm
      go_wp2_with (at_lookup; refine stop_here ?_)
      intro _
      refine wpList_lookup_own_int _ rfl (.tmp 20) (.tmp 21) 98 rfl 3 3 .i64 law3 Tryz.underlying98 Tryz.underlying3 (zero_int _) w.heap.size k D rfl HO.out _ _ rfl (keyOf_int_mk Tryz.underlying3 HS.out) ?_
      intro c' hat' _
      have hc' : c' = (countL l s : Int) := by
        have := (HC.out s HS.out).symm.trans hat'
        injection this with this
        injection this with _ this
        rw [← this, HFIN.out]
      have HCC := Lib.hid hc'
      clear hat' hc'
      go_wp2
      go_ret
      exact ⟨ret_int HCC.out, Hb.out⟩

end Go.Proofs.YtllanbggjfmfhaaGreatDoor
