/-
  What is proved: the contract of lines of package kinds, as an iterator. No condition beyond those stated.
-/
import Derived.Test.YtmabokmnniiadaaGreatDoorMr
namespace Go.Proofs.YtmabokmnniiadaaGreatDoor
open Go.RowKit Go.Shelf
attribute [local go_sem] Oper.semAt_some

/-- A line, and whether it has an end. -/
def lineV (L : List (List UInt8 × Bool)) (i : Nat) : Array Value := #[.string ⟨(L.getD i ([], false)).1.toArray⟩, .bool (L.getD i ([], false)).2]
abbrev StopsL (n f : Nat) (lb : Array Value) (L : List (List UInt8 × Bool)) (w : World) : Prop :=
  SeqStopsK Fence.wide n Tryz.prog f lb (fun x : Fin L.length => lineV L x.1) (KeepB [1]) (fun ys => ys = List.finRange L.length) (fun pre => ∃ k, k ≤ L.length ∧ pre = (List.finRange L.length).take k) L.length w
theorem KeepB.mlen {X Y : World} (h : KeepB [1] X Y) (hM : MLen X) : MLen Y := by
  obtain ⟨m, hm⟩ := hM
  exact ⟨m, h.cell (by simp) hm⟩
def strSize : Value → Nat
  | .string s => s.size
  | _ => 0
/-- A round's line. -/
theorem lines_step {f : Nat} {r : List UInt8} {L : List (List UInt8 × Bool)} {k : Nat} (h : L.drop k = linesOf f r) (hf : r.length < f) (hr : r ≠ []) :
    k < L.length ∧ L.getD k ([], false) = ((Lib.cut r [10]).1, (Lib.cut r [10]).2.2) ∧ (∃ f', (Lib.cut r [10]).2.1.length < f' ∧ L.drop (k + 1) = linesOf f' (Lib.cut r [10]).2.1) ∧ (Lib.cut r [10]).2.1.length < r.length := by
  obtain ⟨f, rfl⟩ : ∃ g, f = g + 1 := ⟨f - 1, by omega⟩
  have hp : 0 < r.length := List.length_pos_iff.2 hr
  have hlt : (Lib.cut r [10]).2.1.length < r.length := by
    obtain ⟨a, b, e, hc⟩ : ∃ a b e, Lib.cut r [10] = (a, b, e) := ⟨_, _, _, rfl⟩
    rw [hc]
    cases e with
    | true =>
      have := congrArg List.length (cut_some hc)
      simp at this ⊢
      omega
    | false =>
      rw [(cut_noneK hc).2]
      simpa using hp
  rw [linesOf, if_neg hr] at h
  have hk : k < L.length := by
    have := congrArg List.length h
    simp at this
    omega
  rw [List.drop_eq_getElem_cons hk] at h
  injection h with h1 h2
  refine ⟨hk, ?_, ⟨f, by omega, h2⟩, hlt⟩
  rw [List.getD_eq_getElem?_getD, List.getElem?_eq_getElem hk, h1]
  rfl
theorem lines_end {f : Nat} {L : List (List UInt8 × Bool)} {k : Nat} (h : L.drop k = linesOf f []) (hk : k ≤ L.length) : k = L.length := by
  have : (linesOf f []).length = 0 := by cases f <;> simp [linesOf]
  have h2 := congrArg List.length h
  rw [this] at h2
  simp at h2
  omega

set_option maxRecDepth 100000 in
set_option maxHeartbeats 2000000 in
theorem lines1_in (n : Nat) (s : ByteArray) (L : List (List UInt8 × Bool)) (bb y : Nat) (hs : s.size ≤ 1000000) (hL : L = linesOf (s.data.toList.length + 1) s.data.toList) (J Jx : List (Fin L.length) → World → Prop) (W : World) (hJ : AbidesFrom W.heap.size J)
    (hY : ∀ pre x W, J pre W → pre.length < L.length → YieldAt Fence.wide (n - 1) Tryz.prog y (lineV L x.1) W fun e W' =>
      (e = .returned (.bool true) ∧ J (pre ++ [x]) W' ∧ KeepB [1] W W') ∨ (e = .returned (.bool false) ∧ Jx (pre ++ [x]) W'))
    (hc : W.cell? ⟨bb, 0, none⟩ = some (.string s)) (hM : MLen W) (h0 : J [] W) :
    CallsIn Fence.wide n Tryz.prog 57 #[.func (.yield y) #[] #[], .pointer (some ⟨bb, 0, none⟩)] W (SeqEnd (fun ys => ys = List.finRange L.length) (fun pre => ∃ k, k ≤ L.length ∧ pre = (List.finRange L.length).take k) J Jx) := by
  have HM := Lib.hid hM
  have HJ := Lib.hid hJ
  have HL := Lib.hid hL
  clear hM hJ hL
  refine callsIn_of_wp Tryz.func57 rfl trivial ?_ rfl
  simp only [Tryz.ntmps57, List.size_toArray, List.length_cons, List.length_nil, Nat.reduceAdd, Nat.reduceSub, Array.replicate_succ, Array.replicate_zero, List.push_toArray, List.append_toArray, List.nil_append, List.cons_append]
  gi_wp2
  gi_loopw [3] (fun rv wr => ∃ (k f : Nat) (r : ByteArray), k ≤ L.length ∧ rv = .string r ∧ r.size ≤ s.size ∧ r.data.toList.length < f ∧ L.drop k = linesOf f r.data.toList ∧ J ((List.finRange L.length).take k) wr ∧ KeepB [1] W wr)
    (fun rv _ => strSize rv)
  case atStart => exact ⟨0, _, s, Nat.zero_le _, rfl, Nat.le_refl _, Nat.lt_succ_self _, HL.out, h0, KeepB.refl _ _⟩
  case round =>
    obtain ⟨k, f, r, hk, rfl, hrs, hrf, hdr, hJs, hkp⟩ := hrel
    have HK := Lib.hid hkp
    have HJs := Lib.hid hJs
    by_cases hr : r = ⟨#[]⟩
    · subst hr
      have HKL := Lib.hid (lines_end hdr hk)
      clear hkp hJs hdr hrf hrs
      gi_wp2
      go_end0
      refine ⟨⟨_, rfl⟩, .inl ⟨_, rfl, ?_⟩⟩
      have := HJs.out
      rwa [HKL.out, fin_take_all] at this
    · have hrn : r.data.toList ≠ [] := fun e => hr (by
        apply ByteArray.ext
        simpa using e)
      obtain ⟨hkN, hg, ⟨f', hf', hdr'⟩, hlt⟩ := lines_step hdr hrf hrn
      obtain ⟨ml, hml⟩ := hkp.mlen HM.out
      have hcall := Tryz.strings_Cut r ⟨#[10]⟩ ml wr (by omega) hml
      obtain ⟨a, b, e, hcu⟩ : ∃ a b e, Lib.cut r.data.toList [10] = (a, b, e) := ⟨_, _, _, rfl⟩
      change Calls _ _ _ _ (fun e w' => e = .returned (.tuple #[.string ⟨(Lib.cut r.data.toList [10]).1.toArray⟩, .string ⟨(Lib.cut r.data.toList [10]).2.1.toArray⟩, .bool (Lib.cut r.data.toList [10]).2.2]) ∧ ∃ n, w' = wr.drewN n) at hcall
      rw [hcu] at hcall hg hf' hdr' hlt
      dsimp only at hcall hg hf' hdr' hlt
      have hrl : r.data.toList.length = r.size := by simp
      have HC := Lib.hid hcall
      have HDR := Lib.hid hdr'
      have HFF := Lib.hid hf'
      have HLT := Lib.hid (show b.length < r.size by omega)
      have HRS := Lib.hid hrs
      have HG := Lib.hid hg
      have hne : r.toList.isEmpty = false := by
        rw [empty_bytes]
        cases h : r.data.toList with
        | nil => exact absurd h hrn
        | cons _ _ => rfl
      clear hkp hcall hdr' hf' hlt hdr hrf hrn hr hg hcu hrl hml hrs
      gi_wp2_with fail
      refine ⟨trivial, fun h => by simp [Fence.wide] at h, (callsIn_wide.2 HC.out).mono ?_⟩
      rintro x w' ⟨rfl, nd, rfl⟩
      have hx := below_drewN (Below.refl wr.heap.size wr) nd
      have hJ2 := HJ.out _ _ (wr.drewN nd) none HJs.out ⟨hx.os, hx.tape, hx.output, hx.size, fun i hi _ => hx.block i hi⟩ (fun r e => by cases e)
      have hk2 := HK.out.t (show KeepB [1] wr (wr.drewN nd) from fun b hb => rfl)
      have HK2 := Lib.hid hk2
      obtain ⟨fn, tmps, assign, body, hy, hRy⟩ := hY _ ⟨k, hkN⟩ _ hJ2 (by simp; omega)
      dsimp only [lineV] at hy hRy
      rw [HG.out] at hy
      dsimp only at hy
      have HRy := Lib.hid hRy
      clear hRy hJs hx hJ2 hk2 HC hne
      generalize wr.drewN nd = W2 at *
      gi_wp2
      refine ⟨fun h => by simp [Fence.wide] at h, HRy.out.mono ?_⟩
      rintro e' W3 (⟨rfl, hJ4, hk4⟩ | ⟨rfl, hJx4⟩)
      · have HJ4 := Lib.hid hJ4
        have HK4 := Lib.hid hk4
        clear hJ4 hk4
        gi_wp2
        go_roundw
        case rel => exact ⟨k + 1, f', ⟨b.toArray⟩, hkN, rfl, by rw [size_list]; have := HLT.out; have := HRS.out; omega, HFF.out, HDR.out, by rw [fin_take_succ _ _ hkN]; exact HJ4.out, HK2.out.t HK4.out⟩
        case measure =>
          show (⟨b.toArray⟩ : ByteArray).size < r.size
          rw [size_list]
          exact HLT.out
      · have HJx4 := Lib.hid hJx4
        clear hJx4
        gi_wp2
        refine bodyPost_ret (results_none rfl _ _ _) rfl ?_
        exact ⟨⟨_, rfl⟩, .inr ⟨_, ⟨k + 1, by omega, rfl⟩, by rw [fin_take_succ _ _ hkN]; exact HJx4.out⟩⟩

theorem lines1_stops (n : Nat) (s : ByteArray) (L : List (List UInt8 × Bool)) (bb : Nat) (hs : s.size ≤ 1000000) (hL : L = linesOf (s.data.toList.length + 1) s.data.toList) (w : World) (hc : w.cell? ⟨bb, 0, none⟩ = some (.string s)) (hM : MLen w) :
    StopsL n 57 #[.pointer (some ⟨bb, 0, none⟩)] L w := fun y J Jx W hW hJ _ hY h0 =>
  lines1_in n s L bb y hs hL J Jx W hJ hY (cell_ext hW hc) (hM.ext hW) h0

set_option maxHeartbeats 400000 in
theorem lines_any (s : ByteArray) (w : World) :
    Calls Tryz.prog 39 #[.string s] w fun e w' => e = .returned (.func (.func 57) #[] #[.pointer (some ⟨w.heap.size, 0, none⟩)]) ∧ w.alloc (.cells #[.string s] 9) = w' := by
  go_enter Tryz.func39, Tryz.ntmps39
  go_wp2
  go_ret
  exact ⟨rfl, rfl⟩
end Go.Proofs.YtmabokmnniiadaaGreatDoor
