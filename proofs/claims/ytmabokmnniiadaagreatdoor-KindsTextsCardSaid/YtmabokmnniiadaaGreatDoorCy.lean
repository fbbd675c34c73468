/-
  What is proved: contracts of Num and part of the reference of descriptors. No condition beyond those stated.
-/
import Derived.Test.YtmabokmnniiadaaGreatDoorIt
import Derived.Test.YtmabokmnniiadaaGreatDoorC3
import Derived.Test.YtmabokmnniiadaaGreatDoorRi
import Derived.Deep.RegionWith
import Derived.Lib.ItoaLen
import Derived.Lib.ItoaMem
namespace Go.Proofs.YtmabokmnniiadaaGreatDoor
open Go.RowKit

theorem digit_slice (d : Nat) (h : d < 10) : ∃ s : ByteArray, (∀ W : World, (Instr.slice 9 (.string ⟨#[48, 49, 50, 51, 52, 53, 54, 55, 56, 57]⟩) (some (.int .i64 (d : Int))) (some (.int .i64 ((d : Int) + 1))) none).run Tryz.prog W = .ok (.string s) W) ∧ (⟨[UInt8.ofNat (48 + d)].toArray⟩ : ByteArray) = s := by
  refine ⟨_, fun W => run_slice_string W 9 _ .i64 .i64 (d : Int) ((d : Int) + 1) Tryz.underlying9 (by omega) (by omega) (by show ((d : Int) + 1) ≤ ((10 : Nat) : Int); omega), ?_⟩
  have hall : ∀ k, k < 10 → (⟨[UInt8.ofNat (48 + k)].toArray⟩ : ByteArray) = (⟨#[48, 49, 50, 51, 52, 53, 54, 55, 56, 57]⟩ : ByteArray).extract k (k + 1) := by decide
  exact hall d h

/-- A number's digits, told. -/
def GivesNumS (w : World) (n : Nat) (x : Ending) (w' : World) : Prop := x = .returned (.string ⟨(Lib.decDigits n).toArray⟩) ∧ Below w.heap.size w w'
theorem GivesNumS.one {w w' : World} {n : Nat} {s : ByteArray} (h : n < 10) (hs : (⟨[UInt8.ofNat (48 + n)].toArray⟩ : ByteArray) = s) (hb : Below w.heap.size w w') : GivesNumS w n (.returned (.string s)) w' := by
  subst hs
  refine ⟨?_, hb⟩
  rw [Lib.decDigits_one h]
theorem GivesNumS.more {w w' : World} {n : Nat} {s : ByteArray} (hs : (⟨(Lib.decDigits n).toArray⟩ : ByteArray) = s) (hb : Below w.heap.size w w') : GivesNumS w n (.returned (.string s)) w' := by
  subst hs
  exact ⟨rfl, hb⟩
theorem dec_len (n : Nat) (h : n ≤ 100000) : (Lib.decDigits n).length ≤ 21 := by
  have := Lib.itoa_length_le (n : Int) (by omega) (by omega)
  rw [Lib.itoa_nonneg] at this
  exact this

/-- What a longer number's digits are put together from. -/
theorem num_parts {n : Nat} (h : 10 ≤ n) (hn : n ≤ 100000) : ∃ (a d : Nat) (sA sD sT : ByteArray), (n : Int).tdiv 10 = (a : Int) ∧ (n : Int).tmod 10 = (d : Int) ∧ a < n ∧ a ≤ 100000 ∧ d < 10 ∧ (⟨(Lib.decDigits a).toArray⟩ : ByteArray) = sA ∧ (∀ W : World, (Instr.slice 9 (.string ⟨#[48, 49, 50, 51, 52, 53, 54, 55, 56, 57]⟩) (some (.int .i64 (d : Int))) (some (.int .i64 ((d : Int) + 1))) none).run Tryz.prog W = .ok (.string sD) W) ∧
    (∀ W : World, (Op.stringOp .add sA sD).run Tryz.prog W = .ok (.string sT) W) ∧ (⟨(Lib.decDigits n).toArray⟩ : ByteArray) = sT := by
  obtain ⟨sD, h1, h2⟩ := digit_slice (n % 10) (by omega)
  have hd : Lib.decDigits n = Lib.decDigits (n / 10) ++ [UInt8.ofNat (48 + n % 10)] := by
    conv => lhs; rw [Lib.decDigits, dif_neg (by omega)]
  have hA : ∀ W : World, (Op.stringOp .add ⟨(Lib.decDigits (n / 10)).toArray⟩ sD).run Tryz.prog W = .ok (.string ⟨(Lib.decDigits n).toArray⟩) W := fun W => by
    rw [← h2, run_string_add_lists W _ _ (by have := dec_len (n / 10) (by omega); omega) (by simp), hd]
  exact ⟨n / 10, n % 10, _, sD, _, by rw [Int.tdiv_eq_ediv_of_nonneg (by omega)]; omega, by rw [Int.tmod_eq_emod_of_nonneg (by omega)]; omega, by omega, by omega, by omega, rfl, h1, hA, rfl⟩

set_option maxRecDepth 100000 in
set_option maxHeartbeats 1000000 in
/-- Num. -/
theorem rnum_any (n : Nat) : ∀ w : World, n ≤ 100000 → Calls Tryz.prog 70 #[.int .i64 n] w (GivesNumS w n) := by
  induction n using Nat.strongRecOn with
  | _ n ih =>
    intro w hn
    have HIH := Lib.hid ih
    clear ih
    by_cases h : n < 10
    · obtain ⟨s, hs, hd⟩ := digit_slice n h
      have HD := Lib.hid (GivesNumS.one (w := w) (w' := w) h hd (Below.refl _ _))
      clear hd
      go_enter Tryz.func70, Tryz.ntmps70
      go_wp2
      go_ret
      exact HD.out
    · obtain ⟨a, d, sA, sD, sT, hq, hr, han, ha, hd, eA, hs, hA, eT⟩ := num_parts (by omega) hn
      have hcall : ∀ W : World, Calls Tryz.prog 70 #[.int .i64 a] W fun x w' => x = .returned (.string sA) ∧ Below W.heap.size W w' := fun W => by rw [← eA]; exact HIH.out a han W ha
      have HC := Lib.hid hcall
      have HE := Lib.hid eT
      have wa : IntKind.i64.wrap (a : Int) = a := by rw [IntKind.wrap_i64]; omega
      have wd : IntKind.i64.wrap (d : Int) = d := by rw [IntKind.wrap_i64]; omega
      have wd1 : IntKind.i64.wrap ((d : Int) + 1) = (d : Int) + 1 := by rw [IntKind.wrap_i64]; omega
      clear hcall eA eT HIH han
      go_enter Tryz.func70, Tryz.ntmps70
      go_wp2
      refine wp_region_plan [(0, true), (1, true), (2, true), (3, true), (4, true), (5, true), (6, true), (7, true), (8, true), (9, true), (10, true)] (by kernel_rfl) (by kernel_rfl) ?_
      repeat (first | (refine plan_skip rfl rfl ?_; go_frame) | (refine plan_soft rfl rfl (fun K hK => ?_); go_simp; first | (refine hK _ ?_; clear hK K) | (apply Exists.intro; refine ⟨fun x => ?_, hK _ ?_⟩; (· (go_at_call_of 70 a; exact HC.out x.val)); clear hK K; try go_frame)))
      refine plan_nil ?_; intro w1 h0b; have Hb1 := Lib.hid h0b; clear h0b
      go_wp2
      go_ret
      exact GivesNumS.more HE.out Hb1.out
end Go.Proofs.YtmabokmnniiadaaGreatDoor
