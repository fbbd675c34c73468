/-
  What is proved: the contracts of places of package bits, and of what it hands back. No condition beyond those stated.
-/
import Derived.Test.YtelbddnjnapoeaaDoorBj
import Derived.RangeFuncNested
import Derived.RangeFuncBound
import Derived.RangeFuncCalls
import Derived.RangeFuncLeaves
import Derived.Shelf.Abstract
import Derived.OwnWalkIn
import Derived.TacticsInMore
import Derived.LoopNIn
import Derived.LoopIn
namespace Go.Proofs.YtelbddnjnapoeaaDoor
open Go.RowKit Go.Shelf
attribute [local go_sem] Oper.semAt_some

set_option maxHeartbeats 400000 in
theorem places_any (lo hi : Int) (w : World) :
    Calls Tryd.prog 63 #[.int .i64 lo, .int .i64 hi] w fun e w' => e = .returned (.func (.func 71) #[] #[.pointer (some ⟨w.heap.size, 0, none⟩), .pointer (some ⟨w.heap.size + 1, 0, none⟩)]) ∧ (w.alloc (.cells #[.int .i64 lo] 3)).alloc (.cells #[.int .i64 hi] 3) = w' := by
  go_enter Tryd.func63, Tryd.ntmps63
  go_wp2
  go_ret
  exact ⟨rfl, rfl⟩

/-- A block that stays as it is. -/
def KeepB (b : Nat) (W W' : World) : Prop := W'.heap[b]? = W.heap[b]?
theorem KeepB.t {b : Nat} {X Y Z : World} (h : KeepB b X Y) (k : KeepB b Y Z) : KeepB b X Z := Eq.trans k h
theorem KeepB.b {b : Nat} {w : World} (hb : b < w.heap.size) (W : World) (l : Nat) (o o' : Obj) (hl : w.heap.size ≤ l) (_ : W.heap[l]? = some o) (_ : o.isCells = false) (_ : o.isWalk = false) : KeepB b W (W.putObj l o') :=
  World.putObj_heap_other (by omega)
theorem KeepB.cell {b : Nat} {W W' : World} (h : KeepB b W W') (o : Nat) : W'.cell? ⟨b, o, none⟩ = W.cell? ⟨b, o, none⟩ := World.cell?_of_block (w := W) h
theorem KeepB.of_below {b n : Nat} {W W' : World} (h : Below n W W') (hb : b < n) : KeepB b W W' := h.block b hb
theorem KeepB.of_grown {b : Nat} {row : Option Nat} {W W' : World} (h : W.grownBy W' row) (hb : b < W.heap.size) (hr : some b ≠ row) : KeepB b W W' := h.block b hb hr
theorem KeepB.refl (b : Nat) (W : World) : KeepB b W W := rfl

/-- What only speaks of blocks below n abides what the loop itself does. -/
theorem ownFrom_low {β : Type} (n : Nat) (I : β → World → Prop) (hsz : ∀ s X, I s X → n ≤ X.heap.size) (hlow : ∀ s X Y, I s X → Below n X Y → I s Y) : OwnFrom n I := fun s X Y _ hs hg hr =>
  hlow s X Y hs ((Below.refl n X).grown hg (hsz s X hs) (fun k e => (hr k e).1))
theorem grown_low {W X Y : World} {B n : Nat} (h : W.grownBy X (some B)) (hb : Below n X Y) (hn : W.heap.size ≤ n) : W.grownBy Y (some B) :=
  ⟨hb.os.trans h.os, hb.tape.trans h.tape, hb.output.trans h.output, Nat.le_trans h.size hb.size, fun i hi hne => (hb.block i (by omega)).trans (h.block i hi hne)⟩
theorem cell_low {X Y : World} {n : Nat} {p : Addr} {v : Value} (h : X.cell? p = some v) (hb : Below n X Y) (hp : p.block < n) : Y.cell? p = some v := (hb.cell hp).trans h

/-- How an iterator ends. -/
def SeqEnd {α : Type} (S Sp : List α → Prop) (J Jx : List α → World → Prop) (e : Ending) (W' : World) : Prop :=
  (∃ v, e = .returned v) ∧ ((∃ xs, S xs ∧ J xs W') ∨ (∃ pre, Sp pre ∧ Jx pre W'))

theorem fin_take_succ (m k : Nat) (hk : k < m) : (List.finRange m).take (k + 1) = (List.finRange m).take k ++ [⟨k, hk⟩] := by
  rw [List.take_succ_eq_append_getElem (by simpa using hk)]
  simp
theorem fin_take_all (m : Nat) : (List.finRange m).take m = List.finRange m := List.take_of_length_le (by simp)

set_option maxRecDepth 100000 in
set_option maxHeartbeats 2000000 in
theorem places1_in (n : Nat) (lo hi : Int) (b1 b2 l : Nat) (hlo : 0 ≤ lo) (hhi : hi ≤ 1000000) (J Jx : List (Fin (hi - lo).toNat) → World → Prop)
    (hY : ∀ pre x W, J pre W → pre.length < (hi - lo).toNat → YieldAt Fence.wide (n - 1) Tryd.prog l #[.int .i64 (lo + x.1)] W fun e W' =>
      (e = .returned (.bool true) ∧ J (pre ++ [x]) W' ∧ KeepB b2 W W') ∨ (e = .returned (.bool false) ∧ Jx (pre ++ [x]) W'))
    (W : World) (c1 : W.cell? ⟨b1, 0, none⟩ = some (.int .i64 lo)) (c2 : W.cell? ⟨b2, 0, none⟩ = some (.int .i64 hi)) (h0 : J [] W) :
    CallsIn Fence.wide n Tryd.prog 71 #[.func (.yield l) #[] #[], .pointer (some ⟨b1, 0, none⟩), .pointer (some ⟨b2, 0, none⟩)] W (SeqEnd (fun ys => ys = List.finRange (hi - lo).toNat) (fun pre => ∃ k, k ≤ (hi - lo).toNat ∧ pre = (List.finRange (hi - lo).toNat).take k) J Jx) := by
  refine callsIn_of_wp Tryd.func71 rfl trivial ?_ rfl
  simp only [Tryd.ntmps71, List.size_toArray, List.length_cons, List.length_nil, Nat.reduceAdd, Nat.reduceSub, Array.replicate_succ, Array.replicate_zero, List.push_toArray, List.append_toArray, List.nil_append, List.cons_append]
  gi_wp2
  gi_loopw [4] (fun i wr => ∃ k : Nat, k ≤ (hi - lo).toNat ∧ i = .int .i64 (lo + k) ∧ J ((List.finRange (hi - lo).toNat).take k) wr ∧ KeepB b2 W wr)
    (fun i _ => (hi - intOf i).toNat)
  case atStart => exact ⟨0, Nat.zero_le _, by simp, h0, KeepB.refl _ _⟩
  case round =>
    obtain ⟨k, hk, rfl, hJs, hnx⟩ := hrel
    have k2 : wr.cell? ⟨b2, 0, none⟩ = some (.int .i64 hi) := (hnx.cell 0).trans c2
    have HN := Lib.hid hnx
    clear hnx
    by_cases hlt : lo + k < hi
    · have hkm : k < (hi - lo).toNat := by omega
      obtain ⟨fn, tmps, assign, body, hy, hR⟩ := hY _ ⟨k, hkm⟩ wr hJs (by simp; omega)
      dsimp only at hy
      gi_wp2
      refine ⟨fun h => by simp [Fence.wide] at h, hR.mono ?_⟩
      rintro e W3 (⟨rfl, hJ3, hk3⟩ | ⟨rfl, hJx3⟩)
      · gi_wp2
        go_roundw
        case rel => exact ⟨k + 1, by omega, by congr 1; omega, by rw [fin_take_succ _ _ hkm]; exact hJ3, HN.out.t hk3⟩
        case measure => simp [intOf]; omega
      · gi_wp2
        refine bodyPost_ret (results_none rfl _ _ _) rfl ?_
        exact ⟨⟨_, rfl⟩, .inr ⟨_, ⟨k + 1, by omega, rfl⟩, by rw [fin_take_succ _ _ hkm]; exact hJx3⟩⟩
    · have hke : k = (hi - lo).toNat := by omega
      gi_wp2
      go_end0
      refine ⟨⟨_, rfl⟩, .inl ⟨_, rfl, ?_⟩⟩
      rw [← fin_take_all]
      subst hke
      exact hJs

/-- What places hands back, as an iterator. -/
theorem places1_stops (n : Nat) (lo hi : Int) (b1 b2 : Nat) (w : World) (hlo : 0 ≤ lo) (hhi : hi ≤ 1000000)
    (c1 : w.cell? ⟨b1, 0, none⟩ = some (.int .i64 lo)) (c2 : w.cell? ⟨b2, 0, none⟩ = some (.int .i64 hi)) :
    SeqStopsK Fence.wide n Tryd.prog 71 #[.pointer (some ⟨b1, 0, none⟩), .pointer (some ⟨b2, 0, none⟩)] (fun x : Fin (hi - lo).toNat => #[Value.int .i64 (lo + x.1)]) (KeepB b2)
      (fun ys => ys = List.finRange (hi - lo).toNat) (fun pre => ∃ k, k ≤ (hi - lo).toNat ∧ pre = (List.finRange (hi - lo).toNat).take k) (hi - lo).toNat w := fun l J Jx W hW _ _ hY h0 =>
  places1_in n lo hi b1 b2 l hlo hhi J Jx hY W (cell_ext hW c1) (cell_ext hW c2) h0

end Go.Proofs.YtelbddnjnapoeaaDoor
