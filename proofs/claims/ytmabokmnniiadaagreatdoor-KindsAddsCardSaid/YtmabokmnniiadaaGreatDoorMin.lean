/-
  What is proved: a region that draws its order and ends in operations of one forced order, within a round of a range over a function; the same, where nothing but new memory is written. No condition beyond those stated.
-/
import Derived.Test.YtmabokmnniiadaaGreatDoorMix
import Derived.Test.YtmabokmnniiadaaGreatDoorTail
namespace Go.Proofs.YtmabokmnniiadaaGreatDoor
open Go.RowKit

section
variable {P : Program} {ops : Array Oper} {md : Region.Mode} {Q : Exit → Act → World → Prop} {w0 : World} {l n : Nat}
theorem wpAnyIn_of_Mix (hd : noDefer ops = true) : ∀ (f : Nat) (listed : Array Bool) (a : Act) (w : World), Below w0.heap.size w0 w → wpMix P md ops Q w0 f listed a w → wpAnyIn (Fence.wide.inRound l) n P md ops Q f listed a w
  | 0, _, _, w, hb, h => ⟨h.1, h.2 (Ext.self w) hb⟩
  | f + 1, _, _, w, hb, h => ⟨fun hr => h.1 hr (Ext.self w) hb, fun i hi => wpOpIn_mono (fun a' w' h' => wpAnyIn_of_Mix hd f _ a' w' h'.1 h'.2) (wpOp_in hd (h.2 i hi (Ext.self w) hb))⟩

/-- A region that draws its order, within a round, walked step by step. -/
theorem wpIn_region_mix {id : Nat} {ol : List Oper} {a : Act} {w : World} (hm : P.follows .mixedOrders = true) (hd : noDefer ol.toArray = true)
    (h : wpMix P .any ol.toArray Q w ol.toArray.size (mark ol.toArray.size []) a w) : (Code.region id ol.toArray true).wpIn (Fence.wide.inRound l) n P Q a w :=
  wpIn_region_any hm (wpAnyIn_of_Mix (w0 := w) hd _ _ _ _ (Below.refl _ w).drew (wpMix_ext _ _ _ _ ⟨{ w with drawn := w.drawn + 1 }, (Below.refl _ w).drew⟩ h))

/-- Only where it goes on. -/
def goesOn (Q : Exit → Act → World → Prop) : Exit → Act → World → Prop
  | .normal, a, w => Q .normal a w
  | _, _, _ => False
theorem oper_wp_shut {o : Oper} {a : Act} {w : World} {K : Act → World → Prop} (h : o.wp P a w K (goesOn Q)) : o.wp P a w K noExit := by
  unfold Oper.wp at *
  generalize (execOp a.eval o).run P w = r at *
  cases r with
  | ok n w' =>
    cases n <;> simp only [Oper.upon] at h ⊢ <;>
      first
        | exact h
        | exact Calls.mono h (fun e w'' he => by
            cases e with
            | returned v => exact he
            | panicked c => exact he.elim
            | outgrown => obtain ⟨_, _, hf⟩ := he; exact hf.elim)
  | halt x w' => cases x <;> simp only [Oper.upon] at h ⊢ <;> exact h.elim
theorem wpOp_shut {i : Nat} {a : Act} {w : World} {K : Act → World → Prop} (h : wpOp P ops (goesOn Q) i K a w) : wpOp P ops noExit i K a w := by
  unfold wpOp at *
  split
  · rename_i ho; simp only [ho] at h; exact h
  · rename_i o ho
    simp only [ho] at h
    split
    · rename_i hw
      simp only [hw, if_true] at h
      rcases h with h | ⟨_, _, _, hf⟩
      · exact .inl (oper_wp_shut h)
      · exact hf.elim
    · rename_i hw; simp only [hw] at h; exact h
theorem wpAnyIn_of_goesOn (hd : noDefer ops = true) : ∀ (f : Nat) (listed : Array Bool) (a : Act) (w : World), wpAny P md ops (goesOn Q) f listed a w → wpAnyIn (Fence.wide.inRound l) n P md ops Q f listed a w
  | 0, _, _, _, h => ⟨h.1, h.2⟩
  | f + 1, _, _, _, h => ⟨fun hr => h.1 hr, fun i hi => wpOpIn_mono (fun a' w' h' => wpAnyIn_of_goesOn hd f _ a' w' h') (wpOp_in hd (wpOp_shut (h.2 i hi)))⟩
theorem wpAnyIn_of_T {m g : Nat} {L : Array Bool → Act → World → Prop} (hd : noDefer ops = true) (hL : ∀ listed a w, L listed a w → wpAnyIn (Fence.wide.inRound l) n P md ops Q g listed a w) :
    ∀ (f : Nat) (listed : Array Bool) (a : Act) (w : World), wpAnyT P md ops m L f listed a w → wpAnyIn (Fence.wide.inRound l) n P md ops Q (f + g) listed a w
  | 0, listed, a, w, h => by rw [Nat.zero_add]; exact hL _ _ _ (h (Ext.self w))
  | f + 1, listed, a, w, h => by
    rw [show f + 1 + g = (f + g) + 1 by omega]
    exact ⟨fun h0 => absurd h0 h.1, fun i hi => wpOpIn_mono (fun a' w' h' => wpAnyIn_of_T hd hL f _ a' w' h'.2) (wpOp_in hd ((h.2 i hi).2 (Ext.self w)))⟩

/-- A region that draws its order, within a round: soft operations, then a tail in one forced order. -/
theorem wpIn_region_tail {id : Nat} {ol : List Oper} {a : Act} {w : World} (k : Nat) (hm : P.follows .mixedOrders = true) (hB : (noDefer ol.toArray && Region.lexTailB .any ol.toArray k) = true)
    (h : wpHead P ol.toArray (fun a' w' => wpList P ol.toArray (goesOn Q) (ol.drop k) a' w') (ol.take k) a w) : (Code.region id ol.toArray true).wpIn (Fence.wide.inRound l) n P Q a w := by
  simp only [Region.lexTailB, Bool.and_eq_true, decide_eq_true_eq] at hB
  obtain ⟨hd, ⟨⟨⟨hsel, hn⟩, hs⟩, hc⟩, hB⟩ := hB
  have hnl : k < ol.length := by simpa using hn
  have hlen : (ol.take k).length = k := by simp; omega
  have inv : HeadInv .any ol.toArray k (Array.replicate ol.toArray.size false) :=
    ⟨by simp, fun j oj _ hl' => (by rw [getD_replicate_false] at hl'; cases hl'), fun t _ ht => getD_in (by simpa using ht) (getD_replicate_false _ _)⟩
  have h1 := wpAnyT_head (P := P) (md := .any) (g := ol.toArray.size - k) hsel hs hc hn (ol.take k) 0 _ a { w with drawn := w.drawn + 1 } inv (by simp; omega)
    (fun j hj => by rw [hlen] at hj; simp [hj]) (by rw [hlen]; exact hB) (wpHead_ext _ _ _ _ (Below.refl _ w).drew h)
  have h2 := wpAnyIn_of_T (l := l) (n := n) (Q := Q) (g := ol.toArray.size - k) hd (fun listed a' w' hL => by
    have := wpAny_of_seq (P := P) (Q' := goesOn Q) (ol.drop k) k listed a' w' (by intro j; simp) (by simpa using hL.1) hL.2
    exact wpAnyIn_of_goesOn hd _ _ _ _ (by simpa using this)) _ _ _ _ h1
  rw [hlen] at h2
  refine wpIn_region_any hm ?_
  have e : k + (ol.toArray.size - k) = ol.toArray.size := by simp; omega
  rw [e] at h2
  exact h2
end
end Go.Proofs.YtmabokmnniiadaaGreatDoor
