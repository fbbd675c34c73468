/-
  What is proved: a region that draws its order and ends in operations of one forced order: those ahead, which only read old memory and make new memory, may be walked in the text's order. No condition beyond those stated.
-/
import Derived.Test.YtmabokmnniiadaaGreatDoorLib
import Derived.StillTail
namespace Go.Proofs.YtmabokmnniiadaaGreatDoor
open Go.RowKit

section
variable {P : Program} {ops : Array Oper} {md : Region.Mode} {Q : Exit → Act → World → Prop}

def wpAnyT (P : Program) (md : Region.Mode) (ops : Array Oper) (n : Nat) (L : Array Bool → Act → World → Prop) : Nat → Array Bool → Act → World → Prop
  | 0, listed, a, w => ∀ x : Ext w, L listed a x.val
  | f + 1, listed, a, w =>
    Region.ready md ops listed ≠ [] ∧ ∀ i ∈ Region.ready md ops listed, i < n ∧ ∀ x : Ext w, wpOp P ops noExit i (fun a' w' => Below x.val.heap.size x.val w' ∧ wpAnyT P md ops n L f (listed.setIfInBounds i true) a' w') a x.val

theorem wpAnyT_ext {n : Nat} {L : Array Bool → Act → World → Prop} : ∀ (f : Nat) (listed : Array Bool) (a : Act) (w : World) (x : Ext w), wpAnyT P md ops n L f listed a w → wpAnyT P md ops n L f listed a x.val
  | 0, _, _, _, x, h => fun y => h (x.more y)
  | _ + 1, _, _, _, x, h => ⟨h.1, fun i hi => ⟨(h.2 i hi).1, fun y => (h.2 i hi).2 (x.more y)⟩⟩

theorem wpAny_of_T {n g : Nat} {L : Array Bool → Act → World → Prop} (hL : ∀ listed a w, L listed a w → wpAny P md ops Q g listed a w) :
    ∀ (f : Nat) (listed : Array Bool) (a : Act) (w : World), wpAnyT P md ops n L f listed a w → wpAny P md ops Q (f + g) listed a w
  | 0, listed, a, w, h => by rw [Nat.zero_add]; exact hL _ _ _ (h (Ext.self w))
  | f + 1, listed, a, w, h => by
    rw [show f + 1 + g = (f + g) + 1 by omega]
    exact ⟨fun h0 => absurd h0 h.1, fun i hi => wpOp_mono (fun a' w' h' => wpAny_of_T hL f _ a' w' h'.2) (wpOp_out ((h.2 i hi).2 (Ext.self w)))⟩

theorem wpAnyT_first {n i : Nat} {oi : Oper} {v : Value} {L : Array Bool → Act → World → Prop} (hi : ops[i]? = some oi) (hsel : ∀ (j : Nat) (o : Oper) cs b, ops[j]? = some o → o.op ≠ .select cs b)
    (hs : Region.sinkB md ops n = true) (hc : Region.chainB md ops n = true) (hn : n < ops.size) (hin : i < n)
    (hdone : ∀ listed a w, L listed a w → ∀ j ∈ Region.ready md ops listed, n ≤ j) :
    ∀ (f : Nat) (listed : Array Bool) (a : Act) (w : World), HeadInv md ops n listed →
      (∀ j oj, ops[j]? = some oj → j ≠ i → listed.getD j true = false → (∀ e ∈ oj.after, Region.binds md e = true → e.on ≠ i) → oi.apart ops oj = true) →
      i ∈ Region.ready md ops listed → Soft P ops oi v a w →
      wpAnyT P md ops n L f (listed.setIfInBounds i true) (a.put oi.dst v) w → wpAnyT P md ops n L (f + 1) listed a w := by
  intro f
  induction f with
  | zero =>
    intro listed a w inv _ hr hy H
    have hun := (mem_ready.1 hr).1
    refine ⟨fun h => (by rw [h] at hr; cases hr), fun j hj => ?_⟩
    have hjn : j < n := by
      rcases Nat.lt_or_ge j n with h | h
      · exact h
      · exact absurd hj (tail_waits hs hc hn inv _ i rfl hin hun j h)
    refine ⟨hjn, fun x => ?_⟩
    by_cases hji : j = i
    · subst hji
      exact (hy.ext x.below).wpOp hi fun w' hb => ⟨hb, wpAnyT_ext 0 _ _ _ ⟨w', below_le x.below hb⟩ H⟩
    · have := hdone _ _ _ (H x) j (ready_mono hj hji)
      omega
  | succ f ih =>
    intro listed a w inv hfree hr hy H
    have hun := (mem_ready.1 hr).1
    refine ⟨fun h => (by rw [h] at hr; cases hr), fun j hj => ?_⟩
    have hjn : j < n := by
      rcases Nat.lt_or_ge j n with h | h
      · exact h
      · exact absurd hj (tail_waits hs hc hn inv _ i rfl hin hun j h)
    refine ⟨hjn, fun x => ?_⟩
    by_cases hji : j = i
    · subst hji
      exact (hy.ext x.below).wpOp hi fun w' hb => ⟨hb, wpAnyT_ext (f + 1) _ _ _ ⟨w', below_le x.below hb⟩ H⟩
    · have h1 := (H.2 j (ready_mono hj hji)).2 x
      obtain ⟨hjun, oj, hoj, hall⟩ := mem_ready.1 hj
      have hnot : ∀ e ∈ oj.after, Region.binds md e = true → e.on ≠ i := fun e he hb heq => by
        have h1 := hall e he hb
        rw [heq, getD_both hun] at h1
        cases h1
      have h2 := wpOp_put_soft hoj (hfree j oj hoj hji hjun hnot) (fun cs b => hsel i oi cs b hi) (fun cs b => hsel j oj cs b hoj) hy h1
      have hfree' : ∀ k ok, ops[k]? = some ok → k ≠ i → (listed.setIfInBounds j true).getD k true = false →
          (∀ e ∈ ok.after, Region.binds md e = true → e.on ≠ i) → oi.apart ops ok = true := fun k ok hk hki hun hno => by
        refine hfree k ok hk hki ?_ hno
        by_cases hjk : j = k
        · subst hjk; exact hjun
        · rw [getD_set_ne true hjk] at hun; exact hun
      refine wpOp_mono (fun a' w' h3 => ⟨h3.2.1, ih (listed.setIfInBounds j true) a' w' (inv.set hj hjn) hfree' (ready_mono hr (Ne.symm hji)) (h3.1.ext (below_le x.below h3.2.1)) ?_⟩) h2
      rw [Array.setIfInBounds_comm _ _ hji]
      exact h3.2.2

/-- The head's operations, in the text's order, then the tail. -/
def wpHead (P : Program) (ops : Array Oper) (T : Act → World → Prop) : List Oper → Act → World → Prop
  | [], a, w => ∀ w1 : World, Below w.heap.size w w1 → T a w1
  | o :: r, a, w => if Region.wanted o (yielded ops a.tmps) then softOp P o a w (fun a' => wpHead P ops T r a' w) else wpHead P ops T r (a.put o.dst undef) w

theorem wpHead_ext {T : Act → World → Prop} : ∀ (l : List Oper) (a : Act) (w w1 : World), Below w.heap.size w w1 → wpHead P ops T l a w → wpHead P ops T l a w1
  | [], _, _, _, hb, h => fun w2 h2 => h w2 (below_le hb h2)
  | o :: r, a, w, w1, hb, h => by
    unfold wpHead at h ⊢
    split
    · rename_i hw
      rw [if_pos hw] at h
      obtain ⟨v, h1, h2⟩ := h
      exact ⟨v, fun x => h1 ⟨x.val, below_le hb x.below⟩, wpHead_ext r _ _ _ hb h2⟩
    · rename_i hw
      rw [if_neg hw] at h
      exact wpHead_ext r _ _ _ hb h

theorem wpAnyT_head {n g : Nat} (hsel : Region.noSelect ops = true) (hs : Region.sinkB md ops n = true) (hc : Region.chainB md ops n = true) (hn : n < ops.size) {T : Act → World → Prop} :
    ∀ (l : List Oper) (k : Nat) (listed : Array Bool) (a : Act) (w : World), HeadInv md ops n listed → k + l.length = n → (∀ j, j < l.length → l[j]? = ops[k + j]?) → Region.lexHead md ops g l.length k listed = true →
      wpHead P ops T l a w → wpAnyT P md ops n (fun listed a w => Region.seqB md ops g n listed = true ∧ T a w) l.length listed a w
  | [], k, listed, a, w, _, hk, _, hB, h => fun x => ⟨by simp at hk; subst hk; simpa [Region.lexHead] using hB, h x.val x.below⟩
  | o :: r, k, listed, a, w, inv, hk, hl, hB, h => by
    have h0 : ops[k]? = some o := by simpa using (hl 0 (by simp)).symm
    simp only [List.length_cons, Region.lexHead, Bool.and_eq_true] at hB
    obtain ⟨⟨hr, hf⟩, hB'⟩ := hB
    have hr' : k ∈ Region.ready md ops listed := by simpa using hr
    have hy : ∃ v, Soft P ops o v a w ∧ wpHead P ops T r (a.put o.dst v) w := by
      unfold wpHead at h
      by_cases hw : Region.wanted o (yielded ops a.tmps) = true
      · rw [if_pos hw] at h
        obtain ⟨v, h1, h2⟩ := h
        exact ⟨v, .inl ⟨hw, h1⟩, h2⟩
      · rw [if_neg hw] at h
        exact ⟨undef, .inr ⟨by simpa using hw, rfl⟩, h⟩
    obtain ⟨v, hy, hK⟩ := hy
    have hkn : k < n := by simp at hk; omega
    exact wpAnyT_first h0 (Region.noSelect_spec hsel) hs hc hn hkn (fun _ _ _ hL => seqB_ready hL.1) r.length listed a w inv (Region.free_spec h0 hf) hr' hy
      (wpAnyT_head hsel hs hc hn r (k + 1) _ _ _ (inv.set hr' hkn) (by simp at hk; omega) (fun j hj => by have := hl (j + 1) (by simp; omega); simpa [Nat.add_assoc, Nat.add_comm 1 j] using this) hB' hK)

/-- A REGION THAT DRAWS ITS ORDER: soft operations, then a tail in one forced order. -/
theorem wp_region_tail {id : Nat} {l : List Oper} {a : Act} {w : World} (n : Nat) (hm : P.follows .mixedOrders = true) (hB : Region.lexTailB .any l.toArray n = true)
    (h : wpHead P l.toArray (fun a' w' => wpList P l.toArray Q (l.drop n) a' w') (l.take n) a w) : (Code.region id l.toArray true).wp P Q a w := by
  simp only [Region.lexTailB, Bool.and_eq_true, decide_eq_true_eq] at hB
  obtain ⟨⟨⟨⟨hsel, hn⟩, hs⟩, hc⟩, hB⟩ := hB
  have hnl : n < l.length := by simpa using hn
  have hlen : (l.take n).length = n := by simp; omega
  have inv : HeadInv .any l.toArray n (Array.replicate l.toArray.size false) :=
    ⟨by simp, fun j oj _ hl' => (by rw [getD_replicate_false] at hl'; cases hl'), fun t _ ht => getD_in (by simpa using ht) (getD_replicate_false _ _)⟩
  have h1 := wpAnyT_head (P := P) (md := .any) (g := l.toArray.size - n) hsel hs hc hn (l.take n) 0 _ a { w with drawn := w.drawn + 1 } inv (by simp; omega)
    (fun j hj => by rw [hlen] at hj; simp [hj]) (by rw [hlen]; exact hB) (wpHead_ext _ _ _ _ (Below.refl _ w).drew h)
  have h2 := wpAny_of_T (Q := Q) (g := l.toArray.size - n) (fun listed a' w' hL => by
    have := wpAny_of_seq (P := P) (Q' := Q) (l.drop n) n listed a' w' (by intro j; simp) (by simpa using hL.1) hL.2
    simpa using this) _ _ _ _ h1
  rw [hlen] at h2
  refine wp_region_any hm ?_
  have e : n + (l.toArray.size - n) = l.toArray.size := by simp; omega
  rw [e] at h2
  exact h2

theorem head_nil {T : Act → World → Prop} {a : Act} {w : World} (h : ∀ w1 : World, Below w.heap.size w w1 → T a w1) : wpHead P ops T [] a w := h
theorem head_soft {T : Act → World → Prop} {r : List Oper} {a : Act} {w : World} {o : Oper} (hw : Region.wanted o (yielded ops a.tmps) = true)
    (h : ∀ K : Act → Prop, (∀ a', wpHead P ops T r a' w → K a') → softOp P o a w K) : wpHead P ops T (o :: r) a w := by
  unfold wpHead
  rw [if_pos hw]
  exact h _ fun _ h => h
theorem head_skip {T : Act → World → Prop} {r : List Oper} {a : Act} {w : World} {o : Oper} (hw : Region.wanted o (yielded ops a.tmps) = false)
    (h : wpHead P ops T r (a.put o.dst undef) w) : wpHead P ops T (o :: r) a w := by
  unfold wpHead
  rw [if_neg (by rw [hw]; exact Bool.false_ne_true)]
  exact h
end

end Go.Proofs.YtmabokmnniiadaaGreatDoor
