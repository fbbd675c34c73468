/-
  What is proved: a region that draws its order, walked step by step: operations that only read old memory and make new memory in one chosen order, the others in each order that is open. No condition beyond those stated.
-/
import Derived.Test.YtmabokmnniiadaaGreatDoorIn
namespace Go.Proofs.YtmabokmnniiadaaGreatDoor
open Go.RowKit

section
variable {P : Program} {ops : Array Oper} {md : Region.Mode} {Q : Exit → Act → World → Prop} {w0 : World}

/-- Whatever order is picked from here on; what was at the region's beginning stays. -/
def wpMix (P : Program) (md : Region.Mode) (ops : Array Oper) (Q : Exit → Act → World → Prop) (w0 : World) : Nat → Array Bool → Act → World → Prop
  | 0, listed, a, w => Region.ready md ops listed = [] ∧ ∀ x : Ext w, Below w0.heap.size w0 x.val → Q .normal a x.val
  | f + 1, listed, a, w =>
    (Region.ready md ops listed = [] → ∀ x : Ext w, Below w0.heap.size w0 x.val → Q .normal a x.val) ∧
    ∀ i ∈ Region.ready md ops listed, ∀ x : Ext w, Below w0.heap.size w0 x.val → wpOp P ops noExit i (fun a' w' => Below w0.heap.size w0 w' ∧ wpMix P md ops Q w0 f (listed.setIfInBounds i true) a' w') a x.val

theorem wpMix_ext : ∀ (f : Nat) (listed : Array Bool) (a : Act) (w : World) (x : Ext w), wpMix P md ops Q w0 f listed a w → wpMix P md ops Q w0 f listed a x.val
  | 0, _, _, _, x, h => ⟨h.1, fun y => h.2 (x.more y)⟩
  | _ + 1, _, _, _, x, h => ⟨fun hr y => h.1 hr (x.more y), fun i hi y => h.2 i hi (x.more y)⟩

theorem wpAny_of_Mix : ∀ (f : Nat) (listed : Array Bool) (a : Act) (w : World), Below w0.heap.size w0 w → wpMix P md ops Q w0 f listed a w → wpAny P md ops Q f listed a w
  | 0, _, _, w, hb, h => ⟨h.1, h.2 (Ext.self w) hb⟩
  | f + 1, _, _, w, hb, h => ⟨fun hr => h.1 hr (Ext.self w) hb, fun i hi => wpOp_mono (fun a' w' h' => wpAny_of_Mix f _ a' w' h'.1 h'.2) (wpOp_out (h.2 i hi (Ext.self w) hb))⟩

theorem wpMix_first {i : Nat} {oi : Oper} {v : Value} (hi : ops[i]? = some oi) (hsel : ∀ (j : Nat) (o : Oper) cs b, ops[j]? = some o → o.op ≠ .select cs b) :
    ∀ (fuel : Nat) (listed : Array Bool) (a : Act) (w : World),
      (∀ j oj, ops[j]? = some oj → j ≠ i → listed.getD j true = false → (∀ e ∈ oj.after, Region.binds md e = true → e.on ≠ i) → oi.apart ops oj = true) →
      i ∈ Region.ready md ops listed → Soft P ops oi v a w0 →
      wpMix P md ops Q w0 fuel (listed.setIfInBounds i true) (a.put oi.dst v) w → wpMix P md ops Q w0 (fuel + 1) listed a w := by
  intro fuel
  induction fuel with
  | zero =>
    intro listed a w _ hr hy H
    refine ⟨fun h => (by rw [h] at hr; cases hr), fun j hj x hx => ?_⟩
    by_cases hji : j = i
    · subst hji
      exact (hy.ext hx).wpOp hi fun w' hb => ⟨below_le hx hb, wpMix_ext 0 _ _ _ ⟨w', below_le x.below hb⟩ H⟩
    · have := ready_mono hj hji
      rw [H.1] at this
      cases this
  | succ fuel ih =>
    intro listed a w hfree hr hy H
    refine ⟨fun h => (by rw [h] at hr; cases hr), fun j hj x hx => ?_⟩
    by_cases hji : j = i
    · subst hji
      exact (hy.ext hx).wpOp hi fun w' hb => ⟨below_le hx hb, wpMix_ext (fuel + 1) _ _ _ ⟨w', below_le x.below hb⟩ H⟩
    · have h1 := H.2 j (ready_mono hj hji) x hx
      obtain ⟨hjun, oj, hoj, hall⟩ := mem_ready.1 hj
      have hnot : ∀ e ∈ oj.after, Region.binds md e = true → e.on ≠ i := fun e he hb heq => by
        have h1 := hall e he hb
        have h0 := (mem_ready.1 hr).1
        rw [heq] at h1
        rcases Nat.lt_or_ge i listed.size with h' | h'
        · simp [h'] at h0 h1; rw [h0] at h1; cases h1
        · simp [Array.getElem?_eq_none h'] at h1
      have h2 := wpOp_put_soft hoj (hfree j oj hoj hji hjun hnot) (fun cs b => hsel i oi cs b hi) (fun cs b => hsel j oj cs b hoj) hy h1
      have hfree' : ∀ k ok, ops[k]? = some ok → k ≠ i → (listed.setIfInBounds j true).getD k true = false →
          (∀ e ∈ ok.after, Region.binds md e = true → e.on ≠ i) → oi.apart ops ok = true := fun k ok hk hki hun hno => by
        refine hfree k ok hk hki ?_ hno
        by_cases hjk : j = k
        · subst hjk; exact hjun
        · rw [getD_set_ne true hjk] at hun; exact hun
      refine wpOp_mono (fun a' w' h3 => ⟨h3.2.1, ih (listed.setIfInBounds j true) a' w' hfree' (ready_mono hr (Ne.symm hji)) h3.1 ?_⟩) h2
      rw [Array.setIfInBounds_comm _ _ hji]
      exact h3.2.2

/-- Which are listed. -/
def mark (n : Nat) : List Nat → Array Bool
  | [] => Array.replicate n false
  | i :: r => (mark n r).setIfInBounds i true

def softB (md : Region.Mode) (ops : Array Oper) (done : List Nat) (i : Nat) : Bool :=
  Region.noSelect ops && (Region.ready md ops (mark ops.size done)).contains i && Region.free md ops (mark ops.size done) i

/-- A region that draws its order, walked step by step. -/
theorem wp_region_mix {id : Nat} {l : List Oper} {a : Act} {w : World} (hm : P.follows .mixedOrders = true)
    (h : wpMix P .any l.toArray Q w l.toArray.size (mark l.toArray.size []) a w) : (Code.region id l.toArray true).wp P Q a w :=
  wp_region_any hm (wpAny_of_Mix (w0 := w) _ _ _ _ (Below.refl _ w).drew (wpMix_ext _ _ _ _ ⟨{ w with drawn := w.drawn + 1 }, (Below.refl _ w).drew⟩ h))

variable {l : List Oper} {f i : Nat} {done : List Nat} {a : Act} {w : World} {o : Oper}

theorem mix_soft (i : Nat) (ho : l[i]? = some o) (hB : softB md l.toArray done i = true) (hw : Region.wanted o (yielded l.toArray a.tmps) = true)
    (h : ∀ K : Act → Prop, (∀ a', wpMix P md l.toArray Q w0 f (mark l.toArray.size (i :: done)) a' w → K a') → softOp P o a w0 K) :
    wpMix P md l.toArray Q w0 (f + 1) (mark l.toArray.size done) a w := by
  simp only [softB, Bool.and_eq_true] at hB
  obtain ⟨⟨hs, hr⟩, hf⟩ := hB
  have ho' : l.toArray[i]? = some o := by simpa using ho
  obtain ⟨v, h1, h2⟩ := h _ fun _ h => h
  exact wpMix_first ho' (Region.noSelect_spec hs) f _ a w (Region.free_spec ho' hf) (by simpa using hr) (.inl ⟨hw, h1⟩) h2
theorem mix_skip (i : Nat) (ho : l[i]? = some o) (hB : softB md l.toArray done i = true) (hw : Region.wanted o (yielded l.toArray a.tmps) = false)
    (h : wpMix P md l.toArray Q w0 f (mark l.toArray.size (i :: done)) (a.put o.dst undef) w) :
    wpMix P md l.toArray Q w0 (f + 1) (mark l.toArray.size done) a w := by
  simp only [softB, Bool.and_eq_true] at hB
  obtain ⟨⟨hs, hr⟩, hf⟩ := hB
  have ho' : l.toArray[i]? = some o := by simpa using ho
  exact wpMix_first ho' (Region.noSelect_spec hs) f _ a w (Region.free_spec ho' hf) (by simpa using hr) (.inr ⟨hw, rfl⟩) h

/-- One operation, carried out here and now. -/
def wpNow (P : Program) (md : Region.Mode) (l : List Oper) (Q : Exit → Act → World → Prop) (w0 : World) (f i : Nat) (done : List Nat) (a : Act) (w : World) : Prop :=
  ∃ o, l[i]? = some o ∧ Region.wanted o (yielded l.toArray a.tmps) = true ∧
    ∀ w1 : World, Below w.heap.size w w1 → Below w0.heap.size w0 w1 → o.wp P a w1 (fun a' w' => Below w0.heap.size w0 w' ∧ wpMix P md l.toArray Q w0 f (mark l.toArray.size (i :: done)) a' w') noExit
theorem mix_now (ho : l[i]? = some o) (hw : Region.wanted o (yielded l.toArray a.tmps) = true)
    (h : ∀ w1 : World, Below w.heap.size w w1 → Below w0.heap.size w0 w1 → ∀ K : Act → World → Prop, (∀ a' w', Below w0.heap.size w0 w' → wpMix P md l.toArray Q w0 f (mark l.toArray.size (i :: done)) a' w' → K a' w') → o.wp P a w1 K noExit) :
    wpNow P md l Q w0 f i done a w := ⟨o, ho, hw, fun w1 h1 h2 => h w1 h1 h2 _ fun _ _ h k => ⟨h, k⟩⟩
theorem wpNow.op {P : Program} {md : Region.Mode} {l : List Oper} {Q : Exit → Act → World → Prop} {w0 : World} {f i : Nat} {done : List Nat} {a : Act} {w : World} (h : wpNow P md l Q w0 f i done a w) (x : Ext w) (hx : Below w0.heap.size w0 x.val) :
    wpOp P l.toArray noExit i (fun a' w' => Below w0.heap.size w0 w' ∧ wpMix P md l.toArray Q w0 f ((mark l.toArray.size done).setIfInBounds i true) a' w') a x.val := by
  obtain ⟨o, ho, hw, h⟩ := h
  unfold wpOp
  simp only [show l.toArray[i]? = some o by simpa using ho, hw, if_true]
  exact .inl (h x.val x.below hx)
theorem mix_one (i : Nat) (hr : Region.ready md l.toArray (mark l.toArray.size done) = [i]) (h : wpNow P md l Q w0 f i done a w) :
    wpMix P md l.toArray Q w0 (f + 1) (mark l.toArray.size done) a w := by
  refine ⟨fun h0 => (by rw [hr] at h0; cases h0), fun k hk x hx => ?_⟩
  rw [hr] at hk
  obtain rfl : k = i := by simpa using hk
  exact h.op x hx
theorem mix_two (i j : Nat) (hr : Region.ready md l.toArray (mark l.toArray.size done) = [i, j]) (h : wpNow P md l Q w0 f i done a w) (h' : wpNow P md l Q w0 f j done a w) :
    wpMix P md l.toArray Q w0 (f + 1) (mark l.toArray.size done) a w := by
  refine ⟨fun h0 => (by rw [hr] at h0; cases h0), fun k hk x hx => ?_⟩
  rw [hr] at hk
  simp only [List.mem_cons, List.not_mem_nil, or_false] at hk
  rcases hk with rfl | rfl
  · exact h.op x hx
  · exact h'.op x hx
theorem mix_nil (hr : Region.ready md l.toArray (mark l.toArray.size done) = []) (h : ∀ w1 : World, Below w.heap.size w w1 → Below w0.heap.size w0 w1 → Q .normal a w1) :
    wpMix P md l.toArray Q w0 f (mark l.toArray.size done) a w := by
  cases f with
  | zero => exact ⟨hr, fun x hx => h x.val x.below hx⟩
  | succ f => exact ⟨fun _ x hx => h x.val x.below hx, fun i hi => by rw [hr] at hi; cases hi⟩
end

end Go.Proofs.YtmabokmnniiadaaGreatDoor
