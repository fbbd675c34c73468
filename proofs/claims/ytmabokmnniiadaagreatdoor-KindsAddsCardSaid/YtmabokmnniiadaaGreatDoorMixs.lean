/-
  What is proved: a region that draws its order and whose last operation, a store, comes behind all others: walked step by step; all others only read old memory and make new memory. No condition beyond those stated.
-/
import Derived.Test.YtmabokmnniiadaaGreatDoorBoth
namespace Go.Proofs.YtmabokmnniiadaaGreatDoor
open Go.RowKit

section
variable {P : Program} {ops : Array Oper} {md : Region.Mode} {Q : Exit → Act → World → Prop} {w0 : World} {z : Nat}

/-- Operation z comes behind all others. -/
def lastB (md : Region.Mode) (ops : Array Oper) (z : Nat) : Bool :=
  match ops[z]? with
  | some o => (List.range ops.size).all fun k => k == z || o.after.any fun e => Region.binds md e && e.on == k
  | none => false
theorem last_spec (h : lastB md ops z = true) {listed : Array Bool} (hz : z ∈ Region.ready md ops listed) {k : Nat} (hk : k < ops.size) (hkz : k ≠ z) : listed.getD k true = true := by
  obtain ⟨_, o, ho, hall⟩ := mem_ready.1 hz
  unfold lastB at h
  rw [ho] at h
  have h1 := List.all_eq_true.1 h k (List.mem_range.2 hk)
  simp only [Bool.or_eq_true, beq_iff_eq, hkz, false_or] at h1
  rw [Array.any_eq_true'] at h1
  obtain ⟨e, he, h2⟩ := h1
  simp only [Bool.and_eq_true, beq_iff_eq] at h2
  have h3 := hall e he h2.1
  rw [h2.2] at h3
  rcases Nat.lt_or_ge k listed.size with h' | h'
  · simp [h'] at h3 ⊢; exact h3
  · simp [Array.getElem?_eq_none h'] at h3
theorem last_end (h : lastB md ops z = true) {listed : Array Bool} (hz : z ∈ Region.ready md ops listed) (hs : listed.size = ops.size) : Region.ready md ops (listed.setIfInBounds z true) = [] := by
  apply List.eq_nil_iff_forall_not_mem.2
  intro k hk
  obtain ⟨hun, o, ho, _⟩ := mem_ready.1 hk
  have hks : k < ops.size := (Array.getElem?_eq_some_iff.1 ho).1
  by_cases hkz : k = z
  · subst hkz
    simp [show k < listed.size by omega] at hun
  · have h1 := last_spec h hz hks hkz
    rw [getD_set_ne true (Ne.symm hkz)] at hun
    rw [h1] at hun
    cases hun

/-- Whatever order is picked from here on; till the last one, what was at the region's beginning stays. -/
def wpMixS (P : Program) (md : Region.Mode) (ops : Array Oper) (Q : Exit → Act → World → Prop) (w0 : World) (z : Nat) : Nat → Array Bool → Act → World → Prop
  | 0, listed, a, w => Region.ready md ops listed = [] ∧ ∀ x : Ext w, Q .normal a x.val
  | f + 1, listed, a, w => Region.ready md ops listed ≠ [] ∧
    ∀ i ∈ Region.ready md ops listed, ∀ x : Ext w, Below w0.heap.size w0 x.val → wpOp P ops noExit i (fun a' w' => (i ≠ z → Below w0.heap.size w0 w') ∧ wpMixS P md ops Q w0 z f (listed.setIfInBounds i true) a' w') a x.val

theorem wpMixS_ext : ∀ (f : Nat) (listed : Array Bool) (a : Act) (w : World) (x : Ext w), wpMixS P md ops Q w0 z f listed a w → wpMixS P md ops Q w0 z f listed a x.val
  | 0, _, _, _, x, h => ⟨h.1, fun y => h.2 (x.more y)⟩
  | _ + 1, _, _, _, x, h => ⟨h.1, fun i hi y => h.2 i hi (x.more y)⟩

theorem wpAny_of_MixS (hl : lastB md ops z = true) : ∀ (f : Nat) (listed : Array Bool) (a : Act) (w : World), listed.size = ops.size → (f ≠ 0 → Below w0.heap.size w0 w) → wpMixS P md ops Q w0 z f listed a w → wpAny P md ops Q f listed a w
  | 0, _, _, w, _, _, h => ⟨h.1, h.2 (Ext.self w)⟩
  | f + 1, listed, _, w, hs, hb, h => ⟨fun hr => absurd hr h.1, fun i hi => wpOp_mono (fun a' w' h' => wpAny_of_MixS hl f _ a' w' (by simpa using hs) (fun hf => by
      by_cases hz : i = z
      · subst hz
        have h0 := last_end hl hi hs
        cases f with
        | zero => exact absurd rfl hf
        | succ f => exact absurd h0 h'.2.1
      · exact h'.1 hz) h'.2) (wpOp_out (h.2 i hi (Ext.self w) (hb (by omega))))⟩

theorem wpMixS_first (hl : lastB md ops z = true) {i : Nat} {oi : Oper} {v : Value} (hi : ops[i]? = some oi) (hiz : i ≠ z) (hsel : ∀ (j : Nat) (o : Oper) cs b, ops[j]? = some o → o.op ≠ .select cs b) :
    ∀ (fuel : Nat) (listed : Array Bool) (a : Act) (w : World),
      (∀ j oj, ops[j]? = some oj → j ≠ i → listed.getD j true = false → (∀ e ∈ oj.after, Region.binds md e = true → e.on ≠ i) → oi.apart ops oj = true) →
      i ∈ Region.ready md ops listed → Soft P ops oi v a w0 →
      wpMixS P md ops Q w0 z fuel (listed.setIfInBounds i true) (a.put oi.dst v) w → wpMixS P md ops Q w0 z (fuel + 1) listed a w := by
  intro fuel
  induction fuel with
  | zero =>
    intro listed a w _ hr hy H
    refine ⟨fun h => (by rw [h] at hr; cases hr), fun j hj x hx => ?_⟩
    by_cases hji : j = i
    · subst hji
      exact (hy.ext hx).wpOp hi fun w' hb => ⟨fun _ => below_le hx hb, wpMixS_ext 0 _ _ _ ⟨w', below_le x.below hb⟩ H⟩
    · have := ready_mono hj hji
      rw [H.1] at this
      cases this
  | succ fuel ih =>
    intro listed a w hfree hr hy H
    refine ⟨fun h => (by rw [h] at hr; cases hr), fun j hj x hx => ?_⟩
    by_cases hji : j = i
    · subst hji
      exact (hy.ext hx).wpOp hi fun w' hb => ⟨fun _ => below_le hx hb, wpMixS_ext (fuel + 1) _ _ _ ⟨w', below_le x.below hb⟩ H⟩
    · have hjz : j ≠ z := fun e => by
        subst e
        have h1 := last_spec hl hj (Array.getElem?_eq_some_iff.1 hi).1 hiz
        have h0 := (mem_ready.1 hr).1
        rw [h1] at h0
        cases h0
      have h1 := H.2 j (ready_mono hj hji) x hx
      obtain ⟨hjun, oj, hoj, hall⟩ := mem_ready.1 hj
      have hnot : ∀ e ∈ oj.after, Region.binds md e = true → e.on ≠ i := fun e he hb heq => by
        have h1 := hall e he hb
        have h0 := (mem_ready.1 hr).1
        rw [heq] at h1
        rcases Nat.lt_or_ge i listed.size with h' | h'
        · simp [h'] at h0 h1; rw [h0] at h1; cases h1
        · simp [Array.getElem?_eq_none h'] at h1
      have h2 := wpOp_put_soft hoj (hfree j oj hoj hji hjun hnot) (fun cs b => hsel i oi cs b hi) (fun cs b => hsel j oj cs b hoj) hy h1
      have hfree' : ∀ k ok, ops[k]? = some ok → k ≠ i → (listed.setIfInBounds j true).getD k true = false →
          (∀ e ∈ ok.after, Region.binds md e = true → e.on ≠ i) → oi.apart ops ok = true := fun k ok hk hki hun hno => by
        refine hfree k ok hk hki ?_ hno
        by_cases hjk : j = k
        · subst hjk; exact hjun
        · rw [getD_set_ne true hjk] at hun; exact hun
      refine wpOp_mono (fun a' w' h3 => ⟨fun _ => h3.2.1 hjz, ih (listed.setIfInBounds j true) a' w' hfree' (ready_mono hr (Ne.symm hji)) h3.1 ?_⟩) h2
      rw [Array.setIfInBounds_comm _ _ hji]
      exact h3.2.2

theorem mark_size (n : Nat) : ∀ l : List Nat, (mark n l).size = n
  | [] => by simp [mark]
  | i :: r => by simp [mark, mark_size n r]

/-- A region that draws its order and ends in a store, walked step by step. -/
theorem wp_region_mixs {id : Nat} {l : List Oper} {a : Act} {w : World} (z : Nat) (hm : P.follows .mixedOrders = true) (hl : lastB .any l.toArray z = true)
    (h : wpMixS P .any l.toArray Q w z l.toArray.size (mark l.toArray.size []) a w) : (Code.region id l.toArray true).wp P Q a w :=
  wp_region_any hm (wpAny_of_MixS (w0 := w) hl _ _ _ _ (mark_size _ []) (fun _ => (Below.refl _ w).drew) (wpMixS_ext _ _ _ _ ⟨{ w with drawn := w.drawn + 1 }, (Below.refl _ w).drew⟩ h))

theorem wpAnyIn_of_MixS {l n : Nat} (hd : noDefer ops = true) (hl : lastB md ops z = true) : ∀ (f : Nat) (listed : Array Bool) (a : Act) (w : World), listed.size = ops.size → (f ≠ 0 → Below w0.heap.size w0 w) → wpMixS P md ops Q w0 z f listed a w → wpAnyIn (Fence.wide.inRound l) n P md ops Q f listed a w
  | 0, _, _, w, _, _, h => ⟨h.1, h.2 (Ext.self w)⟩
  | f + 1, listed, _, w, hs, hb, h => ⟨fun hr => absurd hr h.1, fun i hi => wpOpIn_mono (fun a' w' h' => wpAnyIn_of_MixS hd hl f _ a' w' (by simpa using hs) (fun hf => by
      by_cases hz : i = z
      · subst hz
        have h0 := last_end hl hi hs
        cases f with
        | zero => exact absurd rfl hf
        | succ f => exact absurd h0 h'.2.1
      · exact h'.1 hz) h'.2) (wpOp_in hd (h.2 i hi (Ext.self w) (hb (by omega))))⟩
theorem wpIn_region_mixs {id l n : Nat} {ol : List Oper} {a : Act} {w : World} (z : Nat) (hm : P.follows .mixedOrders = true) (hl : (noDefer ol.toArray && lastB .any ol.toArray z) = true)
    (h : wpMixS P .any ol.toArray Q w z ol.toArray.size (mark ol.toArray.size []) a w) : (Code.region id ol.toArray true).wpIn (Fence.wide.inRound l) n P Q a w := by
  simp only [Bool.and_eq_true] at hl
  exact wpIn_region_any hm (wpAnyIn_of_MixS (w0 := w) hl.1 hl.2 _ _ _ _ (mark_size _ []) (fun _ => (Below.refl _ w).drew) (wpMixS_ext _ _ _ _ ⟨{ w with drawn := w.drawn + 1 }, (Below.refl _ w).drew⟩ h))

variable {l : List Oper} {f i : Nat} {done : List Nat} {a : Act} {w : World} {o : Oper}

def softS (md : Region.Mode) (ops : Array Oper) (z : Nat) (done : List Nat) (i : Nat) : Bool := lastB md ops z && (i != z) && softB md ops done i
theorem mixs_soft (i : Nat) (ho : l[i]? = some o) (hB : softS md l.toArray z done i = true) (hw : Region.wanted o (yielded l.toArray a.tmps) = true)
    (h : ∀ K : Act → Prop, (∀ a', wpMixS P md l.toArray Q w0 z f (mark l.toArray.size (i :: done)) a' w → K a') → softOp P o a w0 K) :
    wpMixS P md l.toArray Q w0 z (f + 1) (mark l.toArray.size done) a w := by
  simp only [softS, softB, Bool.and_eq_true, bne_iff_ne] at hB
  obtain ⟨⟨hl, hz⟩, ⟨hs, hr⟩, hf⟩ := hB
  have ho' : l.toArray[i]? = some o := by simpa using ho
  obtain ⟨v, h1, h2⟩ := h _ fun _ h => h
  exact wpMixS_first hl ho' hz (Region.noSelect_spec hs) f _ a w (Region.free_spec ho' hf) (by simpa using hr) (.inl ⟨hw, h1⟩) h2
theorem mixs_skip (i : Nat) (ho : l[i]? = some o) (hB : softS md l.toArray z done i = true) (hw : Region.wanted o (yielded l.toArray a.tmps) = false)
    (h : wpMixS P md l.toArray Q w0 z f (mark l.toArray.size (i :: done)) (a.put o.dst undef) w) :
    wpMixS P md l.toArray Q w0 z (f + 1) (mark l.toArray.size done) a w := by
  simp only [softS, softB, Bool.and_eq_true, bne_iff_ne] at hB
  obtain ⟨⟨hl, hz⟩, ⟨hs, hr⟩, hf⟩ := hB
  have ho' : l.toArray[i]? = some o := by simpa using ho
  exact wpMixS_first hl ho' hz (Region.noSelect_spec hs) f _ a w (Region.free_spec ho' hf) (by simpa using hr) (.inr ⟨hw, rfl⟩) h
/-- The only one that is ready. -/
theorem mixs_one (i : Nat) (hz : i ≠ z) (hr : Region.ready md l.toArray (mark l.toArray.size done) = [i]) (ho : l[i]? = some o) (hw : Region.wanted o (yielded l.toArray a.tmps) = true)
    (h : ∀ w1 : World, Below w.heap.size w w1 → Below w0.heap.size w0 w1 → ∀ K : Act → World → Prop, (∀ a' w', Below w0.heap.size w0 w' → wpMixS P md l.toArray Q w0 z f (mark l.toArray.size (i :: done)) a' w' → K a' w') → o.wp P a w1 K noExit) :
    wpMixS P md l.toArray Q w0 z (f + 1) (mark l.toArray.size done) a w := by
  refine ⟨by rw [hr]; exact List.cons_ne_nil _ _, fun k hk x hx => ?_⟩
  rw [hr] at hk
  obtain rfl : k = i := by simpa using hk
  unfold wpOp
  simp only [show l.toArray[k]? = some o by simpa using ho, hw, if_true]
  exact .inl (h x.val x.below hx _ fun a' w' hb hm => ⟨fun _ => hb, hm⟩)
/-- The last one. -/
theorem mixs_last (z : Nat) (hr : Region.ready md l.toArray (mark l.toArray.size done) = [z]) (hn : Region.ready md l.toArray (mark l.toArray.size (z :: done)) = []) (ho : l[z]? = some o) (hw : Region.wanted o (yielded l.toArray a.tmps) = true)
    (h : ∀ w1 : World, Below w.heap.size w w1 → Below w0.heap.size w0 w1 → ∀ K : Act → World → Prop, (∀ a' w', (∀ w2 : World, Below w'.heap.size w' w2 → Q .normal a' w2) → K a' w') → o.wp P a w1 K noExit) :
    wpMixS P md l.toArray Q w0 z (0 + 1) (mark l.toArray.size done) a w := by
  refine ⟨by rw [hr]; exact List.cons_ne_nil _ _, fun k hk x hx => ?_⟩
  rw [hr] at hk
  obtain rfl : k = z := by simpa using hk
  unfold wpOp
  simp only [show l.toArray[k]? = some o by simpa using ho, hw, if_true]
  exact .inl (h x.val x.below hx _ fun a' w' hm => ⟨fun e => absurd rfl e, hn, fun y => hm y.val y.below⟩)
end
end Go.Proofs.YtmabokmnniiadaaGreatDoor
