/-
  What is proved: a region that draws its order and ends in one operation; those that are walked softly must come ahead of it, the others are walked where they are the only ones that are ready. No condition beyond those stated.
-/
import Derived.Test.YtmabokmnniiadaaGreatDoorMixc
namespace Go.Proofs.YtmabokmnniiadaaGreatDoor
open Go.RowKit

/-- Operation z comes behind operation i. -/
def lastI (md : Region.Mode) (ops : Array Oper) (z i : Nat) : Bool :=
  match ops[z]? with
  | some o => o.after.any fun e => Region.binds md e && e.on == i
  | none => false
section
variable {P : Program} {ops : Array Oper} {md : Region.Mode} {Q : Exit → Act → World → Prop} {C : World → Prop} {z : Nat}
theorem lastI_spec {i : Nat} (h : lastI md ops z i = true) {listed : Array Bool} (hz : z ∈ Region.ready md ops listed) : listed.getD i true = true := by
  obtain ⟨_, o, ho, hall⟩ := mem_ready.1 hz
  unfold lastI at h
  rw [ho] at h
  simp only at h
  rw [Array.any_eq_true'] at h
  obtain ⟨e, he, h2⟩ := h
  simp only [Bool.and_eq_true, beq_iff_eq] at h2
  have h3 := hall e he h2.1
  rw [h2.2] at h3
  rcases Nat.lt_or_ge i listed.size with h' | h'
  · simp [h'] at h3 ⊢; exact h3
  · simp [Array.getElem?_eq_none h'] at h3

/-- Whatever order is picked from here on; till the last one, the world stays of its kind. -/
def wpMixD (P : Program) (md : Region.Mode) (ops : Array Oper) (Q : Exit → Act → World → Prop) (C : World → Prop) (z : Nat) : Nat → Array Bool → Act → World → Prop
  | 0, _, _, _ => False
  | f + 1, listed, a, w => Region.ready md ops listed ≠ [] ∧
    ∀ i ∈ Region.ready md ops listed, ∀ x : Ext w, C x.val → wpOp P ops noExit i (fun a' w' => (i = z → Region.ready md ops (listed.setIfInBounds i true) = [] ∧ ∀ y : Ext w', Q .normal a' y.val) ∧ (i ≠ z → C w' ∧ wpMixD P md ops Q C z f (listed.setIfInBounds i true) a' w')) a x.val

theorem wpMixD_ext : ∀ (f : Nat) (listed : Array Bool) (a : Act) (w : World) (x : Ext w), wpMixD P md ops Q C z f listed a w → wpMixD P md ops Q C z f listed a x.val
  | 0, _, _, _, _, h => h
  | _ + 1, _, _, _, x, h => ⟨h.1, fun i hi y => h.2 i hi (x.more y)⟩

theorem wpAny_of_MixD : ∀ (f g : Nat) (listed : Array Bool) (a : Act) (w : World), C w → wpMixD P md ops Q C z f listed a w → f ≤ g → wpAny P md ops Q g listed a w
  | 0, _, _, _, _, _, h, _ => h.elim
  | f + 1, 0, _, _, _, _, _, h => by omega
  | f + 1, g + 1, listed, _, w, hb, h, hg => ⟨fun hr => absurd hr h.1, fun i hi => wpOp_mono (fun a' w' h' => by
      by_cases hz : i = z
      · obtain ⟨h0, h1⟩ := h'.1 hz
        cases g with
        | zero => exact ⟨h0, h1 (Ext.self _)⟩
        | succ g => exact ⟨fun _ => h1 (Ext.self _), fun j hj => by rw [h0] at hj; cases hj⟩
      · obtain ⟨h0, h1⟩ := h'.2 hz
        exact wpAny_of_MixD f g _ a' w' h0 h1 (by omega)) (wpOp_out (h.2 i hi (Ext.self w) hb))⟩

theorem wpMixD_first (hC : Stays C) {i : Nat} {oi : Oper} {v : Value} (hi : ops[i]? = some oi) (hiz : i ≠ z) (hl : lastI md ops z i = true) (hsel : ∀ (j : Nat) (o : Oper) cs b, ops[j]? = some o → o.op ≠ .select cs b) :
    ∀ (fuel : Nat) (listed : Array Bool) (a : Act) (w : World),
      (∀ j oj, ops[j]? = some oj → j ≠ i → listed.getD j true = false → (∀ e ∈ oj.after, Region.binds md e = true → e.on ≠ i) → oi.apart ops oj = true) →
      i ∈ Region.ready md ops listed → SoftC P ops C oi v a →
      wpMixD P md ops Q C z fuel (listed.setIfInBounds i true) (a.put oi.dst v) w → wpMixD P md ops Q C z (fuel + 1) listed a w := by
  intro fuel
  induction fuel with
  | zero => intro listed a w _ hr hy H; exact H.elim
  | succ fuel ih =>
    intro listed a w hfree hr hy H
    refine ⟨fun h => (by rw [h] at hr; cases hr), fun j hj x hx => ?_⟩
    by_cases hji : j = i
    · subst hji
      exact hy.wpOp hi hx fun w' hb => ⟨fun e => absurd e hiz, fun _ => ⟨hC _ _ hx hb, wpMixD_ext (fuel + 1) _ _ _ ⟨w', below_le x.below hb⟩ H⟩⟩
    · have hjz : j ≠ z := fun e => by
        subst e
        have h1 := lastI_spec hl hj
        have h0 := (mem_ready.1 hr).1
        rw [h1] at h0
        cases h0
      have h1 := H.2 j (ready_mono hj hji) x hx
      obtain ⟨hjun, oj, hoj, hall⟩ := mem_ready.1 hj
      have hnot : ∀ e ∈ oj.after, Region.binds md e = true → e.on ≠ i := fun e he hb heq => by
        have h1 := hall e he hb
        have h0 := (mem_ready.1 hr).1
        rw [heq] at h1
        rcases Nat.lt_or_ge i listed.size with h' | h'
        · simp [h'] at h0 h1; rw [h0] at h1; cases h1
        · simp [Array.getElem?_eq_none h'] at h1
      have h2 := wpOp_put_softC hoj (hfree j oj hoj hji hjun hnot) (fun cs b => hsel i oi cs b hi) (fun cs b => hsel j oj cs b hoj) hy h1
      have hfree' : ∀ k ok, ops[k]? = some ok → k ≠ i → (listed.setIfInBounds j true).getD k true = false →
          (∀ e ∈ ok.after, Region.binds md e = true → e.on ≠ i) → oi.apart ops ok = true := fun k ok hk hki hun hno => by
        refine hfree k ok hk hki ?_ hno
        by_cases hjk : j = k
        · subst hjk; exact hjun
        · rw [getD_set_ne true hjk] at hun; exact hun
      refine wpOp_mono (fun a' w' h3 => ⟨fun e => absurd e hjz, fun _ => ⟨(h3.2.2 hjz).1, ih (listed.setIfInBounds j true) a' w' hfree' (ready_mono hr (Ne.symm hji)) h3.1 ?_⟩⟩) h2
      rw [Array.setIfInBounds_comm _ _ hji]
      exact (h3.2.2 hjz).2

/-- A region that draws its order and ends in operation z, walked step by step. -/
theorem wp_region_mixd {id : Nat} {l : List Oper} {a : Act} {w : World} (z : Nat) (hC : Stays C) (hw : C w) (hm : P.follows .mixedOrders = true)
    (h : wpMixD P .any l.toArray Q C z l.toArray.size (mark l.toArray.size []) a w) : (Code.region id l.toArray true).wp P Q a w :=
  wp_region_any hm (wpAny_of_MixD _ _ _ _ _ (hC _ _ hw (Below.refl _ w).drew) (wpMixD_ext _ _ _ _ ⟨{ w with drawn := w.drawn + 1 }, (Below.refl _ w).drew⟩ h) (Nat.le_refl _))

theorem wpAnyIn_of_MixD {l n : Nat} (hd : noDefer ops = true) : ∀ (f g : Nat) (listed : Array Bool) (a : Act) (w : World), C w → wpMixD P md ops Q C z f listed a w → f ≤ g → wpAnyIn (Fence.wide.inRound l) n P md ops Q g listed a w
  | 0, _, _, _, _, _, h, _ => h.elim
  | f + 1, 0, _, _, _, _, _, h => by omega
  | f + 1, g + 1, listed, _, w, hb, h, hg => ⟨fun hr => absurd hr h.1, fun i hi => wpOpIn_mono (fun a' w' h' => by
      by_cases hz : i = z
      · obtain ⟨h0, h1⟩ := h'.1 hz
        cases g with
        | zero => exact ⟨h0, h1 (Ext.self _)⟩
        | succ g => exact ⟨fun _ => h1 (Ext.self _), fun j hj => by rw [h0] at hj; cases hj⟩
      · obtain ⟨h0, h1⟩ := h'.2 hz
        exact wpAnyIn_of_MixD hd f g _ a' w' h0 h1 (by omega)) (wpOp_in hd (h.2 i hi (Ext.self w) hb))⟩
theorem wpIn_region_mixd {id l n : Nat} {ol : List Oper} {a : Act} {w : World} (z : Nat) (hC : Stays C) (hw : C w) (hm : P.follows .mixedOrders = true) (hl : noDefer ol.toArray = true)
    (h : wpMixD P .any ol.toArray Q C z ol.toArray.size (mark ol.toArray.size []) a w) : (Code.region id ol.toArray true).wpIn (Fence.wide.inRound l) n P Q a w :=
  wpIn_region_any hm (wpAnyIn_of_MixD hl _ _ _ _ _ (hC _ _ hw (Below.refl _ w).drew) (wpMixD_ext _ _ _ _ ⟨{ w with drawn := w.drawn + 1 }, (Below.refl _ w).drew⟩ h) (Nat.le_refl _))

variable {l : List Oper} {f i : Nat} {done : List Nat} {a : Act} {w : World} {o : Oper}

def softD (md : Region.Mode) (ops : Array Oper) (z : Nat) (done : List Nat) (i : Nat) : Bool := lastI md ops z i && (i != z) && softB md ops done i
theorem mixd_soft (i : Nat) (hC : Stays C) (ho : l[i]? = some o) (hB : softD md l.toArray z done i = true) (hw : Region.wanted o (yielded l.toArray a.tmps) = true)
    (h : ∀ K : Act → Prop, (∀ a', wpMixD P md l.toArray Q C z f (mark l.toArray.size (i :: done)) a' w → K a') → softOpC P C o a K) :
    wpMixD P md l.toArray Q C z (f + 1) (mark l.toArray.size done) a w := by
  simp only [softD, softB, Bool.and_eq_true, bne_iff_ne] at hB
  obtain ⟨⟨hl, hz⟩, ⟨hs, hr⟩, hf⟩ := hB
  have ho' : l.toArray[i]? = some o := by simpa using ho
  obtain ⟨v, h1, h2⟩ := h _ fun _ h => h
  exact wpMixD_first hC ho' hz hl (Region.noSelect_spec hs) f _ a w (Region.free_spec ho' hf) (by simpa using hr) (.inl ⟨hw, h1⟩) h2
theorem mixd_skip (i : Nat) (hC : Stays C) (ho : l[i]? = some o) (hB : softD md l.toArray z done i = true) (hw : Region.wanted o (yielded l.toArray a.tmps) = false)
    (h : wpMixD P md l.toArray Q C z f (mark l.toArray.size (i :: done)) (a.put o.dst undef) w) :
    wpMixD P md l.toArray Q C z (f + 1) (mark l.toArray.size done) a w := by
  simp only [softD, softB, Bool.and_eq_true, bne_iff_ne] at hB
  obtain ⟨⟨hl, hz⟩, ⟨hs, hr⟩, hf⟩ := hB
  have ho' : l.toArray[i]? = some o := by simpa using ho
  exact wpMixD_first hC ho' hz hl (Region.noSelect_spec hs) f _ a w (Region.free_spec ho' hf) (by simpa using hr) (.inr ⟨hw, rfl⟩) h
/-- The only one that is ready. -/
theorem mixd_one (i : Nat) (hz : i ≠ z) (hr : Region.ready md l.toArray (mark l.toArray.size done) = [i]) (ho : l[i]? = some o) (hw : Region.wanted o (yielded l.toArray a.tmps) = true)
    (h : ∀ w1 : World, Below w.heap.size w w1 → C w1 → ∀ K : Act → World → Prop, (∀ a' w', C w' → wpMixD P md l.toArray Q C z f (mark l.toArray.size (i :: done)) a' w' → K a' w') → o.wp P a w1 K noExit) :
    wpMixD P md l.toArray Q C z (f + 1) (mark l.toArray.size done) a w := by
  refine ⟨by rw [hr]; exact List.cons_ne_nil _ _, fun k hk x hx => ?_⟩
  rw [hr] at hk
  obtain rfl : k = i := by simpa using hk
  unfold wpOp
  simp only [show l.toArray[k]? = some o by simpa using ho, hw, if_true]
  exact .inl (h x.val x.below hx _ fun a' w' hb hm => ⟨fun e => absurd e hz, fun _ => ⟨hb, hm⟩⟩)
/-- The last one. -/
theorem mixd_last (z : Nat) (hr : Region.ready md l.toArray (mark l.toArray.size done) = [z]) (hn : Region.ready md l.toArray (mark l.toArray.size (z :: done)) = []) (ho : l[z]? = some o) (hw : Region.wanted o (yielded l.toArray a.tmps) = true)
    (h : ∀ w1 : World, Below w.heap.size w w1 → C w1 → ∀ K : Act → World → Prop, (∀ a' w', (∀ w2 : World, Below w'.heap.size w' w2 → Q .normal a' w2) → K a' w') → o.wp P a w1 K noExit) :
    wpMixD P md l.toArray Q C z (f + 1) (mark l.toArray.size done) a w := by
  refine ⟨by rw [hr]; exact List.cons_ne_nil _ _, fun k hk x hx => ?_⟩
  rw [hr] at hk
  obtain rfl : k = z := by simpa using hk
  unfold wpOp
  simp only [show l.toArray[k]? = some o by simpa using ho, hw, if_true]
  exact .inl (h x.val x.below hx _ fun a' w' hm => ⟨fun _ => ⟨hn, fun y => hm y.val y.below⟩, fun e => absurd rfl e⟩)
end
end Go.Proofs.YtmabokmnniiadaaGreatDoor
