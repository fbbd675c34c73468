/-
  What is proved: a region that draws its order; those operations that are walked softly come ahead of one operation z; behind that the rest is walked where its order is forced. No condition beyond those stated.
-/
import Derived.Test.YtmabokmnniiadaaGreatDoorMixd
namespace Go.Proofs.YtmabokmnniiadaaGreatDoor
open Go.RowKit

instance : Nonempty (Of fun _ : World => True) := ⟨⟨default, trivial⟩⟩
section
variable {P : Program} {ops : Array Oper} {md : Region.Mode} {Q : Exit → Act → World → Prop} {C : World → Prop} {z : Nat}
/-- Whatever order is picked from here on, in whatever world that has all that this one has. -/
def wpRest (P : Program) (md : Region.Mode) (ops : Array Oper) (Q : Exit → Act → World → Prop) : Nat → Array Bool → Act → World → Prop
  | 0, listed, a, w => Region.ready md ops listed = [] ∧ ∀ x : Ext w, Q .normal a x.val
  | f + 1, listed, a, w => (Region.ready md ops listed = [] → ∀ x : Ext w, Q .normal a x.val) ∧ ∀ i ∈ Region.ready md ops listed, ∀ x : Ext w, wpOp P ops noExit i (fun a' w' => wpRest P md ops Q f (listed.setIfInBounds i true) a' w') a x.val
theorem wpRest_ext : ∀ (f : Nat) (listed : Array Bool) (a : Act) (w : World) (x : Ext w), wpRest P md ops Q f listed a w → wpRest P md ops Q f listed a x.val
  | 0, _, _, _, x, h => ⟨h.1, fun y => h.2 (x.more y)⟩
  | _ + 1, _, _, _, x, h => ⟨fun hr y => h.1 hr (x.more y), fun i hi y => h.2 i hi (x.more y)⟩
theorem wpAny_of_Rest : ∀ (f : Nat) (listed : Array Bool) (a : Act) (w : World), wpRest P md ops Q f listed a w → wpAny P md ops Q f listed a w
  | 0, _, _, w, h => ⟨h.1, h.2 (Ext.self w)⟩
  | f + 1, _, _, w, h => ⟨fun hr => h.1 hr (Ext.self w), fun i hi => wpOp_mono (fun a' w' h' => wpAny_of_Rest f _ a' w' h') (wpOp_out (h.2 i hi (Ext.self w)))⟩
theorem wpRest_first {i : Nat} {oi : Oper} {v : Value} (hi : ops[i]? = some oi) (hsel : ∀ (j : Nat) (o : Oper) cs b, ops[j]? = some o → o.op ≠ .select cs b) :
    ∀ (fuel : Nat) (listed : Array Bool) (a : Act) (w : World),
      (∀ j oj, ops[j]? = some oj → j ≠ i → listed.getD j true = false → (∀ e ∈ oj.after, Region.binds md e = true → e.on ≠ i) → oi.apart ops oj = true) →
      i ∈ Region.ready md ops listed → SoftC P ops (fun _ => True) oi v a →
      wpRest P md ops Q fuel (listed.setIfInBounds i true) (a.put oi.dst v) w → wpRest P md ops Q (fuel + 1) listed a w := by
  intro fuel
  induction fuel with
  | zero =>
    intro listed a w _ hr hy H
    refine ⟨fun h => (by rw [h] at hr; cases hr), fun j hj x => ?_⟩
    by_cases hji : j = i
    · subst hji
      exact hy.wpOp hi trivial fun w' hb => wpRest_ext 0 _ _ _ ⟨w', below_le x.below hb⟩ H
    · have := ready_mono hj hji
      rw [H.1] at this
      cases this
  | succ fuel ih =>
    intro listed a w hfree hr hy H
    refine ⟨fun h => (by rw [h] at hr; cases hr), fun j hj x => ?_⟩
    by_cases hji : j = i
    · subst hji
      exact hy.wpOp hi trivial fun w' hb => wpRest_ext (fuel + 1) _ _ _ ⟨w', below_le x.below hb⟩ H
    · have h1 := H.2 j (ready_mono hj hji) x
      obtain ⟨hjun, oj, hoj, hall⟩ := mem_ready.1 hj
      have hnot : ∀ e ∈ oj.after, Region.binds md e = true → e.on ≠ i := fun e he hb heq => by
        have h1 := hall e he hb
        have h0 := (mem_ready.1 hr).1
        rw [heq] at h1
        rcases Nat.lt_or_ge i listed.size with h' | h'
        · simp [h'] at h0 h1; rw [h0] at h1; cases h1
        · simp [Array.getElem?_eq_none h'] at h1
      have h2 := wpOp_put_softC hoj (hfree j oj hoj hji hjun hnot) (fun cs b => hsel i oi cs b hi) (fun cs b => hsel j oj cs b hoj) hy h1
      have hfree' : ∀ k ok, ops[k]? = some ok → k ≠ i → (listed.setIfInBounds j true).getD k true = false →
          (∀ e ∈ ok.after, Region.binds md e = true → e.on ≠ i) → oi.apart ops ok = true := fun k ok hk hki hun hno => by
        refine hfree k ok hk hki ?_ hno
        by_cases hjk : j = k
        · subst hjk; exact hjun
        · rw [getD_set_ne true hjk] at hun; exact hun
      refine wpOp_mono (fun a' w' h3 => ih (listed.setIfInBounds j true) a' w' hfree' (ready_mono hr (Ne.symm hji)) h3.1 ?_) h2
      rw [Array.setIfInBounds_comm _ _ hji]
      exact h3.2

/-- Whatever order is picked from here on; till the last one, the world stays of its kind. -/
def wpMixF (P : Program) (md : Region.Mode) (ops : Array Oper) (Q : Exit → Act → World → Prop) (C : World → Prop) (z : Nat) : Nat → Array Bool → Act → World → Prop
  | 0, _, _, _ => False
  | f + 1, listed, a, w => Region.ready md ops listed ≠ [] ∧
    ∀ i ∈ Region.ready md ops listed, ∀ x : Ext w, C x.val → wpOp P ops noExit i (fun a' w' => (i = z → wpRest P md ops Q f (listed.setIfInBounds i true) a' w') ∧ (i ≠ z → C w' ∧ wpMixF P md ops Q C z f (listed.setIfInBounds i true) a' w')) a x.val

theorem wpMixF_ext : ∀ (f : Nat) (listed : Array Bool) (a : Act) (w : World) (x : Ext w), wpMixF P md ops Q C z f listed a w → wpMixF P md ops Q C z f listed a x.val
  | 0, _, _, _, _, h => h
  | _ + 1, _, _, _, x, h => ⟨h.1, fun i hi y => h.2 i hi (x.more y)⟩

theorem wpAny_of_MixF : ∀ (f : Nat) (listed : Array Bool) (a : Act) (w : World), C w → wpMixF P md ops Q C z f listed a w → wpAny P md ops Q f listed a w
  | 0, _, _, _, _, h => h.elim
  | f + 1, listed, _, w, hb, h => ⟨fun hr => absurd hr h.1, fun i hi => wpOp_mono (fun a' w' h' => by
      by_cases hz : i = z
      · exact wpAny_of_Rest _ _ _ _ (h'.1 hz)
      · obtain ⟨h0, h1⟩ := h'.2 hz
        exact wpAny_of_MixF f _ a' w' h0 h1) (wpOp_out (h.2 i hi (Ext.self w) hb))⟩

theorem wpMixF_first (hC : Stays C) {i : Nat} {oi : Oper} {v : Value} (hi : ops[i]? = some oi) (hiz : i ≠ z) (hl : lastI md ops z i = true) (hsel : ∀ (j : Nat) (o : Oper) cs b, ops[j]? = some o → o.op ≠ .select cs b) :
    ∀ (fuel : Nat) (listed : Array Bool) (a : Act) (w : World),
      (∀ j oj, ops[j]? = some oj → j ≠ i → listed.getD j true = false → (∀ e ∈ oj.after, Region.binds md e = true → e.on ≠ i) → oi.apart ops oj = true) →
      i ∈ Region.ready md ops listed → SoftC P ops C oi v a →
      wpMixF P md ops Q C z fuel (listed.setIfInBounds i true) (a.put oi.dst v) w → wpMixF P md ops Q C z (fuel + 1) listed a w := by
  intro fuel
  induction fuel with
  | zero => intro listed a w _ hr hy H; exact H.elim
  | succ fuel ih =>
    intro listed a w hfree hr hy H
    refine ⟨fun h => (by rw [h] at hr; cases hr), fun j hj x hx => ?_⟩
    by_cases hji : j = i
    · subst hji
      exact hy.wpOp hi hx fun w' hb => ⟨fun e => absurd e hiz, fun _ => ⟨hC _ _ hx hb, wpMixF_ext (fuel + 1) _ _ _ ⟨w', below_le x.below hb⟩ H⟩⟩
    · have hjz : j ≠ z := fun e => by
        subst e
        have h1 := lastI_spec hl hj
        have h0 := (mem_ready.1 hr).1
        rw [h1] at h0
        cases h0
      have h1 := H.2 j (ready_mono hj hji) x hx
      obtain ⟨hjun, oj, hoj, hall⟩ := mem_ready.1 hj
      have hnot : ∀ e ∈ oj.after, Region.binds md e = true → e.on ≠ i := fun e he hb heq => by
        have h1 := hall e he hb
        have h0 := (mem_ready.1 hr).1
        rw [heq] at h1
        rcases Nat.lt_or_ge i listed.size with h' | h'
        · simp [h'] at h0 h1; rw [h0] at h1; cases h1
        · simp [Array.getElem?_eq_none h'] at h1
      have h2 := wpOp_put_softC hoj (hfree j oj hoj hji hjun hnot) (fun cs b => hsel i oi cs b hi) (fun cs b => hsel j oj cs b hoj) hy h1
      have hfree' : ∀ k ok, ops[k]? = some ok → k ≠ i → (listed.setIfInBounds j true).getD k true = false →
          (∀ e ∈ ok.after, Region.binds md e = true → e.on ≠ i) → oi.apart ops ok = true := fun k ok hk hki hun hno => by
        refine hfree k ok hk hki ?_ hno
        by_cases hjk : j = k
        · subst hjk; exact hjun
        · rw [getD_set_ne true hjk] at hun; exact hun
      refine wpOp_mono (fun a' w' h3 => ⟨fun e => absurd e hjz, fun _ => ⟨(h3.2.2 hjz).1, ih (listed.setIfInBounds j true) a' w' hfree' (ready_mono hr (Ne.symm hji)) h3.1 ?_⟩⟩) h2
      rw [Array.setIfInBounds_comm _ _ hji]
      exact (h3.2.2 hjz).2

/-- An operation whose value no world turns may be taken first, wherever z stands. -/
theorem wpMixF_pure (hC : Stays C) {i : Nat} {oi : Oper} {v : Value} (hi : ops[i]? = some oi) (hiz : i ≠ z) (hsel : ∀ (j : Nat) (o : Oper) cs b, ops[j]? = some o → o.op ≠ .select cs b) :
    ∀ (fuel : Nat) (listed : Array Bool) (a : Act) (w : World),
      (∀ j oj, ops[j]? = some oj → j ≠ i → listed.getD j true = false → (∀ e ∈ oj.after, Region.binds md e = true → e.on ≠ i) → oi.apart ops oj = true) →
      i ∈ Region.ready md ops listed → SoftC P ops (fun _ => True) oi v a →
      wpMixF P md ops Q C z fuel (listed.setIfInBounds i true) (a.put oi.dst v) w → wpMixF P md ops Q C z (fuel + 1) listed a w := by
  intro fuel
  induction fuel with
  | zero => intro listed a w _ hr hy H; exact H.elim
  | succ fuel ih =>
    intro listed a w hfree hr hy H
    refine ⟨fun h => (by rw [h] at hr; cases hr), fun j hj x hx => ?_⟩
    by_cases hji : j = i
    · subst hji
      exact hy.wpOp hi trivial fun w' hb => ⟨fun e => absurd e hiz, fun _ => ⟨hC _ _ hx hb, wpMixF_ext (fuel + 1) _ _ _ ⟨w', below_le x.below hb⟩ H⟩⟩
    · have h1 := H.2 j (ready_mono hj hji) x hx
      obtain ⟨hjun, oj, hoj, hall⟩ := mem_ready.1 hj
      have hnot : ∀ e ∈ oj.after, Region.binds md e = true → e.on ≠ i := fun e he hb heq => by
        have h1 := hall e he hb
        have h0 := (mem_ready.1 hr).1
        rw [heq] at h1
        rcases Nat.lt_or_ge i listed.size with h' | h'
        · simp [h'] at h0 h1; rw [h0] at h1; cases h1
        · simp [Array.getElem?_eq_none h'] at h1
      have h2 := wpOp_put_softC hoj (hfree j oj hoj hji hjun hnot) (fun cs b => hsel i oi cs b hi) (fun cs b => hsel j oj cs b hoj) hy h1
      have hfree' : ∀ k ok, ops[k]? = some ok → k ≠ i → (listed.setIfInBounds j true).getD k true = false →
          (∀ e ∈ ok.after, Region.binds md e = true → e.on ≠ i) → oi.apart ops ok = true := fun k ok hk hki hun hno => by
        refine hfree k ok hk hki ?_ hno
        by_cases hjk : j = k
        · subst hjk; exact hjun
        · rw [getD_set_ne true hjk] at hun; exact hun
      refine wpOp_mono (fun a' w' h3 => ⟨fun e => wpRest_first hi hsel fuel _ a' w' hfree' (ready_mono hr (Ne.symm hji)) h3.1 ?_, fun e => ⟨(h3.2.2 e).1, ih (listed.setIfInBounds j true) a' w' hfree' (ready_mono hr (Ne.symm hji)) h3.1 ?_⟩⟩) h2
      · rw [Array.setIfInBounds_comm _ _ hji]
        exact h3.2.1 e
      · rw [Array.setIfInBounds_comm _ _ hji]
        exact (h3.2.2 e).2

/-- A region that draws its order, walked step by step. -/
theorem wp_region_mixf {id : Nat} {l : List Oper} {a : Act} {w : World} (z : Nat) (hC : Stays C) (hw : C w) (hm : P.follows .mixedOrders = true)
    (h : wpMixF P .any l.toArray Q C z l.toArray.size (mark l.toArray.size []) a w) : (Code.region id l.toArray true).wp P Q a w :=
  wp_region_any hm (wpAny_of_MixF _ _ _ _ (hC _ _ hw (Below.refl _ w).drew) (wpMixF_ext _ _ _ _ ⟨{ w with drawn := w.drawn + 1 }, (Below.refl _ w).drew⟩ h))

variable {l : List Oper} {f i : Nat} {done : List Nat} {a : Act} {w : World} {o : Oper}

theorem mixf_soft (i : Nat) (hC : Stays C) (ho : l[i]? = some o) (hB : softD md l.toArray z done i = true) (hw : Region.wanted o (yielded l.toArray a.tmps) = true)
    (h : ∀ K : Act → Prop, (∀ a', wpMixF P md l.toArray Q C z f (mark l.toArray.size (i :: done)) a' w → K a') → softOpC P C o a K) :
    wpMixF P md l.toArray Q C z (f + 1) (mark l.toArray.size done) a w := by
  simp only [softD, softB, Bool.and_eq_true, bne_iff_ne] at hB
  obtain ⟨⟨hl, hz⟩, ⟨hs, hr⟩, hf⟩ := hB
  have ho' : l.toArray[i]? = some o := by simpa using ho
  obtain ⟨v, h1, h2⟩ := h _ fun _ h => h
  exact wpMixF_first hC ho' hz hl (Region.noSelect_spec hs) f _ a w (Region.free_spec ho' hf) (by simpa using hr) (.inl ⟨hw, h1⟩) h2
theorem mixf_skip (i : Nat) (hC : Stays C) (ho : l[i]? = some o) (hB : softD md l.toArray z done i = true) (hw : Region.wanted o (yielded l.toArray a.tmps) = false)
    (h : wpMixF P md l.toArray Q C z f (mark l.toArray.size (i :: done)) (a.put o.dst undef) w) :
    wpMixF P md l.toArray Q C z (f + 1) (mark l.toArray.size done) a w := by
  simp only [softD, softB, Bool.and_eq_true, bne_iff_ne] at hB
  obtain ⟨⟨hl, hz⟩, ⟨hs, hr⟩, hf⟩ := hB
  have ho' : l.toArray[i]? = some o := by simpa using ho
  exact wpMixF_first hC ho' hz hl (Region.noSelect_spec hs) f _ a w (Region.free_spec ho' hf) (by simpa using hr) (.inr ⟨hw, rfl⟩) h
theorem mixf_pure (i : Nat) (hC : Stays C) (ho : l[i]? = some o) (hB : ((i != z) && softB md l.toArray done i) = true) (hw : Region.wanted o (yielded l.toArray a.tmps) = true)
    (h : ∀ K : Act → Prop, (∀ a', wpMixF P md l.toArray Q C z f (mark l.toArray.size (i :: done)) a' w → K a') → softOpC P (fun _ => True) o a K) :
    wpMixF P md l.toArray Q C z (f + 1) (mark l.toArray.size done) a w := by
  simp only [softB, Bool.and_eq_true, bne_iff_ne] at hB
  obtain ⟨hz, ⟨hs, hr⟩, hf⟩ := hB
  have ho' : l.toArray[i]? = some o := by simpa using ho
  obtain ⟨v, h1, h2⟩ := h _ fun _ h => h
  exact wpMixF_pure hC ho' hz (Region.noSelect_spec hs) f _ a w (Region.free_spec ho' hf) (by simpa using hr) (.inl ⟨hw, h1⟩) h2
/-- The only one that is ready. -/
theorem mixf_one (i : Nat) (hz : i ≠ z) (hr : Region.ready md l.toArray (mark l.toArray.size done) = [i]) (ho : l[i]? = some o) (hw : Region.wanted o (yielded l.toArray a.tmps) = true)
    (h : ∀ w1 : World, Below w.heap.size w w1 → C w1 → ∀ K : Act → World → Prop, (∀ a' w', C w' → wpMixF P md l.toArray Q C z f (mark l.toArray.size (i :: done)) a' w' → K a' w') → o.wp P a w1 K noExit) :
    wpMixF P md l.toArray Q C z (f + 1) (mark l.toArray.size done) a w := by
  refine ⟨by rw [hr]; exact List.cons_ne_nil _ _, fun k hk x hx => ?_⟩
  rw [hr] at hk
  obtain rfl : k = i := by simpa using hk
  unfold wpOp
  simp only [show l.toArray[k]? = some o by simpa using ho, hw, if_true]
  exact .inl (h x.val x.below hx _ fun a' w' hb hm => ⟨fun e => absurd e hz, fun _ => ⟨hb, hm⟩⟩)
/-- Operation z. -/
theorem mixf_z (z : Nat) (hr : Region.ready md l.toArray (mark l.toArray.size done) = [z]) (ho : l[z]? = some o) (hw : Region.wanted o (yielded l.toArray a.tmps) = true)
    (h : ∀ w1 : World, Below w.heap.size w w1 → C w1 → ∀ K : Act → World → Prop, (∀ a' w', wpRest P md l.toArray Q f (mark l.toArray.size (z :: done)) a' w' → K a' w') → o.wp P a w1 K noExit) :
    wpMixF P md l.toArray Q C z (f + 1) (mark l.toArray.size done) a w := by
  refine ⟨by rw [hr]; exact List.cons_ne_nil _ _, fun k hk x hx => ?_⟩
  rw [hr] at hk
  obtain rfl : k = z := by simpa using hk
  unfold wpOp
  simp only [show l.toArray[k]? = some o by simpa using ho, hw, if_true]
  exact .inl (h x.val x.below hx _ fun a' w' hm => ⟨fun _ => hm, fun e => absurd rfl e⟩)
/-- Behind it. -/
theorem rest_one (i : Nat) (hr : Region.ready md l.toArray (mark l.toArray.size done) = [i]) (ho : l[i]? = some o) (hw : Region.wanted o (yielded l.toArray a.tmps) = true)
    (h : ∀ w1 : World, Below w.heap.size w w1 → ∀ K : Act → World → Prop, (∀ a' w', wpRest P md l.toArray Q f (mark l.toArray.size (i :: done)) a' w' → K a' w') → o.wp P a w1 K noExit) :
    wpRest P md l.toArray Q (f + 1) (mark l.toArray.size done) a w := by
  refine ⟨fun h0 => (by rw [hr] at h0; cases h0), fun k hk x => ?_⟩
  rw [hr] at hk
  obtain rfl : k = i := by simpa using hk
  unfold wpOp
  simp only [show l.toArray[k]? = some o by simpa using ho, hw, if_true]
  exact .inl (h x.val x.below _ fun _ _ h => h)
theorem rest_nil (hr : Region.ready md l.toArray (mark l.toArray.size done) = []) (h : ∀ w1 : World, Below w.heap.size w w1 → Q .normal a w1) : wpRest P md l.toArray Q f (mark l.toArray.size done) a w := by
  cases f with
  | zero => exact ⟨hr, fun x => h x.val x.below⟩
  | succ f => exact ⟨fun _ x => h x.val x.below, fun i hi => by rw [hr] at hi; cases hi⟩

/-- Two operations that make new memory, in either order. -/
theorem mixf_both (i j : Nat) {oi oj : Oper} (hC : Stays C) (hoi : l[i]? = some oi) (hoj : l[j]? = some oj) (hne : i ≠ j) (hiz : i ≠ z) (hjz : j ≠ z) (hgi : oi.guard = none) (hgj : oj.guard = none)
    (hr : Region.ready md l.toArray (mark l.toArray.size done) = [i, j]) (hri : Region.ready md l.toArray (mark l.toArray.size (i :: done)) = [j]) (hrj : Region.ready md l.toArray (mark l.toArray.size (j :: done)) = [i])
    (hd : ∀ (v u : Value), (a.put oj.dst u).put oi.dst v = (a.put oi.dst v).put oj.dst u)
    (Pi Pj : Value → World → Prop) (Si : ∀ v X Y, Below X.heap.size X Y → Pi v X → Pi v Y) (Sj : ∀ v X Y, Below X.heap.size X Y → Pj v X → Pj v Y)
    (Hi : ∀ (b : Act), (b = a ∨ ∃ u, b = a.put oj.dst u) → ∀ w1 : World, Below w.heap.size w w1 → ∀ K : Act → World → Prop, (∀ v w', Pi v w' → Below w1.heap.size w1 w' → K (b.put oi.dst v) w') → oi.wp P b w1 K noExit)
    (Hj : ∀ (b : Act), (b = a ∨ ∃ u, b = a.put oi.dst u) → ∀ w1 : World, Below w.heap.size w w1 → ∀ K : Act → World → Prop, (∀ v w', Pj v w' → Below w1.heap.size w1 w' → K (b.put oj.dst v) w') → oj.wp P b w1 K noExit)
    (h : ∀ vi vj w', Below w.heap.size w w' → C w' → Pi vi w' → Pj vj w' → wpMixF P md l.toArray Q C z f (mark l.toArray.size (j :: i :: done)) ((a.put oi.dst vi).put oj.dst vj) w') :
    wpMixF P md l.toArray Q C z (f + 2) (mark l.toArray.size done) a w := by
  have hw : ∀ (o : Oper) (b : Act), o.guard = none → Region.wanted o (yielded l.toArray b.tmps) = true := fun o b hg => by simp [Region.wanted, hg]
  refine ⟨by rw [hr]; exact List.cons_ne_nil _ _, fun k hk x hx => ?_⟩
  rw [hr] at hk
  simp only [List.mem_cons, List.not_mem_nil, or_false] at hk
  rcases hk with rfl | rfl
  · unfold wpOp
    simp only [show l.toArray[k]? = some oi by simpa using hoi, hw _ _ hgi, if_true]
    refine .inl (Hi a (.inl rfl) x.val x.below _ fun v w2 hv hb2 => ⟨fun e => absurd e hiz, fun _ => ⟨hC _ _ hx hb2, ?_⟩⟩)
    refine mixf_one (done := k :: done) j hjz hri hoj (hw _ _ hgj) fun w3 h3 h03 K hK => Hj _ (.inr ⟨v, rfl⟩) w3 (below_le (below_le x.below hb2) h3) K fun u w4 hu hb4 => hK _ _ (hC _ _ h03 hb4) ?_
    exact h v u w4 (below_le (below_le (below_le x.below hb2) h3) hb4) (hC _ _ h03 hb4) (Si _ _ _ (below_le h3 hb4) hv) hu
  · unfold wpOp
    simp only [show l.toArray[k]? = some oj by simpa using hoj, hw _ _ hgj, if_true]
    refine .inl (Hj a (.inl rfl) x.val x.below _ fun u w2 hu hb2 => ⟨fun e => absurd e hjz, fun _ => ⟨hC _ _ hx hb2, ?_⟩⟩)
    refine mixf_one (done := k :: done) i hiz hrj hoi (hw _ _ hgi) fun w3 h3 h03 K hK => Hi _ (.inr ⟨u, rfl⟩) w3 (below_le (below_le x.below hb2) h3) K fun v w4 hv hb4 => hK _ _ (hC _ _ h03 hb4) ?_
    have := h v u w4 (below_le (below_le (below_le x.below hb2) h3) hb4) (hC _ _ h03 hb4) hv (Sj _ _ _ (below_le h3 hb4) hu)
    rw [← hd] at this
    have e : mark l.toArray.size (i :: k :: done) = mark l.toArray.size (k :: i :: done) := by
      simp only [mark]
      exact Array.setIfInBounds_comm _ _ (Ne.symm hne)
    rw [e]
    exact this
end
end Go.Proofs.YtmabokmnniiadaaGreatDoor
