/-
  What is proved: a region that draws its order and whose last operation comes behind all others, walked step by step, where what is read lies in blocks that stay; others may be written. No condition beyond those stated.
-/
import Derived.Test.YtmabokmnniiadaaGreatDoorMixs
namespace Go.Proofs.YtmabokmnniiadaaGreatDoor
open Go.RowKit

/-- A world of some kind. -/
structure Of (C : World → Prop) where
  val : World
  ok : C val
instance (B : Nat) (w : World) : Nonempty (Of fun x => Below B w x) := ⟨⟨w, Below.refl _ _⟩⟩
/-- What is made or changed keeps the kind. -/
def Stays (C : World → Prop) : Prop := ∀ X Y : World, C X → Below X.heap.size X Y → C Y

/-- One value in every world of the kind. -/
def softOpC (P : Program) (C : World → Prop) (o : Oper) (a : Act) (K : Act → Prop) : Prop :=
  ∃ v, (∀ x : Of C, softUpon P x.val v ((execOp a.eval o).run P x.val)) ∧ K (a.put o.dst v)
attribute [go_sem] softOpC

section
variable {P : Program} {ops : Array Oper} {md : Region.Mode} {Q : Exit → Act → World → Prop} {C : World → Prop} {z : Nat}

def SoftC (P : Program) (ops : Array Oper) (C : World → Prop) (o : Oper) (v : Value) (a : Act) : Prop :=
  (Region.wanted o (yielded ops a.tmps) = true ∧ ∀ x : Of C, softUpon P x.val v ((execOp a.eval o).run P x.val)) ∨
  (Region.wanted o (yielded ops a.tmps) = false ∧ v = undef)
theorem SoftC.of_same {o : Oper} {v : Value} {a a' : Act} (h : SoftC P ops C o v a) (he : execOp a'.eval o = execOp a.eval o)
    (hw : Region.wanted o (yielded ops a'.tmps) = Region.wanted o (yielded ops a.tmps)) : SoftC P ops C o v a' := by
  unfold SoftC at *
  rw [he, hw]
  exact h
theorem SoftC.wpOp {i : Nat} {o : Oper} {v : Value} {a : Act} {w : World} (hi : ops[i]? = some o) (hy : SoftC P ops C o v a) (hC : C w) {K : Act → World → Prop}
    (h : ∀ w', Below w.heap.size w w' → K (a.put o.dst v) w') : Go.wpOp P ops noExit i K a w := by
  unfold Go.wpOp
  simp only [hi]
  rcases hy with ⟨hw, hv⟩ | ⟨hw, rfl⟩
  · simp only [hw, if_true]
    refine .inl ?_
    have h3 := hv ⟨w, hC⟩
    unfold Oper.wp
    dsimp only at h3
    generalize (execOp a.eval o).run P w = r at *
    cases r with
    | ok n w' =>
      cases n <;> simp only [softUpon] at h3 <;> simp only [Oper.upon]
      case value u => obtain ⟨e1, e2⟩ := h3; rw [e1, e2]; exact h _ (Below.refl _ _)
      case skip => obtain ⟨e1, e2⟩ := h3; rw [e1, ← e2]; exact h _ (Below.refl _ _)
      case enter f args =>
        obtain ⟨e1, hc⟩ := h3
        rw [e1]
        exact hc.mono fun e w'' ⟨he, hw''⟩ => by subst he; exact h _ hw''
    | halt x w' => simp only [softUpon] at h3
  · simp only [hw, Bool.false_eq_true, if_false]; exact h _ (Below.refl _ _)

theorem wpOp_put_softC {j : Nat} {oi oj : Oper} {v : Value} (hj : ops[j]? = some oj) (hap : oi.apart ops oj = true)
    (hsi : ∀ cs b, oi.op ≠ .select cs b) (hsj : ∀ cs b, oj.op ≠ .select cs b) {K : Act → World → Prop} {a : Act} {w : World}
    (hy : SoftC P ops C oi v a) (h : wpOp P ops noExit j K (a.put oi.dst v) w) :
    wpOp P ops noExit j (fun a' w' => SoftC P ops C oi v a' ∧ K (a'.put oi.dst v) w') a w := by
  obtain ⟨h1, h2, h3⟩ := Oper.apart_spec hap
  have keep : ∀ (a : Act), SoftC P ops C oi v a → ∀ u, SoftC P ops C oi v (a.put oj.dst u) := fun a hy u =>
    hy.of_same (execOp_put oi hsi a oj.dst u h3) (wanted_put oi a oj.dst u h3)
  have keepD : ∀ d, SoftC P ops C oi v { a with defers := d :: a.defers } := fun d => hy.of_same rfl rfl
  unfold wpOp at *
  simp only [hj] at *
  rw [wanted_put oj a oi.dst v h1] at h
  split
  · rename_i hw
    simp only [hw, if_true] at h
    rcases h with h | ⟨_, _, _, hf⟩
    case inr => exact hf.elim
    refine .inl ?_
    unfold Oper.wp at *
    rw [execOp_put oj hsj a oi.dst v h1] at h
    generalize (execOp a.eval oj).run P w = r at *
    cases r with
    | ok n w' =>
      cases n <;> simp only [Oper.upon] at h ⊢
      case value u => exact ⟨keep a hy u, by rw [← Act.put_comm a v u h2]; exact h⟩
      case skip => exact ⟨keep a hy _, by rw [← Act.put_comm a v undef h2]; exact h⟩
      case defer d =>
        refine ⟨keep _ (keepD d) _, ?_⟩
        rw [← Act.put_comm _ v undef h2, ← Act.put_defers]
        exact h
      case enter f args =>
        refine Calls.mono h fun e w'' he => ?_
        cases e with
        | returned u => exact ⟨keep a hy u, by rw [← Act.put_comm a v u h2]; exact he⟩
        | panicked c => exact he.elim
        | outgrown => exact he
      case row row args => exact Rows.mono h fun u w'' he => ⟨keep a hy u, by rw [← Act.put_comm a v u h2]; exact he⟩
    | halt x w' =>
      cases x <;> simp only [Oper.upon] at h ⊢
      case panic u => exact h.elim
  · rename_i hw
    simp only [hw] at h
    exact ⟨keep a hy _, by rw [← Act.put_comm a v undef h2]; exact h⟩

/-- Whatever order is picked from here on; till the last one, the world stays of its kind. -/
def wpMixC (P : Program) (md : Region.Mode) (ops : Array Oper) (Q : Exit → Act → World → Prop) (C : World → Prop) (z : Nat) : Nat → Array Bool → Act → World → Prop
  | 0, listed, a, w => Region.ready md ops listed = [] ∧ ∀ x : Ext w, Q .normal a x.val
  | f + 1, listed, a, w => Region.ready md ops listed ≠ [] ∧
    ∀ i ∈ Region.ready md ops listed, ∀ x : Ext w, C x.val → wpOp P ops noExit i (fun a' w' => (i ≠ z → C w') ∧ wpMixC P md ops Q C z f (listed.setIfInBounds i true) a' w') a x.val

theorem wpMixC_ext : ∀ (f : Nat) (listed : Array Bool) (a : Act) (w : World) (x : Ext w), wpMixC P md ops Q C z f listed a w → wpMixC P md ops Q C z f listed a x.val
  | 0, _, _, _, x, h => ⟨h.1, fun y => h.2 (x.more y)⟩
  | _ + 1, _, _, _, x, h => ⟨h.1, fun i hi y => h.2 i hi (x.more y)⟩

theorem wpAny_of_MixC (hl : lastB md ops z = true) : ∀ (f : Nat) (listed : Array Bool) (a : Act) (w : World), listed.size = ops.size → (f ≠ 0 → C w) → wpMixC P md ops Q C z f listed a w → wpAny P md ops Q f listed a w
  | 0, _, _, w, _, _, h => ⟨h.1, h.2 (Ext.self w)⟩
  | f + 1, listed, _, w, hs, hb, h => ⟨fun hr => absurd hr h.1, fun i hi => wpOp_mono (fun a' w' h' => wpAny_of_MixC hl f _ a' w' (by simpa using hs) (fun hf => by
      by_cases hz : i = z
      · subst hz
        have h0 := last_end hl hi hs
        cases f with
        | zero => exact absurd rfl hf
        | succ f => exact absurd h0 h'.2.1
      · exact h'.1 hz) h'.2) (wpOp_out (h.2 i hi (Ext.self w) (hb (by omega))))⟩

theorem wpMixC_first (hC : Stays C) (hl : lastB md ops z = true) {i : Nat} {oi : Oper} {v : Value} (hi : ops[i]? = some oi) (hiz : i ≠ z) (hsel : ∀ (j : Nat) (o : Oper) cs b, ops[j]? = some o → o.op ≠ .select cs b) :
    ∀ (fuel : Nat) (listed : Array Bool) (a : Act) (w : World),
      (∀ j oj, ops[j]? = some oj → j ≠ i → listed.getD j true = false → (∀ e ∈ oj.after, Region.binds md e = true → e.on ≠ i) → oi.apart ops oj = true) →
      i ∈ Region.ready md ops listed → SoftC P ops C oi v a →
      wpMixC P md ops Q C z fuel (listed.setIfInBounds i true) (a.put oi.dst v) w → wpMixC P md ops Q C z (fuel + 1) listed a w := by
  intro fuel
  induction fuel with
  | zero =>
    intro listed a w _ hr hy H
    refine ⟨fun h => (by rw [h] at hr; cases hr), fun j hj x hx => ?_⟩
    by_cases hji : j = i
    · subst hji
      exact hy.wpOp hi hx fun w' hb => ⟨fun _ => hC _ _ hx hb, wpMixC_ext 0 _ _ _ ⟨w', below_le x.below hb⟩ H⟩
    · have := ready_mono hj hji
      rw [H.1] at this
      cases this
  | succ fuel ih =>
    intro listed a w hfree hr hy H
    refine ⟨fun h => (by rw [h] at hr; cases hr), fun j hj x hx => ?_⟩
    by_cases hji : j = i
    · subst hji
      exact hy.wpOp hi hx fun w' hb => ⟨fun _ => hC _ _ hx hb, wpMixC_ext (fuel + 1) _ _ _ ⟨w', below_le x.below hb⟩ H⟩
    · have hjz : j ≠ z := fun e => by
        subst e
        have h1 := last_spec hl hj (Array.getElem?_eq_some_iff.1 hi).1 hiz
        have h0 := (mem_ready.1 hr).1
        rw [h1] at h0
        cases h0
      have h1 := H.2 j (ready_mono hj hji) x hx
      obtain ⟨hjun, oj, hoj, hall⟩ := mem_ready.1 hj
      have hnot : ∀ e ∈ oj.after, Region.binds md e = true → e.on ≠ i := fun e he hb heq => by
        have h1 := hall e he hb
        have h0 := (mem_ready.1 hr).1
        rw [heq] at h1
        rcases Nat.lt_or_ge i listed.size with h' | h'
        · simp [h'] at h0 h1; rw [h0] at h1; cases h1
        · simp [Array.getElem?_eq_none h'] at h1
      have h2 := wpOp_put_softC hoj (hfree j oj hoj hji hjun hnot) (fun cs b => hsel i oi cs b hi) (fun cs b => hsel j oj cs b hoj) hy h1
      have hfree' : ∀ k ok, ops[k]? = some ok → k ≠ i → (listed.setIfInBounds j true).getD k true = false →
          (∀ e ∈ ok.after, Region.binds md e = true → e.on ≠ i) → oi.apart ops ok = true := fun k ok hk hki hun hno => by
        refine hfree k ok hk hki ?_ hno
        by_cases hjk : j = k
        · subst hjk; exact hjun
        · rw [getD_set_ne true hjk] at hun; exact hun
      refine wpOp_mono (fun a' w' h3 => ⟨fun _ => h3.2.1 hjz, ih (listed.setIfInBounds j true) a' w' hfree' (ready_mono hr (Ne.symm hji)) h3.1 ?_⟩) h2
      rw [Array.setIfInBounds_comm _ _ hji]
      exact h3.2.2

/-- A region that draws its order and ends in a store, walked step by step. -/
theorem wp_region_mixc {id : Nat} {l : List Oper} {a : Act} {w : World} (z : Nat) (hC : Stays C) (hw : C w) (hm : P.follows .mixedOrders = true) (hl : lastB .any l.toArray z = true)
    (h : wpMixC P .any l.toArray Q C z l.toArray.size (mark l.toArray.size []) a w) : (Code.region id l.toArray true).wp P Q a w :=
  wp_region_any hm (wpAny_of_MixC hl _ _ _ _ (mark_size _ []) (fun _ => hC _ _ hw (Below.refl _ w).drew) (wpMixC_ext _ _ _ _ ⟨{ w with drawn := w.drawn + 1 }, (Below.refl _ w).drew⟩ h))

variable {l : List Oper} {f i : Nat} {done : List Nat} {a : Act} {w : World} {o : Oper}

theorem mixc_soft (i : Nat) (hC : Stays C) (ho : l[i]? = some o) (hB : softS md l.toArray z done i = true) (hw : Region.wanted o (yielded l.toArray a.tmps) = true)
    (h : ∀ K : Act → Prop, (∀ a', wpMixC P md l.toArray Q C z f (mark l.toArray.size (i :: done)) a' w → K a') → softOpC P C o a K) :
    wpMixC P md l.toArray Q C z (f + 1) (mark l.toArray.size done) a w := by
  simp only [softS, softB, Bool.and_eq_true, bne_iff_ne] at hB
  obtain ⟨⟨hl, hz⟩, ⟨hs, hr⟩, hf⟩ := hB
  have ho' : l.toArray[i]? = some o := by simpa using ho
  obtain ⟨v, h1, h2⟩ := h _ fun _ h => h
  exact wpMixC_first hC hl ho' hz (Region.noSelect_spec hs) f _ a w (Region.free_spec ho' hf) (by simpa using hr) (.inl ⟨hw, h1⟩) h2
theorem mixc_skip (i : Nat) (hC : Stays C) (ho : l[i]? = some o) (hB : softS md l.toArray z done i = true) (hw : Region.wanted o (yielded l.toArray a.tmps) = false)
    (h : wpMixC P md l.toArray Q C z f (mark l.toArray.size (i :: done)) (a.put o.dst undef) w) :
    wpMixC P md l.toArray Q C z (f + 1) (mark l.toArray.size done) a w := by
  simp only [softS, softB, Bool.and_eq_true, bne_iff_ne] at hB
  obtain ⟨⟨hl, hz⟩, ⟨hs, hr⟩, hf⟩ := hB
  have ho' : l.toArray[i]? = some o := by simpa using ho
  exact wpMixC_first hC hl ho' hz (Region.noSelect_spec hs) f _ a w (Region.free_spec ho' hf) (by simpa using hr) (.inr ⟨hw, rfl⟩) h
/-- The only one that is ready. -/
theorem mixc_one (i : Nat) (hz : i ≠ z) (hr : Region.ready md l.toArray (mark l.toArray.size done) = [i]) (ho : l[i]? = some o) (hw : Region.wanted o (yielded l.toArray a.tmps) = true)
    (h : ∀ w1 : World, Below w.heap.size w w1 → C w1 → ∀ K : Act → World → Prop, (∀ a' w', C w' → wpMixC P md l.toArray Q C z f (mark l.toArray.size (i :: done)) a' w' → K a' w') → o.wp P a w1 K noExit) :
    wpMixC P md l.toArray Q C z (f + 1) (mark l.toArray.size done) a w := by
  refine ⟨by rw [hr]; exact List.cons_ne_nil _ _, fun k hk x hx => ?_⟩
  rw [hr] at hk
  obtain rfl : k = i := by simpa using hk
  unfold wpOp
  simp only [show l.toArray[k]? = some o by simpa using ho, hw, if_true]
  exact .inl (h x.val x.below hx _ fun a' w' hb hm => ⟨fun _ => hb, hm⟩)
/-- The last one. -/
theorem mixc_last (z : Nat) (hr : Region.ready md l.toArray (mark l.toArray.size done) = [z]) (hn : Region.ready md l.toArray (mark l.toArray.size (z :: done)) = []) (ho : l[z]? = some o) (hw : Region.wanted o (yielded l.toArray a.tmps) = true)
    (h : ∀ w1 : World, Below w.heap.size w w1 → C w1 → ∀ K : Act → World → Prop, (∀ a' w', (∀ w2 : World, Below w'.heap.size w' w2 → Q .normal a' w2) → K a' w') → o.wp P a w1 K noExit) :
    wpMixC P md l.toArray Q C z (0 + 1) (mark l.toArray.size done) a w := by
  refine ⟨by rw [hr]; exact List.cons_ne_nil _ _, fun k hk x hx => ?_⟩
  rw [hr] at hk
  obtain rfl : k = z := by simpa using hk
  unfold wpOp
  simp only [show l.toArray[k]? = some o by simpa using ho, hw, if_true]
  exact .inl (h x.val x.below hx _ fun a' w' hm => ⟨fun e => absurd rfl e, hn, fun y => hm y.val y.below⟩)
end
theorem stays_below (B : Nat) (w0 : World) (hB : B ≤ w0.heap.size) : Stays (fun x => Below B w0 x) := fun _ _ hX hb => hX.trans (hb.mono (Nat.le_trans hB hX.size))
end Go.Proofs.YtmabokmnniiadaaGreatDoor
