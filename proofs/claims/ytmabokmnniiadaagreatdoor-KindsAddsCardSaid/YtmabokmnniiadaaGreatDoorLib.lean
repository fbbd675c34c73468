/-
  What is proved: a region that draws its order may be walked in one chosen order, if its operations only read old memory and make new memory. No condition beyond those stated.
-/
import Derived.WalkKit
import Derived.Deep.Quiet
import Derived.Deep.QuietTactic
import Derived.BigQuiet
import Derived.Lib.Hide
import Derived.Maps.RangeWalk
namespace Go.Proofs.YtmabokmnniiadaaGreatDoor
open Go.RowKit

/-- A world that has all that w has. -/
structure Ext (w : World) where
  val : World
  below : Below w.heap.size w val

def Ext.self (w : World) : Ext w := ⟨w, Below.refl _ _⟩
instance (w : World) : Nonempty (Ext w) := ⟨Ext.self w⟩
theorem below_le {w w1 w2 : World} (h : Below w.heap.size w w1) (k : Below w1.heap.size w1 w2) : Below w.heap.size w w2 := h.trans (k.mono h.size)
def Ext.more {w : World} (x : Ext w) (y : Ext x.val) : Ext w := ⟨y.val, below_le x.below y.below⟩

theorem lt_of_cell {w : World} {p : Addr} {v : Value} (h : w.cell? p = some v) : p.block < w.heap.size := by
  rcases Nat.lt_or_ge p.block w.heap.size with hlt | hge
  · exact hlt
  · simp [World.cell?, Array.getElem?_eq_none hge] at h
theorem cell_ext {w w1 : World} {p : Addr} {v : Value} (hb : Below w.heap.size w w1) (h : w.cell? p = some v) : w1.cell? p = some v :=
  (hb.cell (lt_of_cell h)).trans h
theorem ext_cell {w : World} {p : Addr} {v : Value} (h : w.cell? p = some v) (x : Ext w) : x.val.cell? p = some v := cell_ext x.below h

section
variable {P : Program} {ops : Array Oper} {md : Region.Mode} {Q : Exit → Act → World → Prop}

def noExit : Exit → Act → World → Prop := fun _ _ _ => False

/-- Whatever order is picked from here on, in whatever world that has all that this one has. -/
def wpAnyE (P : Program) (md : Region.Mode) (ops : Array Oper) (Q : Exit → Act → World → Prop) : Nat → Array Bool → Act → World → Prop
  | 0, listed, a, w => Region.ready md ops listed = [] ∧ ∀ x : Ext w, Q .normal a x.val
  | fuel + 1, listed, a, w =>
    (Region.ready md ops listed = [] → ∀ x : Ext w, Q .normal a x.val) ∧
    ∀ i ∈ Region.ready md ops listed, ∀ x : Ext w, wpOp P ops noExit i (fun a' w' => Below x.val.heap.size x.val w' ∧ wpAnyE P md ops Q fuel (listed.setIfInBounds i true) a' w') a x.val

theorem wpAnyE_ext : ∀ (fuel : Nat) (listed : Array Bool) (a : Act) (w : World) (x : Ext w), wpAnyE P md ops Q fuel listed a w → wpAnyE P md ops Q fuel listed a x.val
  | 0, _, _, _, x, h => ⟨h.1, fun y => h.2 (x.more y)⟩
  | _ + 1, _, _, _, x, h => ⟨fun hr y => h.1 hr (x.more y), fun i hi y => h.2 i hi (x.more y)⟩

theorem oper_wp_out {o : Oper} {a : Act} {w : World} {K : Act → World → Prop} (h : o.wp P a w K noExit) : o.wp P a w K Q := by
  unfold Oper.wp at *
  generalize (execOp a.eval o).run P w = r at *
  cases r with
  | ok n w' =>
    cases n <;> simp only [Oper.upon] at h ⊢ <;>
      first
        | exact h
        | exact Calls.mono h (fun e w'' he => by
            cases e with
            | returned v => exact he
            | panicked c => exact he.elim
            | outgrown => obtain ⟨_, _, hf⟩ := he; exact hf.elim)
  | halt x w' => cases x <;> simp only [Oper.upon] at h ⊢ <;> exact h.elim

theorem wpOp_out {i : Nat} {a : Act} {w : World} {K : Act → World → Prop} (h : wpOp P ops noExit i K a w) : wpOp P ops Q i K a w := by
  unfold wpOp at *
  split
  · rename_i ho; simp only [ho] at h; exact h
  · rename_i o ho
    simp only [ho] at h
    split
    · rename_i hw
      simp only [hw, if_true] at h
      rcases h with h | ⟨_, _, _, hf⟩
      · exact .inl (oper_wp_out h)
      · exact hf.elim
    · rename_i hw; simp only [hw] at h; exact h

theorem wpAny_of_E : ∀ (fuel : Nat) (listed : Array Bool) (a : Act) (w : World), wpAnyE P md ops Q fuel listed a w → wpAny P md ops Q fuel listed a w
  | 0, _, _, w, h => ⟨h.1, h.2 (Ext.self w)⟩
  | fuel + 1, _, _, w, h => ⟨fun hr => h.1 hr (Ext.self w), fun i hi => wpOp_mono (fun a' w' h' => wpAny_of_E fuel _ a' w' h'.2) (wpOp_out (h.2 i hi (Ext.self w)))⟩

/-- One value in every later world, and each leaves a later world of the one that it got. -/
def softUpon (P : Program) (w : World) (v : Value) : Result Next → Prop
  | .ok (.value u) w' => w' = w ∧ u = v
  | .ok .skip w' => w' = w ∧ v = undef
  | .ok (.enter f args) w' => w' = w ∧ Calls P f args w (fun e w'' => e = .returned v ∧ Below w.heap.size w w'')
  | _ => False

/-- Softly carried out: one value. -/
def softOp (P : Program) (o : Oper) (a : Act) (w : World) (K : Act → Prop) : Prop :=
  ∃ v, (∀ x : Ext w, softUpon P x.val v ((execOp a.eval o).run P x.val)) ∧ K (a.put o.dst v)

def Soft (P : Program) (ops : Array Oper) (o : Oper) (v : Value) (a : Act) (w : World) : Prop :=
  (Region.wanted o (yielded ops a.tmps) = true ∧ ∀ x : Ext w, softUpon P x.val v ((execOp a.eval o).run P x.val)) ∨
  (Region.wanted o (yielded ops a.tmps) = false ∧ v = undef)

theorem Soft.ext {o : Oper} {v : Value} {a : Act} {w w1 : World} (hb : Below w.heap.size w w1) (h : Soft P ops o v a w) : Soft P ops o v a w1 := by
  rcases h with ⟨hw, hq⟩ | ⟨hw, hv⟩
  · exact .inl ⟨hw, fun y => hq ⟨y.val, below_le hb y.below⟩⟩
  · exact .inr ⟨hw, hv⟩

theorem Soft.of_same {o : Oper} {v : Value} {a a' : Act} {w : World} (h : Soft P ops o v a w) (he : execOp a'.eval o = execOp a.eval o)
    (hw : Region.wanted o (yielded ops a'.tmps) = Region.wanted o (yielded ops a.tmps)) : Soft P ops o v a' w := by
  unfold Soft at *
  rw [he, hw]
  exact h

theorem Soft.wpOp {i : Nat} {o : Oper} {v : Value} {a : Act} {w : World} (hi : ops[i]? = some o) (hy : Soft P ops o v a w) {K : Act → World → Prop}
    (h : ∀ w', Below w.heap.size w w' → K (a.put o.dst v) w') : Go.wpOp P ops noExit i K a w := by
  unfold Go.wpOp
  simp only [hi]
  rcases hy with ⟨hw, hv⟩ | ⟨hw, rfl⟩
  · simp only [hw, if_true]
    refine .inl ?_
    have h3 := hv (Ext.self w)
    unfold Oper.wp
    simp only [Ext.self] at h3
    generalize (execOp a.eval o).run P w = r at *
    cases r with
    | ok n w' =>
      cases n <;> simp only [softUpon] at h3 <;> simp only [Oper.upon]
      case value u => obtain ⟨e1, e2⟩ := h3; rw [e1, e2]; exact h _ (Below.refl _ _)
      case skip => obtain ⟨e1, e2⟩ := h3; rw [e1, ← e2]; exact h _ (Below.refl _ _)
      case enter f args =>
        obtain ⟨e1, hc⟩ := h3
        rw [e1]
        exact hc.mono fun e w'' ⟨he, hw''⟩ => by subst he; exact h _ hw''
    | halt x w' => simp only [softUpon] at h3
  · simp only [hw, Bool.false_eq_true, if_false]; exact h _ (Below.refl _ _)

theorem wpOp_put_soft {j : Nat} {oi oj : Oper} {v : Value} (hj : ops[j]? = some oj) (hap : oi.apart ops oj = true)
    (hsi : ∀ cs b, oi.op ≠ .select cs b) (hsj : ∀ cs b, oj.op ≠ .select cs b) {K : Act → World → Prop} {a : Act} {w w0 : World}
    (hy : Soft P ops oi v a w0) (h : wpOp P ops noExit j K (a.put oi.dst v) w) :
    wpOp P ops noExit j (fun a' w' => Soft P ops oi v a' w0 ∧ K (a'.put oi.dst v) w') a w := by
  obtain ⟨h1, h2, h3⟩ := Oper.apart_spec hap
  have keep : ∀ (a : Act), Soft P ops oi v a w0 → ∀ u, Soft P ops oi v (a.put oj.dst u) w0 := fun a hy u =>
    hy.of_same (execOp_put oi hsi a oj.dst u h3) (wanted_put oi a oj.dst u h3)
  have keepD : ∀ d, Soft P ops oi v { a with defers := d :: a.defers } w0 := fun d => hy.of_same rfl rfl
  unfold wpOp at *
  simp only [hj] at *
  rw [wanted_put oj a oi.dst v h1] at h
  split
  · rename_i hw
    simp only [hw, if_true] at h
    rcases h with h | ⟨_, _, _, hf⟩
    case inr => exact hf.elim
    refine .inl ?_
    unfold Oper.wp at *
    rw [execOp_put oj hsj a oi.dst v h1] at h
    generalize (execOp a.eval oj).run P w = r at *
    cases r with
    | ok n w' =>
      cases n <;> simp only [Oper.upon] at h ⊢
      case value u => exact ⟨keep a hy u, by rw [← Act.put_comm a v u h2]; exact h⟩
      case skip => exact ⟨keep a hy _, by rw [← Act.put_comm a v undef h2]; exact h⟩
      case defer d =>
        refine ⟨keep _ (keepD d) _, ?_⟩
        rw [← Act.put_comm _ v undef h2, ← Act.put_defers]
        exact h
      case enter f args =>
        refine Calls.mono h fun e w'' he => ?_
        cases e with
        | returned u => exact ⟨keep a hy u, by rw [← Act.put_comm a v u h2]; exact he⟩
        | panicked c => exact he.elim
        | outgrown => exact he
      case row row args => exact Rows.mono h fun u w'' he => ⟨keep a hy u, by rw [← Act.put_comm a v u h2]; exact he⟩
    | halt x w' =>
      cases x <;> simp only [Oper.upon] at h ⊢
      case panic u => exact h.elim
  · rename_i hw
    simp only [hw] at h
    exact ⟨keep a hy _, by rw [← Act.put_comm a v undef h2]; exact h⟩

/-- An operation that is soft may be taken first. -/
theorem wpAnyE_first {i : Nat} {oi : Oper} {v : Value} (hi : ops[i]? = some oi) (hsel : ∀ (j : Nat) (o : Oper) cs b, ops[j]? = some o → o.op ≠ .select cs b) :
    ∀ (fuel : Nat) (listed : Array Bool) (a : Act) (w : World),
      (∀ j oj, ops[j]? = some oj → j ≠ i → listed.getD j true = false → (∀ e ∈ oj.after, Region.binds md e = true → e.on ≠ i) → oi.apart ops oj = true) →
      i ∈ Region.ready md ops listed → Soft P ops oi v a w →
      wpAnyE P md ops Q fuel (listed.setIfInBounds i true) (a.put oi.dst v) w → wpAnyE P md ops Q (fuel + 1) listed a w := by
  intro fuel
  induction fuel with
  | zero =>
    intro listed a w _ hr hy H
    refine ⟨fun h => (by rw [h] at hr; cases hr), fun j hj x => ?_⟩
    by_cases hji : j = i
    · subst hji
      exact (hy.ext x.below).wpOp hi fun w' hb => ⟨hb, wpAnyE_ext 0 _ _ _ ⟨w', below_le x.below hb⟩ H⟩
    · have := ready_mono hj hji
      rw [H.1] at this
      cases this
  | succ fuel ih =>
    intro listed a w hfree hr hy H
    refine ⟨fun h => (by rw [h] at hr; cases hr), fun j hj x => ?_⟩
    by_cases hji : j = i
    · subst hji
      exact (hy.ext x.below).wpOp hi fun w' hb => ⟨hb, wpAnyE_ext (fuel + 1) _ _ _ ⟨w', below_le x.below hb⟩ H⟩
    · have h1 := H.2 j (ready_mono hj hji) x
      obtain ⟨hjun, oj, hoj, hall⟩ := mem_ready.1 hj
      have hnot : ∀ e ∈ oj.after, Region.binds md e = true → e.on ≠ i := fun e he hb heq => by
        have h1 := hall e he hb
        have h0 := (mem_ready.1 hr).1
        rw [heq] at h1
        rcases Nat.lt_or_ge i listed.size with h' | h'
        · simp [h'] at h0 h1; rw [h0] at h1; cases h1
        · simp [Array.getElem?_eq_none h'] at h1
      have h2 := wpOp_put_soft hoj (hfree j oj hoj hji hjun hnot) (fun cs b => hsel i oi cs b hi) (fun cs b => hsel j oj cs b hoj) hy h1
      have hfree' : ∀ k ok, ops[k]? = some ok → k ≠ i → (listed.setIfInBounds j true).getD k true = false →
          (∀ e ∈ ok.after, Region.binds md e = true → e.on ≠ i) → oi.apart ops ok = true := fun k ok hk hki hun hno => by
        refine hfree k ok hk hki ?_ hno
        by_cases hjk : j = k
        · subst hjk; exact hjun
        · rw [getD_set_ne true hjk] at hun; exact hun
      refine wpOp_mono (fun a' w' h3 => ⟨h3.2.1, ih (listed.setIfInBounds j true) a' w' hfree' (ready_mono hr (Ne.symm hji)) (h3.1.ext (below_le x.below h3.2.1)) ?_⟩) h2
      rw [Array.setIfInBounds_comm _ _ hji]
      exact h3.2.2

/-! ### The plan -/

/-- The order in which the operations are walked: a number, and whether it is soft (else it must be the only one that is ready). -/
def planB (md : Region.Mode) (ops : Array Oper) : List (Nat × Bool) → Array Bool → Bool
  | [], listed => (Region.ready md ops listed).isEmpty
  | (i, true) :: r, listed => (Region.ready md ops listed).contains i && Region.free md ops listed i && planB md ops r (listed.setIfInBounds i true)
  | (i, false) :: r, listed => (Region.ready md ops listed == [i]) && planB md ops r (listed.setIfInBounds i true)

def wpPlan (P : Program) (ops : Array Oper) (Q : Exit → Act → World → Prop) : List (Nat × Bool) → Act → World → Prop
  | [], a, w => ∀ x : Ext w, Q .normal a x.val
  | (i, true) :: r, a, w => ∃ o, ops[i]? = some o ∧ if Region.wanted o (yielded ops a.tmps) then softOp P o a w (fun a' => wpPlan P ops Q r a' w) else wpPlan P ops Q r (a.put o.dst undef) w
  | (i, false) :: r, a, w => ∃ o, ops[i]? = some o ∧ if Region.wanted o (yielded ops a.tmps) then ∀ x : Ext w, o.wp P a x.val (fun a' w' => Below x.val.heap.size x.val w' ∧ wpPlan P ops Q r a' w') noExit else wpPlan P ops Q r (a.put o.dst undef) w

theorem wpPlan_ext : ∀ (l : List (Nat × Bool)) (a : Act) (w w1 : World), Below w.heap.size w w1 → wpPlan P ops Q l a w → wpPlan P ops Q l a w1
  | [], _, _, _, hb, h => fun x => h ⟨x.val, below_le hb x.below⟩
  | (_, true) :: r, a, w, w1, hb, ⟨o, ho, h⟩ => ⟨o, ho, by
      split
      · rename_i hw
        rw [if_pos hw] at h
        obtain ⟨v, h1, h2⟩ := h
        exact ⟨v, fun x => h1 ⟨x.val, below_le hb x.below⟩, wpPlan_ext r _ _ _ hb h2⟩
      · rename_i hw
        rw [if_neg hw] at h
        exact wpPlan_ext r _ _ _ hb h⟩
  | (_, false) :: r, a, w, w1, hb, ⟨o, ho, h⟩ => ⟨o, ho, by
      split
      · rename_i hw
        rw [if_pos hw] at h
        exact fun x => h ⟨x.val, below_le hb x.below⟩
      · rename_i hw
        rw [if_neg hw] at h
        exact wpPlan_ext r _ _ _ hb h⟩

theorem wpAnyE_plan (hs : Region.noSelect ops = true) : ∀ (l : List (Nat × Bool)) (listed : Array Bool) (a : Act) (w : World), planB md ops l listed = true → wpPlan P ops Q l a w → wpAnyE P md ops Q l.length listed a w
  | [], _, _, _, hB, h => ⟨by simpa [planB] using hB, h⟩
  | (i, true) :: r, listed, a, w, hB, h => by
    simp only [planB, Bool.and_eq_true] at hB
    obtain ⟨⟨hr, hf⟩, hB'⟩ := hB
    obtain ⟨o, ho, h⟩ := h
    have hy : ∃ v, Soft P ops o v a w ∧ wpPlan P ops Q r (a.put o.dst v) w := by
      by_cases hw : Region.wanted o (yielded ops a.tmps) = true
      · rw [if_pos hw] at h
        obtain ⟨v, h1, h2⟩ := h
        exact ⟨v, .inl ⟨hw, h1⟩, h2⟩
      · rw [if_neg hw] at h
        exact ⟨undef, .inr ⟨by simpa using hw, rfl⟩, h⟩
    obtain ⟨v, hy, hK⟩ := hy
    exact wpAnyE_first ho (Region.noSelect_spec hs) r.length listed a w (Region.free_spec ho hf) (by simpa using hr) hy (wpAnyE_plan hs r _ _ _ hB' hK)
  | (i, false) :: r, listed, a, w, hB, h => by
    simp only [planB, Bool.and_eq_true, beq_iff_eq] at hB
    obtain ⟨hr, hB'⟩ := hB
    obtain ⟨o, ho, h⟩ := h
    refine ⟨fun h0 => (by rw [hr] at h0; cases h0), fun j hj x => ?_⟩
    rw [hr] at hj
    obtain rfl : j = i := by simpa using hj
    unfold wpOp
    simp only [ho]
    split
    · rename_i hw
      rw [if_pos hw] at h
      exact .inl (Oper.wp_mono (fun a' w' h' => ⟨h'.1, wpAnyE_plan hs r _ _ _ hB' h'.2⟩) (h x))
    · rename_i hw
      rw [if_neg hw] at h
      exact ⟨Below.refl _ _, wpAnyE_plan hs r _ _ _ hB' (wpPlan_ext r _ _ _ x.below h)⟩

/-- A REGION THAT DRAWS ITS ORDER, WALKED BY A PLAN. -/
theorem wp_region_plan {id : Nat} {a : Act} {w : World} (l : List (Nat × Bool)) (hm : P.follows .mixedOrders = true)
    (hB : (Region.noSelect ops && (l.length == ops.size) && planB .any ops l (Array.replicate ops.size false)) = true)
    (h : wpPlan P ops Q l a w) : (Code.region id ops true).wp P Q a w := by
  simp only [Bool.and_eq_true, beq_iff_eq] at hB
  obtain ⟨⟨hs, hl⟩, hB⟩ := hB
  have h1 := wpAnyE_plan (md := .any) hs l _ _ _ hB (wpPlan_ext l _ _ { w with drawn := w.drawn + 1 } (Below.refl _ w).drew h)
  rw [hl] at h1
  exact wp_region_any hm (wpAny_of_E _ _ _ _ h1)

theorem plan_nil {a : Act} {w : World} (h : ∀ w1 : World, Below w.heap.size w w1 → Q .normal a w1) : wpPlan P ops Q [] a w := fun x => h x.val x.below
theorem plan_soft {l : List Oper} {i : Nat} {r : List (Nat × Bool)} {a : Act} {w : World} {o : Oper} (ho : l[i]? = some o) (hw : Region.wanted o (yielded l.toArray a.tmps) = true)
    (h : ∀ K : Act → Prop, (∀ a', wpPlan P l.toArray Q r a' w → K a') → softOp P o a w K) : wpPlan P l.toArray Q ((i, true) :: r) a w :=
  ⟨o, by simpa using ho, by rw [if_pos hw]; exact h _ fun _ h => h⟩
theorem plan_hard {l : List Oper} {i : Nat} {r : List (Nat × Bool)} {a : Act} {w : World} {o : Oper} (ho : l[i]? = some o) (hw : Region.wanted o (yielded l.toArray a.tmps) = true)
    (h : ∀ w1 : World, Below w.heap.size w w1 → ∀ K : Act → World → Prop, (∀ a' w', Below w1.heap.size w1 w' → wpPlan P l.toArray Q r a' w' → K a' w') → o.wp P a w1 K noExit) : wpPlan P l.toArray Q ((i, false) :: r) a w :=
  ⟨o, by simpa using ho, by rw [if_pos hw]; exact fun x => h x.val x.below _ fun _ _ h k => ⟨h, k⟩⟩
theorem plan_skip {l : List Oper} {i : Nat} {b : Bool} {r : List (Nat × Bool)} {a : Act} {w : World} {o : Oper} (ho : l[i]? = some o) (hw : Region.wanted o (yielded l.toArray a.tmps) = false)
    (h : wpPlan P l.toArray Q r (a.put o.dst undef) w) : wpPlan P l.toArray Q ((i, b) :: r) a w := by
  have ho' : l.toArray[i]? = some o := by simpa using ho
  cases b
  · exact ⟨o, ho', by rw [if_neg (by rw [hw]; exact Bool.false_ne_true)]; exact h⟩
  · exact ⟨o, ho', by rw [if_neg (by rw [hw]; exact Bool.false_ne_true)]; exact h⟩
end

attribute [go_sem] softOp softUpon

/-- A callee's contract that leaves the world alone. -/
theorem Calls.still {P : Program} {f : FuncId} {args : Array Value} {w : World} {v : Value} (h : Calls P f args w fun e w' => e = .returned v ∧ w = w') :
    Calls P f args w fun e w' => e = .returned v ∧ Below w.heap.size w w' := h.mono fun _ _ ⟨he, hw⟩ => ⟨he, hw ▸ Below.refl _ _⟩

theorem wp_build1 {P : Program} {o : Oper} {a : Act} {W : World} {K : Act → World → Prop} {Q : Exit → Act → World → Prop} (t : TypeId) (x : Operand) (ho : o.op = .buildSlice t 1 #[(0, x)]) (v : Value) (hx : a.eval x = v)
    (sv : Value) (W' : World) (h : (Instr.buildSlice t 1 #[(0, v)]).run P W = .ok sv W') (hk : K (a.put o.dst sv) W') : o.wp P a W K Q := by
  unfold Oper.wp execOp
  simp only [ho, List.map_toArray, List.map_cons, List.map_nil, hx, Sem.run_bind, h, Result.andThen_ok, Sem.run_pure]
  exact hk
theorem wp_build2 {P : Program} {o : Oper} {a : Act} {W : World} {K : Act → World → Prop} {Q : Exit → Act → World → Prop} (t : TypeId) (x y : Operand) (ho : o.op = .buildSlice t 2 #[(0, x), (1, y)]) (v u : Value) (hx : a.eval x = v) (hy : a.eval y = u)
    (sv : Value) (W' : World) (h : (Instr.buildSlice t 2 #[(0, v), (1, u)]).run P W = .ok sv W') (hk : K (a.put o.dst sv) W') : o.wp P a W K Q := by
  unfold Oper.wp execOp
  simp only [ho, List.map_toArray, List.map_cons, List.map_nil, hx, hy, Sem.run_bind, h, Result.andThen_ok, Sem.run_pure]
  exact hk

theorem plan_build1 {P : Program} {Q : Exit → Act → World → Prop} {l : List Oper} {i : Nat} {r : List (Nat × Bool)} {a : Act} {w : World} {o : Oper} (ho : l[i]? = some o) (hw : Region.wanted o (yielded l.toArray a.tmps) = true)
    (t : TypeId) (x : Operand) (hop : o.op = .buildSlice t 1 #[(0, x)]) (v : Value) (hx : a.eval x = v) (obj : Obj) (h : ∀ W : World, (Instr.buildSlice t 1 #[(0, v)]).run P W = .ok (.slice (some ⟨W.heap.size, 0, none⟩) 1 1) (W.alloc obj))
    (hk : ∀ w1 : World, Below w.heap.size w w1 → wpPlan P l.toArray Q r (a.put o.dst (.slice (some ⟨w1.heap.size, 0, none⟩) 1 1)) (w1.alloc obj)) : wpPlan P l.toArray Q ((i, false) :: r) a w :=
  plan_hard ho hw fun w1 hb1 _ hK => wp_build1 t x hop v hx _ _ (h w1) (hK _ _ ((Below.refl _ _).alloc (Nat.le_refl _) _) (hk w1 hb1))
theorem plan_build2 {P : Program} {Q : Exit → Act → World → Prop} {l : List Oper} {i : Nat} {r : List (Nat × Bool)} {a : Act} {w : World} {o : Oper} (ho : l[i]? = some o) (hw : Region.wanted o (yielded l.toArray a.tmps) = true)
    (t : TypeId) (x y : Operand) (hop : o.op = .buildSlice t 2 #[(0, x), (1, y)]) (v u : Value) (hx : a.eval x = v) (hy : a.eval y = u) (obj : Obj) (h : ∀ W : World, (Instr.buildSlice t 2 #[(0, v), (1, u)]).run P W = .ok (.slice (some ⟨W.heap.size, 0, none⟩) 2 2) (W.alloc obj))
    (hk : ∀ w1 : World, Below w.heap.size w w1 → wpPlan P l.toArray Q r (a.put o.dst (.slice (some ⟨w1.heap.size, 0, none⟩) 2 2)) (w1.alloc obj)) : wpPlan P l.toArray Q ((i, false) :: r) a w :=
  plan_hard ho hw fun w1 hb1 _ hK => wp_build2 t x y hop v u hx hy _ _ (h w1) (hK _ _ ((Below.refl _ _).alloc (Nat.le_refl _) _) (hk w1 hb1))

/-! ### Slices that read as lists -/
/-- The slice value '.slice A n c' holds the cells xs. -/
def Row (w : World) (A : Option Addr) (n : Nat) (xs : List Value) : Prop :=
  xs.length = n ∧ (0 < n → ∃ b off, A = some ⟨b, off, none⟩ ∧ ∀ j u, xs[j]? = some u → w.cell? ⟨b, off + j, none⟩ = some u)

section
variable {w w1 : World} {A : Option Addr} {n : Nat} {xs : List Value}
theorem Row.none_ : Row w A 0 [] := ⟨rfl, fun h => absurd h (by omega)⟩
theorem Row.ext (hb : Below w.heap.size w w1) (h : Row w A n xs) : Row w1 A n xs :=
  ⟨h.1, fun hn => by
    obtain ⟨b, off, e, hc⟩ := h.2 hn
    exact ⟨b, off, e, fun j u hu => cell_ext hb (hc j u hu)⟩⟩
theorem Row.take (h : Row w A n xs) (k : Nat) (hk : k ≤ n) : Row w A k (xs.take k) :=
  ⟨by have := h.1; simp; omega, fun hk0 => by
    obtain ⟨b, off, e, hc⟩ := h.2 (by omega)
    exact ⟨b, off, e, fun j u hu => hc j u (by
      rw [List.getElem?_take] at hu
      split at hu
      · exact hu
      · cases hu)⟩⟩
theorem Row.at_ {k : Nat} (h : Row w A n xs) (hk : k < n) : ∃ b off, A = some ⟨b, off, none⟩ ∧ w.cell? ⟨b, off + k, none⟩ = some (xs[k]'(by have := h.1; omega)) := by
  obtain ⟨b, off, e, hc⟩ := h.2 (by omega)
  exact ⟨b, off, e, hc k _ (List.getElem?_eq_getElem _)⟩
end

/-- Block g is just these cells, none of them frozen. -/
def Blk (w : World) (g : Nat) (t : TypeId) (cs : Array Value) : Prop := w.heap[g]? = some (.cells cs t (0, 0))

section
variable {w w' : World} {g : Nat} {t : TypeId} {cs : Array Value}
theorem Blk.lt (h : Blk w g t cs) : g < w.heap.size := by
  rcases Nat.lt_or_ge g w.heap.size with hlt | hge
  · exact hlt
  · unfold Blk at h; rw [Array.getElem?_eq_none hge] at h; cases h
theorem Blk.cell (h : Blk w g t cs) (i : Nat) : w.cell? ⟨g, i, none⟩ = cs[i]? := cell_of_row w g i cs t (0, 0) h
theorem Blk.frozen (h : Blk w g t cs) (i : Nat) : w.frozen? ⟨g, i, none⟩ = false := by
  unfold Blk at h
  simp [World.frozen?, h]
theorem Blk.new (w : World) (t : TypeId) (cs : Array Value) : Blk (w.alloc (.cells cs t)) w.heap.size t cs := heap_alloc_new w _
theorem Blk.drew (h : Blk w g t cs) : Blk w.drew g t cs := h
theorem Blk.alloc (h : Blk w g t cs) (o : Obj) : Blk (w.alloc o) g t cs := (Below.heap_alloc w o g h.lt).trans h
theorem Blk.set_ (h : Blk w g t cs) (i : Nat) (u : Value) : Blk (w.setCell ⟨g, i, none⟩ u) g t (cs.setIfInBounds i u) := by
  unfold Blk at h ⊢
  simp [World.setCell, Array.getElem?_modify, h]
theorem Blk.far (h : Blk w g t cs) {p : Addr} (hp : g ≠ p.block) (u : Value) : Blk (w.setCell p u) g t cs := (Below.heap_setCell w p u g hp).trans h
theorem Blk.below {B : Nat} (h : Blk w g t cs) (hb : Below B w w') (hg : g < B) : Blk w' g t cs := (hb.block g hg).trans h
theorem Blk.ext (h : Blk w g t cs) (hb : Below w.heap.size w w') : Blk w' g t cs := h.below hb h.lt
theorem Blk.grown {row : Option Nat} (h : Blk w g t cs) (hb : w.grownBy w' row) (hg : some g ≠ row) : Blk w' g t cs := (hb.block g h.lt hg).trans h
theorem Blk.row (h : Blk w g t cs) : Row w (some ⟨g, 0, none⟩) cs.size cs.toList :=
  ⟨by simp, fun _ => ⟨g, 0, rfl, fun j u hu => by rw [Nat.zero_add, h.cell]; simpa using hu⟩⟩
end

theorem ret_int {k : IntKind} {a b : Int} (h : a = b) : Ending.returned (.int k a) = .returned (.int k b) := by rw [h]
theorem ret_bool {a b : Bool} (h : a = b) : Ending.returned (.bool a) = .returned (.bool b) := by rw [h]
theorem below_drewN {B : Nat} {a w : World} (h : Below B a w) (n : Nat) : Below B a (w.drewN n) := ⟨h.os, h.tape, h.output, h.size, h.block⟩

end Go.Proofs.YtmabokmnniiadaaGreatDoor
