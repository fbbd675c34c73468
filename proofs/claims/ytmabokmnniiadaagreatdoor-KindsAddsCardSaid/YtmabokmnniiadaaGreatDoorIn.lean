/-
  What is proved: the plan theorem within a round of a range over a function; a scope with a jump ahead, fenced. No condition beyond those stated.
-/
import Derived.Test.YtmabokmnniiadaaGreatDoorLib
import Derived.OrdersIn
import Derived.ScopeJumps
import Derived.RangeFuncCalls
namespace Go.Proofs.YtmabokmnniiadaaGreatDoor
open Go.RowKit

section
variable {P : Program} {ops : Array Oper} {md : Region.Mode} {Q : Exit → Act → World → Prop} {l n : Nat}

def noDefer (ops : Array Oper) : Bool := ops.all fun o => match o.op with | .defer _ => false | _ => true
theorem noDefer_spec (h : noDefer ops = true) (j : Nat) (o : Oper) (ho : ops[j]? = some o) (c : Call) : o.op ≠ .defer c := by
  intro e
  have h1 := Array.all_eq_true_iff_forall_mem.1 h o (Array.mem_of_getElem? ho)
  rw [e] at h1
  cases h1

theorem wide_fn (f : FuncId) : (Fence.wide.inRound l).fn f := trivial
theorem wide_depth : (Fence.wide.inRound l).depth.isSome = true → 1 ≤ n := fun h => by simp [Fence.wide] at h

theorem oper_in {o : Oper} {a : Act} {w : World} {K : Act → World → Prop} (hd : ∀ c, o.op ≠ .defer c) (h : o.wp P a w K noExit) : o.wpIn (Fence.wide.inRound l) n P a w K Q := by
  refine ⟨fun f _ => wide_fn f, ?_⟩
  rw [show (Fence.wide.inRound l).round = some l from rfl, Oper.semAt_eq _ _ _ hd]
  unfold Oper.wp at h
  generalize (execOp a.eval o).run P w = r at *
  cases r with
  | ok x w' =>
    cases x <;> simp only [Oper.upon] at h <;> simp only [Oper.uponIn] <;>
      first
        | exact h
        | exact ⟨wide_depth, CallsIn.inRound l (callsIn_wide.2 (Calls.mono h (fun e w'' he => by
            cases e with
            | returned v => exact he
            | panicked c => exact he.elim
            | outgrown => obtain ⟨_, _, hf⟩ := he; exact hf.elim)))⟩
        | exact ⟨wide_depth, fun c cs _ => by
            obtain ⟨v, w'', hR, hs⟩ := h c cs
            exact ⟨v, w'', hR, (StepsIn.of_steps hs).mono fun m _ => fenced_wide P m⟩⟩
        | exact h.elim
  | halt x w' => cases x <;> simp only [Oper.upon] at h <;> exact h.elim

theorem wpOp_in {i : Nat} {a : Act} {w : World} {K : Act → World → Prop} (hd : noDefer ops = true) (h : wpOp P ops noExit i K a w) : wpOpIn (Fence.wide.inRound l) n P ops Q i K a w := by
  unfold wpOp at h
  unfold wpOpIn
  split
  · rename_i ho; simp only [ho] at h; exact h
  · rename_i o ho
    simp only [ho] at h
    split
    · rename_i hw
      simp only [hw, if_true] at h
      rcases h with h | ⟨_, _, _, hf⟩
      · exact oper_in (noDefer_spec hd i o ho) h
      · exact hf.elim
    · rename_i hw; simp only [hw] at h; exact ⟨fun f _ => wide_fn f, h⟩

theorem wpAnyIn_of_E (hd : noDefer ops = true) : ∀ (fuel : Nat) (listed : Array Bool) (a : Act) (w : World), wpAnyE P md ops Q fuel listed a w → wpAnyIn (Fence.wide.inRound l) n P md ops Q fuel listed a w
  | 0, _, _, w, h => ⟨h.1, h.2 (Ext.self w)⟩
  | fuel + 1, _, _, w, h => ⟨fun hr => h.1 hr (Ext.self w), fun i hi => wpOpIn_mono (fun a' w' h' => wpAnyIn_of_E hd fuel _ a' w' h'.2) (wpOp_in hd (h.2 i hi (Ext.self w)))⟩

/-- A region that draws its order, in a round, walked by a plan. -/
theorem wpIn_region_plan {id : Nat} {a : Act} {w : World} (pl : List (Nat × Bool)) (hm : P.follows .mixedOrders = true)
    (hB : (Region.noSelect ops && noDefer ops && (pl.length == ops.size) && planB .any ops pl (Array.replicate ops.size false)) = true)
    (h : wpPlan P ops Q pl a w) : (Code.region id ops true).wpIn (Fence.wide.inRound l) n P Q a w := by
  simp only [Bool.and_eq_true, beq_iff_eq] at hB
  obtain ⟨⟨⟨hs, hd⟩, hl⟩, hB⟩ := hB
  have h1 := wpAnyE_plan (md := .any) hs pl _ _ _ hB (wpPlan_ext pl _ _ { w with drawn := w.drawn + 1 } (Below.refl _ w).drew h)
  rw [hl] at h1
  exact wpIn_region_any hm (wpAnyIn_of_E hd _ _ _ _ h1)
end

section
variable {F : Fence} {n : Nat} {P : Program} {b : Frame} {a : Act} {k : List Item} {cs : List Frame} {w : World} {Q : Exit → Act → World → Prop}
theorem stepR_scope {c : Code} : step P (lone (b.atR a (.code (.scope c) :: k)) cs w) = .next (lone (b.atR a (.code c :: .inScope c :: k)) cs w) :=
  step_lone_go (by simp [stepG, stepG.exec, Frame.atR])
theorem stepR_inScope {c : Code} : step P (lone (b.atR a (.inScope c :: k)) cs w) = .next (lone (b.atR a k) cs w) :=
  step_lone_go (by simp [stepG, stepG.exec, Frame.atR])

/-- A scope in which the run may jump ahead to one label. -/
theorem wpIn_scope_ahead {c rest : Code} (l : Nat) (J : Act → World → Prop) (hf : findLabel c l = some rest)
    (first : c.wpIn F n P (Exit.jump l J Q) a w) (pass : ∀ a w, J a w → rest.wpIn F n P (Exit.noGoto Q) a w) : (Code.scope c).wpIn F n P Q a w := by
  intro b k cs hro hb hr
  have h0 : (lone (b.atR a (.code (.scope c) :: k)) cs w).fenced P F := fenced_calm hb hr rfl
  have hg : gotoIn l (.inScope c :: k) = some (.code rest :: .inScope c :: k) := by simp [gotoIn, hf]
  have hx : ∀ id, exitTo id (.inScope c :: k) = exitTo id k := fun id => by simp [exitTo]
  have key : ∀ a w, J a w → ∃ e a' w', Q e a' w' ∧ ArrivesIn (Machine.fenced P F) P (lone (b.atR a (.code rest :: .inScope c :: k)) cs w) b k cs e a' w' := by
    intro a w hJ
    obtain ⟨e, a₁, w₁, hq, harr⟩ := pass a w hJ b (.inScope c :: k) cs hro hb hr
    cases e with
    | normal => exact ⟨.normal, a₁, w₁, hq, StepsIn.trans harr (.one (fenced_calm hb hr rfl) stepR_inScope)⟩
    | exit id => exact ⟨.exit id, a₁, w₁, hq, fun k' hk => harr.1 k' (by rw [hx]; exact hk), fun h1 hk => harr.2 h1 (by rw [hx]; exact hk)⟩
    | goto l' => exact hq.elim
    | ret => exact ⟨_, a₁, w₁, hq, harr⟩
    | panic ch => exact ⟨_, a₁, w₁, hq, harr⟩
    | outgrown => exact ⟨_, a₁, w₁, hq, harr⟩
  obtain ⟨e, a₁, w₁, hq, harr⟩ := first b (.inScope c :: k) cs hro hb hr
  cases e with
  | normal => exact ⟨.normal, a₁, w₁, hq, .head h0 stepR_scope (StepsIn.trans harr (.one (fenced_calm hb hr rfl) stepR_inScope))⟩
  | exit id => exact ⟨.exit id, a₁, w₁, hq, fun k' hk => .head h0 stepR_scope (harr.1 k' (by rw [hx]; exact hk)), fun h1 hk => let ⟨k₁, e1, e2⟩ := harr.2 h1 (by rw [hx]; exact hk); ⟨k₁, e1, .head h0 stepR_scope e2⟩⟩
  | goto l' =>
    obtain ⟨rfl, hJ'⟩ := hq
    obtain ⟨e₂, a₂, w₂, hq₂, harr₂⟩ := key a₁ w₁ hJ'
    exact ⟨e₂, a₂, w₂, hq₂, .of_steps (.head h0 stepR_scope (harr.1 _ hg)) harr₂⟩
  | ret => exact ⟨_, a₁, w₁, hq, .of_steps (.one h0 stepR_scope) harr⟩
  | panic ch => exact ⟨_, a₁, w₁, hq, .of_steps (.one h0 stepR_scope) harr⟩
  | outgrown => exact ⟨_, a₁, w₁, hq, .of_steps (.one h0 stepR_scope) harr⟩
end

end Go.Proofs.YtmabokmnniiadaaGreatDoor
