/-
  What is proved: the contract of what runs of package run hands back, as an iterator. No condition beyond those stated.
-/
import Derived.Test.YtllanbggjfmfhaaGreatDoorNp
import Derived.RangeFuncNested
import Derived.RangeFuncBound
import Derived.RangeFuncCalls
import Derived.RangeFuncLeaves
import Derived.Shelf.Abstract
import Derived.OwnWalkIn
import Derived.TacticsInMore
import Derived.LoopNIn
import Derived.LoopIn
namespace Go.Proofs.YtllanbggjfmfhaaGreatDoor
open Go.RowKit Go.Shelf
attribute [local go_sem] Oper.semAt_some

/-- The boxed list, and its numbers, are what they were. -/
def KeepL (bb : Nat) (A : Option Addr) (W W' : World) : Prop := W'.heap[bb]? = W.heap[bb]? ∧ ∀ a, A = some a → W'.heap[a.block]? = W.heap[a.block]?
section
variable {bb : Nat} {A : Option Addr} {X Y Z : World}
theorem KeepL.refl (bb : Nat) (A : Option Addr) (W : World) : KeepL bb A W W := ⟨rfl, fun _ _ => rfl⟩
theorem KeepL.t (h : KeepL bb A X Y) (k : KeepL bb A Y Z) : KeepL bb A X Z := ⟨k.1.trans h.1, fun a e => (k.2 a e).trans (h.2 a e)⟩
theorem KeepL.cell (h : KeepL bb A X Y) (o : Nat) : Y.cell? ⟨bb, o, none⟩ = X.cell? ⟨bb, o, none⟩ := World.cell?_of_block (w := X) h.1
theorem KeepL.row (h : KeepL bb A X Y) {n : Nat} {xs : List Value} (hR : Row X A n xs) : Row Y A n xs :=
  ⟨hR.1, fun hn => by
    obtain ⟨b, off, e, hc⟩ := hR.2 hn
    exact ⟨b, off, e, fun j u hu => by have h1 : Y.heap[b]? = X.heap[b]? := h.2 ⟨b, off, none⟩ e; exact (World.cell?_of_block (w := X) h1).trans (hc j u hu)⟩⟩
theorem KeepL.of_blocks (h : ∀ b, b = bb ∨ (∃ a, A = some a ∧ b = a.block) → Y.heap[b]? = X.heap[b]?) : KeepL bb A X Y := ⟨h bb (.inl rfl), fun a e => h a.block (.inr ⟨a, e, rfl⟩)⟩
theorem KeepL.b {w : World} (hb : bb < w.heap.size) (hA : ∀ a, A = some a → a.block < w.heap.size) (W : World) (l : Nat) (o o' : Obj) (hl : w.heap.size ≤ l) (_ : W.heap[l]? = some o) (_ : o.isCells = false) (_ : o.isWalk = false) : KeepL bb A W (W.putObj l o') :=
  KeepL.of_blocks fun b h => by
    refine World.putObj_heap_other ?_
    rcases h with rfl | ⟨a, e, rfl⟩
    · omega
    · have := hA a e; omega
theorem KeepL.of_below {n : Nat} (h : Below n X Y) (hb : bb < n) (hA : ∀ a, A = some a → a.block < n) : KeepL bb A X Y :=
  KeepL.of_blocks fun b hh => h.block b (by
    rcases hh with rfl | ⟨a, e, rfl⟩
    · exact hb
    · exact hA a e)
theorem KeepL.of_grown {row : Option Nat} (h : X.grownBy Y row) (hb : bb < X.heap.size) (hA : ∀ a, A = some a → a.block < X.heap.size) (hr : some bb ≠ row) (hr' : ∀ a, A = some a → some a.block ≠ row) : KeepL bb A X Y :=
  ⟨h.block bb hb hr, fun a e => h.block a.block (hA a e) (hr' a e)⟩
end

def SeqEnd {α : Type} (S Sp : List α → Prop) (J Jx : List α → World → Prop) (e : Ending) (W' : World) : Prop :=
  (∃ v, e = .returned v) ∧ ((∃ xs, S xs ∧ J xs W') ∨ (∃ pre, Sp pre ∧ Jx pre W'))
theorem fin_take_succ (m k : Nat) (hk : k < m) : (List.finRange m).take (k + 1) = (List.finRange m).take k ++ [⟨k, hk⟩] := by
  rw [List.take_succ_eq_append_getElem (by simpa using hk)]
  simp
theorem fin_take_all (m : Nat) : (List.finRange m).take m = List.finRange m := List.take_of_length_le (by simp)
theorem grown_set (w : World) (B k : Nat) (u : Value) : w.grownBy (w.setCell ⟨B, k, none⟩ u) (some B) :=
  ⟨rfl, rfl, rfl, by simp [World.setCell], fun i _ hi => Below.heap_setCell _ _ _ i (fun e => hi (by rw [e]))⟩

def holeV (r : Nat × Nat) : Value := .agg #[.int .i64 (r.1 : Int), .int .i64 (r.2 : Int)]

set_option maxRecDepth 100000 in
set_option maxHeartbeats 2000000 in
theorem runs1_in (n : Nat) (A : Option Addr) (m c : Nat) (l : List Int) (bb y : Nat) (hm : m ≤ 1000) (J Jx : List (Fin (runsL l).length) → World → Prop) (W : World) (hJ : AbidesFrom W.heap.size J)
    (hY : ∀ pre x W, J pre W → pre.length < (runsL l).length → YieldAt Fence.wide (n - 1) Tryz.prog y #[holeV ((runsL l)[x.1])] W fun e W' =>
      (e = .returned (.bool true) ∧ J (pre ++ [x]) W' ∧ KeepL bb A W W') ∨ (e = .returned (.bool false) ∧ Jx (pre ++ [x]) W'))
    (hc : W.cell? ⟨bb, 0, none⟩ = some (.slice A m c)) (hR : Row W A m (l.map Iv)) (hA : ∀ a, A = some a → a.block < W.heap.size) (h0 : J [] W) :
    CallsIn Fence.wide n Tryz.prog 72 #[.func (.yield y) #[] #[], .pointer (some ⟨bb, 0, none⟩)] W (SeqEnd (fun ys => ys = List.finRange (runsL l).length) (fun pre => ∃ k, k ≤ (runsL l).length ∧ pre = (List.finRange (runsL l).length).take k) J Jx) := by
  have hl := hR.1
  simp at hl
  have HR := Lib.hid hR
  have HL := Lib.hid hl
  have HJ := Lib.hid hJ
  have HA := Lib.hid hA
  have hbb := lt_of_cell hc
  clear hR hl hJ hA
  refine callsIn_of_wp Tryz.func72 rfl trivial ?_ rfl
  simp only [Tryz.ntmps72, List.size_toArray, List.length_cons, List.length_nil, Nat.reduceAdd, Nat.reduceSub, Array.replicate_succ, Array.replicate_zero, List.push_toArray, List.append_toArray, List.nil_append, List.cons_append]
  refine wpIn_scope_ahead 0 (fun _ _ => False) rfl ?_ (fun _ _ h => h.elim)
  gi_wp2_with fail
  refine wpIn_label ?_
  gi_wp2
  gi_loopw [3, 4] (fun i _ wr => ∃ b k : Nat, b ≤ m ∧ i = .int .i64 b ∧ k ≤ (runsL l).length ∧ (runsL l).drop k = runsFrom l b ∧ (b < m → l.getD b 0 = 0 → isStart l b = true) ∧ J ((List.finRange (runsL l).length).take k) wr ∧ KeepL bb A W wr)
    (fun i _ _ => m - (intOf i).toNat)
  case atStart => exact ⟨0, 0, Nat.zero_le _, rfl, Nat.zero_le _, rfl, fun h1 h2 => is_start (by have := HL.out; omega) h2 (.inl rfl), h0, KeepL.refl _ _ _⟩
  case round =>
    obtain ⟨b, k, hbm, rfl, hk, hdr, hst, hJs, hkp⟩ := hrel
    have c1 : wr.cell? ⟨bb, 0, none⟩ = some (.slice A m c) := (hkp.cell 0).trans hc
    have HK := Lib.hid hkp
    have HD := Lib.hid hdr
    have HST := Lib.hid hst
    have HJs := Lib.hid hJs
    have hRw := Lib.hid (hkp.row HR.out)
    clear hkp hdr hst hJs
    by_cases hlt : b < m
    · obtain ⟨ab, off, x, hAe, hcx, hx, -⟩ := num_at hRw.out hlt
      have HX := Lib.hid hx
      clear hx
      by_cases hx0 : x = 0
      · subst hAe
        subst hx0
        have hstart := HST.out hlt HX.out
        have hrt := runs_take hstart
        have hfl := free_le l b (by have := HL.out; omega)
        have hfs := free_succ (l := l) (b := b) (by have := HL.out; omega) HX.out
        have hend := free_stop l b (by have := HL.out; omega)
        have hall := free_all l b
        obtain ⟨e, he⟩ : ∃ e, b + freeN l b = e := ⟨_, rfl⟩
        rw [he] at hrt hfl hend hall
        have hbe : b < e := by omega
        have hem : e ≤ m := by have := HL.out; omega
        have HRT := Lib.hid hrt
        have HEN := Lib.hid hend
        have HAL := Lib.hid hall
        clear hstart hrt hend hall he hfs hfl
        have hlb := lt_of_cell hcx
        have hlc := lt_of_cell c1
        have hkN : k < (runsL l).length := by
          have := congrArg List.length HD.out
          rw [HRT.out] at this
          simp at this
          omega
        have hgk : (runsL l)[k] = (b, e) ∧ (runsL l).drop (k + 1) = runsFrom l e := by
          have h1 := HD.out
          rw [List.drop_eq_getElem_cons hkN, HRT.out] at h1
          exact List.cons.inj h1
        have HGK := Lib.hid hgk
        have hbx := below_box wr (.cells #[.int .i64 (b : Int), .int .i64 0] 72)
        have hbl := Blk.new wr 72 #[.int .i64 (b : Int), .int .i64 0]
        have hg3 : wr.grownBy ((wr.alloc (.cells #[.int .i64 (b : Int), .int .i64 0] 72)).setCell ⟨wr.heap.size, 1, none⟩ (.int .i64 (e : Int))) none := by
          have h2 := grown_set (wr.alloc (.cells #[.int .i64 (b : Int), .int .i64 0] 72)) wr.heap.size 1 (.int .i64 (e : Int))
          exact ⟨h2.os.trans hbx.os, h2.tape.trans hbx.tape, h2.output.trans hbx.output, Nat.le_trans hbx.size h2.size,
            fun i hi _ => (h2.block i (Nat.lt_of_lt_of_le hi hbx.size) (fun e => by cases e; omega)).trans (hbx.block i hi)⟩
        have hJ3 := HJ.out _ _ _ none HJs.out hg3 (fun r e => by cases e)
        have hK3 : KeepL bb (some ⟨ab, off, none⟩) wr ((wr.alloc (.cells #[.int .i64 (b : Int), .int .i64 0] 72)).setCell ⟨wr.heap.size, 1, none⟩ (.int .i64 (e : Int))) :=
          KeepL.of_grown hg3 hlc (fun a ea => by cases ea; exact hlb) (by simp) (fun _ _ => by simp)
        have HK3 := Lib.hid hK3
        have HJ3 := Lib.hid hJ3
        have hRw2 := Lib.hid (hRw.out.ext hbx)
        have c2 := cell_ext hbx c1
        have HBL := Lib.hid hbl
        clear hgk hbx hbl hg3 hJ3 hK3
        gi_wp2
        generalize hW2 : wr.alloc (.cells #[.int .i64 (b : Int), .int .i64 0] 72) = W2 at *
        gi_loop [3] (fun i => ∃ j : Nat, b ≤ j ∧ j ≤ e ∧ i = .int .i64 j) (fun i => e - (intOf i).toNat)
        case atStart => exact ⟨b, Nat.le_refl _, by omega, rfl⟩
        case round =>
          obtain ⟨j, hj0, hj1, rfl⟩ := hrel
          by_cases hje : j < e
          · obtain ⟨ab', off', z, e', hcz, hz, -⟩ := num_at (k := j) hRw2.out (by omega)
            cases e'
            obtain rfl : z = 0 := by rw [← hz]; exact HAL.out j hj0 hje
            clear hz
            gi_wp2
            go_round
            case rel => exact ⟨j + 1, by omega, by omega, by go_num⟩
            case measure => simp [intOf]; omega
          · obtain rfl : j = e := by omega
            have hf1 := HBL.out.frozen 1
            have hd1 := HBL.out.cell 1
            have hbs := HBL.out.set_ 1 (.int .i64 (j : Int))
            have hs0 := hbs.cell 0
            have hs1 := hbs.cell 1
            simp at hd1 hs0 hs1
            obtain ⟨fn, tmps, assign, body, hy, hRy⟩ := hY _ ⟨k, hkN⟩ _ HJ3.out (by simp; omega)
            dsimp only at hy hRy
            rw [HGK.out.1] at hy
            simp only [holeV] at hy
            have HRy := Lib.hid hRy
            clear hRy hbs
            have hcase : (m ≤ j) ∨ (j < m ∧ l.getD j 0 ≠ 0) := by
              rcases HEN.out with h | h
              · left; have := HL.out; omega
              · right
                refine ⟨?_, h⟩
                rcases Nat.lt_or_ge j m with h' | h'
                · exact h'
                · exfalso; apply h; rw [List.getD_eq_getElem?_getD, List.getElem?_eq_none (by have := HL.out; omega)]; rfl
            have hstp : j < m → l.getD j 0 ≠ 0 := fun h => by
              rcases hcase with h' | h'
              · omega
              · exact h'.2
            have HSP := Lib.hid hstp
            clear hstp
            rcases hcase with hc1 | ⟨hc1, hc2⟩
            case' inl =>
              gi_wp2
            case' inr =>
              obtain ⟨ab', off', z, e', hcz, hz, -⟩ := num_at (k := j) hRw2.out hc1
              cases e'
              have hzd : (z == 0) = false := by
                rw [hz] at hc2
                simpa using hc2
              clear hz hc2
              gi_wp2
            all_goals
              refine ⟨fun h => by simp [Fence.wide] at h, HRy.out.mono ?_⟩
              rintro e W3 (⟨rfl, hJ4, hk4⟩ | ⟨rfl, hJx4⟩)
              · have HJ4 := Lib.hid hJ4
                have HK4 := Lib.hid hk4
                clear hJ4 hk4
                gi_wp2
                go_roundw
                case rel => exact ⟨j, k + 1, by omega, rfl, by omega, HGK.out.2, fun h1 h2 => absurd h2 (HSP.out h1), by rw [fin_take_succ _ _ hkN]; exact HJ4.out, (HK.out.t HK3.out).t HK4.out⟩
                case measure => simp [intOf]; omega
              · have HJx4 := Lib.hid hJx4
                clear hJx4
                gi_wp2
                refine bodyPost_ret (results_none rfl _ _ _) rfl ?_
                exact ⟨⟨_, rfl⟩, .inr ⟨_, ⟨k + 1, by omega, rfl⟩, by rw [fin_take_succ _ _ hkN]; exact HJx4.out⟩⟩
      · subst hAe
        have hd : (x != 0) = true := by simpa using hx0
        have hs := not_start (l := l) (b := b) (by rw [HX.out]; exact hx0)
        have HS := Lib.hid hs
        clear hs
        gi_wp2
        go_roundw
        case rel => exact ⟨b + 1, k, by omega, by go_num, hk, HD.out.trans (runs_skip (by have := HL.out; omega) HS.out), fun h1 h2 => is_start (by have := HL.out; omega) h2 (.inr (by rw [show b + 1 - 1 = b by omega, HX.out]; exact hx0)), HJs.out, HK.out⟩
        case measure => simp [intOf]; omega
    · have hbe : l.length ≤ b := by have := HL.out; omega
      have hkl : (runsL l).length ≤ k := by
        have := congrArg List.length HD.out
        rw [runs_end hbe] at this
        simp at this
        omega
      have HKL := Lib.hid (show k = (runsL l).length by omega)
      clear hbe hkl
      gi_wp2
      go_end0
      refine ⟨⟨_, rfl⟩, .inl ⟨_, rfl, ?_⟩⟩
      have := HJs.out
      rwa [HKL.out, fin_take_all] at this

end Go.Proofs.YtllanbggjfmfhaaGreatDoor
