/-
  What is proved: the iterator holes of package hole. No condition beyond those stated.
-/
import Derived.Test.YtllanbggjfmfhaaGreatDoorGf
namespace Go.Proofs.YtllanbggjfmfhaaGreatDoor
open Go.RowKit Go.Shelf
attribute [local go_sem] Oper.semAt_some

/-- Lines as numbers: 0, if it is not kept. -/
def bitL (bs : List Bool) : List Int := bs.map fun b => if b then 1 else 0
theorem bit_len (bs : List Bool) : (bitL bs).length = bs.length := by simp [bitL]
theorem bit_get {bs : List Bool} {i : Nat} (h : i < bs.length) : (bitL bs).getD i 0 = if bs.getD i false then 1 else 0 := by simp [bitL, h]

abbrev StopsH (n f : Nat) (lb : Array Value) (S : List Nat) (R : List (Nat × Nat)) (w : World) : Prop :=
  SeqStopsK Fence.wide n Tryz.prog f lb (fun x : Fin R.length => #[holeV (R[x.1])]) (KeepB S) (fun ys => ys = List.finRange R.length) (fun pre => ∃ k, k ≤ R.length ∧ pre = (List.finRange R.length).take k) R.length w

set_option maxRecDepth 100000 in
set_option maxHeartbeats 2000000 in
theorem holes1_in (n : Nat) (bs : List Bool) (hbs : bs.length = 32) (l : List Int) (hl : l = bitL bs) (bb y : Nat) (J Jx : List (Fin (runsL l).length) → World → Prop) (W : World) (hJ : AbidesFrom W.heap.size J)
    (hY : ∀ pre x W, J pre W → pre.length < (runsL l).length → YieldAt Fence.wide (n - 1) Tryz.prog y #[holeV ((runsL l)[x.1])] W fun e W' =>
      (e = .returned (.bool true) ∧ J (pre ++ [x]) W' ∧ KeepB [bb] W W') ∨ (e = .returned (.bool false) ∧ Jx (pre ++ [x]) W'))
    (hc : Blk W bb 90 (finC bs 0)) (h0 : J [] W) :
    CallsIn Fence.wide n Tryz.prog 83 #[.func (.yield y) #[] #[], .pointer (some ⟨bb, 0, none⟩)] W (SeqEnd (fun ys => ys = List.finRange (runsL l).length) (fun pre => ∃ k, k ≤ (runsL l).length ∧ pre = (List.finRange (runsL l).length).take k) J Jx) := by
  have hll : l.length = 32 := by rw [hl, bit_len, hbs]
  have hlg : ∀ i, i < 32 → l.getD i 0 = if bs.getD i false then 1 else 0 := fun i h => by rw [hl]; exact bit_get (by omega)
  have hcell : ∀ (X : World) i, i < 32 → Blk X bb 90 (finC bs 0) → X.cell? ⟨bb, i, none⟩ = some (.bool (bs.getD i false)) := fun X i h hB => (hB.cell i).trans (finC_get _ _ _ (by omega))
  have c32 := hc.cell 32
  rw [← hbs, finC_from, hbs] at c32
  have HC := Lib.hid hc
  have HL := Lib.hid hll
  have HLG := Lib.hid hlg
  have HCE := Lib.hid hcell
  have HJ := Lib.hid hJ
  have hbb := hc.lt
  clear hll hlg hcell hJ hc hl hbs
  refine callsIn_of_wp Tryz.func83 rfl trivial ?_ rfl
  simp only [Tryz.ntmps83, List.size_toArray, List.length_cons, List.length_nil, Nat.reduceAdd, Nat.reduceSub, Array.replicate_succ, Array.replicate_zero, List.push_toArray, List.append_toArray, List.nil_append, List.cons_append]
  refine wpIn_scope_ahead 0 (fun _ _ => False) rfl ?_ (fun _ _ h => h.elim)
  gi_wp2_with fail
  refine wpIn_label ?_
  gi_wp2
  gi_loopw [3, 4] (fun i _ wr => ∃ b k : Nat, b ≤ 32 ∧ i = .int .i64 b ∧ k ≤ (runsL l).length ∧ (runsL l).drop k = runsFrom l b ∧ (b < 32 → l.getD b 0 = 0 → isStart l b = true) ∧ J ((List.finRange (runsL l).length).take k) wr ∧ KeepB [bb] W wr)
    (fun i _ _ => 32 - (intOf i).toNat)
  case atStart => exact ⟨0, 0, Nat.zero_le _, rfl, Nat.zero_le _, rfl, fun h1 h2 => is_start (by have := HL.out; omega) h2 (.inl rfl), h0, KeepB.refl _ _⟩
  case round =>
    obtain ⟨b, k, hbm, rfl, hk, hdr, hst, hJs, hkp⟩ := hrel
    have hfb := hkp.blk (by simp) HC.out
    have hlc := hfb.lt
    have HFB := Lib.hid hfb
    have HK := Lib.hid hkp
    have HD := Lib.hid hdr
    have HST := Lib.hid hst
    have HJs := Lib.hid hJs
    clear hkp hdr hst hJs hfb
    by_cases hlt : b < 32
    · have hcx := HCE.out wr b hlt HFB.out
      have hx := HLG.out b hlt
      cases hbx : bs.getD b false
      · rw [hbx] at hcx hx
        have hx0 : l.getD b 0 = 0 := hx
        have hstart := HST.out hlt hx0
        have hrt := runs_take hstart
        have hfl := free_le l b (by have := HL.out; omega)
        have hfs := free_succ (l := l) (b := b) (by have := HL.out; omega) hx0
        have hend := free_stop l b (by have := HL.out; omega)
        have hall := free_all l b
        obtain ⟨e, he⟩ : ∃ e, b + freeN l b = e := ⟨_, rfl⟩
        rw [he] at hrt hfl hend hall
        have hbe : b < e := by omega
        have hem : e ≤ 32 := by have := HL.out; omega
        have HRT := Lib.hid hrt
        have HEN := Lib.hid hend
        have HAL := Lib.hid hall
        clear hstart hrt hend hall he hfs hfl hx hx0 hbx
        have hkN : k < (runsL l).length := by
          have := congrArg List.length HD.out
          rw [HRT.out] at this
          simp at this
          omega
        have hgk : (runsL l)[k] = (b, e) ∧ (runsL l).drop (k + 1) = runsFrom l e := by
          have h1 := HD.out
          rw [List.drop_eq_getElem_cons hkN, HRT.out] at h1
          exact List.cons.inj h1
        have HGK := Lib.hid hgk
        have hbx := below_box wr (.cells #[.int .i64 (b : Int), .int .i64 0] 72)
        have hbl := Blk.new wr 72 #[.int .i64 (b : Int), .int .i64 0]
        have hg3 : wr.grownBy ((wr.alloc (.cells #[.int .i64 (b : Int), .int .i64 0] 72)).setCell ⟨wr.heap.size, 1, none⟩ (.int .i64 (e : Int))) none := by
          have h2 := grown_set (wr.alloc (.cells #[.int .i64 (b : Int), .int .i64 0] 72)) wr.heap.size 1 (.int .i64 (e : Int))
          exact ⟨h2.os.trans hbx.os, h2.tape.trans hbx.tape, h2.output.trans hbx.output, Nat.le_trans hbx.size h2.size,
            fun i hi _ => (h2.block i (Nat.lt_of_lt_of_le hi hbx.size) (fun e => by cases e; omega)).trans (hbx.block i hi)⟩
        have hJ3 := HJ.out _ _ _ none HJs.out hg3 (fun r e => by cases e)
        have hK3 : KeepB [bb] wr ((wr.alloc (.cells #[.int .i64 (b : Int), .int .i64 0] 72)).setCell ⟨wr.heap.size, 1, none⟩ (.int .i64 (e : Int))) :=
          KeepB.of_grown hg3 (by simp; exact hlc)
        have HK3 := Lib.hid hK3
        have HJ3 := Lib.hid hJ3
        have HFB2 := Lib.hid (HFB.out.ext hbx)
        have HBL := Lib.hid hbl
        clear hgk hbx hbl hg3 hJ3 hK3
        gi_wp2
        generalize hW2 : wr.alloc (.cells #[.int .i64 (b : Int), .int .i64 0] 72) = W2 at *
        gi_loop [3] (fun i => ∃ j : Nat, b ≤ j ∧ j ≤ e ∧ i = .int .i64 j) (fun i => e - (intOf i).toNat)
        case atStart => exact ⟨b, Nat.le_refl _, by omega, rfl⟩
        case round =>
          obtain ⟨j, hj0, hj1, rfl⟩ := hrel
          by_cases hje : j < e
          · have hcz := HCE.out W2 j (by omega) HFB2.out
            have hz := HLG.out j (by omega)
            rw [HAL.out j hj0 hje] at hz
            cases hbz : bs.getD j false
            · rw [hbz] at hcz
              have hj32 : j < 32 := by omega
              clear hz hbz
              gi_wp2
              go_round
              case rel => exact ⟨j + 1, by omega, by omega, by go_num⟩
              case measure => simp [intOf]; omega
            · rw [hbz] at hz
              simp at hz
          · obtain rfl : j = e := by omega
            have hf1 := HBL.out.frozen 1
            have hd1 := HBL.out.cell 1
            have hbs := HBL.out.set_ 1 (.int .i64 (j : Int))
            have hs0 := hbs.cell 0
            have hs1 := hbs.cell 1
            simp at hd1 hs0 hs1
            obtain ⟨fn, tmps, assign, body, hy, hRy⟩ := hY _ ⟨k, hkN⟩ _ HJ3.out (by simp; omega)
            dsimp only at hy hRy
            rw [HGK.out.1] at hy
            simp only [holeV] at hy
            have HRy := Lib.hid hRy
            clear hRy hbs
            have hcase : (32 ≤ j) ∨ (j < 32 ∧ l.getD j 0 ≠ 0) := by
              rcases HEN.out with h | h
              · left; have := HL.out; omega
              · right
                refine ⟨?_, h⟩
                rcases Nat.lt_or_ge j 32 with h' | h'
                · exact h'
                · exfalso; apply h; rw [List.getD_eq_getElem?_getD, List.getElem?_eq_none (by have := HL.out; omega)]; rfl
            have hstp : j < 32 → l.getD j 0 ≠ 0 := fun h => by
              rcases hcase with h' | h'
              · omega
              · exact h'.2
            have HSP := Lib.hid hstp
            clear hstp
            rcases hcase with hc1 | ⟨hc1, hc2⟩
            case' inl =>
              gi_wp2
            case' inr =>
              have hcz := HCE.out W2 j hc1 HFB2.out
              have hzt : bs.getD j false = true := by
                rw [HLG.out j hc1] at hc2
                cases h : bs.getD j false
                · rw [h] at hc2; simp at hc2
                · rfl
              rw [hzt] at hcz
              clear hc2 hzt
              gi_wp2
            all_goals
              refine ⟨fun h => by simp [Fence.wide] at h, HRy.out.mono ?_⟩
              rintro e W3 (⟨rfl, hJ4, hk4⟩ | ⟨rfl, hJx4⟩)
              · have HJ4 := Lib.hid hJ4
                have HK4 := Lib.hid hk4
                clear hJ4 hk4
                gi_wp2
                go_roundw
                case rel => exact ⟨j, k + 1, by omega, rfl, by omega, HGK.out.2, fun h1 h2 => absurd h2 (HSP.out h1), by rw [fin_take_succ _ _ hkN]; exact HJ4.out, (HK.out.t HK3.out).t HK4.out⟩
                case measure => simp [intOf]; omega
              · have HJx4 := Lib.hid hJx4
                clear hJx4
                gi_wp2
                refine bodyPost_ret (results_none rfl _ _ _) rfl ?_
                exact ⟨⟨_, rfl⟩, .inr ⟨_, ⟨k + 1, by omega, rfl⟩, by rw [fin_take_succ _ _ hkN]; exact HJx4.out⟩⟩
      · rw [hbx] at hcx hx
        have hne : l.getD b 0 ≠ 0 := by rw [hx]; simp
        have HS := Lib.hid (not_start (l := l) (b := b) hne)
        have HNE := Lib.hid hne
        clear hx hne hbx
        gi_wp2
        go_roundw
        case rel => exact ⟨b + 1, k, by omega, by go_num, hk, HD.out.trans (runs_skip (by have := HL.out; omega) HS.out), fun h1 h2 => is_start (by have := HL.out; omega) h2 (.inr (by rw [show b + 1 - 1 = b by omega]; exact HNE.out)), HJs.out, HK.out⟩
        case measure => simp [intOf]; omega
    · have hbe : l.length ≤ b := by have := HL.out; omega
      have hkl : (runsL l).length ≤ k := by
        have := congrArg List.length HD.out
        rw [runs_end hbe] at this
        simp at this
        omega
      have HKL := Lib.hid (show k = (runsL l).length by omega)
      clear hbe hkl
      gi_wp2
      go_end0
      refine ⟨⟨_, rfl⟩, .inl ⟨_, rfl, ?_⟩⟩
      have := HJs.out
      rwa [HKL.out, fin_take_all] at this

theorem holes1_stops (n : Nat) (bs : List Bool) (hbs : bs.length = 32) (bb : Nat) (w : World) (hc : Blk w bb 90 (finC bs 0)) :
    StopsH n 83 #[.pointer (some ⟨bb, 0, none⟩)] [bb] (runsL (bitL bs)) w := fun y J Jx W hW hJ _ hY h0 =>
  holes1_in n bs hbs _ rfl bb y J Jx W hJ hY (hc.ext hW) h0

set_option maxRecDepth 100000 in
set_option maxHeartbeats 400000 in
theorem holes_any (bs : List Bool) (x : Int) (w : World) :
    Calls Tryz.prog 66 #[.agg (finC bs x)] w fun e w' => e = .returned (.func (.func 83) #[] #[.pointer (some ⟨w.heap.size, 0, none⟩)]) ∧ w.alloc (.cells (finC bs x) 90) = w' := by
  go_enter Tryz.func66, Tryz.ntmps66
  go_wp2_with (refine wpList_op_box rfl 90 (.tmp 0) rfl _ _ (run_fin_box bs x _) ?_)
  go_ret
  exact ⟨rfl, rfl⟩

set_option maxHeartbeats 400000 in
theorem length_any (p q : Nat) (h : p ≤ q ∧ q ≤ 1000) (w : World) :
    Calls Tryz.prog 67 #[.agg #[.int .i64 (p : Int), .int .i64 (q : Int)]] w fun e w' => e = .returned (.int .i64 ((q : Int) - (p : Int))) ∧ w.alloc (.cells #[.int .i64 (p : Int), .int .i64 (q : Int)] 72) = w' := by
  obtain ⟨h1, h2⟩ := h
  go_enter Tryz.func67, Tryz.ntmps67
  go_wp2
  go_ret
  exact ⟨rfl, rfl⟩

end Go.Proofs.YtllanbggjfmfhaaGreatDoor
