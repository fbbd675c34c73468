/-
  What is proved: plain laws of pools: how many blocks have a state after one is set, or a large one put; what is put, and given back, is as it was. No program in sight. No condition beyond those stated. the cells of a list of six numbers. No condition beyond those stated. PoolLays returns true. No condition beyond those stated. contracts of those functions that this program has, and plain facts beside them. No condition beyond those stated. the row of PoolLays, and its tied card: whatever the input, true; the input reads as it did. No condition beyond the statement's own.
-/
import Derived.Test.YtllanbggjfmfhaaDoorId
import Derived.Test.YtllanbggjfmfhaaDoorIc
import Derived.Test.YtllanbggjfmfhaaDoorIa
import Derived.Test.YtllanbggjfmfhaaDoorCards
import Derived.Test.YtllanbggjfmfhaaDoorTie
import Derived.ProofKit
import Derived.OpenShut
import Derived.Below
import Derived.ChangeSame
import Derived.WideKeyArgs
import Derived.LaidMore
import Derived.LaidHandle
import Derived.MakeChecks
import Derived.Stop.Joined
import Derived.Stop.LaidErr
import Derived.Stop.LaidTwo
import Derived.Lib.SmallJoins
import Derived.Deep.Matrix
import Derived.Deep.DeepHandedRow
import Derived.Deep.DeepWitnessRowRef
namespace Go.Proofs.YtllanbggjfmfhaaDoor
open Go.RowKit Go.Shelf

theorem count_at {l : List Int} {i : Nat} {x a : Int} (hi : i < l.length) (h0 : l.getD i 0 = a) (s : Int) :
    countL (l.set i x) s + (if a = s then 1 else 0) = countL l s + (if x = s then 1 else 0) := by
  unfold countL
  have h1 : l[i] = a := by simpa [hi] using h0
  rw [List.countP_set hi, h1]
  by_cases e : a = s
  · have h2 : 0 < l.countP (· == s) := List.countP_pos_iff.2 ⟨l[i], List.getElem_mem hi, by simp [h1, e]⟩
    by_cases f : x = s
    · simp [e, f]; omega
    · simp [e, f]; omega
  · by_cases f : x = s <;> simp [e, f]

theorem put_counts {l : List Int} {f k : Nat} (h : PutIn l f k) : countL (putL l f k) 0 + k = countL l 0 ∧ countL (putL l f k) 3 = countL l 3 + 1 ∧ countL (putL l f k) 4 + 1 = countL l 4 + k := by
  have hk := h.hk
  have hfk := h.hfk
  have gen : ∀ j, 1 ≤ j → j ≤ k → countL (putL l f j) 0 + j = countL l 0 ∧ countL (putL l f j) 3 = countL l 3 + 1 ∧ countL (putL l f j) 4 + 1 = countL l 4 + j := by
    intro j
    induction j with
    | zero => intro h; omega
    | succ j ih =>
      intro _ hjk
      by_cases hj : j = 0
      · subst hj
        rw [← put_one (by omega)]
        have hz := h.hz f (by omega) (by omega)
        have a0 := count_at (x := 3) (by omega) hz 0
        have a3 := count_at (x := 3) (by omega) hz 3
        have a4 := count_at (x := 3) (by omega) hz 4
        simp at a0 a3 a4
        omega
      · rw [← put_step (by omega) (by omega)]
        obtain ⟨h1, h2, h3⟩ := ih (by omega) (by omega)
        have hz : (putL l f j).getD (f + j) 0 = 0 := by rw [put_get (by omega), if_neg (by omega), if_neg (by omega)]; exact h.hz _ (by omega) (by omega)
        have hl : f + j < (putL l f j).length := by rw [put_len]; omega
        have a0 := count_at (x := 4) hl hz 0
        have a3 := count_at (x := 4) hl hz 3
        have a4 := count_at (x := 4) hl hz 4
        simp at a0 a3 a4
        omega
  exact gen k hk (Nat.le_refl _)

theorem cntTo_six (l : List Int) : cntTo l 6 = [((countL l 0 : Nat) : Int), ((countL l 1 : Nat) : Int), ((countL l 2 : Nat) : Int), ((countL l 3 : Nat) : Int), ((countL l 4 : Nat) : Int), ((countL l 5 : Nat) : Int)] := rfl

/-- What a block that is taken changes of the counts. -/
theorem take_counts {l : List Int} {ts : List (List Int)} {s : Int} (hs : s = 0 ∨ s = 1) (h : takeOk l ts s = true) :
    pRight (takeL l ts s) (takeT l ts s) = true ∧ countL (takeL l ts s) s + 1 = countL l s ∧ countL (takeL l ts s) 5 = countL l 5 + 1 ∧ countL (takeL l ts s) (1 - s) = countL l (1 - s) := by
  obtain ⟨-, h2, -, h4, h5, h6, -⟩ := take_keeps hs h
  refine ⟨h2, ?_⟩
  rw [h6]
  have a1 := count_at (x := 5) h4 h5 s
  have a2 := count_at (x := 5) h4 h5 5
  have a3 := count_at (x := 5) h4 h5 (1 - s)
  rw [if_pos rfl, if_neg (by omega)] at a1
  rw [if_neg (by omega), if_pos rfl] at a2
  rw [if_neg (by omega), if_neg (by omega)] at a3
  exact ⟨by omega, by omega, by omega⟩
theorem run_counts {l : List Int} {ts : List (List Int)} {k : Int} (h : runOk l ts k = true) :
    1 ≤ k ∧ k ≤ 32 ∧ pRight (runL l ts k) (runT l ts k) = true ∧ (countL (runL l ts k) 0 : Int) = countL l 0 - k ∧ (countL (runL l ts k) 3 : Int) = countL l 3 + 1 ∧ (countL (runL l ts k) 4 : Int) = countL l 4 + k - 1 := by
  obtain ⟨-, h1, h2, h3, h4, -, h6, -⟩ := run_keeps h
  obtain ⟨a0, a3, a4⟩ := put_counts h3
  rw [h6] at h4 ⊢
  exact ⟨h1, h2, h4, by omega, by omega, by omega⟩
theorem takeOk_iff {l : List Int} {ts : List (List Int)} {s : Int} (hp : pRight l ts = true) : takeOk l ts s = decide (0 < countL l s) := by
  unfold takeOk
  rw [hp, firstOf_some]
  rfl
theorem pright_len {l : List Int} {ts : List (List Int)} (hp : pRight l ts = true) : 1 ≤ l.length ∧ l.length ≤ 32 := by
  have h := right_iff.1 (whole_iff.1 (pright_iff.1 hp).1).1
  exact ⟨h.1, h.2.1⟩

theorem empty_tab {t : List Int} (ht : tabB t = true) (h : cntN t = 0) : t = tab0 := by
  have hl := tab_len ht
  unfold cntN linesR at h
  rw [ht] at h
  simp only [if_true] at h
  have h2 : linesL t = [] := List.eq_nil_of_length_eq_zero h
  unfold linesL at h2
  rw [List.map_eq_nil_iff, List.filter_eq_nil_iff] at h2
  refine list_ext0 (by rw [hl]; rfl) fun i hi => ?_
  have h3 := h2 i (by rw [List.mem_range]; omega)
  unfold keptB at h3
  have h4 : t.getD i 0 = 0 := by
    by_cases e : t.getD i 0 = 0
    · exact e
    · exact absurd (by rw [Bool.or_eq_true]; exact .inl (bne_iff_ne.2 e)) h3
  rw [h4]
  have h5 : ∀ i, i < 32 → tab0.getD i 0 = 0 := by decide
  exact (h5 i (by omega)).symm

theorem hasB1 (y x : Int) : hasB [y] x = decide (x = y) := by simp [hasB]
theorem hasN_set {l : List Int} {i : Nat} {x : Int} {ws : List Int} (hi : i < l.length) (hx : hasB ws x = true) : hasN (l.set i x) (i : Int) ws = true := by
  unfold hasN
  rw [Int.toNat_natCast, getD_set_eq l i i x hi, if_pos rfl, hx]
  simp; omega
theorem set_set_same (l : List Int) (i : Nat) (x y : Int) : (l.set i x).set i y = l.set i y := by simp
theorem set_back {l : List Int} {i : Nat} {y : Int} (hi : i < l.length) (h : l.getD i 0 = y) : l.set i y = l := by
  refine list_ext0 (by simp) fun j hj => ?_
  rw [getD_set_eq l j i y hi]
  split
  · rename_i e; rw [e, h]
  · rfl
theorem set_back_t {ts : List (List Int)} {i : Nat} {t : List Int} (h : ts.getD i [] = t) : ts.set i t = ts := by
  by_cases hi : i < ts.length
  · have : ts[i] = t := by simpa [hi] using h
    rw [← this]; exact List.set_getElem_self hi
  · rw [List.set_eq_of_length_le (by omega)]

/-- A large one that is taken is dropped again. -/
theorem run_back {l : List Int} {ts : List (List Int)} {k : Int} (h : runOk l ts k = true) :
    1 ≤ k ∧ dropC (runL l ts k) (runT l ts k) (runN l ts k : Nat) = 0 ∧ ((dropN (runL l ts k) (runT l ts k) (runN l ts k : Nat) : Nat) : Int) = k ∧ dropL (runL l ts k) (runT l ts k) (runN l ts k : Nat) = l ∧ dropT (runL l ts k) (runT l ts k) (runN l ts k : Nat) = ts := by
  obtain ⟨hp, h1, h2, h3, h4, -, h6, h7⟩ := run_keeps h
  have hw := (pright_iff.1 hp).1
  have hk := h3.hk
  have hfk := h3.hfk
  have hc : cutOk (runL l ts k) (runN l ts k : Nat) = true := by
    rw [h6]
    unfold cutOk
    rw [Int.toNat_natCast, put_head h3, put_len]
    simp; omega
  have he : endC (runL l ts k) (runN l ts k : Nat) = runN l ts k + k.toNat := by
    unfold endC
    rw [h6, Int.toNat_natCast]
    exact put_end hw h3
  unfold dropC dropN dropL dropT
  rw [h4, hc, he, Int.toNat_natCast]
  simp only [Bool.and_self, if_true]
  refine ⟨h1, trivial, by omega, ?_, h7⟩
  rw [h6]
  exact put_cut h3
theorem run_free {l : List Int} {ts : List (List Int)} {k : Int} (h : runOk l ts k = true) : takeOk l ts 0 = true := by
  obtain ⟨hp, -, -, h3, -⟩ := run_keeps h
  rw [takeOk_iff hp]
  have := (put_counts h3).1
  have := h3.hk
  simp; omega

/-- A block that is taken, closed, and laid with an empty table, is free again. -/
theorem take_back {l : List Int} {ts : List (List Int)} (h : takeOk l ts 0 = true) :
    closeC (takeL l ts 0) (takeT l ts 0) (takeN l ts 0 : Nat) = 0 ∧ setC (closeL (takeL l ts 0) (takeT l ts 0) (takeN l ts 0 : Nat)) (closeT (takeL l ts 0) (takeT l ts 0) (takeN l ts 0 : Nat)) (takeN l ts 0 : Nat) tab0 = 0
    ∧ setL (closeL (takeL l ts 0) (takeT l ts 0) (takeN l ts 0 : Nat)) (closeT (takeL l ts 0) (takeT l ts 0) (takeN l ts 0 : Nat)) (takeN l ts 0 : Nat) tab0 = l
    ∧ setT (closeL (takeL l ts 0) (takeT l ts 0) (takeN l ts 0 : Nat)) (closeT (takeL l ts 0) (takeT l ts 0) (takeN l ts 0 : Nat)) (takeN l ts 0 : Nat) tab0 = ts := by
  obtain ⟨hp, h2, -, h4, h5, h6, h7⟩ := take_keeps (.inl rfl) h
  generalize takeN l ts 0 = i at *
  have hn : hasN (takeL l ts 0) (i : Nat) [5] = true := by rw [h6]; exact hasN_set h4 rfl
  have hcl : closeL (takeL l ts 0) (takeT l ts 0) (i : Nat) = l.set i 2 := by
    unfold closeL
    rw [h2, hn, Int.toNat_natCast, h6, set_set_same]; rfl
  have hct : closeT (takeL l ts 0) (takeT l ts 0) (i : Nat) = ts := by
    unfold closeT
    rw [h2, hn, h7]; rfl
  have hpr : pRight (l.set i 2) ts = true := pright_set hp h4 (by omega) (by omega) (.inl rfl)
  have hn2 : hasN (l.set i 2) (i : Nat) [1, 2, 5] = true := hasN_set h4 rfl
  have ht0 : tabB tab0 = true := by decide
  have hok : setOk (l.set i 2) ts (i : Nat) tab0 = true := by unfold setOk; rw [hpr, hn2, ht0]; rfl
  rw [hcl, hct]
  refine ⟨by unfold closeC; rw [h2, hn]; rfl, by unfold setC; rw [hpr, hn2, ht0]; rfl, ?_, ?_⟩
  · unfold setL
    rw [hok, Int.toNat_natCast, set_set_same]
    exact set_back h4 h5
  · unfold setT
    rw [hok, Int.toNat_natCast]
    obtain ⟨h8, h9⟩ := (pright_iff.1 hp).2.2 i h4
    rw [h5] at h9
    have h10 : cntN (ts.getD i []) = 0 := by
      unfold asksOf emptyB at h9
      simpa using h9
    exact set_back_t (empty_tab h8 h10)

theorem state_le (t : List Int) : 0 ≤ stateOf t ∧ stateOf t ≤ 2 := by
  unfold stateOf
  split
  · omega
  · split <;> omega
theorem state_asks (t : List Int) : asksOf (stateOf t) t = true := by
  unfold stateOf
  split
  · rename_i h; simp [asksOf, emptyB, h]
  · rename_i h
    split
    · rename_i h2; simp [asksOf, holeyB]; omega
    · simp [asksOf]

/-- A block with a table laid anew. -/
theorem set_keeps {l : List Int} {ts : List (List Int)} {b : Int} {t : List Int} (h : setOk l ts b t = true) :
    ∃ i : Nat, b = i ∧ i < l.length ∧ ts.length = l.length ∧ pRight l ts = true ∧ pRight (setL l ts b t) (setT l ts b t) = true ∧ Others l (setL l ts b t) ts (setT l ts b t) i 1
      ∧ setL l ts b t = l.set i (stateOf t) ∧ setT l ts b t = ts.set i t
      ∧ countL (setL l ts b t) 3 = countL l 3 ∧ countL (setL l ts b t) 4 = countL l 4 ∧ countL (setL l ts b t) 0 + countL (setL l ts b t) 1 + countL (setL l ts b t) 2 + countL (setL l ts b t) 5 = countL l 0 + countL l 1 + countL l 2 + countL l 5 := by
  have h' := h
  unfold setOk at h'
  simp only [Bool.and_eq_true] at h'
  obtain ⟨hp, hn, ht⟩ := h'
  obtain ⟨i, rfl, hi, hm⟩ := hasN_lt hn
  have hm' : l.getD i 0 = 1 ∨ l.getD i 0 = 2 ∨ l.getD i 0 = 5 := by simpa [hasB] using hm
  obtain ⟨hw, hl, ha⟩ := pright_iff.1 hp
  have hL : setL l ts (i : Int) t = l.set i (stateOf t) := by unfold setL; rw [h, Int.toNat_natCast]; rfl
  have hT : setT l ts (i : Int) t = ts.set i t := by unfold setT; rw [h, Int.toNat_natCast]; rfl
  obtain ⟨s0, s2⟩ := state_le t
  have hg : ∀ j, (ts.set i t).getD j [] = if j = i then t else ts.getD j [] := fun j => by
    by_cases e : j = i
    · subst e; simp [show j < ts.length by omega]
    · simp [e, List.getElem?_set_ne (Ne.symm e)]
  have a := fun s => count_at (x := stateOf t) hi rfl s
  have a0 := a 0
  have a1 := a 1
  have a2 := a 2
  have a3 := a 3
  have a4 := a 4
  have a5 := a 5
  rw [hL, hT]
  refine ⟨i, rfl, hi, hl, hp, ?_, ⟨by simp, hl, by simp [hl], fun j hj hji => ?_⟩, rfl, rfl, ?_⟩
  · refine pright_iff.2 ⟨whole_set hw hi (by omega) (by omega) (by omega) (by omega), by simp [hl], fun j hj => ?_⟩
    have hj' : j < l.length := by simpa using hj
    rw [getD_set_eq l j i _ hi, hg]
    split
    · exact ⟨ht, state_asks t⟩
    · exact ha j hj'
  · rw [getD_set_eq l j i _ hi, if_neg (by omega), hg, if_neg (by omega)]
    exact ⟨rfl, rfl⟩
  · clear a
    generalize l.getD i 0 = y at *
    generalize stateOf t = x at *
    clear h hn hm hp hw ha hL hT hg hl ht
    rcases hm' with rfl | rfl | rfl
    all_goals
      obtain rfl | rfl | rfl : x = 0 ∨ x = 1 ∨ x = 2 := by omega
      all_goals
        simp at a0 a1 a2 a3 a4 a5
        omega

theorem setC_no {l : List Int} {ts : List (List Int)} {b : Int} {t : List Int} (h : setOk l ts b t = false) : setC l ts b t ≠ 0 ∧ setL l ts b t = [] ∧ (setC l ts b t = 100 ↔ pRight l ts = false) := by
  refine ⟨?_, by unfold setL; rw [h]; rfl, ?_⟩
  · unfold setOk at h
    unfold setC
    cases hp : pRight l ts
    · simp
    · rw [hp, Bool.true_and] at h
      rw [h]; simp
  · unfold setOk at h
    unfold setC
    cases hp : pRight l ts
    · simp
    · rw [hp, Bool.true_and] at h
      rw [h]; simp
theorem setC_ok {l : List Int} {ts : List (List Int)} {b : Int} {t : List Int} (h : setOk l ts b t = true) : setC l ts b t = 0 := by
  unfold setOk at h
  simp only [Bool.and_eq_true] at h
  unfold setC
  simp [h.1, h.2.1, h.2.2]
theorem setL_len (l : List Int) (ts : List (List Int)) (b : Int) (t : List Int) : (setL l ts b t).length ≤ l.length := by
  unfold setL
  split <;> simp
theorem setT_len (l : List Int) (ts : List (List Int)) (b : Int) (t : List Int) : (setT l ts b t).length ≤ ts.length := by
  unfold setT
  split <;> simp
theorem closeL_len (l : List Int) (ts : List (List Int)) (b : Int) : (closeL l ts b).length ≤ l.length := by
  unfold closeL
  split <;> simp
theorem closeT_len (l : List Int) (ts : List (List Int)) (b : Int) : (closeT l ts b).length ≤ ts.length := by
  unfold closeT
  split <;> simp
theorem dropL_len (l : List Int) (ts : List (List Int)) (b : Int) : (dropL l ts b).length ≤ l.length := by
  unfold dropL
  split
  · rw [cut_len]; exact Nat.le_refl _
  · simp
theorem dropT_len (l : List Int) (ts : List (List Int)) (b : Int) : (dropT l ts b).length ≤ ts.length := by
  unfold dropT
  split <;> simp

end Go.Proofs.YtllanbggjfmfhaaDoor
namespace Go.Proofs.YtllanbggjfmfhaaDoor
open Go.RowKit Go.Shelf

theorem row6 {w : World} {A : Option Addr} {m : Nat} {x0 x1 x2 x3 x4 x5 : Int} (h : Row w A m (([x0, x1, x2, x3, x4, x5] : List Int).map Iv)) :
    m = 6 ∧ ∃ b off, A = some ⟨b, off, none⟩ ∧ w.cell? ⟨b, off, none⟩ = some (.int .i64 x0) ∧ w.cell? ⟨b, off + 1, none⟩ = some (.int .i64 x1) ∧ w.cell? ⟨b, off + 2, none⟩ = some (.int .i64 x2) ∧ w.cell? ⟨b, off + 3, none⟩ = some (.int .i64 x3) ∧ w.cell? ⟨b, off + 4, none⟩ = some (.int .i64 x4) ∧ w.cell? ⟨b, off + 5, none⟩ = some (.int .i64 x5) := by
  have hm : m = 6 := by have := h.1; simpa using this.symm
  subst hm
  obtain ⟨b, off, rfl, hc⟩ := h.2 (by omega)
  exact ⟨rfl, b, off, rfl, by simpa [Iv] using hc 0 _ rfl, hc 1 _ rfl, hc 2 _ rfl, hc 3 _ rfl, hc 4 _ rfl, hc 5 _ rfl⟩

theorem row6c {w : World} {b off m : Nat} {x0 x1 x2 x3 x4 x5 : Int} (h : Row w (some ⟨b, off, none⟩) m (([x0, x1, x2, x3, x4, x5] : List Int).map Iv)) :
    w.cell? ⟨b, off, none⟩ = some (.int .i64 x0) ∧ w.cell? ⟨b, off + 1, none⟩ = some (.int .i64 x1) ∧ w.cell? ⟨b, off + 2, none⟩ = some (.int .i64 x2) ∧ w.cell? ⟨b, off + 3, none⟩ = some (.int .i64 x3) ∧ w.cell? ⟨b, off + 4, none⟩ = some (.int .i64 x4) ∧ w.cell? ⟨b, off + 5, none⟩ = some (.int .i64 x5) := by
  obtain ⟨-, b', off', e, h2⟩ := row6 h
  cases e
  exact h2

end Go.Proofs.YtllanbggjfmfhaaDoor
namespace Go.Proofs.YtllanbggjfmfhaaDoor
open Go.RowKit Go.Shelf

set_option maxRecDepth 100000 in
set_option maxHeartbeats 16000000 in
theorem poolLays_any (S : Option Addr) (m c : Nat) (T : Option Addr) (k d : Nat) (l : List Int) (ts : List (List Int)) (b : Int) (A : Option Addr) (q cq : Nat) (t : List Int) (aS aR : Addr) (w : World) (hRS : RSent w aS aR) (hE : EType w) (hmc : m ≤ c) (hS : Row w S m (l.map Iv)) (hT : TabsU w T k ts) (hk : k ≤ 9223372036854775807) (hA : Row w A q (t.map Iv)) (hq : q ≤ cq) :
    Calls Tryd.prog 5 #[.agg #[.slice S m c, .slice T k d], .int .i64 b, .slice A q cq] w (Holds w) := by
  have HA0 := Lib.hid (row_take hA)
  have hq34 : min q 34 ≤ 34 := Nat.min_le_right _ _
  clear hA
  have hx := below_box w (.cells #[.slice S m c, .slice T k d] 25)
  have hbl : Blk (w.alloc (.cells #[.slice S m c, .slice T k d] 25)) w.heap.size 25 #[.slice S m c, .slice T k d] := heap_new rfl _
  have k0 := pbox0 w 25 (.slice S m c) (.slice T k d)
  have k1 := pbox1 w 25 (.slice S m c) (.slice T k d)
  have HRS := Lib.hid hRS
  have HE := Lib.hid hE
  have HB := Lib.hid hx
  have HBL := Lib.hid hbl
  have HR0 := Lib.hid (row_few hS)
  have HT0 := Lib.hid hT
  have hm34 : min m 34 ≤ 34 := Nat.min_le_right _ _
  clear hRS hE hx hbl hS hT
  go_enter Tryd.func5, Tryd.ntmps5
  go_wp2_with fail
  generalize w.alloc (.cells #[.slice S m c, .slice T k d] 25) = W0 at *
  refine (pshown_any aS aR W0 (HRS.out.ext HB.out) (HE.out.ext HB.out)).mono ?_
  rintro e w1 ⟨rfl, hb1⟩
  replace k0 := cell_ext hb1 k0
  replace k1 := cell_ext hb1 k1
  replace HBL := Lib.hid (HBL.out.ext hb1)
  replace HB := Lib.hid (below_le HB.out hb1)
  clear hb1
  have hlt0 := HBL.out.lt
  go_wp2_with fail
  refine (cut10_any S m c T k d ts w w1 HB.out hmc HT0.out hk).mono ?_
  rintro e w2 ⟨T', k', d', rfl, hk34, htc, hb2⟩
  generalize min m 34 = m' at *
  have h2 := HBL.out.ext hb2
  have f0 := h2.frozen 0
  have f1 := h2.frozen 1
  have d0 := h2.cell 0
  have d1 := h2.cell 1
  have h3 := (h2.set_ 0 (.slice S m' c)).set_ 1 (.slice T' k' d')
  have hb3 : Below w.heap.size w ((w2.setCell ⟨w.heap.size, 0, none⟩ (.slice S m' c)).setCell ⟨w.heap.size, 1, none⟩ (.slice T' k' d')) :=
    ((below_le HB.out hb2).setCell (p := ⟨w.heap.size, 0, none⟩) (Nat.le_refl _) _).setCell (p := ⟨w.heap.size, 1, none⟩) (Nat.le_refl _) _
  have ht3 := ((htc.far (p := ⟨w.heap.size, 0, none⟩) (Nat.le_refl _) hlt0 (.slice S m' c)).far (p := ⟨w.heap.size, 1, none⟩) (Nat.le_refl _) hlt0 (.slice T' k' d')).tabs
  replace k0 := h3.cell 0
  replace k1 := h3.cell 1
  simp at k0 k1 d0 d1
  have HT := Lib.hid ht3
  have HR := Lib.hid (HR0.out.ext hb3)
  replace HB := Lib.hid hb3
  generalize l.take 34 = l at *
  generalize cutTs ts = ts at *
  clear h2 h3 hb2 hb3 htc ht3 HBL HR0 HT0 hlt0 hmc
  go_wp2_with fail
  generalize (w2.setCell ⟨w.heap.size, 0, none⟩ (.slice S m' c)).setCell ⟨w.heap.size, 1, none⟩ (.slice T' k' d') = W3 at *
  clear f0 f1 d0 d1
  have hll : l.length ≤ 34 := by have h := HR.out.1; simp at h; omega
  have htl : ts.length ≤ 34 := by have h := HT.out.1; omega
  refine (cut07_any A q cq W3 hq).mono ?_
  rintro e w4 ⟨rfl, rfl⟩
  have HA := Lib.hid (HA0.out.ext HB.out)
  clear HA0 hq
  generalize min q 34 = q' at *
  generalize t.take 34 = t at *
  go_wp2_with fail
  refine (set_any S m' c T' k' d' l ts b A q' cq t W3 (HE.out.ext HB.out) HR.out HT.out (by omega) (by omega) HA.out (by omega)).mono ?_
  rintro e w5 ⟨v_, rfl, hp_, hb_⟩
  obtain ⟨Sx, mx, cx, Tx, kx, dx, rfl, hR_, hT_, -⟩ := hp_.read
  have hmx : mx ≤ 1000 := by have h_ := hR_.1; rw [List.length_map] at h_; have h2_ := setL_len l ts b t; omega
  have hkx : kx ≤ 1000 := by have h_ := hT_.1; have h2_ := setT_len l ts b t; omega
  replace k0 := cell_ext hb_ k0
  replace k1 := cell_ext hb_ k1
  replace HR := Lib.hid (HR.out.ext hb_)
  replace HT := Lib.hid (HT.out.ext hb_)
  replace HA := Lib.hid (HA.out.ext hb_)
  have Rx := Lib.hid hR_
  have Txh := Lib.hid hT_
  replace HB := Lib.hid (below_le HB.out hb_)
  clear hp_ hR_ hT_ hb_
  cases hO : setOk l ts b t
  · obtain ⟨h1, h2, h3⟩ := setC_no hO
    rw [h2] at Rx
    obtain rfl : mx = 0 := by have := Rx.out.1; simpa using this.symm
    clear h2 Rx Txh hO
    have hx := below_box w5 (.cells #[.slice Sx 0 cx, .slice Tx kx dx] 25)
    replace k0 := cell_ext hx k0; replace k1 := cell_ext hx k1; replace HR := Lib.hid (HR.out.ext hx); replace HT := Lib.hid (HT.out.ext hx)
    have x0 := pbox0 w5 25 (.slice Sx 0 cx) (.slice Tx kx dx)
    replace HB := Lib.hid (below_le HB.out hx)
    cases hp : pRight l ts
    · obtain h4 : setC l ts b t = 100 := h3.2 hp
      rw [h4]
      clear h1 h3 h4 hx
      go_wp2_with fail
      generalize w5.alloc (.cells #[.slice Sx 0 cx, .slice Tx kx dx] 25) = W5 at *
      have h := pright_any S m' c T' k' d' l ts W5 HR.out HT.out (by omega) (by omega)
      rw [hp] at h
      refine h.mono ?_
      clear h hp
      rintro e w11 ⟨rfl, hb11⟩
      replace HB := Lib.hid (below_le HB.out hb11)
      clear hb11 k0 k1 x0
      go_wp2
      go_ret
      exact ⟨rfl, HB.out⟩
    · obtain ⟨cc, hcc⟩ : ∃ cc, setC l ts b t = cc := ⟨_, rfl⟩
      rw [hcc] at h1 h3 ⊢
      have hne : ((cc : Int) != 0) = true := by simpa using h1
      have hne2 : decide ((cc : Int) = 100) = false := by
        rw [decide_eq_false_iff_not]
        intro h
        have : cc = 100 := by omega
        rw [hp] at h3
        exact absurd (h3.1 this) (by decide)
      have hne3 : ((cc : Int) == 100) = false := by simpa using hne2
      clear h1 h3 hx hcc
      go_wp2_with fail
      generalize w5.alloc (.cells #[.slice Sx 0 cx, .slice Tx kx dx] 25) = W5 at *
      have h := pright_any S m' c T' k' d' l ts W5 HR.out HT.out (by omega) (by omega)
      rw [hp] at h
      refine h.mono ?_
      clear h hp
      rintro e w11 ⟨rfl, hb11⟩
      replace HB := Lib.hid (below_le HB.out hb11)
      clear hb11 k0 k1 x0
      go_wp2
      go_ret
      exact ⟨rfl, HB.out⟩
  · obtain ⟨i, rfl, hi, htl2, hp, hp2, ho, hL, hTT, h3, h4, h5⟩ := set_keeps hO
    rw [setC_ok hO]
    have hmx2 : mx = l.length := by have h := Rx.out.1; rw [hL] at h; simpa using h.symm
    have hkx2 : kx = ts.length := by have h := Txh.out.1; rw [hTT] at h; simpa using h.symm
    have HP := Lib.hid hp
    have HP2 := Lib.hid hp2
    have HO := Lib.hid ho
    have HC := Lib.hid (And.intro h3 (And.intro h4 h5))
    have HLL := Lib.hid hL
    have HTT := Lib.hid hTT
    clear hp hp2 ho h3 h4 h5 hO hL hTT
    have g1 : decide ((i : Int) < 0) = false := by simp
    have g2 : decide ((i : Int) ≥ (mx : Int)) = false := by simp; omega
    have g3 : decide ((i : Int) ≥ (kx : Int)) = false := by simp; omega
    have hi34 : i ≤ 34 := by omega
    have n1 : ¬ mx ≤ i := by omega
    have n2 : ¬ kx ≤ i := by omega
    have HMX := Lib.hid hmx2
    have HKX := Lib.hid hkx2
    have HTL := Lib.hid htl2
    have HI := Lib.hid hi
    clear hmx2 hkx2 htl2 hi
    have hx_ := below_box w5 (.cells #[.slice Sx mx cx, .slice Tx kx dx] 25)
    replace k0 := cell_ext hx_ k0
    replace k1 := cell_ext hx_ k1
    replace HR := Lib.hid (HR.out.ext hx_)
    replace HT := Lib.hid (HT.out.ext hx_)
    replace HA := Lib.hid (HA.out.ext hx_)
    replace Rx := Lib.hid (Rx.out.ext hx_)
    replace Txh := Lib.hid (Txh.out.ext hx_)
    have x0 := pbox0 w5 25 (.slice Sx mx cx) (.slice Tx kx dx)
    have x1 := pbox1 w5 25 (.slice Sx mx cx) (.slice Tx kx dx)
    replace HB := Lib.hid (below_le HB.out hx_)
    clear hx_
    go_wp2_with fail
    generalize w5.alloc (.cells #[.slice Sx mx cx, .slice Tx kx dx] 25) = W5 at *
    have h := pright_any Sx mx cx Tx kx dx _ _ W5 Rx.out Txh.out hmx hkx
    rw [HP2.out] at h
    refine (h).mono ?_
    rintro e w6 ⟨rfl, hb_⟩
    replace k0 := cell_ext hb_ k0
    replace k1 := cell_ext hb_ k1
    replace x0 := cell_ext hb_ x0
    replace x1 := cell_ext hb_ x1
    replace HR := Lib.hid (HR.out.ext hb_)
    replace HT := Lib.hid (HT.out.ext hb_)
    replace HA := Lib.hid (HA.out.ext hb_)
    replace Rx := Lib.hid (Rx.out.ext hb_)
    replace Txh := Lib.hid (Txh.out.ext hb_)
    replace HB := Lib.hid (below_le HB.out hb_)
    clear hb_
    clear h
    go_wp2_with fail
    have h := others_any S m' c T' k' d' Sx mx cx Tx kx dx _ _ _ _ i 1 w6 HR.out HT.out Rx.out Txh.out (by omega) (by omega) (by omega) HO.out
    rw [show ((1 : Nat) : Int) = 1 from rfl] at h
    refine (h).mono ?_
    rintro e w7 ⟨rfl, hb_⟩
    replace k0 := cell_ext hb_ k0
    replace k1 := cell_ext hb_ k1
    replace x0 := cell_ext hb_ x0
    replace x1 := cell_ext hb_ x1
    replace HR := Lib.hid (HR.out.ext hb_)
    replace HT := Lib.hid (HT.out.ext hb_)
    replace HA := Lib.hid (HA.out.ext hb_)
    replace Rx := Lib.hid (Rx.out.ext hb_)
    replace Txh := Lib.hid (Txh.out.ext hb_)
    replace HB := Lib.hid (below_le HB.out hb_)
    clear hb_
    clear h g1 g2 g3 n1 n2
    go_wp2_with fail
    refine (pcounts_any S m' c T' k' d' l ts w7 (HE.out.ext HB.out) HR.out HT.out (by omega) (by omega)).mono ?_
    rintro e w8 ⟨Ap, mp, cp, rfl, hR_, hb_⟩
    replace k0 := cell_ext hb_ k0
    replace k1 := cell_ext hb_ k1
    replace x0 := cell_ext hb_ x0
    replace x1 := cell_ext hb_ x1
    replace HR := Lib.hid (HR.out.ext hb_)
    replace HT := Lib.hid (HT.out.ext hb_)
    replace HA := Lib.hid (HA.out.ext hb_)
    replace Rx := Lib.hid (Rx.out.ext hb_)
    replace Txh := Lib.hid (Txh.out.ext hb_)
    have Rp := Lib.hid hR_
    replace HB := Lib.hid (below_le HB.out hb_)
    clear hR_ hb_
    go_wp2_with fail
    refine (pcounts_any Sx mx cx Tx kx dx _ _ w8 (HE.out.ext HB.out) Rx.out Txh.out hmx hkx).mono ?_
    rintro e w9 ⟨Av, mv, cv, rfl, hR_, hb_⟩
    replace k0 := cell_ext hb_ k0
    replace k1 := cell_ext hb_ k1
    replace x0 := cell_ext hb_ x0
    replace x1 := cell_ext hb_ x1
    replace HR := Lib.hid (HR.out.ext hb_)
    replace HT := Lib.hid (HT.out.ext hb_)
    replace HA := Lib.hid (HA.out.ext hb_)
    replace Rx := Lib.hid (Rx.out.ext hb_)
    replace Txh := Lib.hid (Txh.out.ext hb_)
    replace Rp := Lib.hid (Rp.out.ext hb_)
    have Rv := Lib.hid hR_
    replace HB := Lib.hid (below_le HB.out hb_)
    clear hR_ hb_
    rw [show pcC l ts = 0 by unfold pcC; rw [HP.out]; rfl, show pcC (setL l ts i t) (setT l ts i t) = 0 by unfold pcC; rw [HP2.out]; rfl]
    rw [show pcL l ts = cntTo l 6 by unfold pcL; rw [HP.out]; rfl, cntTo_six] at Rp
    rw [show pcL (setL l ts i t) (setT l ts i t) = cntTo (setL l ts i t) 6 by unfold pcL; rw [HP2.out]; rfl, cntTo_six] at Rv
    obtain ⟨rfl, pb, po, rfl, -⟩ := row6 Rp.out
    obtain ⟨rfl, qb, qo, rfl, -⟩ := row6 Rv.out
    obtain ⟨c3, c4, c5⟩ := HC.out
    have B0 := count_len l 0
    have B1 := count_len l 1
    have B2 := count_len l 2
    have B5 := count_len l 5
    have e1 : IntKind.i64.wrap (((countL l 0 : Nat) : Int) + ((countL l 1 : Nat) : Int)) = ((countL l 0 : Nat) : Int) + ((countL l 1 : Nat) : Int) := IntWalk.i64_in _ (by omega)
    have e2 : IntKind.i64.wrap (((countL l 0 : Nat) : Int) + ((countL l 1 : Nat) : Int) + ((countL l 2 : Nat) : Int)) = ((countL l 0 : Nat) : Int) + ((countL l 1 : Nat) : Int) + ((countL l 2 : Nat) : Int) := IntWalk.i64_in _ (by omega)
    have e3 : IntKind.i64.wrap (((countL l 0 : Nat) : Int) + ((countL l 1 : Nat) : Int) + ((countL l 2 : Nat) : Int) + ((countL l 5 : Nat) : Int)) = ((countL l 0 : Nat) : Int) + ((countL l 1 : Nat) : Int) + ((countL l 2 : Nat) : Int) + ((countL l 5 : Nat) : Int) := IntWalk.i64_in _ (by omega)
    have e4 : IntKind.i64.wrap (((countL (setL l ts i t) 0 : Nat) : Int) + ((countL (setL l ts i t) 1 : Nat) : Int)) = ((countL (setL l ts i t) 0 : Nat) : Int) + ((countL (setL l ts i t) 1 : Nat) : Int) := IntWalk.i64_in _ (by omega)
    have e5 : IntKind.i64.wrap (((countL (setL l ts i t) 0 : Nat) : Int) + ((countL (setL l ts i t) 1 : Nat) : Int) + ((countL (setL l ts i t) 2 : Nat) : Int)) = ((countL (setL l ts i t) 0 : Nat) : Int) + ((countL (setL l ts i t) 1 : Nat) : Int) + ((countL (setL l ts i t) 2 : Nat) : Int) := IntWalk.i64_in _ (by omega)
    have e6 : IntKind.i64.wrap (((countL (setL l ts i t) 0 : Nat) : Int) + ((countL (setL l ts i t) 1 : Nat) : Int) + ((countL (setL l ts i t) 2 : Nat) : Int) + ((countL (setL l ts i t) 5 : Nat) : Int)) = ((countL l 0 : Nat) : Int) + ((countL l 1 : Nat) : Int) + ((countL l 2 : Nat) : Int) + ((countL l 5 : Nat) : Int) := by rw [IntWalk.i64_in _ (by omega)]; omega
    rw [c3, c4] at Rv
    clear c3 c4 c5 B0 B1 B2 B5 HC
    generalize ((countL (setL l ts i t) 0 : Nat) : Int) = y0 at *
    generalize ((countL (setL l ts i t) 1 : Nat) : Int) = y1 at *
    generalize ((countL (setL l ts i t) 2 : Nat) : Int) = y2 at *
    generalize ((countL (setL l ts i t) 5 : Nat) : Int) = y5 at *
    generalize ((countL l 0 : Nat) : Int) = z0 at *
    generalize ((countL l 1 : Nat) : Int) = z1 at *
    generalize ((countL l 2 : Nat) : Int) = z2 at *
    generalize ((countL l 3 : Nat) : Int) = z3 at *
    generalize ((countL l 4 : Nat) : Int) = z4 at *
    generalize ((countL l 5 : Nat) : Int) = z5 at *
    have hmx2 := HMX.out
    have hkx2 := HKX.out
    have htl2 := HTL.out
    have hi := HI.out
    obtain ⟨Sb, So, sx, rfl, sc, se, -⟩ := num_at Rx.out (k := i) (by omega)
    obtain ⟨Tb, To, A1, n1, d1, t1, rfl, tc, -, hn1, tr, -, te⟩ := Txh.out.at_ (j := i) (by omega)
    have hi1 : (i : Int) < (mx : Int) := by omega
    have hi2 : (i : Int) < (kx : Int) := by omega
    have hsx : decide (sx ≤ 2) = true := by
      rw [HLL.out, getD_set_eq l i i _ hi, if_pos rfl] at se
      have := (state_le t).2
      rw [decide_eq_true_eq]; omega
    have ht1 : t1 = t := by
      rw [HTT.out] at te
      rw [← te]
      simp [show i < ts.length by omega]
    subst ht1
    clear se te hmx2 hkx2 htl2 hi HMX HKX HTL HI
    have TR := Lib.hid tr
    clear tr
    have CI : Hid (∀ x : Ext w9, Calls Tryd.prog 18 #[.slice A1 n1 d1, .slice A q' cq] x.val fun e w' => e = .returned (.bool true) ∧ Below x.val.heap.size x.val w') := Lib.hid (fun x => by
      have h := ints_any A1 A n1 d1 q' cq t1 t1 x.val (TR.out.ext x.below) (HA.out.ext x.below) (by omega) (by omega)
      rwa [decide_eq_true rfl] at h)
    obtain ⟨p0, p1, p2, p3, p4, p5⟩ := row6c Rp.out
    obtain ⟨q0, q1, q2, q3, q4, q5⟩ := row6c Rv.out
    replace p0 := ext_cell p0
    replace p1 := ext_cell p1
    replace p2 := ext_cell p2
    replace p3 := ext_cell p3
    replace p4 := ext_cell p4
    replace p5 := ext_cell p5
    replace q0 := ext_cell q0
    replace q1 := ext_cell q1
    replace q2 := ext_cell q2
    replace q3 := ext_cell q3
    replace q4 := ext_cell q4
    replace q5 := ext_cell q5
    replace x0 := ext_cell x0
    replace x1 := ext_cell x1
    replace sc := ext_cell sc
    replace tc := ext_cell tc
    clear Rp Rv k0 k1 TR HA HR HT Rx Txh
    go_wp2
    refine wp_region_plan [(0, true), (1, true), (2, true), (3, true), (4, true), (5, true), (6, true), (7, true), (8, true), (9, true), (10, true), (11, true), (12, true), (13, true), (14, true), (15, true), (16, true), (17, true), (18, true), (19, true), (20, true), (21, true), (22, true), (23, true), (24, true), (25, true), (26, true), (27, true), (28, true), (29, true), (30, true), (31, true), (32, true), (33, true), (34, true), (35, true), (36, true), (37, true), (38, true), (39, true), (40, true), (41, true), (42, true), (43, true), (44, true), (45, true), (46, true), (47, true), (48, true), (49, true), (50, true), (51, true), (52, true), (53, true), (54, true), (55, true), (56, true), (57, true), (58, true), (59, true), (60, true), (61, true), (62, true), (63, true), (64, true), (65, true), (66, true), (67, true), (68, true), (69, true), (70, true), (71, true), (72, true), (73, true), (74, true), (75, true), (76, true), (77, true)] (by kernel_rfl) (by kernel_rfl) ?_
    repeat (first | (refine plan_skip rfl rfl ?_; go_frame) | (refine plan_soft rfl rfl (fun K hK => ?_); go_simp; first | (refine hK _ ?_; clear hK K) | (apply Exists.intro; refine ⟨fun x => ?_, hK _ ?_⟩; (· (go_at_call 18; exact CI.out x)); clear hK K; try go_frame)))
    refine plan_nil ?_; intro wo h0b; have Hbo := Lib.hid h0b; clear h0b
    replace HB := Lib.hid (below_le HB.out Hbo.out)
    clear p0 p1 p2 p3 p4 p5 q0 q1 q2 q3 q4 q5 x0 x1 sc tc
    go_wp2
    go_ret
    exact ⟨rfl, HB.out⟩

end Go.Proofs.YtllanbggjfmfhaaDoor
namespace Go.Proofs.YtllanbggjfmfhaaDoor
open Go.ChangeShapes Go.WideShapes Go.ChangeAt Go.RowKit

theorem own0 : ownKnob Tryd.prog.godebug = none := by kernel_rfl
theorem laidOut0 : laidOutB Tryd.prog = true := by kernel_rfl
theorem star0 : "*" ++ "errors.errorString" = "*errors.errorString" := by decide
theorem rowErr (u : TypeId) (h : Tryd.prog.typeName? 3 u = some "*errors.errorString") : u = 139 :=
  typeName_ptr_named (nm := "errors.errorString") (by rw [star0]; kernel_rfl) (by kernel_rfl) (by decide) u (by rw [star0]; exact h)
theorem gS0 : Tryd.prog.globalNamed "selion/run.errState" = some 0 := by kernel_rfl
theorem gR0 : Tryd.prog.globalNamed "selion/run.errRun" = some 1 := by kernel_rfl
theorem gS1 : (Tryd.prog.globals[0]?).map (·.type) = some 50 := by kernel_rfl
theorem gR1 : (Tryd.prog.globals[1]?).map (·.type) = some 50 := by kernel_rfl

theorem under_err : ∃ te f, Tryd.prog.underlying 139 = some (.pointer te) ∧ Tryd.prog.underlying te = some (.struct #[f]) ∧ f.type = 9 ∧ f.offset = 0 ∧ Tryd.prog.cellsOf te = 1 :=
  ⟨_, _, Tryd.underlying139, Tryd.underlying161, rfl, rfl, by kernel_rfl⟩
theorem under_iface : ∃ ms, Tryd.prog.underlying 50 = some (.interface ms) := ⟨_, Tryd.underlying50⟩
theorem cells_str : Tryd.prog.cellsOf 9 = 1 := by kernel_rfl
abbrev row0 : OpenClaim := Rows.poolKeepsRow

theorem gT0 : Tryd.prog.globalNamed "errors.errorType" = some 2 := by kernel_rfl
theorem rt0 : (Tryd.prog.cutTypes.find? (·.1 == "internal/reflectlite.rtype")).map (·.2) = some 124 := by kernel_rfl
theorem oneRow0 : ((List.range Tryd.prog.types.size).filter fun t => Tryd.prog.rowNamed t [101, 114, 114, 111, 114]) = [50] := by kernel_rfl
theorem hnd0 : typeHandle Tryd.prog 50 = hnd 50 := by kernel_rfl

/-- What the condition gives of errors' own variable: the handle of the type error. -/
theorem handle0 {W : World} (h : laidMetH Tryd.prog row0.laid W) : EType W := by
  have h1 := h.filter (fun x => x.1 == "errors.errorType")
  have h' : laidMet Tryd.prog [] W ∧ handlesMet Tryd.prog [("errors.errorType", Rows.laid_errors_errorType)] W := h1
  obtain ⟨name, u, ty, e1, e2, e3, e4, e5⟩ := h'.2 _ (List.mem_singleton.2 rfl)
  have en : name = [101, 114, 114, 111, 114] := (Option.some.inj e1).symm
  subst en
  obtain rfl := Option.some.inj (rt0.symm.trans e2)
  have hm : ty ∈ (List.range Tryd.prog.types.size).filter fun t => Tryd.prog.rowNamed t [101, 114, 114, 111, 114] := List.mem_filter.2 ⟨List.mem_range.2 e3, e4⟩
  rw [oneRow0] at hm
  obtain rfl := List.mem_singleton.1 hm
  rw [hnd0] at e5
  have := World.var?_cell gT0 e5 0
  show W.cell? _ = _
  simpa using this

/-- What the row's list gives: the two sentinels, each one's own, and the handle. -/
theorem sents {W : World} (h : laidMetH Tryd.prog row0.laid W) : ∃ aS aR, RSent W aS aR ∧ EType W := by
  have h' : laidMet Tryd.prog [("selion/run.errState", Rows.laid_selion_run_errState), ("selion/run.errRun", Rows.laid_selion_run_errRun)] W := by
    have := h.filter (fun x => x.1 != "errors.errorType")
    rw [MakeChecks.laidMetH_plain _ _ _ (by kernel_rfl)] at this
    exact this
  obtain ⟨te, f, hp, he, hft, hfo, hc⟩ := under_err
  obtain ⟨ms, hi⟩ := under_iface
  obtain ⟨a0, a1, _, _, c0, c1, t0, t1, v0, v1, _, _, _, _, _, _, n01, b0, b1⟩ := laid_sentinels2 h' gS0 gS1 gR0 gR1 hi rowErr hp he hft hfo Tryd.underlying9 hc cells_str
  exact ⟨a0, a1, ⟨⟨by simpa using World.var?_cell gS0 v0 0, c0, t0, b0⟩, ⟨by simpa using World.var?_cell gR0 v1 0, c1, t1, b1⟩, n01⟩, handle0 h⟩

section
variable {H : Type} {enc : TypeId × Value → H} {P : Program}
theorem trodAll_stays (hl : laidOutB P = true) {W W' : World} (hb : Below W.heap.size W W') (sp : Nat → Bool) : ∀ (ts : List TypeId) (vs : List Value) (ds : List (DataW H)) (ps : List MemPlace),
    (ts.all fun t => P.readableRec t && decide (t < P.types.size)) = true → DataW.TrodAll enc P W 0 (fun _ => true) true ts vs ds ps → (∀ x ∈ ps, x.block < W.heap.size) → (∀ x ∈ ps, sp x.block = true) → DataW.TrodAll enc P W' 0 sp true ts vs ds ps
  | [], vs, ds, ps, _, h, _, _ => by
    obtain ⟨rfl, rfl, rfl⟩ := trodAll_nil h
    exact trodAll_mk0
  | t :: ts, vs, ds, ps, hr, h, hlt, hsp => by
    simp only [List.all_cons, Bool.and_eq_true, decide_eq_true_eq] at hr
    obtain ⟨v, vs', d, ds', p, q, rfl, rfl, rfl, h1, h2⟩ := trodAll_cons h
    exact trodAll_cons_mk (WideElems.Trod_stays hl hr.1.1 hr.1.2 h1 (fun x hx => hb.same (hlt x (List.mem_append_left _ hx))) (fun x hx => hsp x (List.mem_append_left _ hx)))
      (trodAll_stays hl hb sp ts vs' ds' q hr.2 h2 (fun x hx => hlt x (List.mem_append_right _ hx)) (fun x hx => hsp x (List.mem_append_right _ hx)))

theorem post_below {f : Func} {s : ChangeSpec} {apart fresh handsOn again : Bool} {W W' : World} {args : Array Value} {v : Value} {ds gs : List (DataW H)} {before pa pv : List MemPlace}
    (hW : DataW.Whole enc P f.params.toList s.vars apart W args.toList ds gs before)
    (hres : ∀ (b : Nat) (sp : Nat → Bool) (hd : Bool), DataW.TrodAll enc P W' b sp hd f.resultTypes.toList (v.resultList f.resultTypes.size) (s.fn H (ds ++ gs)).results [])
    (hargs : ∀ sp : Nat → Bool, (∀ p ∈ before, sp p.block = true) → DataW.TrodAll enc P W' 0 sp true f.params.toList args.toList (s.fn H (ds ++ gs)).args pa)
    (hvars : ∀ sp : Nat → Bool, (∀ p ∈ before, sp p.block = true) → DataW.TrodVars enc P W' sp s.vars (s.fn H (ds ++ gs)).vars pv)
    (hps : before = pa ++ pv) (hb : Below W.heap.size W W')
    (hok : ∀ (j : Nat) (t : TypeId) (r : Value), f.resultTypes[j]? = some t → (v.resultList f.resultTypes.size)[j]? = some r → Value.okWide P W' .any 0 t r) :
    s.post enc P f apart fresh handsOn again W args v W' := by
  have hlt : ∀ p ∈ before, p.block < W.heap.size := fun p hp => hW.lt p hp
  have hold : ∀ p ∈ before, (fun b => decide (b < W.heap.size)) p.block = true := fun p hp => by simpa using hlt p hp
  refine ⟨ds, gs, before, [], pa, pv, hW, hres _ _ _, hargs _ hold, hvars _ hold, World.keptBut_mono (fun p hp => ⟨hp, ?_⟩) (hb.frame (· ∈ before)), fun _ => ?_⟩
  · rw [hps, List.mem_append] at hp
    exact Or.inr hp
  · obtain ⟨_, _, _, _, _, hz, hn⟩ := hW
    refine ⟨hok, _, _, ([] ++ pa) ++ pv, ⟨[] ++ pa, pv, trodAll_append (hargs _ (fun _ _ => rfl)) (hres _ _ _), hvars _ (fun _ _ => rfl), rfl, ?_, ?_⟩, ?_⟩
    · intro b off hp
      have hin : MemPlace.cell b off ∈ before := by rw [hps]; simpa using hp
      rw [hb.frozen (hlt _ hin)]
      exact hz b off hin
    · intro ha
      have := hn ha
      rw [hps] at this
      simpa using this
    · intro p hp _
      rw [hps]
      simpa using hp

/-- THE ROW's LAST STEP, where the law returned true and what was stays. -/
theorem post_true {f : Func} {s : ChangeSpec} (hl : laidOutB P = true) {tb : TypeId} (htb : P.underlying tb = some .bool) (hrt : f.resultTypes = #[tb]) (hvs : s.vars = []) (hr : (f.params.toList.all fun t => P.readableRec t && decide (t < P.types.size)) = true)
    {W W' : World} {args : Array Value} {ds gs : List (DataW H)} {before : List MemPlace}
    (hW : DataW.Whole enc P f.params.toList s.vars false W args.toList ds gs before) (hfn : s.fn H (ds ++ gs) = { results := [.lit (.bool true)], args := ds }) (hb : Below W.heap.size W W') :
    s.post enc P f false true false false W args (.bool true) W' := by
  have hW' := hW
  have hlt : ∀ p ∈ before, p.block < W.heap.size := fun p hp => hW.lt p hp
  obtain ⟨p, q, hA, hV, rfl, hfz, hnd⟩ := hW
  rw [hvs] at hV
  obtain ⟨rfl, rfl⟩ := trodVars_none hV
  simp only [List.append_nil] at hlt hW' hfn
  refine post_below (pa := p) (pv := []) hW' (fun b sp hd => ?_) (fun sp hsp => ?_) (fun sp _ => ?_) (by simp) hb (ok_one hrt rfl (okWide_bool_mk htb _))
  · rw [List.append_nil, hfn, hrt]
    exact trodAll_cons_mk (shut_bool htb _) trodAll_mk0
  · rw [List.append_nil, hfn]
    exact trodAll_stays hl hb sp _ _ _ _ hr hA (fun x hx => hlt x hx) (fun x hx => hsp x hx)
  · rw [List.append_nil, hfn, hvs]
    rfl
end

theorem row_of_cells {W : World} {a : Addr} {len cap : Nat} {zs : List Int} (hl : len ≤ cap) (hz : zs.length = cap) (hc : ∀ i, i < cap → W.cell? (a.add i) = some (.int .i64 (zs.getD i 0))) : Row W (some a) len ((zs.take len).map Iv) := by
  refine ⟨by simp; omega, fun hp => ?_⟩
  have hs0 : a.spot = none := by simpa [Addr.add] using World.cell?_spot (hc 0 (by omega))
  obtain ⟨b, off, spot⟩ := a
  obtain rfl : spot = none := hs0
  refine ⟨b, off, rfl, fun j u hu => ?_⟩
  have hj : j < len := by
    have := (List.getElem?_eq_some_iff.1 hu).1
    simp at this
    omega
  have h2 := hc j (by omega)
  have e : (⟨b, off, none⟩ : Addr).add j = ⟨b, off + j, none⟩ := by
    unfold Addr.add
    by_cases h : j = 0 <;> simp [h]
  rw [e] at h2
  simp [hj, show j < zs.length by omega, Iv] at hu
  rw [h2, ← hu]
  simp [show j < zs.length by omega]

set_option maxRecDepth 100000 in
/-- A list of numbers, opened. -/
theorem open_list {H : Type} {enc : TypeId × Value → H} {W : World} {b : Nat} {v : Value} {d : DataW H} {p : List MemPlace} (hv : Value.okWide Tryd.prog W .any b 22 v) (h : DataW.Trod enc Tryd.prog W 0 (fun _ => true) true 22 v d p) :
    ∃ (A : Option Addr) (m c : Nat) (l : List Int), v = .slice A m c ∧ Row W A m (l.map Iv) ∧ (∀ x ∈ l, -9223372036854775808 ≤ x ∧ x ≤ 9223372036854775807) ∧ m ≤ c := by
  obtain ⟨A, m, c, rfl⟩ : ∃ A m c, v = .slice A m c := okWide_slice Tryd.underlying22 hv
  obtain ⟨fuel, h1⟩ := h
  rcases open_ints Tryd.underlying22 Tryd.underlying3 (by kernel_rfl) h1 with ⟨hs, _⟩ | ⟨a, len, cap, zs, hs, _, hl, _, hz, _, hc, hw⟩
  · obtain ⟨rfl, rfl, rfl⟩ : A = none ∧ m = 0 ∧ c = 0 := by simpa [Value.cells] using hs
    exact ⟨none, 0, 0, [], rfl, Row.none_, by simp, Nat.le_refl _⟩
  · obtain ⟨rfl, rfl, rfl⟩ : some a = A ∧ len = m ∧ cap = c := by simpa [Value.cells, eq_comm] using hs
    rw [if_pos rfl] at hz
    refine ⟨some a, len, cap, zs.take len, rfl, ⟨by simp; omega, fun hp => ?_⟩, fun x hx => bounds_i64 (hw x (List.mem_of_mem_take hx)), hl⟩
    have hs0 : a.spot = none := by simpa [Addr.add] using World.cell?_spot (hc 0 (by omega))
    obtain ⟨b, off, spot⟩ := a
    obtain rfl : spot = none := hs0
    refine ⟨b, off, rfl, fun j u hu => ?_⟩
    have hj : j < len := by
      have := (List.getElem?_eq_some_iff.1 hu).1
      simp at this
      omega
    have hjz : j < zs.length := by omega
    have h2 := hc j hjz
    simp [hj, hjz] at hu
    rw [addr_add] at h2
    simp [hjz] at h2
    rw [h2, ← hu, Iv]

set_option maxRecDepth 100000 in
/-- A pool, opened. -/
theorem open_pool {H : Type} {enc : TypeId × Value → H} {W : World} {b : Nat} {v : Value} {d : DataW H} {p : List MemPlace} (hv : Value.okWide Tryd.prog W .any b 25 v) (h : DataW.Trod enc Tryd.prog W 0 (fun _ => true) true 25 v d p) :
    ∃ (S : Option Addr) (m c : Nat) (T : Option Addr) (k d : Nat) (l : List Int) (ts : List (List Int)), v = .agg #[.slice S m c, .slice T k d] ∧ Row W S m (l.map Iv) ∧ TabsU W T k ts ∧ m ≤ c ∧ k ≤ 9223372036854775807 := by
  obtain ⟨v0, v1, y0, y1, q, rfl, _, _, h0, h1⟩ := Joins.open_agg2 Tryd.underlying25 (by kernel_rfl) (by kernel_rfl) hv h
  have hs0 : ∃ (S : Option Addr) (m c : Nat) (l : List Int), v0 = .slice S m c ∧ Row W S m (l.map Iv) ∧ m ≤ c := by
    rcases open_ints Tryd.underlying22 Tryd.underlying3 (by kernel_rfl) h0 with ⟨hs, _⟩ | ⟨a, len, cap, zs, hs, _, hl, _, hz, _, hc, hw⟩
    · obtain rfl : v0 = .slice none 0 0 := by simpa using hs
      exact ⟨none, 0, 0, [], rfl, Row.none_, Nat.le_refl _⟩
    · obtain rfl : v0 = .slice (some a) len cap := by simpa using hs
      rw [if_pos rfl] at hz
      exact ⟨some a, len, cap, zs.take len, rfl, row_of_cells hl hz (fun i hi => hc i (by omega)), hl⟩
  obtain ⟨S, m, c, l, rfl, hR, hmc⟩ := hs0
  rcases Deep.open_int_rows Tryd.underlying23 Tryd.underlying22 Tryd.underlying3 (by kernel_rfl) (by kernel_rfl) h1 with ⟨hs, _⟩ | ⟨a, len, cap, A, L, C, Z, hs, _, hl, hcm, _, hr⟩
  · obtain rfl : v1 = .slice none 0 0 := by simpa using hs
    exact ⟨S, m, c, none, 0, 0, l, [], rfl, hR, ⟨rfl, fun h => absurd h (by omega)⟩, hmc, by omega⟩
  · obtain rfl : v1 = .slice (some a) len cap := by simpa using hs
    refine ⟨S, m, c, some a, len, cap, l, (List.range len).map fun r => (Z r).take (L r), rfl, hR, ⟨by simp, fun hp => ?_⟩, hmc, by unfold maxLen at hcm; omega⟩
    have hs0 : a.spot = none := by simpa [Addr.add] using World.cell?_spot (hr 0 (by omega)).1
    obtain ⟨b, off, spot⟩ := a
    obtain rfl : spot = none := hs0
    refine ⟨b, off, rfl, fun j t ht => ?_⟩
    rw [List.getElem?_map] at ht
    have hj : j < len := by
      rcases Nat.lt_or_ge j len with h | h
      · exact h
      · rw [List.getElem?_eq_none (by simpa using h)] at ht; cases ht
    rw [List.getElem?_eq_getElem (by simpa using hj)] at ht
    simp at ht
    subst ht
    obtain ⟨e1, e2, e3, e4, _, e6, e7⟩ := hr j (by omega)
    have e : (⟨b, off, none⟩ : Addr).add j = ⟨b, off + j, none⟩ := by
      unfold Addr.add
      by_cases h : j = 0 <;> simp [h]
    rw [e] at e1
    refine ⟨A j, L j, C j, e1, e2, ?_⟩
    cases hA : A j with
    | none =>
      have := e6 hA
      have hL0 : L j = 0 := by omega
      rw [hL0]
      simpa using Row.none_
    | some a' => exact row_of_cells e2 e4 (e7 a' hA).2

/-- THE DOOR's OWN HEAP MEETS THE CONDITION. -/
theorem door_met (os : Os) (args : Array Value) : laidMetH Tryd.prog row0.laid ((World.doorLaid Tryd.prog 200 os).forCall (fun _ _ => 0) ⟨#[], args, []⟩).memory :=
  laidMetH_of_parts3 (fuel := 8) (laidMet_of_run' 8 (by kernel_rfl) (by kernel_rfl)) (by kernel_rfl) (by kernel_rfl)

end Go.Proofs.YtllanbggjfmfhaaDoor
namespace Go.Proofs.YtllanbggjfmfhaaDoor.PoolLays
open Go.ChangeShapes Go.WideShapes Go.ChangeAt Go.RowKit

set_option maxRecDepth 100000 in
theorem contract (H : Type) (enc : TypeId × Value → H) (W : World) (base : Nat) (args : Array Value) (ds gs : List (DataW H)) (before : List MemPlace)
    (hval : ∀ (j : Nat) t v, Tryd.f5.params[j]? = some t → args[j]? = some v → Value.okWide Tryd.prog W .any base t v)
    (hW : DataW.Whole enc Tryd.prog Tryd.f5.params.toList Rows.poolLaysSpec.vars false W args.toList ds gs before) (hL : laidMetH Tryd.prog Rows.poolLaysRow.laid W) :
    Calls Tryd.prog 5 args W fun e W' => ∃ v, e = .returned v ∧ Rows.poolLaysSpec.post enc Tryd.prog Tryd.f5 false true false false W args v W' := by
  have hW' := hW
  obtain ⟨p, q, hA0, hV, rfl, hfz, hnd⟩ := hW
  have hA : DataW.TrodAll enc Tryd.prog W 0 (fun _ => true) true Tryd.f5.params.toList args.toList ds p := hA0
  rw [Tryd.params5] at hA hval
  obtain ⟨v0, vs0, d0, ds0, p0, q0, hargs, rfl, rfl, h0, r0⟩ := trodAll_cons hA
  obtain ⟨v1, vs1, d1, ds1, p1, q1, rfl, rfl, rfl, h1, r1⟩ := trodAll_cons r0
  obtain ⟨v2, vs2, d2, ds2, p2, q2, rfl, rfl, rfl, h2, r2⟩ := trodAll_cons r1
  obtain ⟨rfl, rfl, rfl⟩ := trodAll_nil r2
  obtain rfl : args = #[v0, v1, v2] := by cases args; simp_all
  obtain ⟨rfl, rfl⟩ := trodVars_none hV
  obtain ⟨S0, m0, c0, T0, k0, e0, l0, t0, rfl, hS0, hT0, hc0, hk0⟩ := open_pool (hval 0 _ v0 rfl rfl) h0
  obtain ⟨i1, rfl, rfl, rfl, b1⟩ := open_int Tryd.underlying3 (hval 1 _ v1 rfl rfl) h1
  obtain ⟨A2, m2, c2, l2, rfl, hR2, hF2, hc2⟩ := open_list (hval 2 _ v2 rfl rfl) h2
  obtain ⟨aS, aR, hRS, hE⟩ := sents hL
  refine (poolLays_any S0 m0 c0 T0 k0 e0 l0 t0 i1 A2 m2 c2 l2 aS aR W hRS hE hc0 hS0 hT0 hk0 hR2 hc2).mono fun e W' ⟨he, hb⟩ => ?_
  subst he
  exact ⟨_, rfl, post_true laidOut0 Tryd.underlying4 (by kernel_rfl) rfl (by kernel_rfl) hW' rfl hb⟩

noncomputable def wArgs : Array Value := #[.agg #[.slice none 0 0, .slice none 0 0], .int .i64 0, .slice none 0 0]

theorem reads (os : Os) {H : Type} (enc : TypeId × Value → H) : ∃ places, DataW.whole enc Tryd.prog ((World.doorLaid Tryd.prog 200 os).forCall (fun _ _ => 0) ⟨#[], wArgs, []⟩).memory Tryd.f5.params.toList Rows.poolLaysSpec.vars false wArgs.toList 8 = some ([.agg [.nil, .nil], .lit (.int .i64 0), .nil], [], places) :=
  ⟨[], by kernel_rfl⟩

set_option maxRecDepth 100000 in
theorem lifted (os : Os) (started : os.Started) (H : Type) (enc : TypeId × Value → H) (F : Stop.Interp) :
    ReturnsInHanded {} Tryd.checked os 5 .any ((OpenSpec.ofChange Rows.poolLaysSpec).preRow enc Tryd.prog Tryd.f5 Rows.poolLaysRow.domain false Rows.poolLaysRow.laid) (((OpenSpec.ofChange Rows.poolLaysSpec).at F).post enc Tryd.prog Tryd.f5 false true false false) := by
  obtain ⟨places, hx⟩ := reads os enc
  refine returnsInHanded_of_row (C := Tryd.checked) (s := OpenSpec.ofChange Rows.poolLaysSpec) own0 started (by kernel_rfl) Tryd.func5
    (witness_row_atRef (enc := enc) (C := Tryd.checked) false (World.doorLaid Tryd.prog 200 os) wArgs rfl (by kernel_rfl) (by kernel_rfl) (by kernel_rfl)
      (OpenSpec.preRow_of_cond 8 hx (by kernel_rfl) (fun k hk => by cases hk) (by kernel_rfl) (door_met os _))) ?_
  intro W base args ds gs before hval hW _ _ _ hL _ _
  exact contract H enc W base args ds gs before hval hW hL

theorem said : Rows.PoolLaysSaid :=
  OpenClaim.holds_of_cond 5 Tryd.f5 rfl rfl rfl rfl rfl rfl rfl ⟨rfl, rfl, rfl, rfl, rfl⟩ rfl rfl rfl rfl rfl (by kernel_rfl) Tryd.func5 (by kernel_rfl)
    (of_decide_eq_true (by kernel_rfl)) (by unfold Func.isWrapper; first | (rw [if_pos (by decide +kernel)]; kernel_rfl) | (rw [if_neg (by decide +kernel)]; exact ⟨rfl, rfl⟩))
    (fun os started H enc _ F => by rw [OpenClaim.pre_eq_preRow]; exact lifted os started H enc F)

theorem plain (f : FuncId) (fn : Func) (hf : Tryd.pinned.checked.prog.funcNamed "selion/selionlaw10.PoolLays" = some f) (hfn : Tryd.pinned.checked.prog.funcs[f]? = some fn) :
    true = Tryd.pinned.checked.prog.looks [] ∧ ∀ (j : Nat) t, fn.params[j]? = some t → Tryd.pinned.checked.prog.wantsStandIn t = false := by
  obtain rfl : f = 5 := Option.some.inj ((show Tryd.prog.funcNamed "selion/selionlaw10.PoolLays" = some 5 by kernel_rfl).symm.trans hf) |>.symm
  obtain rfl : fn = Tryd.f5 := (Option.some.inj (Tryd.func5.symm.trans hfn)).symm
  refine ⟨by kernel_rfl, fun j t ht => ?_⟩
  have h : (Tryd.f5.params.toList.all fun t => !Tryd.prog.wantsStandIn t) = true := by kernel_rfl
  have := List.all_eq_true.1 h t (by simpa using Array.mem_of_getElem? ht)
  show Tryd.prog.wantsStandIn t = false
  simpa using this

/-- THE CARD. -/
theorem card : Rows.PoolLaysCardSaid :=
  Claim7.holds_tied_plain_at .later [] _ _ _ _ said (fun _ h => by cases h) (by kernel_rfl) (fun _ h => by cases h) poolLays_row_tie rfl ⟨rfl, rfl⟩ (by kernel_rfl) rfl plain (by kernel_rfl)
end Go.Proofs.YtllanbggjfmfhaaDoor.PoolLays
