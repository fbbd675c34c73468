/-
  What is proved: plain laws of pools: how many blocks have a state after one is set, or a large one put; what is put, and given back, is as it was. No program in sight. No condition beyond those stated. the cells of a list of six numbers. No condition beyond those stated. PoolBack returns true. No condition beyond those stated. contracts of those functions that this program has, and plain facts beside them. No condition beyond those stated. the row of PoolBack, and its tied card: whatever the input, true; the input reads as it did. No condition beyond the statement's own.
-/
import Derived.Test.YtllanbggjfmfhaaDoorId
import Derived.Test.YtllanbggjfmfhaaDoorIc
import Derived.Test.YtllanbggjfmfhaaDoorIa
import Derived.Test.YtllanbggjfmfhaaDoorCards
import Derived.Test.YtllanbggjfmfhaaDoorTie
import Derived.ProofKit
import Derived.OpenShut
import Derived.Below
import Derived.ChangeSame
import Derived.WideKeyArgs
import Derived.LaidMore
import Derived.LaidHandle
import Derived.MakeChecks
import Derived.Stop.Joined
import Derived.Stop.LaidErr
import Derived.Stop.LaidTwo
import Derived.Lib.SmallJoins
import Derived.Deep.Matrix
import Derived.Deep.DeepHandedRow
import Derived.Deep.DeepWitnessRowRef
namespace Go.Proofs.YtllanbggjfmfhaaDoor
open Go.RowKit Go.Shelf

theorem count_at {l : List Int} {i : Nat} {x a : Int} (hi : i < l.length) (h0 : l.getD i 0 = a) (s : Int) :
    countL (l.set i x) s + (if a = s then 1 else 0) = countL l s + (if x = s then 1 else 0) := by
  unfold countL
  have h1 : l[i] = a := by simpa [hi] using h0
  rw [List.countP_set hi, h1]
  by_cases e : a = s
  · have h2 : 0 < l.countP (· == s) := List.countP_pos_iff.2 ⟨l[i], List.getElem_mem hi, by simp [h1, e]⟩
    by_cases f : x = s
    · simp [e, f]; omega
    · simp [e, f]; omega
  · by_cases f : x = s <;> simp [e, f]

theorem put_counts {l : List Int} {f k : Nat} (h : PutIn l f k) : countL (putL l f k) 0 + k = countL l 0 ∧ countL (putL l f k) 3 = countL l 3 + 1 ∧ countL (putL l f k) 4 + 1 = countL l 4 + k := by
  have hk := h.hk
  have hfk := h.hfk
  have gen : ∀ j, 1 ≤ j → j ≤ k → countL (putL l f j) 0 + j = countL l 0 ∧ countL (putL l f j) 3 = countL l 3 + 1 ∧ countL (putL l f j) 4 + 1 = countL l 4 + j := by
    intro j
    induction j with
    | zero => intro h; omega
    | succ j ih =>
      intro _ hjk
      by_cases hj : j = 0
      · subst hj
        rw [← put_one (by omega)]
        have hz := h.hz f (by omega) (by omega)
        have a0 := count_at (x := 3) (by omega) hz 0
        have a3 := count_at (x := 3) (by omega) hz 3
        have a4 := count_at (x := 3) (by omega) hz 4
        simp at a0 a3 a4
        omega
      · rw [← put_step (by omega) (by omega)]
        obtain ⟨h1, h2, h3⟩ := ih (by omega) (by omega)
        have hz : (putL l f j).getD (f + j) 0 = 0 := by rw [put_get (by omega), if_neg (by omega), if_neg (by omega)]; exact h.hz _ (by omega) (by omega)
        have hl : f + j < (putL l f j).length := by rw [put_len]; omega
        have a0 := count_at (x := 4) hl hz 0
        have a3 := count_at (x := 4) hl hz 3
        have a4 := count_at (x := 4) hl hz 4
        simp at a0 a3 a4
        omega
  exact gen k hk (Nat.le_refl _)

theorem cntTo_six (l : List Int) : cntTo l 6 = [((countL l 0 : Nat) : Int), ((countL l 1 : Nat) : Int), ((countL l 2 : Nat) : Int), ((countL l 3 : Nat) : Int), ((countL l 4 : Nat) : Int), ((countL l 5 : Nat) : Int)] := rfl

/-- What a block that is taken changes of the counts. -/
theorem take_counts {l : List Int} {ts : List (List Int)} {s : Int} (hs : s = 0 ∨ s = 1) (h : takeOk l ts s = true) :
    pRight (takeL l ts s) (takeT l ts s) = true ∧ countL (takeL l ts s) s + 1 = countL l s ∧ countL (takeL l ts s) 5 = countL l 5 + 1 ∧ countL (takeL l ts s) (1 - s) = countL l (1 - s) := by
  obtain ⟨-, h2, -, h4, h5, h6, -⟩ := take_keeps hs h
  refine ⟨h2, ?_⟩
  rw [h6]
  have a1 := count_at (x := 5) h4 h5 s
  have a2 := count_at (x := 5) h4 h5 5
  have a3 := count_at (x := 5) h4 h5 (1 - s)
  rw [if_pos rfl, if_neg (by omega)] at a1
  rw [if_neg (by omega), if_pos rfl] at a2
  rw [if_neg (by omega), if_neg (by omega)] at a3
  exact ⟨by omega, by omega, by omega⟩
theorem run_counts {l : List Int} {ts : List (List Int)} {k : Int} (h : runOk l ts k = true) :
    1 ≤ k ∧ k ≤ 32 ∧ pRight (runL l ts k) (runT l ts k) = true ∧ (countL (runL l ts k) 0 : Int) = countL l 0 - k ∧ (countL (runL l ts k) 3 : Int) = countL l 3 + 1 ∧ (countL (runL l ts k) 4 : Int) = countL l 4 + k - 1 := by
  obtain ⟨-, h1, h2, h3, h4, -, h6, -⟩ := run_keeps h
  obtain ⟨a0, a3, a4⟩ := put_counts h3
  rw [h6] at h4 ⊢
  exact ⟨h1, h2, h4, by omega, by omega, by omega⟩
theorem takeOk_iff {l : List Int} {ts : List (List Int)} {s : Int} (hp : pRight l ts = true) : takeOk l ts s = decide (0 < countL l s) := by
  unfold takeOk
  rw [hp, firstOf_some]
  rfl
theorem pright_len {l : List Int} {ts : List (List Int)} (hp : pRight l ts = true) : 1 ≤ l.length ∧ l.length ≤ 32 := by
  have h := right_iff.1 (whole_iff.1 (pright_iff.1 hp).1).1
  exact ⟨h.1, h.2.1⟩

theorem empty_tab {t : List Int} (ht : tabB t = true) (h : cntN t = 0) : t = tab0 := by
  have hl := tab_len ht
  unfold cntN linesR at h
  rw [ht] at h
  simp only [if_true] at h
  have h2 : linesL t = [] := List.eq_nil_of_length_eq_zero h
  unfold linesL at h2
  rw [List.map_eq_nil_iff, List.filter_eq_nil_iff] at h2
  refine list_ext0 (by rw [hl]; rfl) fun i hi => ?_
  have h3 := h2 i (by rw [List.mem_range]; omega)
  unfold keptB at h3
  have h4 : t.getD i 0 = 0 := by
    by_cases e : t.getD i 0 = 0
    · exact e
    · exact absurd (by rw [Bool.or_eq_true]; exact .inl (bne_iff_ne.2 e)) h3
  rw [h4]
  have h5 : ∀ i, i < 32 → tab0.getD i 0 = 0 := by decide
  exact (h5 i (by omega)).symm

theorem hasB1 (y x : Int) : hasB [y] x = decide (x = y) := by simp [hasB]
theorem hasN_set {l : List Int} {i : Nat} {x : Int} {ws : List Int} (hi : i < l.length) (hx : hasB ws x = true) : hasN (l.set i x) (i : Int) ws = true := by
  unfold hasN
  rw [Int.toNat_natCast, getD_set_eq l i i x hi, if_pos rfl, hx]
  simp; omega
theorem set_set_same (l : List Int) (i : Nat) (x y : Int) : (l.set i x).set i y = l.set i y := by simp
theorem set_back {l : List Int} {i : Nat} {y : Int} (hi : i < l.length) (h : l.getD i 0 = y) : l.set i y = l := by
  refine list_ext0 (by simp) fun j hj => ?_
  rw [getD_set_eq l j i y hi]
  split
  · rename_i e; rw [e, h]
  · rfl
theorem set_back_t {ts : List (List Int)} {i : Nat} {t : List Int} (h : ts.getD i [] = t) : ts.set i t = ts := by
  by_cases hi : i < ts.length
  · have : ts[i] = t := by simpa [hi] using h
    rw [← this]; exact List.set_getElem_self hi
  · rw [List.set_eq_of_length_le (by omega)]

/-- A large one that is taken is dropped again. -/
theorem run_back {l : List Int} {ts : List (List Int)} {k : Int} (h : runOk l ts k = true) :
    1 ≤ k ∧ dropC (runL l ts k) (runT l ts k) (runN l ts k : Nat) = 0 ∧ ((dropN (runL l ts k) (runT l ts k) (runN l ts k : Nat) : Nat) : Int) = k ∧ dropL (runL l ts k) (runT l ts k) (runN l ts k : Nat) = l ∧ dropT (runL l ts k) (runT l ts k) (runN l ts k : Nat) = ts := by
  obtain ⟨hp, h1, h2, h3, h4, -, h6, h7⟩ := run_keeps h
  have hw := (pright_iff.1 hp).1
  have hk := h3.hk
  have hfk := h3.hfk
  have hc : cutOk (runL l ts k) (runN l ts k : Nat) = true := by
    rw [h6]
    unfold cutOk
    rw [Int.toNat_natCast, put_head h3, put_len]
    simp; omega
  have he : endC (runL l ts k) (runN l ts k : Nat) = runN l ts k + k.toNat := by
    unfold endC
    rw [h6, Int.toNat_natCast]
    exact put_end hw h3
  unfold dropC dropN dropL dropT
  rw [h4, hc, he, Int.toNat_natCast]
  simp only [Bool.and_self, if_true]
  refine ⟨h1, trivial, by omega, ?_, h7⟩
  rw [h6]
  exact put_cut h3
theorem run_free {l : List Int} {ts : List (List Int)} {k : Int} (h : runOk l ts k = true) : takeOk l ts 0 = true := by
  obtain ⟨hp, -, -, h3, -⟩ := run_keeps h
  rw [takeOk_iff hp]
  have := (put_counts h3).1
  have := h3.hk
  simp; omega

/-- A block that is taken, closed, and laid with an empty table, is free again. -/
theorem take_back {l : List Int} {ts : List (List Int)} (h : takeOk l ts 0 = true) :
    closeC (takeL l ts 0) (takeT l ts 0) (takeN l ts 0 : Nat) = 0 ∧ setC (closeL (takeL l ts 0) (takeT l ts 0) (takeN l ts 0 : Nat)) (closeT (takeL l ts 0) (takeT l ts 0) (takeN l ts 0 : Nat)) (takeN l ts 0 : Nat) tab0 = 0
    ∧ setL (closeL (takeL l ts 0) (takeT l ts 0) (takeN l ts 0 : Nat)) (closeT (takeL l ts 0) (takeT l ts 0) (takeN l ts 0 : Nat)) (takeN l ts 0 : Nat) tab0 = l
    ∧ setT (closeL (takeL l ts 0) (takeT l ts 0) (takeN l ts 0 : Nat)) (closeT (takeL l ts 0) (takeT l ts 0) (takeN l ts 0 : Nat)) (takeN l ts 0 : Nat) tab0 = ts := by
  obtain ⟨hp, h2, -, h4, h5, h6, h7⟩ := take_keeps (.inl rfl) h
  generalize takeN l ts 0 = i at *
  have hn : hasN (takeL l ts 0) (i : Nat) [5] = true := by rw [h6]; exact hasN_set h4 rfl
  have hcl : closeL (takeL l ts 0) (takeT l ts 0) (i : Nat) = l.set i 2 := by
    unfold closeL
    rw [h2, hn, Int.toNat_natCast, h6, set_set_same]; rfl
  have hct : closeT (takeL l ts 0) (takeT l ts 0) (i : Nat) = ts := by
    unfold closeT
    rw [h2, hn, h7]; rfl
  have hpr : pRight (l.set i 2) ts = true := pright_set hp h4 (by omega) (by omega) (.inl rfl)
  have hn2 : hasN (l.set i 2) (i : Nat) [1, 2, 5] = true := hasN_set h4 rfl
  have ht0 : tabB tab0 = true := by decide
  have hok : setOk (l.set i 2) ts (i : Nat) tab0 = true := by unfold setOk; rw [hpr, hn2, ht0]; rfl
  rw [hcl, hct]
  refine ⟨by unfold closeC; rw [h2, hn]; rfl, by unfold setC; rw [hpr, hn2, ht0]; rfl, ?_, ?_⟩
  · unfold setL
    rw [hok, Int.toNat_natCast, set_set_same]
    exact set_back h4 h5
  · unfold setT
    rw [hok, Int.toNat_natCast]
    obtain ⟨h8, h9⟩ := (pright_iff.1 hp).2.2 i h4
    rw [h5] at h9
    have h10 : cntN (ts.getD i []) = 0 := by
      unfold asksOf emptyB at h9
      simpa using h9
    exact set_back_t (empty_tab h8 h10)

theorem state_le (t : List Int) : 0 ≤ stateOf t ∧ stateOf t ≤ 2 := by
  unfold stateOf
  split
  · omega
  · split <;> omega
theorem state_asks (t : List Int) : asksOf (stateOf t) t = true := by
  unfold stateOf
  split
  · rename_i h; simp [asksOf, emptyB, h]
  · rename_i h
    split
    · rename_i h2; simp [asksOf, holeyB]; omega
    · simp [asksOf]

/-- A block with a table laid anew. -/
theorem set_keeps {l : List Int} {ts : List (List Int)} {b : Int} {t : List Int} (h : setOk l ts b t = true) :
    ∃ i : Nat, b = i ∧ i < l.length ∧ ts.length = l.length ∧ pRight l ts = true ∧ pRight (setL l ts b t) (setT l ts b t) = true ∧ Others l (setL l ts b t) ts (setT l ts b t) i 1
      ∧ setL l ts b t = l.set i (stateOf t) ∧ setT l ts b t = ts.set i t
      ∧ countL (setL l ts b t) 3 = countL l 3 ∧ countL (setL l ts b t) 4 = countL l 4 ∧ countL (setL l ts b t) 0 + countL (setL l ts b t) 1 + countL (setL l ts b t) 2 + countL (setL l ts b t) 5 = countL l 0 + countL l 1 + countL l 2 + countL l 5 := by
  have h' := h
  unfold setOk at h'
  simp only [Bool.and_eq_true] at h'
  obtain ⟨hp, hn, ht⟩ := h'
  obtain ⟨i, rfl, hi, hm⟩ := hasN_lt hn
  have hm' : l.getD i 0 = 1 ∨ l.getD i 0 = 2 ∨ l.getD i 0 = 5 := by simpa [hasB] using hm
  obtain ⟨hw, hl, ha⟩ := pright_iff.1 hp
  have hL : setL l ts (i : Int) t = l.set i (stateOf t) := by unfold setL; rw [h, Int.toNat_natCast]; rfl
  have hT : setT l ts (i : Int) t = ts.set i t := by unfold setT; rw [h, Int.toNat_natCast]; rfl
  obtain ⟨s0, s2⟩ := state_le t
  have hg : ∀ j, (ts.set i t).getD j [] = if j = i then t else ts.getD j [] := fun j => by
    by_cases e : j = i
    · subst e; simp [show j < ts.length by omega]
    · simp [e, List.getElem?_set_ne (Ne.symm e)]
  have a := fun s => count_at (x := stateOf t) hi rfl s
  have a0 := a 0
  have a1 := a 1
  have a2 := a 2
  have a3 := a 3
  have a4 := a 4
  have a5 := a 5
  rw [hL, hT]
  refine ⟨i, rfl, hi, hl, hp, ?_, ⟨by simp, hl, by simp [hl], fun j hj hji => ?_⟩, rfl, rfl, ?_⟩
  · refine pright_iff.2 ⟨whole_set hw hi (by omega) (by omega) (by omega) (by omega), by simp [hl], fun j hj => ?_⟩
    have hj' : j < l.length := by simpa using hj
    rw [getD_set_eq l j i _ hi, hg]
    split
    · exact ⟨ht, state_asks t⟩
    · exact ha j hj'
  · rw [getD_set_eq l j i _ hi, if_neg (by omega), hg, if_neg (by omega)]
    exact ⟨rfl, rfl⟩
  · clear a
    generalize l.getD i 0 = y at *
    generalize stateOf t = x at *
    clear h hn hm hp hw ha hL hT hg hl ht
    rcases hm' with rfl | rfl | rfl
    all_goals
      obtain rfl | rfl | rfl : x = 0 ∨ x = 1 ∨ x = 2 := by omega
      all_goals
        simp at a0 a1 a2 a3 a4 a5
        omega

theorem setC_no {l : List Int} {ts : List (List Int)} {b : Int} {t : List Int} (h : setOk l ts b t = false) : setC l ts b t ≠ 0 ∧ setL l ts b t = [] ∧ (setC l ts b t = 100 ↔ pRight l ts = false) := by
  refine ⟨?_, by unfold setL; rw [h]; rfl, ?_⟩
  · unfold setOk at h
    unfold setC
    cases hp : pRight l ts
    · simp
    · rw [hp, Bool.true_and] at h
      rw [h]; simp
  · unfold setOk at h
    unfold setC
    cases hp : pRight l ts
    · simp
    · rw [hp, Bool.true_and] at h
      rw [h]; simp
theorem setC_ok {l : List Int} {ts : List (List Int)} {b : Int} {t : List Int} (h : setOk l ts b t = true) : setC l ts b t = 0 := by
  unfold setOk at h
  simp only [Bool.and_eq_true] at h
  unfold setC
  simp [h.1, h.2.1, h.2.2]
theorem setL_len (l : List Int) (ts : List (List Int)) (b : Int) (t : List Int) : (setL l ts b t).length ≤ l.length := by
  unfold setL
  split <;> simp
theorem setT_len (l : List Int) (ts : List (List Int)) (b : Int) (t : List Int) : (setT l ts b t).length ≤ ts.length := by
  unfold setT
  split <;> simp
theorem closeL_len (l : List Int) (ts : List (List Int)) (b : Int) : (closeL l ts b).length ≤ l.length := by
  unfold closeL
  split <;> simp
theorem closeT_len (l : List Int) (ts : List (List Int)) (b : Int) : (closeT l ts b).length ≤ ts.length := by
  unfold closeT
  split <;> simp
theorem dropL_len (l : List Int) (ts : List (List Int)) (b : Int) : (dropL l ts b).length ≤ l.length := by
  unfold dropL
  split
  · rw [cut_len]; exact Nat.le_refl _
  · simp
theorem dropT_len (l : List Int) (ts : List (List Int)) (b : Int) : (dropT l ts b).length ≤ ts.length := by
  unfold dropT
  split <;> simp

end Go.Proofs.YtllanbggjfmfhaaDoor
namespace Go.Proofs.YtllanbggjfmfhaaDoor
open Go.RowKit Go.Shelf

theorem row6 {w : World} {A : Option Addr} {m : Nat} {x0 x1 x2 x3 x4 x5 : Int} (h : Row w A m (([x0, x1, x2, x3, x4, x5] : List Int).map Iv)) :
    m = 6 ∧ ∃ b off, A = some ⟨b, off, none⟩ ∧ w.cell? ⟨b, off, none⟩ = some (.int .i64 x0) ∧ w.cell? ⟨b, off + 1, none⟩ = some (.int .i64 x1) ∧ w.cell? ⟨b, off + 2, none⟩ = some (.int .i64 x2) ∧ w.cell? ⟨b, off + 3, none⟩ = some (.int .i64 x3) ∧ w.cell? ⟨b, off + 4, none⟩ = some (.int .i64 x4) ∧ w.cell? ⟨b, off + 5, none⟩ = some (.int .i64 x5) := by
  have hm : m = 6 := by have := h.1; simpa using this.symm
  subst hm
  obtain ⟨b, off, rfl, hc⟩ := h.2 (by omega)
  exact ⟨rfl, b, off, rfl, by simpa [Iv] using hc 0 _ rfl, hc 1 _ rfl, hc 2 _ rfl, hc 3 _ rfl, hc 4 _ rfl, hc 5 _ rfl⟩

theorem row6c {w : World} {b off m : Nat} {x0 x1 x2 x3 x4 x5 : Int} (h : Row w (some ⟨b, off, none⟩) m (([x0, x1, x2, x3, x4, x5] : List Int).map Iv)) :
    w.cell? ⟨b, off, none⟩ = some (.int .i64 x0) ∧ w.cell? ⟨b, off + 1, none⟩ = some (.int .i64 x1) ∧ w.cell? ⟨b, off + 2, none⟩ = some (.int .i64 x2) ∧ w.cell? ⟨b, off + 3, none⟩ = some (.int .i64 x3) ∧ w.cell? ⟨b, off + 4, none⟩ = some (.int .i64 x4) ∧ w.cell? ⟨b, off + 5, none⟩ = some (.int .i64 x5) := by
  obtain ⟨-, b', off', e, h2⟩ := row6 h
  cases e
  exact h2

end Go.Proofs.YtllanbggjfmfhaaDoor
namespace Go.Proofs.YtllanbggjfmfhaaDoor
open Go.RowKit Go.Shelf

set_option maxRecDepth 100000 in
set_option maxHeartbeats 16000000 in
theorem poolBack_any (S : Option Addr) (m c : Nat) (T : Option Addr) (k d : Nat) (l : List Int) (ts : List (List Int)) (n : Int) (aS aR : Addr) (w : World) (hRS : RSent w aS aR) (hE : EType w) (hmc : m ≤ c) (hS : Row w S m (l.map Iv)) (hT : TabsU w T k ts) (hk : k ≤ 9223372036854775807) :
    Calls Tryd.prog 7 #[.agg #[.slice S m c, .slice T k d], .int .i64 n] w (Holds w) := by
  have hx := below_box w (.cells #[.slice S m c, .slice T k d] 25)
  have hbl : Blk (w.alloc (.cells #[.slice S m c, .slice T k d] 25)) w.heap.size 25 #[.slice S m c, .slice T k d] := heap_new rfl _
  have k0 := pbox0 w 25 (.slice S m c) (.slice T k d)
  have k1 := pbox1 w 25 (.slice S m c) (.slice T k d)
  have HRS := Lib.hid hRS
  have HE := Lib.hid hE
  have HB := Lib.hid hx
  have HBL := Lib.hid hbl
  have HR0 := Lib.hid (row_few hS)
  have HT0 := Lib.hid hT
  have hm34 : min m 34 ≤ 34 := Nat.min_le_right _ _
  clear hRS hE hx hbl hS hT
  go_enter Tryd.func7, Tryd.ntmps7
  go_wp2_with fail
  generalize w.alloc (.cells #[.slice S m c, .slice T k d] 25) = W0 at *
  refine (pshown_any aS aR W0 (HRS.out.ext HB.out) (HE.out.ext HB.out)).mono ?_
  rintro e w1 ⟨rfl, hb1⟩
  replace k0 := cell_ext hb1 k0
  replace k1 := cell_ext hb1 k1
  replace HBL := Lib.hid (HBL.out.ext hb1)
  replace HB := Lib.hid (below_le HB.out hb1)
  clear hb1
  have hlt0 := HBL.out.lt
  go_wp2_with fail
  refine (cut10_any S m c T k d ts w w1 HB.out hmc HT0.out hk).mono ?_
  rintro e w2 ⟨T', k', d', rfl, hk34, htc, hb2⟩
  generalize min m 34 = m' at *
  have h2 := HBL.out.ext hb2
  have f0 := h2.frozen 0
  have f1 := h2.frozen 1
  have d0 := h2.cell 0
  have d1 := h2.cell 1
  have h3 := (h2.set_ 0 (.slice S m' c)).set_ 1 (.slice T' k' d')
  have hb3 : Below w.heap.size w ((w2.setCell ⟨w.heap.size, 0, none⟩ (.slice S m' c)).setCell ⟨w.heap.size, 1, none⟩ (.slice T' k' d')) :=
    ((below_le HB.out hb2).setCell (p := ⟨w.heap.size, 0, none⟩) (Nat.le_refl _) _).setCell (p := ⟨w.heap.size, 1, none⟩) (Nat.le_refl _) _
  have ht3 := ((htc.far (p := ⟨w.heap.size, 0, none⟩) (Nat.le_refl _) hlt0 (.slice S m' c)).far (p := ⟨w.heap.size, 1, none⟩) (Nat.le_refl _) hlt0 (.slice T' k' d')).tabs
  replace k0 := h3.cell 0
  replace k1 := h3.cell 1
  simp at k0 k1 d0 d1
  have HT := Lib.hid ht3
  have HR := Lib.hid (HR0.out.ext hb3)
  replace HB := Lib.hid hb3
  generalize l.take 34 = l at *
  generalize cutTs ts = ts at *
  clear h2 h3 hb2 hb3 htc ht3 HBL HR0 HT0 hlt0 hmc
  go_wp2_with fail
  generalize (w2.setCell ⟨w.heap.size, 0, none⟩ (.slice S m' c)).setCell ⟨w.heap.size, 1, none⟩ (.slice T' k' d') = W3 at *
  clear f0 f1 d0 d1
  have hll : l.length ≤ 34 := by have h := HR.out.1; simp at h; omega
  have htl : ts.length ≤ 34 := by have h := HT.out.1; omega
  refine (takeRun_any S m' c T' k' d' l ts n aS aR W3 (HRS.out.ext HB.out) HR.out HT.out (by omega) (by omega)).mono ?_
  rintro e w4 ⟨v_, rfl, hp_, hb_⟩
  obtain ⟨Su, mu, cu, Tu, ku, du, rfl, hR_, hT_, -⟩ := hp_.read
  have hmu : mu ≤ 1000 := by have h_ := hR_.1; rw [List.length_map] at h_; have h2_ := runL_len l ts n; omega
  have hku : ku ≤ 1000 := by have h_ := hT_.1; have h2_ := runT_len l ts n; omega
  replace k0 := cell_ext hb_ k0
  replace k1 := cell_ext hb_ k1
  replace HR := Lib.hid (HR.out.ext hb_)
  replace HT := Lib.hid (HT.out.ext hb_)
  have Ru := Lib.hid hR_
  have Tuh := Lib.hid hT_
  replace HB := Lib.hid (below_le HB.out hb_)
  clear hp_ hR_ hT_ hb_
  cases hA : runOk l ts n
  case' true =>
    obtain ⟨hn1, hd1, hd2, hd3, hd4⟩ := run_back hA
    have hx_ := below_box w4 (.cells #[.slice Su mu cu, .slice Tu ku du] 25)
    replace k0 := cell_ext hx_ k0
    replace k1 := cell_ext hx_ k1
    replace HR := Lib.hid (HR.out.ext hx_)
    replace HT := Lib.hid (HT.out.ext hx_)
    replace Ru := Lib.hid (Ru.out.ext hx_)
    replace Tuh := Lib.hid (Tuh.out.ext hx_)
    have u0 := pbox0 w4 25 (.slice Su mu cu) (.slice Tu ku du)
    have u1 := pbox1 w4 25 (.slice Su mu cu) (.slice Tu ku du)
    replace HB := Lib.hid (below_le HB.out hx_)
    clear hx_
    go_wp2_with fail
    generalize w4.alloc (.cells #[.slice Su mu cu, .slice Tu ku du] 25) = W4 at *
    have h := drop_any Su mu cu Tu ku du _ _ (runN l ts n : Nat) aS aR W4 (HRS.out.ext HB.out) (HE.out.ext HB.out) Ru.out Tuh.out (by omega) (by omega)
    rw [hd1, hd3, hd4] at h
    refine (h).mono ?_
    rintro e w5 ⟨v_, rfl, hp_, hb_⟩
    obtain ⟨Sx, mx, cx, Tx, kx, dx, rfl, hR_, hT_, -⟩ := hp_.read
    have hmx : mx ≤ 1000 := by have h_ := hR_.1; rw [List.length_map] at h_; have h2_ := Nat.le_refl l.length; omega
    have hkx : kx ≤ 1000 := by have h_ := hT_.1; have h2_ := Nat.le_refl ts.length; omega
    replace k0 := cell_ext hb_ k0
    replace k1 := cell_ext hb_ k1
    replace HR := Lib.hid (HR.out.ext hb_)
    replace HT := Lib.hid (HT.out.ext hb_)
    have Rx := Lib.hid hR_
    have Txh := Lib.hid hT_
    replace HB := Lib.hid (below_le HB.out hb_)
    clear hp_ hR_ hT_ hb_
    clear h u0 u1 Ru Tuh
    rw [hd2]
    clear hd1 hd2 hd3 hd4
    have hx_ := below_box w5 (.cells #[.slice Sx mx cx, .slice Tx kx dx] 25)
    replace k0 := cell_ext hx_ k0
    replace k1 := cell_ext hx_ k1
    replace HR := Lib.hid (HR.out.ext hx_)
    replace HT := Lib.hid (HT.out.ext hx_)
    replace Rx := Lib.hid (Rx.out.ext hx_)
    replace Txh := Lib.hid (Txh.out.ext hx_)
    have x0 := pbox0 w5 25 (.slice Sx mx cx) (.slice Tx kx dx)
    have x1 := pbox1 w5 25 (.slice Sx mx cx) (.slice Tx kx dx)
    replace HB := Lib.hid (below_le HB.out hx_)
    clear hx_
    go_wp2_with fail
    generalize w5.alloc (.cells #[.slice Sx mx cx, .slice Tx kx dx] 25) = W5 at *
    have h := psame_any Sx mx cx Tx kx dx S m' c T' k' d' l l ts ts W5 Rx.out Txh.out HR.out HT.out (by omega) (by omega) (by omega) (by omega)
    rw [show psameB l l ts ts = true by simp [psameB]] at h
    refine (h).mono ?_
    rintro e w6 ⟨rfl, hb_⟩
    replace k0 := cell_ext hb_ k0
    replace k1 := cell_ext hb_ k1
    replace HR := Lib.hid (HR.out.ext hb_)
    replace HT := Lib.hid (HT.out.ext hb_)
    replace HB := Lib.hid (below_le HB.out hb_)
    clear hb_
    clear h x0 x1 Rx Txh
    go_wp2_with fail
  case' false =>
    have hx_ := below_box w4 (.cells #[.slice Su mu cu, .slice Tu ku du] 25)
    replace k0 := cell_ext hx_ k0
    replace k1 := cell_ext hx_ k1
    replace HR := Lib.hid (HR.out.ext hx_)
    replace HT := Lib.hid (HT.out.ext hx_)
    replace Ru := Lib.hid (Ru.out.ext hx_)
    replace Tuh := Lib.hid (Tuh.out.ext hx_)
    have u0 := pbox0 w4 25 (.slice Su mu cu) (.slice Tu ku du)
    have u1 := pbox1 w4 25 (.slice Su mu cu) (.slice Tu ku du)
    replace HB := Lib.hid (below_le HB.out hx_)
    clear hx_
    go_wp2_with fail
    generalize w4.alloc (.cells #[.slice Su mu cu, .slice Tu ku du] 25) = W4 at *
    clear u0 u1 Ru Tuh
    generalize W4 = w6 at *
  all_goals
    refine (takeFree_any S m' c T' k' d' l ts w6 HR.out HT.out (by omega) (by omega)).mono ?_
    rintro e w7 ⟨v_, rfl, hp_, hb_⟩
    obtain ⟨Sa, ma, ca, Ta, ka, da, rfl, hR_, hT_, -⟩ := hp_.read
    have hma : ma ≤ 1000 := by have h_ := hR_.1; rw [List.length_map] at h_; have h2_ := takeL_len l ts 0; omega
    have hka : ka ≤ 1000 := by have h_ := hT_.1; have h2_ := takeT_len l ts 0; omega
    replace k0 := cell_ext hb_ k0
    replace k1 := cell_ext hb_ k1
    replace HR := Lib.hid (HR.out.ext hb_)
    replace HT := Lib.hid (HT.out.ext hb_)
    have Ra := Lib.hid hR_
    have Tah := Lib.hid hT_
    replace HB := Lib.hid (below_le HB.out hb_)
    clear hp_ hR_ hT_ hb_
    cases hB : takeOk l ts 0
    · first
        | (exfalso; have := run_free hA; rw [hB] at this; cases this)
        | (clear hA hB
           go_wp2
           have hx := below_box w7 (.cells #[.slice Sa ma ca, .slice Ta ka da] 25)
           go_ret
           exact ⟨rfl, below_le HB.out hx⟩)
    · obtain ⟨t1, t2, t3, t4⟩ := take_back hB
      clear hA hB
      have hx_ := below_box w7 (.cells #[.slice Sa ma ca, .slice Ta ka da] 25)
      replace k0 := cell_ext hx_ k0
      replace k1 := cell_ext hx_ k1
      replace HR := Lib.hid (HR.out.ext hx_)
      replace HT := Lib.hid (HT.out.ext hx_)
      replace Ra := Lib.hid (Ra.out.ext hx_)
      replace Tah := Lib.hid (Tah.out.ext hx_)
      have a0 := pbox0 w7 25 (.slice Sa ma ca) (.slice Ta ka da)
      have a1 := pbox1 w7 25 (.slice Sa ma ca) (.slice Ta ka da)
      replace HB := Lib.hid (below_le HB.out hx_)
      clear hx_
      go_wp2_with fail
      generalize w7.alloc (.cells #[.slice Sa ma ca, .slice Ta ka da] 25) = W7 at *
      have h := close_any Sa ma ca Ta ka da _ _ (takeN l ts 0 : Nat) W7 (HE.out.ext HB.out) Ra.out Tah.out (by omega) (by omega)
      rw [t1] at h
      refine (h).mono ?_
      rintro e w8 ⟨v_, rfl, hp_, hb_⟩
      obtain ⟨Sg, mg, cg, Tg, kg, dg, rfl, hR_, hT_, -⟩ := hp_.read
      have hmg : mg ≤ 1000 := by have h_ := hR_.1; rw [List.length_map] at h_; have h2_ := Nat.le_trans (closeL_len (takeL l ts 0) (takeT l ts 0) (takeN l ts 0 : Nat)) (takeL_len l ts 0); omega
      have hkg : kg ≤ 1000 := by have h_ := hT_.1; have h2_ := Nat.le_trans (closeT_len (takeL l ts 0) (takeT l ts 0) (takeN l ts 0 : Nat)) (takeT_len l ts 0); omega
      replace k0 := cell_ext hb_ k0
      replace k1 := cell_ext hb_ k1
      replace HR := Lib.hid (HR.out.ext hb_)
      replace HT := Lib.hid (HT.out.ext hb_)
      have Rg := Lib.hid hR_
      have Tgh := Lib.hid hT_
      replace HB := Lib.hid (below_le HB.out hb_)
      clear hp_ hR_ hT_ hb_
      clear h a0 a1 Ra Tah t1
      have hx := below_box w8 (.cells #[.slice Sg mg cg, .slice Tg kg dg] 25)
      replace k0 := cell_ext hx k0; replace k1 := cell_ext hx k1; replace HR := Lib.hid (HR.out.ext hx); replace HT := Lib.hid (HT.out.ext hx); replace Rg := Lib.hid (Rg.out.ext hx); replace Tgh := Lib.hid (Tgh.out.ext hx)
      have g0 := pbox0 w8 25 (.slice Sg mg cg) (.slice Tg kg dg)
      have g1 := pbox1 w8 25 (.slice Sg mg cg) (.slice Tg kg dg)
      replace HB := Lib.hid (below_le HB.out hx)
      clear hx
      go_wp2
      generalize w8.alloc (.cells #[.slice Sg mg cg, .slice Tg kg dg] 25) = W8 at *
      have hmk := run_make_ints 32 (by omega) (by omega)
      have j0 := ext_cell g0
      have j1 := ext_cell g1
      refine wp_region_mix (by kernel_rfl) ?_
      first | (refine mix_skip 0 rfl (by kernel_rfl) rfl ?_; go_frame) | (refine mix_soft 0 rfl (by kernel_rfl) rfl (fun K hK => ?_); go_simp; first | (refine hK _ ?_; clear hK K) | (apply Exists.intro; refine ⟨fun x => ?_, hK _ ?_⟩; (· (fail)); clear hK K; try go_frame))
      first | (refine mix_skip 1 rfl (by kernel_rfl) rfl ?_; go_frame) | (refine mix_soft 1 rfl (by kernel_rfl) rfl (fun K hK => ?_); go_simp; first | (refine hK _ ?_; clear hK K) | (apply Exists.intro; refine ⟨fun x => ?_, hK _ ?_⟩; (· (fail)); clear hK K; try go_frame))
      refine mix_two 2 7 (by kernel_rfl) ?_ ?_
      · skip
        refine mix_now rfl rfl ?_; intro w9 hb_ hB_ K hK; go_simp
        have hx_ := below_box w9 (.cells (zerosI 32) 3)
        have hzr_ : Row (w9.alloc (.cells (zerosI 32) 3)) (some ⟨w9.heap.size, 0, none⟩) 32 (tab0.map Iv) := row_new w9 tab0 _ rfl
        have ZR := Lib.hid hzr_
        refine hK _ _ (below_le hB_ hx_) ?_
        clear hK K hb_ hB_ hx_ hzr_
        try go_frame
        generalize w9.alloc (.cells (zerosI 32) 3) = W9 at *
        generalize w9.heap.size = Z at *
        refine mix_two 3 7 (by kernel_rfl) ?_ ?_
        · skip
          refine mix_now rfl rfl ?_; intro w10 hb_ hB_ K hK; go_simp
          have hcl_ := set_any Sg mg cg Tg kg dg _ _ (takeN l ts 0 : Nat) (some ⟨Z, 0, none⟩) 32 32 tab0 w10 (HE.out.ext (below_le HB.out hB_)) (Rg.out.ext hB_) (Tgh.out.ext hB_) (by omega) (by omega) (ZR.out.ext hb_) (by omega)
          rw [t2] at hcl_
          refine hcl_.mono ?_
          clear hcl_
          rintro e w11 ⟨v_, rfl, hp_, hc_⟩
          obtain ⟨Sz, mz, cz, Tz, kz, dz, rfl, -, hX_⟩ := hp_
          rw [t3, t4] at hX_
          have HX := Lib.hid hX_
          have KX : Hid (∀ b, w10.heap.size ≤ b → b < w11.heap.size → w11.heap[b]? = w11.heap[b]?) := Lib.hid (fun _ _ _ => rfl)
          refine hK _ _ (below_le hB_ hc_) ?_
          clear hK K hb_ hB_ hc_ hX_ ZR
          try go_frame
          generalize w10.heap.size = bs at *
          generalize hnn : w11.heap.size = n' at HX KX
          have hn' : n' ≤ w11.heap.size := by omega
          clear hnn
          first | (refine mix_skip 4 rfl (by kernel_rfl) rfl ?_; go_frame) | (refine mix_soft 4 rfl (by kernel_rfl) rfl (fun K hK => ?_); go_simp; first | (refine hK _ ?_; clear hK K) | (apply Exists.intro; refine ⟨fun x => ?_, hK _ ?_⟩; (· (fail)); clear hK K; try go_frame))
          first | (refine mix_skip 5 rfl (by kernel_rfl) rfl ?_; go_frame) | (refine mix_soft 5 rfl (by kernel_rfl) rfl (fun K hK => ?_); go_simp; first | (refine hK _ ?_; clear hK K) | (apply Exists.intro; refine ⟨fun x => ?_, hK _ ?_⟩; (· (fail)); clear hK K; try go_frame))
          first | (refine mix_skip 6 rfl (by kernel_rfl) rfl ?_; go_frame) | (refine mix_soft 6 rfl (by kernel_rfl) rfl (fun K hK => ?_); go_simp; first | (refine hK _ ?_; clear hK K) | (apply Exists.intro; refine ⟨fun x => ?_, hK _ ?_⟩; (· (fail)); clear hK K; try go_frame))
          refine mix_one 7 (by kernel_rfl) ?_
          refine mix_now rfl rfl ?_; intro w12 hb_ hB_ K hK; go_simp
          have hx_ := below_box w12 (.cells #[.slice none 0 0, .slice none 0 0] 25)
          have QB := Lib.hid (Blk.new w12 25 #[.slice none 0 0, .slice none 0 0])
          have hQ : W8.heap.size ≤ w12.heap.size := hB_.size
          have hnQ : ∀ b, bs ≤ b → b < n' → b ≠ w12.heap.size := fun b _ h e => by have := hb_.size; omega
          replace KX := Lib.hid (fun b h1 h2 => ((below_le hb_ hx_).block b (Nat.lt_of_lt_of_le h2 hn')).trans (KX.out b h1 h2))
          replace hn' : n' ≤ (w12.alloc (.cells #[.slice none 0 0, .slice none 0 0] 25)).heap.size := Nat.le_trans hn' (below_le hb_ hx_).size
          refine hK _ _ (below_le hB_ hx_) ?_
          clear hK K hb_ hB_ hx_
          try go_frame
          generalize w12.alloc (.cells #[.slice none 0 0, .slice none 0 0] 25) = W12 at *
          generalize w12.heap.size = Q at *
          refine mix_one 8 (by kernel_rfl) ?_
          refine mix_now rfl rfl ?_; intro w13 hb_ hB_ K hK
          have hq_ := QB.out.ext hb_
          obtain ⟨⟨c0_, c1_, f0_, f1_⟩, q0, q1, hBq_⟩ := res_two (a' := .slice Sz mz cz) (b' := .slice Tz kz dz) hq_ hB_ hQ
          replace KX := Lib.hid (fun b h1 h2 => (Below.heap_setCell ((w13.setCell ⟨Q, 0, none⟩ (.slice Sz mz cz))) ⟨Q, 1, none⟩ (.slice Tz kz dz) b (hnQ b h1 h2)).trans ((Below.heap_setCell w13 ⟨Q, 0, none⟩ (.slice Sz mz cz) b (hnQ b h1 h2)).trans ((hb_.block b (Nat.lt_of_lt_of_le h2 hn')).trans (KX.out b h1 h2))))
          replace hn' : n' ≤ ((w13.setCell ⟨Q, 0, none⟩ (.slice Sz mz cz)).setCell ⟨Q, 1, none⟩ (.slice Tz kz dz)).heap.size := by simpa [World.setCell] using Nat.le_trans hn' hb_.size
          go_simp
          refine hK _ _ hBq_ ?_
          clear hK K hb_ hB_ hBq_ c0_ c1_ f0_ f1_ hq_ QB
          try go_frame
          generalize (w13.setCell ⟨Q, 0, none⟩ (.slice Sz mz cz)).setCell ⟨Q, 1, none⟩ (.slice Tz kz dz) = W13 at *
          first | (refine mix_skip 9 rfl (by kernel_rfl) rfl ?_; go_frame) | (refine mix_soft 9 rfl (by kernel_rfl) rfl (fun K hK => ?_); go_simp; first | (refine hK _ ?_; clear hK K) | (apply Exists.intro; refine ⟨fun x => ?_, hK _ ?_⟩; (· (fail)); clear hK K; try go_frame))
          refine mix_nil (by kernel_rfl) fun w14 hb_ hB_ => ?_
          obtain ⟨hRz, hTz⟩ := HX.out w14 (fun b h1 h2 => (hb_.block b (Nat.lt_of_lt_of_le h2 hn')).trans (KX.out b h1 h2))
          replace q0 := cell_ext hb_ q0
          replace q1 := cell_ext hb_ q1
          replace k0 := cell_ext hB_ k0
          replace k1 := cell_ext hB_ k1
          replace HR := Lib.hid (HR.out.ext hB_)
          replace HT := Lib.hid (HT.out.ext hB_)
          replace HB := Lib.hid (below_le HB.out hB_)
          have hmz : mz ≤ 1000 := by have h_ := hRz.1; rw [List.length_map] at h_; omega
          have hkz : kz ≤ 1000 := by have h_ := hTz.1; omega
          have hsm := psame_any Sz mz cz Tz kz dz S m' c T' k' d' l l ts ts w14 hRz hTz HR.out HT.out hmz hkz (by omega) (by omega)
          rw [show psameB l l ts ts = true by simp [psameB]] at hsm
          have HSM := Lib.hid hsm
          clear hsm hRz hTz hb_ hB_ HX KX j0 j1 t2 t3 t4
          try go_frame
          go_wp2_with fail
          refine HSM.out.mono ?_
          rintro e wz ⟨rfl, hbz⟩
          replace HB := Lib.hid (below_le HB.out hbz)
          clear hbz k0 k1 q0 q1
          go_wp2
          go_ret
          exact ⟨rfl, HB.out⟩
        · skip
          refine mix_now rfl rfl ?_; intro w10 hb_ hB_ K hK; go_simp
          have hx_ := below_box w10 (.cells #[.slice none 0 0, .slice none 0 0] 25)
          have QB := Lib.hid (Blk.new w10 25 #[.slice none 0 0, .slice none 0 0])
          have hQ : W8.heap.size ≤ w10.heap.size := hB_.size
          replace ZR := Lib.hid (ZR.out.ext (below_le hb_ hx_))
          refine hK _ _ (below_le hB_ hx_) ?_
          clear hK K hb_ hB_ hx_
          try go_frame
          generalize w10.alloc (.cells #[.slice none 0 0, .slice none 0 0] 25) = W10 at *
          generalize w10.heap.size = Q at *
          refine mix_one 3 (by kernel_rfl) ?_
          refine mix_now rfl rfl ?_; intro w11 hb_ hB_ K hK; go_simp
          have hcl_ := set_any Sg mg cg Tg kg dg _ _ (takeN l ts 0 : Nat) (some ⟨Z, 0, none⟩) 32 32 tab0 w11 (HE.out.ext (below_le HB.out hB_)) (Rg.out.ext hB_) (Tgh.out.ext hB_) (by omega) (by omega) (ZR.out.ext hb_) (by omega)
          rw [t2] at hcl_
          refine hcl_.mono ?_
          clear hcl_
          rintro e w12 ⟨v_, rfl, hp_, hc_⟩
          obtain ⟨Sz, mz, cz, Tz, kz, dz, rfl, -, hX_⟩ := hp_
          rw [t3, t4] at hX_
          have HX := Lib.hid hX_
          have KX : Hid (∀ b, w11.heap.size ≤ b → b < w12.heap.size → w12.heap[b]? = w12.heap[b]?) := Lib.hid (fun _ _ _ => rfl)
          have hQb : Q < w11.heap.size := (Array.getElem?_eq_some_iff.1 (QB.out.ext hb_)).1
          replace QB := Lib.hid (QB.out.ext (below_le hb_ hc_))
          have hnQ : ∀ b, w11.heap.size ≤ b → b < w12.heap.size → b ≠ Q := fun b h _ e => by omega
          refine hK _ _ (below_le hB_ hc_) ?_
          clear hK K hb_ hB_ hc_ hX_ ZR
          try go_frame
          generalize w11.heap.size = bs at *
          generalize hnn : w12.heap.size = n' at HX KX hnQ
          have hn' : n' ≤ w12.heap.size := by omega
          clear hnn
          first | (refine mix_skip 4 rfl (by kernel_rfl) rfl ?_; go_frame) | (refine mix_soft 4 rfl (by kernel_rfl) rfl (fun K hK => ?_); go_simp; first | (refine hK _ ?_; clear hK K) | (apply Exists.intro; refine ⟨fun x => ?_, hK _ ?_⟩; (· (fail)); clear hK K; try go_frame))
          first | (refine mix_skip 5 rfl (by kernel_rfl) rfl ?_; go_frame) | (refine mix_soft 5 rfl (by kernel_rfl) rfl (fun K hK => ?_); go_simp; first | (refine hK _ ?_; clear hK K) | (apply Exists.intro; refine ⟨fun x => ?_, hK _ ?_⟩; (· (fail)); clear hK K; try go_frame))
          first | (refine mix_skip 6 rfl (by kernel_rfl) rfl ?_; go_frame) | (refine mix_soft 6 rfl (by kernel_rfl) rfl (fun K hK => ?_); go_simp; first | (refine hK _ ?_; clear hK K) | (apply Exists.intro; refine ⟨fun x => ?_, hK _ ?_⟩; (· (fail)); clear hK K; try go_frame))
          refine mix_one 8 (by kernel_rfl) ?_
          refine mix_now rfl rfl ?_; intro w13 hb_ hB_ K hK
          have hq_ := QB.out.ext hb_
          obtain ⟨⟨c0_, c1_, f0_, f1_⟩, q0, q1, hBq_⟩ := res_two (a' := .slice Sz mz cz) (b' := .slice Tz kz dz) hq_ hB_ hQ
          replace KX := Lib.hid (fun b h1 h2 => (Below.heap_setCell ((w13.setCell ⟨Q, 0, none⟩ (.slice Sz mz cz))) ⟨Q, 1, none⟩ (.slice Tz kz dz) b (hnQ b h1 h2)).trans ((Below.heap_setCell w13 ⟨Q, 0, none⟩ (.slice Sz mz cz) b (hnQ b h1 h2)).trans ((hb_.block b (Nat.lt_of_lt_of_le h2 hn')).trans (KX.out b h1 h2))))
          replace hn' : n' ≤ ((w13.setCell ⟨Q, 0, none⟩ (.slice Sz mz cz)).setCell ⟨Q, 1, none⟩ (.slice Tz kz dz)).heap.size := by simpa [World.setCell] using Nat.le_trans hn' hb_.size
          go_simp
          refine hK _ _ hBq_ ?_
          clear hK K hb_ hB_ hBq_ c0_ c1_ f0_ f1_ hq_ QB
          try go_frame
          generalize (w13.setCell ⟨Q, 0, none⟩ (.slice Sz mz cz)).setCell ⟨Q, 1, none⟩ (.slice Tz kz dz) = W13 at *
          first | (refine mix_skip 9 rfl (by kernel_rfl) rfl ?_; go_frame) | (refine mix_soft 9 rfl (by kernel_rfl) rfl (fun K hK => ?_); go_simp; first | (refine hK _ ?_; clear hK K) | (apply Exists.intro; refine ⟨fun x => ?_, hK _ ?_⟩; (· (fail)); clear hK K; try go_frame))
          refine mix_nil (by kernel_rfl) fun w14 hb_ hB_ => ?_
          obtain ⟨hRz, hTz⟩ := HX.out w14 (fun b h1 h2 => (hb_.block b (Nat.lt_of_lt_of_le h2 hn')).trans (KX.out b h1 h2))
          replace q0 := cell_ext hb_ q0
          replace q1 := cell_ext hb_ q1
          replace k0 := cell_ext hB_ k0
          replace k1 := cell_ext hB_ k1
          replace HR := Lib.hid (HR.out.ext hB_)
          replace HT := Lib.hid (HT.out.ext hB_)
          replace HB := Lib.hid (below_le HB.out hB_)
          have hmz : mz ≤ 1000 := by have h_ := hRz.1; rw [List.length_map] at h_; omega
          have hkz : kz ≤ 1000 := by have h_ := hTz.1; omega
          have hsm := psame_any Sz mz cz Tz kz dz S m' c T' k' d' l l ts ts w14 hRz hTz HR.out HT.out hmz hkz (by omega) (by omega)
          rw [show psameB l l ts ts = true by simp [psameB]] at hsm
          have HSM := Lib.hid hsm
          clear hsm hRz hTz hb_ hB_ HX KX j0 j1 t2 t3 t4
          try go_frame
          go_wp2_with fail
          refine HSM.out.mono ?_
          rintro e wz ⟨rfl, hbz⟩
          replace HB := Lib.hid (below_le HB.out hbz)
          clear hbz k0 k1 q0 q1
          go_wp2
          go_ret
          exact ⟨rfl, HB.out⟩
      · skip
        refine mix_now rfl rfl ?_; intro w9 hb_ hB_ K hK; go_simp
        have hx_ := below_box w9 (.cells #[.slice none 0 0, .slice none 0 0] 25)
        have QB := Lib.hid (Blk.new w9 25 #[.slice none 0 0, .slice none 0 0])
        have hQ : W8.heap.size ≤ w9.heap.size := hB_.size
        refine hK _ _ (below_le hB_ hx_) ?_
        clear hK K hb_ hB_ hx_
        try go_frame
        generalize w9.alloc (.cells #[.slice none 0 0, .slice none 0 0] 25) = W9 at *
        generalize w9.heap.size = Q at *
        refine mix_one 2 (by kernel_rfl) ?_
        refine mix_now rfl rfl ?_; intro w10 hb_ hB_ K hK; go_simp
        have hx_ := below_box w10 (.cells (zerosI 32) 3)
        have hzr_ : Row (w10.alloc (.cells (zerosI 32) 3)) (some ⟨w10.heap.size, 0, none⟩) 32 (tab0.map Iv) := row_new w10 tab0 _ rfl
        have ZR := Lib.hid hzr_
        replace QB := Lib.hid (QB.out.ext (below_le hb_ hx_))
        refine hK _ _ (below_le hB_ hx_) ?_
        clear hK K hb_ hB_ hx_ hzr_
        try go_frame
        generalize w10.alloc (.cells (zerosI 32) 3) = W10 at *
        generalize w10.heap.size = Z at *
        refine mix_one 3 (by kernel_rfl) ?_
        refine mix_now rfl rfl ?_; intro w11 hb_ hB_ K hK; go_simp
        have hcl_ := set_any Sg mg cg Tg kg dg _ _ (takeN l ts 0 : Nat) (some ⟨Z, 0, none⟩) 32 32 tab0 w11 (HE.out.ext (below_le HB.out hB_)) (Rg.out.ext hB_) (Tgh.out.ext hB_) (by omega) (by omega) (ZR.out.ext hb_) (by omega)
        rw [t2] at hcl_
        refine hcl_.mono ?_
        clear hcl_
        rintro e w12 ⟨v_, rfl, hp_, hc_⟩
        obtain ⟨Sz, mz, cz, Tz, kz, dz, rfl, -, hX_⟩ := hp_
        rw [t3, t4] at hX_
        have HX := Lib.hid hX_
        have KX : Hid (∀ b, w11.heap.size ≤ b → b < w12.heap.size → w12.heap[b]? = w12.heap[b]?) := Lib.hid (fun _ _ _ => rfl)
        have hQb : Q < w11.heap.size := (Array.getElem?_eq_some_iff.1 (QB.out.ext hb_)).1
        replace QB := Lib.hid (QB.out.ext (below_le hb_ hc_))
        have hnQ : ∀ b, w11.heap.size ≤ b → b < w12.heap.size → b ≠ Q := fun b h _ e => by omega
        refine hK _ _ (below_le hB_ hc_) ?_
        clear hK K hb_ hB_ hc_ hX_ ZR
        try go_frame
        generalize w11.heap.size = bs at *
        generalize hnn : w12.heap.size = n' at HX KX hnQ
        have hn' : n' ≤ w12.heap.size := by omega
        clear hnn
        first | (refine mix_skip 4 rfl (by kernel_rfl) rfl ?_; go_frame) | (refine mix_soft 4 rfl (by kernel_rfl) rfl (fun K hK => ?_); go_simp; first | (refine hK _ ?_; clear hK K) | (apply Exists.intro; refine ⟨fun x => ?_, hK _ ?_⟩; (· (fail)); clear hK K; try go_frame))
        first | (refine mix_skip 5 rfl (by kernel_rfl) rfl ?_; go_frame) | (refine mix_soft 5 rfl (by kernel_rfl) rfl (fun K hK => ?_); go_simp; first | (refine hK _ ?_; clear hK K) | (apply Exists.intro; refine ⟨fun x => ?_, hK _ ?_⟩; (· (fail)); clear hK K; try go_frame))
        first | (refine mix_skip 6 rfl (by kernel_rfl) rfl ?_; go_frame) | (refine mix_soft 6 rfl (by kernel_rfl) rfl (fun K hK => ?_); go_simp; first | (refine hK _ ?_; clear hK K) | (apply Exists.intro; refine ⟨fun x => ?_, hK _ ?_⟩; (· (fail)); clear hK K; try go_frame))
        refine mix_one 8 (by kernel_rfl) ?_
        refine mix_now rfl rfl ?_; intro w13 hb_ hB_ K hK
        have hq_ := QB.out.ext hb_
        obtain ⟨⟨c0_, c1_, f0_, f1_⟩, q0, q1, hBq_⟩ := res_two (a' := .slice Sz mz cz) (b' := .slice Tz kz dz) hq_ hB_ hQ
        replace KX := Lib.hid (fun b h1 h2 => (Below.heap_setCell ((w13.setCell ⟨Q, 0, none⟩ (.slice Sz mz cz))) ⟨Q, 1, none⟩ (.slice Tz kz dz) b (hnQ b h1 h2)).trans ((Below.heap_setCell w13 ⟨Q, 0, none⟩ (.slice Sz mz cz) b (hnQ b h1 h2)).trans ((hb_.block b (Nat.lt_of_lt_of_le h2 hn')).trans (KX.out b h1 h2))))
        replace hn' : n' ≤ ((w13.setCell ⟨Q, 0, none⟩ (.slice Sz mz cz)).setCell ⟨Q, 1, none⟩ (.slice Tz kz dz)).heap.size := by simpa [World.setCell] using Nat.le_trans hn' hb_.size
        go_simp
        refine hK _ _ hBq_ ?_
        clear hK K hb_ hB_ hBq_ c0_ c1_ f0_ f1_ hq_ QB
        try go_frame
        generalize (w13.setCell ⟨Q, 0, none⟩ (.slice Sz mz cz)).setCell ⟨Q, 1, none⟩ (.slice Tz kz dz) = W13 at *
        first | (refine mix_skip 9 rfl (by kernel_rfl) rfl ?_; go_frame) | (refine mix_soft 9 rfl (by kernel_rfl) rfl (fun K hK => ?_); go_simp; first | (refine hK _ ?_; clear hK K) | (apply Exists.intro; refine ⟨fun x => ?_, hK _ ?_⟩; (· (fail)); clear hK K; try go_frame))
        refine mix_nil (by kernel_rfl) fun w14 hb_ hB_ => ?_
        obtain ⟨hRz, hTz⟩ := HX.out w14 (fun b h1 h2 => (hb_.block b (Nat.lt_of_lt_of_le h2 hn')).trans (KX.out b h1 h2))
        replace q0 := cell_ext hb_ q0
        replace q1 := cell_ext hb_ q1
        replace k0 := cell_ext hB_ k0
        replace k1 := cell_ext hB_ k1
        replace HR := Lib.hid (HR.out.ext hB_)
        replace HT := Lib.hid (HT.out.ext hB_)
        replace HB := Lib.hid (below_le HB.out hB_)
        have hmz : mz ≤ 1000 := by have h_ := hRz.1; rw [List.length_map] at h_; omega
        have hkz : kz ≤ 1000 := by have h_ := hTz.1; omega
        have hsm := psame_any Sz mz cz Tz kz dz S m' c T' k' d' l l ts ts w14 hRz hTz HR.out HT.out hmz hkz (by omega) (by omega)
        rw [show psameB l l ts ts = true by simp [psameB]] at hsm
        have HSM := Lib.hid hsm
        clear hsm hRz hTz hb_ hB_ HX KX j0 j1 t2 t3 t4
        try go_frame
        go_wp2_with fail
        refine HSM.out.mono ?_
        rintro e wz ⟨rfl, hbz⟩
        replace HB := Lib.hid (below_le HB.out hbz)
        clear hbz k0 k1 q0 q1
        go_wp2
        go_ret
        exact ⟨rfl, HB.out⟩

end Go.Proofs.YtllanbggjfmfhaaDoor
namespace Go.Proofs.YtllanbggjfmfhaaDoor
open Go.ChangeShapes Go.WideShapes Go.ChangeAt Go.RowKit

theorem own0 : ownKnob Tryd.prog.godebug = none := by kernel_rfl
theorem laidOut0 : laidOutB Tryd.prog = true := by kernel_rfl
theorem star0 : "*" ++ "errors.errorString" = "*errors.errorString" := by decide
theorem rowErr (u : TypeId) (h : Tryd.prog.typeName? 3 u = some "*errors.errorString") : u = 139 :=
  typeName_ptr_named (nm := "errors.errorString") (by rw [star0]; kernel_rfl) (by kernel_rfl) (by decide) u (by rw [star0]; exact h)
theorem gS0 : Tryd.prog.globalNamed "selion/run.errState" = some 0 := by kernel_rfl
theorem gR0 : Tryd.prog.globalNamed "selion/run.errRun" = some 1 := by kernel_rfl
theorem gS1 : (Tryd.prog.globals[0]?).map (·.type) = some 50 := by kernel_rfl
theorem gR1 : (Tryd.prog.globals[1]?).map (·.type) = some 50 := by kernel_rfl

theorem under_err : ∃ te f, Tryd.prog.underlying 139 = some (.pointer te) ∧ Tryd.prog.underlying te = some (.struct #[f]) ∧ f.type = 9 ∧ f.offset = 0 ∧ Tryd.prog.cellsOf te = 1 :=
  ⟨_, _, Tryd.underlying139, Tryd.underlying161, rfl, rfl, by kernel_rfl⟩
theorem under_iface : ∃ ms, Tryd.prog.underlying 50 = some (.interface ms) := ⟨_, Tryd.underlying50⟩
theorem cells_str : Tryd.prog.cellsOf 9 = 1 := by kernel_rfl
abbrev row0 : OpenClaim := Rows.poolKeepsRow

theorem gT0 : Tryd.prog.globalNamed "errors.errorType" = some 2 := by kernel_rfl
theorem rt0 : (Tryd.prog.cutTypes.find? (·.1 == "internal/reflectlite.rtype")).map (·.2) = some 124 := by kernel_rfl
theorem oneRow0 : ((List.range Tryd.prog.types.size).filter fun t => Tryd.prog.rowNamed t [101, 114, 114, 111, 114]) = [50] := by kernel_rfl
theorem hnd0 : typeHandle Tryd.prog 50 = hnd 50 := by kernel_rfl

/-- What the condition gives of errors' own variable: the handle of the type error. -/
theorem handle0 {W : World} (h : laidMetH Tryd.prog row0.laid W) : EType W := by
  have h1 := h.filter (fun x => x.1 == "errors.errorType")
  have h' : laidMet Tryd.prog [] W ∧ handlesMet Tryd.prog [("errors.errorType", Rows.laid_errors_errorType)] W := h1
  obtain ⟨name, u, ty, e1, e2, e3, e4, e5⟩ := h'.2 _ (List.mem_singleton.2 rfl)
  have en : name = [101, 114, 114, 111, 114] := (Option.some.inj e1).symm
  subst en
  obtain rfl := Option.some.inj (rt0.symm.trans e2)
  have hm : ty ∈ (List.range Tryd.prog.types.size).filter fun t => Tryd.prog.rowNamed t [101, 114, 114, 111, 114] := List.mem_filter.2 ⟨List.mem_range.2 e3, e4⟩
  rw [oneRow0] at hm
  obtain rfl := List.mem_singleton.1 hm
  rw [hnd0] at e5
  have := World.var?_cell gT0 e5 0
  show W.cell? _ = _
  simpa using this

/-- What the row's list gives: the two sentinels, each one's own, and the handle. -/
theorem sents {W : World} (h : laidMetH Tryd.prog row0.laid W) : ∃ aS aR, RSent W aS aR ∧ EType W := by
  have h' : laidMet Tryd.prog [("selion/run.errState", Rows.laid_selion_run_errState), ("selion/run.errRun", Rows.laid_selion_run_errRun)] W := by
    have := h.filter (fun x => x.1 != "errors.errorType")
    rw [MakeChecks.laidMetH_plain _ _ _ (by kernel_rfl)] at this
    exact this
  obtain ⟨te, f, hp, he, hft, hfo, hc⟩ := under_err
  obtain ⟨ms, hi⟩ := under_iface
  obtain ⟨a0, a1, _, _, c0, c1, t0, t1, v0, v1, _, _, _, _, _, _, n01, b0, b1⟩ := laid_sentinels2 h' gS0 gS1 gR0 gR1 hi rowErr hp he hft hfo Tryd.underlying9 hc cells_str
  exact ⟨a0, a1, ⟨⟨by simpa using World.var?_cell gS0 v0 0, c0, t0, b0⟩, ⟨by simpa using World.var?_cell gR0 v1 0, c1, t1, b1⟩, n01⟩, handle0 h⟩

section
variable {H : Type} {enc : TypeId × Value → H} {P : Program}
theorem trodAll_stays (hl : laidOutB P = true) {W W' : World} (hb : Below W.heap.size W W') (sp : Nat → Bool) : ∀ (ts : List TypeId) (vs : List Value) (ds : List (DataW H)) (ps : List MemPlace),
    (ts.all fun t => P.readableRec t && decide (t < P.types.size)) = true → DataW.TrodAll enc P W 0 (fun _ => true) true ts vs ds ps → (∀ x ∈ ps, x.block < W.heap.size) → (∀ x ∈ ps, sp x.block = true) → DataW.TrodAll enc P W' 0 sp true ts vs ds ps
  | [], vs, ds, ps, _, h, _, _ => by
    obtain ⟨rfl, rfl, rfl⟩ := trodAll_nil h
    exact trodAll_mk0
  | t :: ts, vs, ds, ps, hr, h, hlt, hsp => by
    simp only [List.all_cons, Bool.and_eq_true, decide_eq_true_eq] at hr
    obtain ⟨v, vs', d, ds', p, q, rfl, rfl, rfl, h1, h2⟩ := trodAll_cons h
    exact trodAll_cons_mk (WideElems.Trod_stays hl hr.1.1 hr.1.2 h1 (fun x hx => hb.same (hlt x (List.mem_append_left _ hx))) (fun x hx => hsp x (List.mem_append_left _ hx)))
      (trodAll_stays hl hb sp ts vs' ds' q hr.2 h2 (fun x hx => hlt x (List.mem_append_right _ hx)) (fun x hx => hsp x (List.mem_append_right _ hx)))

theorem post_below {f : Func} {s : ChangeSpec} {apart fresh handsOn again : Bool} {W W' : World} {args : Array Value} {v : Value} {ds gs : List (DataW H)} {before pa pv : List MemPlace}
    (hW : DataW.Whole enc P f.params.toList s.vars apart W args.toList ds gs before)
    (hres : ∀ (b : Nat) (sp : Nat → Bool) (hd : Bool), DataW.TrodAll enc P W' b sp hd f.resultTypes.toList (v.resultList f.resultTypes.size) (s.fn H (ds ++ gs)).results [])
    (hargs : ∀ sp : Nat → Bool, (∀ p ∈ before, sp p.block = true) → DataW.TrodAll enc P W' 0 sp true f.params.toList args.toList (s.fn H (ds ++ gs)).args pa)
    (hvars : ∀ sp : Nat → Bool, (∀ p ∈ before, sp p.block = true) → DataW.TrodVars enc P W' sp s.vars (s.fn H (ds ++ gs)).vars pv)
    (hps : before = pa ++ pv) (hb : Below W.heap.size W W')
    (hok : ∀ (j : Nat) (t : TypeId) (r : Value), f.resultTypes[j]? = some t → (v.resultList f.resultTypes.size)[j]? = some r → Value.okWide P W' .any 0 t r) :
    s.post enc P f apart fresh handsOn again W args v W' := by
  have hlt : ∀ p ∈ before, p.block < W.heap.size := fun p hp => hW.lt p hp
  have hold : ∀ p ∈ before, (fun b => decide (b < W.heap.size)) p.block = true := fun p hp => by simpa using hlt p hp
  refine ⟨ds, gs, before, [], pa, pv, hW, hres _ _ _, hargs _ hold, hvars _ hold, World.keptBut_mono (fun p hp => ⟨hp, ?_⟩) (hb.frame (· ∈ before)), fun _ => ?_⟩
  · rw [hps, List.mem_append] at hp
    exact Or.inr hp
  · obtain ⟨_, _, _, _, _, hz, hn⟩ := hW
    refine ⟨hok, _, _, ([] ++ pa) ++ pv, ⟨[] ++ pa, pv, trodAll_append (hargs _ (fun _ _ => rfl)) (hres _ _ _), hvars _ (fun _ _ => rfl), rfl, ?_, ?_⟩, ?_⟩
    · intro b off hp
      have hin : MemPlace.cell b off ∈ before := by rw [hps]; simpa using hp
      rw [hb.frozen (hlt _ hin)]
      exact hz b off hin
    · intro ha
      have := hn ha
      rw [hps] at this
      simpa using this
    · intro p hp _
      rw [hps]
      simpa using hp

/-- THE ROW's LAST STEP, where the law returned true and what was stays. -/
theorem post_true {f : Func} {s : ChangeSpec} (hl : laidOutB P = true) {tb : TypeId} (htb : P.underlying tb = some .bool) (hrt : f.resultTypes = #[tb]) (hvs : s.vars = []) (hr : (f.params.toList.all fun t => P.readableRec t && decide (t < P.types.size)) = true)
    {W W' : World} {args : Array Value} {ds gs : List (DataW H)} {before : List MemPlace}
    (hW : DataW.Whole enc P f.params.toList s.vars false W args.toList ds gs before) (hfn : s.fn H (ds ++ gs) = { results := [.lit (.bool true)], args := ds }) (hb : Below W.heap.size W W') :
    s.post enc P f false true false false W args (.bool true) W' := by
  have hW' := hW
  have hlt : ∀ p ∈ before, p.block < W.heap.size := fun p hp => hW.lt p hp
  obtain ⟨p, q, hA, hV, rfl, hfz, hnd⟩ := hW
  rw [hvs] at hV
  obtain ⟨rfl, rfl⟩ := trodVars_none hV
  simp only [List.append_nil] at hlt hW' hfn
  refine post_below (pa := p) (pv := []) hW' (fun b sp hd => ?_) (fun sp hsp => ?_) (fun sp _ => ?_) (by simp) hb (ok_one hrt rfl (okWide_bool_mk htb _))
  · rw [List.append_nil, hfn, hrt]
    exact trodAll_cons_mk (shut_bool htb _) trodAll_mk0
  · rw [List.append_nil, hfn]
    exact trodAll_stays hl hb sp _ _ _ _ hr hA (fun x hx => hlt x hx) (fun x hx => hsp x hx)
  · rw [List.append_nil, hfn, hvs]
    rfl
end

theorem row_of_cells {W : World} {a : Addr} {len cap : Nat} {zs : List Int} (hl : len ≤ cap) (hz : zs.length = cap) (hc : ∀ i, i < cap → W.cell? (a.add i) = some (.int .i64 (zs.getD i 0))) : Row W (some a) len ((zs.take len).map Iv) := by
  refine ⟨by simp; omega, fun hp => ?_⟩
  have hs0 : a.spot = none := by simpa [Addr.add] using World.cell?_spot (hc 0 (by omega))
  obtain ⟨b, off, spot⟩ := a
  obtain rfl : spot = none := hs0
  refine ⟨b, off, rfl, fun j u hu => ?_⟩
  have hj : j < len := by
    have := (List.getElem?_eq_some_iff.1 hu).1
    simp at this
    omega
  have h2 := hc j (by omega)
  have e : (⟨b, off, none⟩ : Addr).add j = ⟨b, off + j, none⟩ := by
    unfold Addr.add
    by_cases h : j = 0 <;> simp [h]
  rw [e] at h2
  simp [hj, show j < zs.length by omega, Iv] at hu
  rw [h2, ← hu]
  simp [show j < zs.length by omega]

set_option maxRecDepth 100000 in
/-- A list of numbers, opened. -/
theorem open_list {H : Type} {enc : TypeId × Value → H} {W : World} {b : Nat} {v : Value} {d : DataW H} {p : List MemPlace} (hv : Value.okWide Tryd.prog W .any b 22 v) (h : DataW.Trod enc Tryd.prog W 0 (fun _ => true) true 22 v d p) :
    ∃ (A : Option Addr) (m c : Nat) (l : List Int), v = .slice A m c ∧ Row W A m (l.map Iv) ∧ (∀ x ∈ l, -9223372036854775808 ≤ x ∧ x ≤ 9223372036854775807) ∧ m ≤ c := by
  obtain ⟨A, m, c, rfl⟩ : ∃ A m c, v = .slice A m c := okWide_slice Tryd.underlying22 hv
  obtain ⟨fuel, h1⟩ := h
  rcases open_ints Tryd.underlying22 Tryd.underlying3 (by kernel_rfl) h1 with ⟨hs, _⟩ | ⟨a, len, cap, zs, hs, _, hl, _, hz, _, hc, hw⟩
  · obtain ⟨rfl, rfl, rfl⟩ : A = none ∧ m = 0 ∧ c = 0 := by simpa [Value.cells] using hs
    exact ⟨none, 0, 0, [], rfl, Row.none_, by simp, Nat.le_refl _⟩
  · obtain ⟨rfl, rfl, rfl⟩ : some a = A ∧ len = m ∧ cap = c := by simpa [Value.cells, eq_comm] using hs
    rw [if_pos rfl] at hz
    refine ⟨some a, len, cap, zs.take len, rfl, ⟨by simp; omega, fun hp => ?_⟩, fun x hx => bounds_i64 (hw x (List.mem_of_mem_take hx)), hl⟩
    have hs0 : a.spot = none := by simpa [Addr.add] using World.cell?_spot (hc 0 (by omega))
    obtain ⟨b, off, spot⟩ := a
    obtain rfl : spot = none := hs0
    refine ⟨b, off, rfl, fun j u hu => ?_⟩
    have hj : j < len := by
      have := (List.getElem?_eq_some_iff.1 hu).1
      simp at this
      omega
    have hjz : j < zs.length := by omega
    have h2 := hc j hjz
    simp [hj, hjz] at hu
    rw [addr_add] at h2
    simp [hjz] at h2
    rw [h2, ← hu, Iv]

set_option maxRecDepth 100000 in
/-- A pool, opened. -/
theorem open_pool {H : Type} {enc : TypeId × Value → H} {W : World} {b : Nat} {v : Value} {d : DataW H} {p : List MemPlace} (hv : Value.okWide Tryd.prog W .any b 25 v) (h : DataW.Trod enc Tryd.prog W 0 (fun _ => true) true 25 v d p) :
    ∃ (S : Option Addr) (m c : Nat) (T : Option Addr) (k d : Nat) (l : List Int) (ts : List (List Int)), v = .agg #[.slice S m c, .slice T k d] ∧ Row W S m (l.map Iv) ∧ TabsU W T k ts ∧ m ≤ c ∧ k ≤ 9223372036854775807 := by
  obtain ⟨v0, v1, y0, y1, q, rfl, _, _, h0, h1⟩ := Joins.open_agg2 Tryd.underlying25 (by kernel_rfl) (by kernel_rfl) hv h
  have hs0 : ∃ (S : Option Addr) (m c : Nat) (l : List Int), v0 = .slice S m c ∧ Row W S m (l.map Iv) ∧ m ≤ c := by
    rcases open_ints Tryd.underlying22 Tryd.underlying3 (by kernel_rfl) h0 with ⟨hs, _⟩ | ⟨a, len, cap, zs, hs, _, hl, _, hz, _, hc, hw⟩
    · obtain rfl : v0 = .slice none 0 0 := by simpa using hs
      exact ⟨none, 0, 0, [], rfl, Row.none_, Nat.le_refl _⟩
    · obtain rfl : v0 = .slice (some a) len cap := by simpa using hs
      rw [if_pos rfl] at hz
      exact ⟨some a, len, cap, zs.take len, rfl, row_of_cells hl hz (fun i hi => hc i (by omega)), hl⟩
  obtain ⟨S, m, c, l, rfl, hR, hmc⟩ := hs0
  rcases Deep.open_int_rows Tryd.underlying23 Tryd.underlying22 Tryd.underlying3 (by kernel_rfl) (by kernel_rfl) h1 with ⟨hs, _⟩ | ⟨a, len, cap, A, L, C, Z, hs, _, hl, hcm, _, hr⟩
  · obtain rfl : v1 = .slice none 0 0 := by simpa using hs
    exact ⟨S, m, c, none, 0, 0, l, [], rfl, hR, ⟨rfl, fun h => absurd h (by omega)⟩, hmc, by omega⟩
  · obtain rfl : v1 = .slice (some a) len cap := by simpa using hs
    refine ⟨S, m, c, some a, len, cap, l, (List.range len).map fun r => (Z r).take (L r), rfl, hR, ⟨by simp, fun hp => ?_⟩, hmc, by unfold maxLen at hcm; omega⟩
    have hs0 : a.spot = none := by simpa [Addr.add] using World.cell?_spot (hr 0 (by omega)).1
    obtain ⟨b, off, spot⟩ := a
    obtain rfl : spot = none := hs0
    refine ⟨b, off, rfl, fun j t ht => ?_⟩
    rw [List.getElem?_map] at ht
    have hj : j < len := by
      rcases Nat.lt_or_ge j len with h | h
      · exact h
      · rw [List.getElem?_eq_none (by simpa using h)] at ht; cases ht
    rw [List.getElem?_eq_getElem (by simpa using hj)] at ht
    simp at ht
    subst ht
    obtain ⟨e1, e2, e3, e4, _, e6, e7⟩ := hr j (by omega)
    have e : (⟨b, off, none⟩ : Addr).add j = ⟨b, off + j, none⟩ := by
      unfold Addr.add
      by_cases h : j = 0 <;> simp [h]
    rw [e] at e1
    refine ⟨A j, L j, C j, e1, e2, ?_⟩
    cases hA : A j with
    | none =>
      have := e6 hA
      have hL0 : L j = 0 := by omega
      rw [hL0]
      simpa using Row.none_
    | some a' => exact row_of_cells e2 e4 (e7 a' hA).2

/-- THE DOOR's OWN HEAP MEETS THE CONDITION. -/
theorem door_met (os : Os) (args : Array Value) : laidMetH Tryd.prog row0.laid ((World.doorLaid Tryd.prog 200 os).forCall (fun _ _ => 0) ⟨#[], args, []⟩).memory :=
  laidMetH_of_parts3 (fuel := 8) (laidMet_of_run' 8 (by kernel_rfl) (by kernel_rfl)) (by kernel_rfl) (by kernel_rfl)

end Go.Proofs.YtllanbggjfmfhaaDoor
namespace Go.Proofs.YtllanbggjfmfhaaDoor.PoolBack
open Go.ChangeShapes Go.WideShapes Go.ChangeAt Go.RowKit

set_option maxRecDepth 100000 in
theorem contract (H : Type) (enc : TypeId × Value → H) (W : World) (base : Nat) (args : Array Value) (ds gs : List (DataW H)) (before : List MemPlace)
    (hval : ∀ (j : Nat) t v, Tryd.f7.params[j]? = some t → args[j]? = some v → Value.okWide Tryd.prog W .any base t v)
    (hW : DataW.Whole enc Tryd.prog Tryd.f7.params.toList Rows.poolBackSpec.vars false W args.toList ds gs before) (hL : laidMetH Tryd.prog Rows.poolBackRow.laid W) :
    Calls Tryd.prog 7 args W fun e W' => ∃ v, e = .returned v ∧ Rows.poolBackSpec.post enc Tryd.prog Tryd.f7 false true false false W args v W' := by
  have hW' := hW
  obtain ⟨p, q, hA0, hV, rfl, hfz, hnd⟩ := hW
  have hA : DataW.TrodAll enc Tryd.prog W 0 (fun _ => true) true Tryd.f7.params.toList args.toList ds p := hA0
  rw [Tryd.params7] at hA hval
  obtain ⟨v0, vs0, d0, ds0, p0, q0, hargs, rfl, rfl, h0, r0⟩ := trodAll_cons hA
  obtain ⟨v1, vs1, d1, ds1, p1, q1, rfl, rfl, rfl, h1, r1⟩ := trodAll_cons r0
  obtain ⟨rfl, rfl, rfl⟩ := trodAll_nil r1
  obtain rfl : args = #[v0, v1] := by cases args; simp_all
  obtain ⟨rfl, rfl⟩ := trodVars_none hV
  obtain ⟨S0, m0, c0, T0, k0, e0, l0, t0, rfl, hS0, hT0, hc0, hk0⟩ := open_pool (hval 0 _ v0 rfl rfl) h0
  obtain ⟨i1, rfl, rfl, rfl, b1⟩ := open_int Tryd.underlying3 (hval 1 _ v1 rfl rfl) h1
  obtain ⟨aS, aR, hRS, hE⟩ := sents hL
  refine (poolBack_any S0 m0 c0 T0 k0 e0 l0 t0 i1 aS aR W hRS hE hc0 hS0 hT0 hk0).mono fun e W' ⟨he, hb⟩ => ?_
  subst he
  exact ⟨_, rfl, post_true laidOut0 Tryd.underlying4 (by kernel_rfl) rfl (by kernel_rfl) hW' rfl hb⟩

noncomputable def wArgs : Array Value := #[.agg #[.slice none 0 0, .slice none 0 0], .int .i64 0]

theorem reads (os : Os) {H : Type} (enc : TypeId × Value → H) : ∃ places, DataW.whole enc Tryd.prog ((World.doorLaid Tryd.prog 200 os).forCall (fun _ _ => 0) ⟨#[], wArgs, []⟩).memory Tryd.f7.params.toList Rows.poolBackSpec.vars false wArgs.toList 8 = some ([.agg [.nil, .nil], .lit (.int .i64 0)], [], places) :=
  ⟨[], by kernel_rfl⟩

set_option maxRecDepth 100000 in
theorem lifted (os : Os) (started : os.Started) (H : Type) (enc : TypeId × Value → H) (F : Stop.Interp) :
    ReturnsInHanded {} Tryd.checked os 7 .any ((OpenSpec.ofChange Rows.poolBackSpec).preRow enc Tryd.prog Tryd.f7 Rows.poolBackRow.domain false Rows.poolBackRow.laid) (((OpenSpec.ofChange Rows.poolBackSpec).at F).post enc Tryd.prog Tryd.f7 false true false false) := by
  obtain ⟨places, hx⟩ := reads os enc
  refine returnsInHanded_of_row (C := Tryd.checked) (s := OpenSpec.ofChange Rows.poolBackSpec) own0 started (by kernel_rfl) Tryd.func7
    (witness_row_atRef (enc := enc) (C := Tryd.checked) false (World.doorLaid Tryd.prog 200 os) wArgs rfl (by kernel_rfl) (by kernel_rfl) (by kernel_rfl)
      (OpenSpec.preRow_of_cond 8 hx (by kernel_rfl) (fun k hk => by cases hk) (by kernel_rfl) (door_met os _))) ?_
  intro W base args ds gs before hval hW _ _ _ hL _ _
  exact contract H enc W base args ds gs before hval hW hL

theorem said : Rows.PoolBackSaid :=
  OpenClaim.holds_of_cond 7 Tryd.f7 rfl rfl rfl rfl rfl rfl rfl ⟨rfl, rfl, rfl, rfl, rfl⟩ rfl rfl rfl rfl rfl (by kernel_rfl) Tryd.func7 (by kernel_rfl)
    (of_decide_eq_true (by kernel_rfl)) (by unfold Func.isWrapper; first | (rw [if_pos (by decide +kernel)]; kernel_rfl) | (rw [if_neg (by decide +kernel)]; exact ⟨rfl, rfl⟩))
    (fun os started H enc _ F => by rw [OpenClaim.pre_eq_preRow]; exact lifted os started H enc F)

theorem plain (f : FuncId) (fn : Func) (hf : Tryd.pinned.checked.prog.funcNamed "selion/selionlaw10.PoolBack" = some f) (hfn : Tryd.pinned.checked.prog.funcs[f]? = some fn) :
    true = Tryd.pinned.checked.prog.looks [] ∧ ∀ (j : Nat) t, fn.params[j]? = some t → Tryd.pinned.checked.prog.wantsStandIn t = false := by
  obtain rfl : f = 7 := Option.some.inj ((show Tryd.prog.funcNamed "selion/selionlaw10.PoolBack" = some 7 by kernel_rfl).symm.trans hf) |>.symm
  obtain rfl : fn = Tryd.f7 := (Option.some.inj (Tryd.func7.symm.trans hfn)).symm
  refine ⟨by kernel_rfl, fun j t ht => ?_⟩
  have h : (Tryd.f7.params.toList.all fun t => !Tryd.prog.wantsStandIn t) = true := by kernel_rfl
  have := List.all_eq_true.1 h t (by simpa using Array.mem_of_getElem? ht)
  show Tryd.prog.wantsStandIn t = false
  simpa using this

/-- THE CARD. -/
theorem card : Rows.PoolBackCardSaid :=
  Claim7.holds_tied_plain_at .later [] _ _ _ _ said (fun _ h => by cases h) (by kernel_rfl) (fun _ h => by cases h) poolBack_row_tie rfl ⟨rfl, rfl⟩ (by kernel_rfl) rfl plain (by kernel_rfl)
end Go.Proofs.YtllanbggjfmfhaaDoor.PoolBack
