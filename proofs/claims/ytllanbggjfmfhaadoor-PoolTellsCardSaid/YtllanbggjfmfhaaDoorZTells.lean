/-
  What is proved: contracts of those functions that this program has, and plain facts beside them. No condition beyond those stated. plain laws of pools: what is taken leaves a right pool. No program in sight. No condition beyond those stated. plain laws of pools: how many blocks have a state after one is set, or a large one put; what is put, and given back, is as it was. No program in sight. No condition beyond those stated. contracts of zero and Right of the reference of layer 10. No condition beyond those stated. a pool that is built row by row, in new memory. No condition beyond those stated. the contract of New of the reference of layer 10. No condition beyond those stated. contracts of Same and Counts of the reference of layer 10. No condition beyond those stated. PoolTells returns true. No condition beyond those stated. contracts of those functions that this program has, and plain facts beside them. No condition beyond those stated. the row of PoolTells, and its tied card: whatever the input, true; the input reads as it did. No condition beyond the statement's own.
-/
import Derived.Test.YtllanbggjfmfhaaDoorOq
import Derived.Test.YtllanbggjfmfhaaDoorIb
import Derived.Test.YtllanbggjfmfhaaDoorKa
import Derived.Test.YtllanbggjfmfhaaDoorIc
import Derived.Maps.AppendAt
import Derived.Deep.RegionWith
import Derived.Test.YtllanbggjfmfhaaDoorIa
import Derived.Test.YtllanbggjfmfhaaDoorCards
import Derived.Test.YtllanbggjfmfhaaDoorTie
import Derived.ProofKit
import Derived.OpenShut
import Derived.Below
import Derived.ChangeSame
import Derived.WideKeyArgs
import Derived.LaidMore
import Derived.LaidHandle
import Derived.MakeChecks
import Derived.Stop.Joined
import Derived.Stop.LaidErr
import Derived.Stop.LaidTwo
import Derived.Lib.SmallJoins
import Derived.Deep.Matrix
import Derived.Deep.DeepHandedRow
import Derived.Deep.DeepWitnessRowRef
namespace Go.Proofs.YtllanbggjfmfhaaDoor
open Go.RowKit Go.Shelf

set_option maxHeartbeats 1000000 in
theorem refright_any (A : Option Addr) (m c : Nat) (l : List Int) (w : World) (hR : Row w A m (l.map Iv)) (hm : m ≤ 1000) :
    Calls Tryd.prog 70 #[.slice A m c] w fun e w' => e = .returned (.bool (rightL l)) ∧ w = w' := by
  have hl := hR.1
  simp at hl
  have HR := Lib.hid hR
  have HL := Lib.hid hl
  clear hR hl
  go_enter Tryd.func70, Tryd.ntmps70
  go_wp2
  go_loop [3] (fun i => ∃ k : Nat, k ≤ m ∧ i = .int .i64 k ∧ ∀ j, j < k → knownB (l.getD j 0) = true) (fun i => m - (intOf i).toNat)
  case atStart => exact ⟨0, Nat.zero_le _, rfl, fun j hj => absurd hj (by omega)⟩
  case round =>
    obtain ⟨k, hk, rfl, hz⟩ := hrel
    have HZ := Lib.hid hz
    clear hz
    by_cases hlt : k < m
    · obtain ⟨b, off, x, rfl, hcx, hx, hx2⟩ := num_at HR.out hlt
      have hbad : knownB x = false → rightL l = false := fun h => by
        unfold rightL
        rw [show l.all knownB = false by rw [List.all_eq_false]; exact ⟨x, List.mem_of_getElem? hx2, by rw [h]; exact Bool.false_ne_true⟩]
        simp
      have BAD := Lib.hid hbad
      have HX := Lib.hid hx
      clear hbad hx hx2
      by_cases h0 : x < 0
      · have HK : Hid (knownB x = false) := Lib.hid (by simp [knownB]; omega)
        go_wp2
        go_ret
        exact ⟨ret_bool (BAD.out HK.out).symm, rfl⟩
      by_cases h1 : 5 < x
      · have HK : Hid (knownB x = false) := Lib.hid (by simp [knownB]; omega)
        go_wp2
        go_ret
        exact ⟨ret_bool (BAD.out HK.out).symm, rfl⟩
      · have HK : Hid (knownB x = true) := Lib.hid (by simp [knownB]; omega)
        go_wp2
        go_round
        case rel => exact ⟨k + 1, by omega, by go_num, fun j hj => by
          by_cases e : j = k
          · rw [e, HX.out]; exact HK.out
          · exact HZ.out j (by omega)⟩
        case measure => simp [intOf]; omega
    · have HALL : Hid (l.all knownB = true) := Lib.hid (by
        rw [List.all_eq_true]
        intro x hx
        obtain ⟨j, hj, rfl⟩ := List.mem_iff_getElem.1 hx
        have := HZ.out j (by have := HL.out; omega)
        rwa [List.getD_eq_getElem?_getD, List.getElem?_eq_getElem hj] at this)
      by_cases h1 : 1 ≤ m
      · by_cases h2 : m ≤ 32
        · go_wp2
          go_ret
          refine ⟨ret_bool ?_, rfl⟩
          have := HL.out
          rw [rightL, HALL.out, decide_eq_true (show 1 ≤ l.length by omega), decide_eq_true (show l.length ≤ 32 by omega)]
          simp
          omega
        · go_wp2
          go_ret
          refine ⟨ret_bool ?_, rfl⟩
          have := HL.out
          rw [rightL, decide_eq_false (show ¬ l.length ≤ 32 by omega)]
          simp
          omega
      · go_wp2
        go_ret
        refine ⟨ret_bool ?_, rfl⟩
        have := HL.out
        rw [rightL, decide_eq_false (show ¬ 1 ≤ l.length by omega)]
        simp

set_option maxRecDepth 100000 in
set_option maxHeartbeats 1000000 in
theorem refwhole_any (A : Option Addr) (m c : Nat) (l : List Int) (w : World) (hR : Row w A m (l.map Iv)) (hm : m ≤ 1000) :
    Calls Tryd.prog 45 #[.slice A m c] w fun e w' => e = .returned (.bool (wholeL l)) ∧ w = w' := by
  have hl := hR.1
  simp at hl
  have HR := Lib.hid hR
  have HL := Lib.hid hl
  clear hR hl
  go_enter Tryd.func45, Tryd.ntmps45
  go_wp2
  go_loop [3] (fun i => ∃ k : Nat, k ≤ m ∧ i = .int .i64 k ∧ ∀ j, j < k → okAt l j = true) (fun i => m - (intOf i).toNat)
  case atStart => exact ⟨0, Nat.zero_le _, rfl, fun j hj => absurd hj (by omega)⟩
  case round =>
    obtain ⟨k, hk, rfl, hz⟩ := hrel
    have HZ := Lib.hid hz
    clear hz
    have NX : Hid (okAt l k = true → ∀ j, j < k + 1 → okAt l j = true) := Lib.hid (fun h j hj => by
      by_cases e : j = k
      · rw [e]; exact h
      · exact HZ.out j (by omega))
    by_cases hlt : k < m
    · obtain ⟨b, off, y, rfl, hcy, hy, -⟩ := num_at HR.out hlt
      have BAD : Hid (okAt l k = false → wholeL l = false) := Lib.hid (fun h => by
        unfold wholeL
        rw [show (List.range l.length).all (okAt l) = false by
          rw [List.all_eq_false]
          exact ⟨k, by simp; have := HL.out; omega, by rw [h]; exact Bool.false_ne_true⟩]
        simp)
      have HY := Lib.hid hy
      clear hy
      by_cases h4 : y = 4
      · subst h4
        by_cases hk0 : k = 0
        · have ho : okAt l k = false := by
            unfold okAt
            rw [HY.out, show (k == 0) = true by simpa using hk0]
            rfl
          have hkz : ((k : Int) == 0) = true := by simp; omega
          have HO := Lib.hid ho
          clear ho hk0
          go_wp2
          go_ret
          exact ⟨ret_bool (BAD.out HO.out).symm, rfl⟩
        · obtain ⟨b', off', x, e', hcx, hx, -⟩ := num_at (k := k - 1) HR.out (by omega)
          cases e'
          have hk1 : 1 ≤ k := by omega
          have hkz : ((k : Int) == 0) = false := by simp; omega
          have hsub : ((k : Int) - 1).toNat = k - 1 := by omega
          have hkn : ((k : Int) - 1) < m := by omega
          have ho : okAt l k = (x == 3 || x == 4) := by
            simp only [okAt, HY.out, hx]
            simp [hk0]
          have HO := Lib.hid ho
          clear ho hx
          by_cases h3 : x = 3
          · have hd3 : (x != 3) = false := by simpa using h3
            have HP : Hid ((x == 3 || x == 4) = true) := Lib.hid (by simp [h3])
            clear h3
            go_wp2
            go_round
            case rel => exact ⟨k + 1, by omega, by go_num, NX.out (HO.out.trans HP.out)⟩
            case measure => simp [intOf]; omega
          · have hd3 : (x != 3) = true := by simpa using h3
            by_cases h5 : x = 4
            · have hd4 : (x != 4) = false := by simpa using h5
              have HP : Hid ((x == 3 || x == 4) = true) := Lib.hid (by simp [h5])
              clear h3 h5
              go_wp2
              go_round
              case rel => exact ⟨k + 1, by omega, by go_num, NX.out (HO.out.trans HP.out)⟩
              case measure => simp [intOf]; omega
            · have hd4 : (x != 4) = true := by simpa using h5
              have HP : Hid ((x == 3 || x == 4) = false) := Lib.hid (by simp [h3, h5])
              clear h3 h5
              go_wp2
              go_ret
              exact ⟨ret_bool (BAD.out (HO.out.trans HP.out)).symm, rfl⟩
      · have hd : (y == 4) = false := by simpa using h4
        have ho : okAt l k = true := by simp only [okAt, HY.out, hd]; rfl
        have HO := Lib.hid ho
        clear ho
        go_wp2
        go_round
        case rel => exact ⟨k + 1, by omega, by go_num, NX.out HO.out⟩
        case measure => simp [intOf]; omega
    · have HALL : Hid (wholeL l = rightL l) := Lib.hid (by
        unfold wholeL
        rw [show (List.range l.length).all (okAt l) = true by
          rw [List.all_eq_true]
          exact fun j hj => HZ.out j (by have := HL.out; simp at hj; omega)]
        simp)
      go_wp2_with fail
      refine (refright_any A m c l w HR.out hm).mono ?_
      rintro e w' ⟨rfl, rfl⟩
      go_wp2
      go_ret
      exact ⟨ret_bool HALL.out.symm, rfl⟩

set_option maxHeartbeats 1000000 in
theorem refcount_any (A : Option Addr) (m c : Nat) (l : List Int) (s : Int) (w : World) (hR : Row w A m (l.map Iv)) (hm : m ≤ 1000) :
    Calls Tryd.prog 44 #[.slice A m c, .int .i64 s] w fun e w' => e = .returned (.int .i64 (countL l s : Nat)) ∧ w = w' := by
  have hl := hR.1
  simp at hl
  have HR := Lib.hid hR
  have HL := Lib.hid hl
  clear hR hl
  go_enter Tryd.func44, Tryd.ntmps44
  go_wp2
  go_loop [5, 6] (fun n i => ∃ k : Nat, k ≤ m ∧ i = .int .i64 k ∧ n = .int .i64 (countL (l.take k) s : Nat)) (fun _ i => m - (intOf i).toNat)
  case atStart => exact ⟨0, Nat.zero_le _, rfl, rfl⟩
  case round =>
    obtain ⟨k, hk, rfl, rfl⟩ := hrel
    by_cases hlt : k < m
    · obtain ⟨b, off, x, rfl, hcx, hx, -⟩ := num_at HR.out hlt
      have hsn := count_snoc l k (by have := HL.out; omega) s
      rw [hx] at hsn
      have hcl := count_len (l.take k) s
      have hcl2 : (l.take k).length ≤ k := List.length_take_le _ _
      generalize countL (l.take k) s = cc at *
      have hcm : cc ≤ 1000 := by omega
      have HSN := Lib.hid hsn
      clear hsn hx hcl hcl2
      by_cases hxs : x = s
      · have hd : (x == s) = true := by simpa using hxs
        have HX := Lib.hid hxs
        clear hxs
        go_wp2
        go_round
        case rel => exact ⟨k + 1, by omega, by go_num, by rw [HSN.out, if_pos (by simpa using HX.out)]; go_num⟩
        case measure => simp [intOf]; omega
      · have hd : (x == s) = false := by simpa using hxs
        have HX := Lib.hid hxs
        clear hxs
        go_wp2
        go_round
        case rel => exact ⟨k + 1, by omega, by go_num, by rw [HSN.out, if_neg (by simpa using HX.out)]; rfl⟩
        case measure => simp [intOf]; omega
    · have HFIN : Hid (countL (l.take k) s = countL l s) := Lib.hid (by rw [List.take_of_length_le (by have := HL.out; omega)])
      go_wp2
      go_ret
      exact ⟨ret_int (by rw [HFIN.out]), rfl⟩

end Go.Proofs.YtllanbggjfmfhaaDoor
namespace Go.Proofs.YtllanbggjfmfhaaDoor
open Go.RowKit Go.Shelf

theorem pright_iff {l : List Int} {ts : List (List Int)} : pRight l ts = true ↔ wholeL l = true ∧ ts.length = l.length ∧ ∀ i, i < l.length → tabB (ts.getD i []) = true ∧ asksOf (l.getD i 0) (ts.getD i []) = true := by
  simp only [pRight, Bool.and_eq_true, decide_eq_true_eq, List.all_eq_true, List.mem_range, blkOk]
  constructor
  · rintro ⟨⟨h1, h2⟩, h3⟩
    exact ⟨h1, h2, h3⟩
  · rintro ⟨h1, h2, h3⟩
    exact ⟨⟨h1, h2⟩, h3⟩

theorem firstOf_spec {l : List Int} {s : Int} {i : Nat} (h : firstOf l s = some i) : i < l.length ∧ l.getD i 0 = s := by
  unfold firstOf at h
  have h1 := List.mem_of_find?_eq_some h
  have h2 := List.find?_some h
  exact ⟨by simpa using h1, by simpa using h2⟩
theorem firstOf_some {l : List Int} {s : Int} : (firstOf l s).isSome = decide (0 < countL l s) := by
  rw [Bool.eq_iff_iff]
  unfold firstOf
  rw [List.find?_isSome, decide_eq_true_eq]
  unfold countL
  rw [List.countP_pos_iff]
  constructor
  · rintro ⟨i, hi, h⟩
    rw [List.mem_range] at hi
    exact ⟨l[i], List.getElem_mem _, by simpa [hi] using h⟩
  · rintro ⟨x, hx, h⟩
    obtain ⟨i, hi, rfl⟩ := List.mem_iff_getElem.1 hx
    exact ⟨i, by simpa using hi, by simpa [hi] using h⟩

/-- A state that is no large one's may be set to another such one. -/
theorem whole_set {l : List Int} {i : Nat} {x : Int} (hw : wholeL l = true) (hi : i < l.length) (h3 : l.getD i 0 ≠ 3) (h4 : l.getD i 0 ≠ 4) (hx : 0 ≤ x ∧ x ≤ 5) (hx4 : x ≠ 4) : wholeL (l.set i x) = true := by
  obtain ⟨hr, ho⟩ := whole_iff.1 hw
  obtain ⟨h1, h2, h5⟩ := right_iff.1 hr
  refine whole_iff.2 ⟨right_iff.2 ⟨by simpa using h1, by simpa using h2, fun j hj => ?_⟩, fun j hj => ?_⟩
  · rw [getD_set_eq l j i x hi]
    split
    · exact hx
    · exact h5 j (by simpa using hj)
  · have hj' : j < l.length := by simpa using hj
    have := okAt_iff.1 (ho j hj')
    rw [okAt_iff, getD_set_eq l j i x hi, getD_set_eq l (j - 1) i x hi]
    intro h
    by_cases e : j = i
    · rw [if_pos e] at h; exact absurd h hx4
    · rw [if_neg e] at h
      obtain ⟨a, b⟩ := this h
      refine ⟨a, ?_⟩
      by_cases e2 : j - 1 = i
      · rw [e2] at b
        rcases b with b | b
        · exact absurd b h3
        · exact absurd b h4
      · rw [if_neg e2]; exact b

theorem pright_set {l : List Int} {ts : List (List Int)} {i : Nat} {x : Int} (hp : pRight l ts = true) (hi : i < l.length) (h3 : l.getD i 0 ≠ 3) (h4 : l.getD i 0 ≠ 4) (hx : x = 2 ∨ x = 5) : pRight (l.set i x) ts = true := by
  obtain ⟨hw, ht, ha⟩ := pright_iff.1 hp
  refine pright_iff.2 ⟨whole_set hw hi h3 h4 (by omega) (by omega), by simpa using ht, fun j hj => ?_⟩
  have hj' : j < l.length := by simpa using hj
  refine ⟨(ha j hj').1, ?_⟩
  rw [getD_set_eq l j i x hi]
  split
  · unfold asksOf
    rw [if_neg (by omega), if_neg (by omega)]
  · exact (ha j hj').2

theorem others_set {l : List Int} {ts : List (List Int)} {i : Nat} {x : Int} (ht : ts.length = l.length) (hi : i < l.length) : Others l (l.set i x) ts ts i 1 := by
  refine ⟨by simp, ht, ht, fun j hj h => ⟨?_, rfl⟩⟩
  rw [getD_set_eq l j i x hi, if_neg (by omega)]

theorem take_keeps {l : List Int} {ts : List (List Int)} {s : Int} (hs : s = 0 ∨ s = 1) (h : takeOk l ts s = true) :
    pRight l ts = true ∧ pRight (takeL l ts s) (takeT l ts s) = true ∧ Others l (takeL l ts s) ts (takeT l ts s) (takeN l ts s) 1 ∧ takeN l ts s < l.length ∧ l.getD (takeN l ts s) 0 = s ∧ takeL l ts s = l.set (takeN l ts s) 5 ∧ takeT l ts s = ts := by
  have hp : pRight l ts = true := by
    unfold takeOk at h
    exact (Bool.and_eq_true_iff.1 h).1
  have hf : (firstOf l s).isSome = true := by
    unfold takeOk at h
    exact (Bool.and_eq_true_iff.1 h).2
  obtain ⟨i, hi⟩ := Option.isSome_iff_exists.1 hf
  have hN : takeN l ts s = i := by unfold takeN; rw [h, hi]; rfl
  have hL : takeL l ts s = l.set i 5 := by unfold takeL; rw [h, hN]; rfl
  have hT : takeT l ts s = ts := by unfold takeT; rw [h]; rfl
  obtain ⟨h1, h2⟩ := firstOf_spec hi
  rw [hN, hL, hT]
  exact ⟨hp, pright_set hp h1 (by omega) (by omega) (.inr rfl), others_set (pright_iff.1 hp).2.1 h1, h1, h2, rfl, rfl⟩

theorem run_keeps {l : List Int} {ts : List (List Int)} {k : Int} (h : runOk l ts k = true) :
    pRight l ts = true ∧ 1 ≤ k ∧ k ≤ 32 ∧ PutIn l (runN l ts k) k.toNat ∧ pRight (runL l ts k) (runT l ts k) = true ∧ Others l (runL l ts k) ts (runT l ts k) (runN l ts k) k.toNat ∧ runL l ts k = putL l (runN l ts k) k.toNat ∧ runT l ts k = ts := by
  have hp : pRight l ts = true := by
    unfold runOk at h
    exact (Bool.and_eq_true_iff.1 h).1
  have hf : (firstR l k).isSome = true := by
    unfold runOk at h
    exact (Bool.and_eq_true_iff.1 h).2
  obtain ⟨r, hr⟩ := Option.isSome_iff_exists.1 hf
  have hN : runN l ts k = r.1 := by unfold runN; rw [h, hr]; rfl
  have hL : runL l ts k = putL l r.1 k.toNat := by unfold runL; rw [h, hN]; rfl
  have hT : runT l ts k = ts := by unfold runT; rw [h]; rfl
  obtain ⟨hpo, hk⟩ := first_fits hr
  obtain ⟨hpi, _, _, hlen⟩ := PutIn.of hpo
  obtain ⟨hw, ht, ha⟩ := pright_iff.1 hp
  have hle := (right_iff.1 (whole_iff.1 hw).1).2.1
  rw [Int.toNat_natCast] at hpi
  rw [hN, hL, hT]
  refine ⟨hp, hk, by omega, hpi, ?_, ⟨put_len _ _ _, ht, ht, fun j hj hjo => ⟨?_, rfl⟩⟩, rfl, rfl⟩
  · refine pright_iff.2 ⟨put_whole_whole hw hpi, by rw [put_len]; exact ht, fun j hj => ?_⟩
    rw [put_len] at hj
    refine ⟨(ha j hj).1, ?_⟩
    have hz : r.1 ≤ j → j < r.1 + k.toNat → asksOf 0 (ts.getD j []) = true := fun h1 h2 => by
      have h3 := (ha j hj).2
      rwa [hpi.hz j h1 h2] at h3
    have e3 : ∀ t, asksOf 3 t = asksOf 0 t := fun t => by simp [asksOf]
    have e4 : ∀ t, asksOf 4 t = asksOf 0 t := fun t => by simp [asksOf]
    rw [put_get hj]
    split
    · rename_i e
      rw [e3]; exact hz (by omega) (by omega)
    · split
      · rename_i e
        rw [e4]; exact hz (by omega) (by omega)
      · exact (ha j hj).2
  · rw [put_get hj, if_neg (by omega), if_neg (by omega)]

theorem takeL_len (l : List Int) (ts : List (List Int)) (s : Int) : (takeL l ts s).length ≤ l.length := by
  unfold takeL
  split <;> simp
theorem takeT_len (l : List Int) (ts : List (List Int)) (s : Int) : (takeT l ts s).length ≤ ts.length := by
  unfold takeT
  split <;> simp
theorem runL_len (l : List Int) (ts : List (List Int)) (k : Int) : (runL l ts k).length ≤ l.length := by
  unfold runL
  split
  · rw [put_len]; exact Nat.le_refl _
  · simp
theorem runT_len (l : List Int) (ts : List (List Int)) (k : Int) : (runT l ts k).length ≤ ts.length := by
  unfold runT
  split <;> simp

end Go.Proofs.YtllanbggjfmfhaaDoor
namespace Go.Proofs.YtllanbggjfmfhaaDoor
open Go.RowKit Go.Shelf

theorem count_at {l : List Int} {i : Nat} {x a : Int} (hi : i < l.length) (h0 : l.getD i 0 = a) (s : Int) :
    countL (l.set i x) s + (if a = s then 1 else 0) = countL l s + (if x = s then 1 else 0) := by
  unfold countL
  have h1 : l[i] = a := by simpa [hi] using h0
  rw [List.countP_set hi, h1]
  by_cases e : a = s
  · have h2 : 0 < l.countP (· == s) := List.countP_pos_iff.2 ⟨l[i], List.getElem_mem hi, by simp [h1, e]⟩
    by_cases f : x = s
    · simp [e, f]; omega
    · simp [e, f]; omega
  · by_cases f : x = s <;> simp [e, f]

theorem put_counts {l : List Int} {f k : Nat} (h : PutIn l f k) : countL (putL l f k) 0 + k = countL l 0 ∧ countL (putL l f k) 3 = countL l 3 + 1 ∧ countL (putL l f k) 4 + 1 = countL l 4 + k := by
  have hk := h.hk
  have hfk := h.hfk
  have gen : ∀ j, 1 ≤ j → j ≤ k → countL (putL l f j) 0 + j = countL l 0 ∧ countL (putL l f j) 3 = countL l 3 + 1 ∧ countL (putL l f j) 4 + 1 = countL l 4 + j := by
    intro j
    induction j with
    | zero => intro h; omega
    | succ j ih =>
      intro _ hjk
      by_cases hj : j = 0
      · subst hj
        rw [← put_one (by omega)]
        have hz := h.hz f (by omega) (by omega)
        have a0 := count_at (x := 3) (by omega) hz 0
        have a3 := count_at (x := 3) (by omega) hz 3
        have a4 := count_at (x := 3) (by omega) hz 4
        simp at a0 a3 a4
        omega
      · rw [← put_step (by omega) (by omega)]
        obtain ⟨h1, h2, h3⟩ := ih (by omega) (by omega)
        have hz : (putL l f j).getD (f + j) 0 = 0 := by rw [put_get (by omega), if_neg (by omega), if_neg (by omega)]; exact h.hz _ (by omega) (by omega)
        have hl : f + j < (putL l f j).length := by rw [put_len]; omega
        have a0 := count_at (x := 4) hl hz 0
        have a3 := count_at (x := 4) hl hz 3
        have a4 := count_at (x := 4) hl hz 4
        simp at a0 a3 a4
        omega
  exact gen k hk (Nat.le_refl _)

theorem cntTo_six (l : List Int) : cntTo l 6 = [((countL l 0 : Nat) : Int), ((countL l 1 : Nat) : Int), ((countL l 2 : Nat) : Int), ((countL l 3 : Nat) : Int), ((countL l 4 : Nat) : Int), ((countL l 5 : Nat) : Int)] := rfl

/-- What a block that is taken changes of the counts. -/
theorem take_counts {l : List Int} {ts : List (List Int)} {s : Int} (hs : s = 0 ∨ s = 1) (h : takeOk l ts s = true) :
    pRight (takeL l ts s) (takeT l ts s) = true ∧ countL (takeL l ts s) s + 1 = countL l s ∧ countL (takeL l ts s) 5 = countL l 5 + 1 ∧ countL (takeL l ts s) (1 - s) = countL l (1 - s) := by
  obtain ⟨-, h2, -, h4, h5, h6, -⟩ := take_keeps hs h
  refine ⟨h2, ?_⟩
  rw [h6]
  have a1 := count_at (x := 5) h4 h5 s
  have a2 := count_at (x := 5) h4 h5 5
  have a3 := count_at (x := 5) h4 h5 (1 - s)
  rw [if_pos rfl, if_neg (by omega)] at a1
  rw [if_neg (by omega), if_pos rfl] at a2
  rw [if_neg (by omega), if_neg (by omega)] at a3
  exact ⟨by omega, by omega, by omega⟩
theorem run_counts {l : List Int} {ts : List (List Int)} {k : Int} (h : runOk l ts k = true) :
    1 ≤ k ∧ k ≤ 32 ∧ pRight (runL l ts k) (runT l ts k) = true ∧ (countL (runL l ts k) 0 : Int) = countL l 0 - k ∧ (countL (runL l ts k) 3 : Int) = countL l 3 + 1 ∧ (countL (runL l ts k) 4 : Int) = countL l 4 + k - 1 := by
  obtain ⟨-, h1, h2, h3, h4, -, h6, -⟩ := run_keeps h
  obtain ⟨a0, a3, a4⟩ := put_counts h3
  rw [h6] at h4 ⊢
  exact ⟨h1, h2, h4, by omega, by omega, by omega⟩
theorem takeOk_iff {l : List Int} {ts : List (List Int)} {s : Int} (hp : pRight l ts = true) : takeOk l ts s = decide (0 < countL l s) := by
  unfold takeOk
  rw [hp, firstOf_some]
  rfl
theorem pright_len {l : List Int} {ts : List (List Int)} (hp : pRight l ts = true) : 1 ≤ l.length ∧ l.length ≤ 32 := by
  have h := right_iff.1 (whole_iff.1 (pright_iff.1 hp).1).1
  exact ⟨h.1, h.2.1⟩

theorem empty_tab {t : List Int} (ht : tabB t = true) (h : cntN t = 0) : t = tab0 := by
  have hl := tab_len ht
  unfold cntN linesR at h
  rw [ht] at h
  simp only [if_true] at h
  have h2 : linesL t = [] := List.eq_nil_of_length_eq_zero h
  unfold linesL at h2
  rw [List.map_eq_nil_iff, List.filter_eq_nil_iff] at h2
  refine list_ext0 (by rw [hl]; rfl) fun i hi => ?_
  have h3 := h2 i (by rw [List.mem_range]; omega)
  unfold keptB at h3
  have h4 : t.getD i 0 = 0 := by
    by_cases e : t.getD i 0 = 0
    · exact e
    · exact absurd (by rw [Bool.or_eq_true]; exact .inl (bne_iff_ne.2 e)) h3
  rw [h4]
  have h5 : ∀ i, i < 32 → tab0.getD i 0 = 0 := by decide
  exact (h5 i (by omega)).symm

theorem hasB1 (y x : Int) : hasB [y] x = decide (x = y) := by simp [hasB]
theorem hasN_set {l : List Int} {i : Nat} {x : Int} {ws : List Int} (hi : i < l.length) (hx : hasB ws x = true) : hasN (l.set i x) (i : Int) ws = true := by
  unfold hasN
  rw [Int.toNat_natCast, getD_set_eq l i i x hi, if_pos rfl, hx]
  simp; omega
theorem set_set_same (l : List Int) (i : Nat) (x y : Int) : (l.set i x).set i y = l.set i y := by simp
theorem set_back {l : List Int} {i : Nat} {y : Int} (hi : i < l.length) (h : l.getD i 0 = y) : l.set i y = l := by
  refine list_ext0 (by simp) fun j hj => ?_
  rw [getD_set_eq l j i y hi]
  split
  · rename_i e; rw [e, h]
  · rfl
theorem set_back_t {ts : List (List Int)} {i : Nat} {t : List Int} (h : ts.getD i [] = t) : ts.set i t = ts := by
  by_cases hi : i < ts.length
  · have : ts[i] = t := by simpa [hi] using h
    rw [← this]; exact List.set_getElem_self hi
  · rw [List.set_eq_of_length_le (by omega)]

/-- A large one that is taken is dropped again. -/
theorem run_back {l : List Int} {ts : List (List Int)} {k : Int} (h : runOk l ts k = true) :
    1 ≤ k ∧ dropC (runL l ts k) (runT l ts k) (runN l ts k : Nat) = 0 ∧ ((dropN (runL l ts k) (runT l ts k) (runN l ts k : Nat) : Nat) : Int) = k ∧ dropL (runL l ts k) (runT l ts k) (runN l ts k : Nat) = l ∧ dropT (runL l ts k) (runT l ts k) (runN l ts k : Nat) = ts := by
  obtain ⟨hp, h1, h2, h3, h4, -, h6, h7⟩ := run_keeps h
  have hw := (pright_iff.1 hp).1
  have hk := h3.hk
  have hfk := h3.hfk
  have hc : cutOk (runL l ts k) (runN l ts k : Nat) = true := by
    rw [h6]
    unfold cutOk
    rw [Int.toNat_natCast, put_head h3, put_len]
    simp; omega
  have he : endC (runL l ts k) (runN l ts k : Nat) = runN l ts k + k.toNat := by
    unfold endC
    rw [h6, Int.toNat_natCast]
    exact put_end hw h3
  unfold dropC dropN dropL dropT
  rw [h4, hc, he, Int.toNat_natCast]
  simp only [Bool.and_self, if_true]
  refine ⟨h1, trivial, by omega, ?_, h7⟩
  rw [h6]
  exact put_cut h3
theorem run_free {l : List Int} {ts : List (List Int)} {k : Int} (h : runOk l ts k = true) : takeOk l ts 0 = true := by
  obtain ⟨hp, -, -, h3, -⟩ := run_keeps h
  rw [takeOk_iff hp]
  have := (put_counts h3).1
  have := h3.hk
  simp; omega

/-- A block that is taken, closed, and laid with an empty table, is free again. -/
theorem take_back {l : List Int} {ts : List (List Int)} (h : takeOk l ts 0 = true) :
    closeC (takeL l ts 0) (takeT l ts 0) (takeN l ts 0 : Nat) = 0 ∧ setC (closeL (takeL l ts 0) (takeT l ts 0) (takeN l ts 0 : Nat)) (closeT (takeL l ts 0) (takeT l ts 0) (takeN l ts 0 : Nat)) (takeN l ts 0 : Nat) tab0 = 0
    ∧ setL (closeL (takeL l ts 0) (takeT l ts 0) (takeN l ts 0 : Nat)) (closeT (takeL l ts 0) (takeT l ts 0) (takeN l ts 0 : Nat)) (takeN l ts 0 : Nat) tab0 = l
    ∧ setT (closeL (takeL l ts 0) (takeT l ts 0) (takeN l ts 0 : Nat)) (closeT (takeL l ts 0) (takeT l ts 0) (takeN l ts 0 : Nat)) (takeN l ts 0 : Nat) tab0 = ts := by
  obtain ⟨hp, h2, -, h4, h5, h6, h7⟩ := take_keeps (.inl rfl) h
  generalize takeN l ts 0 = i at *
  have hn : hasN (takeL l ts 0) (i : Nat) [5] = true := by rw [h6]; exact hasN_set h4 rfl
  have hcl : closeL (takeL l ts 0) (takeT l ts 0) (i : Nat) = l.set i 2 := by
    unfold closeL
    rw [h2, hn, Int.toNat_natCast, h6, set_set_same]; rfl
  have hct : closeT (takeL l ts 0) (takeT l ts 0) (i : Nat) = ts := by
    unfold closeT
    rw [h2, hn, h7]; rfl
  have hpr : pRight (l.set i 2) ts = true := pright_set hp h4 (by omega) (by omega) (.inl rfl)
  have hn2 : hasN (l.set i 2) (i : Nat) [1, 2, 5] = true := hasN_set h4 rfl
  have ht0 : tabB tab0 = true := by decide
  have hok : setOk (l.set i 2) ts (i : Nat) tab0 = true := by unfold setOk; rw [hpr, hn2, ht0]; rfl
  rw [hcl, hct]
  refine ⟨by unfold closeC; rw [h2, hn]; rfl, by unfold setC; rw [hpr, hn2, ht0]; rfl, ?_, ?_⟩
  · unfold setL
    rw [hok, Int.toNat_natCast, set_set_same]
    exact set_back h4 h5
  · unfold setT
    rw [hok, Int.toNat_natCast]
    obtain ⟨h8, h9⟩ := (pright_iff.1 hp).2.2 i h4
    rw [h5] at h9
    have h10 : cntN (ts.getD i []) = 0 := by
      unfold asksOf emptyB at h9
      simpa using h9
    exact set_back_t (empty_tab h8 h10)

theorem state_le (t : List Int) : 0 ≤ stateOf t ∧ stateOf t ≤ 2 := by
  unfold stateOf
  split
  · omega
  · split <;> omega
theorem state_asks (t : List Int) : asksOf (stateOf t) t = true := by
  unfold stateOf
  split
  · rename_i h; simp [asksOf, emptyB, h]
  · rename_i h
    split
    · rename_i h2; simp [asksOf, holeyB]; omega
    · simp [asksOf]

/-- A block with a table laid anew. -/
theorem set_keeps {l : List Int} {ts : List (List Int)} {b : Int} {t : List Int} (h : setOk l ts b t = true) :
    ∃ i : Nat, b = i ∧ i < l.length ∧ ts.length = l.length ∧ pRight l ts = true ∧ pRight (setL l ts b t) (setT l ts b t) = true ∧ Others l (setL l ts b t) ts (setT l ts b t) i 1
      ∧ setL l ts b t = l.set i (stateOf t) ∧ setT l ts b t = ts.set i t
      ∧ countL (setL l ts b t) 3 = countL l 3 ∧ countL (setL l ts b t) 4 = countL l 4 ∧ countL (setL l ts b t) 0 + countL (setL l ts b t) 1 + countL (setL l ts b t) 2 + countL (setL l ts b t) 5 = countL l 0 + countL l 1 + countL l 2 + countL l 5 := by
  have h' := h
  unfold setOk at h'
  simp only [Bool.and_eq_true] at h'
  obtain ⟨hp, hn, ht⟩ := h'
  obtain ⟨i, rfl, hi, hm⟩ := hasN_lt hn
  have hm' : l.getD i 0 = 1 ∨ l.getD i 0 = 2 ∨ l.getD i 0 = 5 := by simpa [hasB] using hm
  obtain ⟨hw, hl, ha⟩ := pright_iff.1 hp
  have hL : setL l ts (i : Int) t = l.set i (stateOf t) := by unfold setL; rw [h, Int.toNat_natCast]; rfl
  have hT : setT l ts (i : Int) t = ts.set i t := by unfold setT; rw [h, Int.toNat_natCast]; rfl
  obtain ⟨s0, s2⟩ := state_le t
  have hg : ∀ j, (ts.set i t).getD j [] = if j = i then t else ts.getD j [] := fun j => by
    by_cases e : j = i
    · subst e; simp [show j < ts.length by omega]
    · simp [e, List.getElem?_set_ne (Ne.symm e)]
  have a := fun s => count_at (x := stateOf t) hi rfl s
  have a0 := a 0
  have a1 := a 1
  have a2 := a 2
  have a3 := a 3
  have a4 := a 4
  have a5 := a 5
  rw [hL, hT]
  refine ⟨i, rfl, hi, hl, hp, ?_, ⟨by simp, hl, by simp [hl], fun j hj hji => ?_⟩, rfl, rfl, ?_⟩
  · refine pright_iff.2 ⟨whole_set hw hi (by omega) (by omega) (by omega) (by omega), by simp [hl], fun j hj => ?_⟩
    have hj' : j < l.length := by simpa using hj
    rw [getD_set_eq l j i _ hi, hg]
    split
    · exact ⟨ht, state_asks t⟩
    · exact ha j hj'
  · rw [getD_set_eq l j i _ hi, if_neg (by omega), hg, if_neg (by omega)]
    exact ⟨rfl, rfl⟩
  · clear a
    generalize l.getD i 0 = y at *
    generalize stateOf t = x at *
    clear h hn hm hp hw ha hL hT hg hl ht
    rcases hm' with rfl | rfl | rfl
    all_goals
      obtain rfl | rfl | rfl : x = 0 ∨ x = 1 ∨ x = 2 := by omega
      all_goals
        simp at a0 a1 a2 a3 a4 a5
        omega

theorem setC_no {l : List Int} {ts : List (List Int)} {b : Int} {t : List Int} (h : setOk l ts b t = false) : setC l ts b t ≠ 0 ∧ setL l ts b t = [] ∧ (setC l ts b t = 100 ↔ pRight l ts = false) := by
  refine ⟨?_, by unfold setL; rw [h]; rfl, ?_⟩
  · unfold setOk at h
    unfold setC
    cases hp : pRight l ts
    · simp
    · rw [hp, Bool.true_and] at h
      rw [h]; simp
  · unfold setOk at h
    unfold setC
    cases hp : pRight l ts
    · simp
    · rw [hp, Bool.true_and] at h
      rw [h]; simp
theorem setC_ok {l : List Int} {ts : List (List Int)} {b : Int} {t : List Int} (h : setOk l ts b t = true) : setC l ts b t = 0 := by
  unfold setOk at h
  simp only [Bool.and_eq_true] at h
  unfold setC
  simp [h.1, h.2.1, h.2.2]
theorem setL_len (l : List Int) (ts : List (List Int)) (b : Int) (t : List Int) : (setL l ts b t).length ≤ l.length := by
  unfold setL
  split <;> simp
theorem setT_len (l : List Int) (ts : List (List Int)) (b : Int) (t : List Int) : (setT l ts b t).length ≤ ts.length := by
  unfold setT
  split <;> simp
theorem closeL_len (l : List Int) (ts : List (List Int)) (b : Int) : (closeL l ts b).length ≤ l.length := by
  unfold closeL
  split <;> simp
theorem closeT_len (l : List Int) (ts : List (List Int)) (b : Int) : (closeT l ts b).length ≤ ts.length := by
  unfold closeT
  split <;> simp
theorem dropL_len (l : List Int) (ts : List (List Int)) (b : Int) : (dropL l ts b).length ≤ l.length := by
  unfold dropL
  split
  · rw [cut_len]; exact Nat.le_refl _
  · simp
theorem dropT_len (l : List Int) (ts : List (List Int)) (b : Int) : (dropT l ts b).length ≤ ts.length := by
  unfold dropT
  split <;> simp

end Go.Proofs.YtllanbggjfmfhaaDoor
namespace Go.Proofs.YtllanbggjfmfhaaDoor
open Go.RowKit Go.Shelf

theorem empty_dec {t : List Int} (hT : tabB t = true) : emptyB t = decide (t = List.replicate 32 0) := by
  rw [Bool.eq_iff_iff, decide_eq_true_eq]
  unfold emptyB
  rw [beq_iff_eq]
  constructor
  · exact fun h => empty_tab hT h
  · intro h
    rw [h]
    decide
set_option maxHeartbeats 1000000 in
theorem rzero_any (A : Option Addr) (m c : Nat) (t : List Int) (w : World) (hR : Row w A m (t.map Iv)) (hm : m ≤ 1000) (hT : tabB t = true) :
    Calls Tryd.prog 47 #[.slice A m c] w fun e w' => e = .returned (.bool (emptyB t)) ∧ Below w.heap.size w w' := by
  have HR := Lib.hid hR
  have HTT := Lib.hid (empty_dec hT)
  clear hR hT
  generalize emptyB t = r at *
  go_enter Tryd.func47, Tryd.ntmps47
  go_wp2_with fail
  refine (r7make_any w).mono ?_
  rintro e w1 ⟨B, rfl, -, hbk, hb⟩
  have hrow : Row w1 (some ⟨B, 0, none⟩) 32 ((List.replicate 32 (0 : Int)).map Iv) := by have := hbk.row; simpa using this
  have hlen : (List.replicate 32 (0 : Int)).length = 32 := rfl
  rw [hlen]
  have hi := ints_any A (some ⟨B, 0, none⟩) m c 32 32 t (List.replicate 32 0) w1 (HR.out.ext hb) hrow (by omega) (by omega)
  rw [show decide (t = List.replicate 32 0) = r by
    rw [HTT.out, Bool.eq_iff_iff, decide_eq_true_eq]] at hi
  have HI := Lib.hid hi
  clear hi
  have HB := Lib.hid hb
  clear hbk hb hrow hlen
  go_wp2_with fail
  refine HI.out.mono ?_
  rintro e w2 ⟨rfl, hb2⟩
  replace HB := Lib.hid (below_le HB.out hb2)
  clear hb2
  go_wp2
  go_ret
  exact ⟨rfl, HB.out⟩

set_option maxRecDepth 100000 in
set_option maxHeartbeats 4000000 in
/-- The reference's Right of a pool. -/
theorem rright_any (S : Option Addr) (m c : Nat) (T : Option Addr) (k d : Nat) (l : List Int) (ts : List (List Int)) (w : World) (hS : Row w S m (l.map Iv)) (hT : Tabs w T k ts) (hm : m ≤ 1000) (hk : k ≤ 1000) :
    Calls Tryd.prog 23 #[.agg #[.slice S m c, .slice T k d]] w fun e w' => e = .returned (.bool (pRight l ts)) ∧ Below w.heap.size w w' := by
  have hl := hS.1
  have htl := hT.1
  simp at hl
  have hb0 := below_box w (.cells #[.slice S m c, .slice T k d] 25)
  have k0 := pbox0 w 25 (.slice S m c) (.slice T k d)
  have k1 := pbox1 w 25 (.slice S m c) (.slice T k d)
  have hcall := refwhole_any S m c l _ (hS.ext hb0) hm
  have HS := Lib.hid (hS.ext hb0)
  have HT := Lib.hid (hT.ext hb0)
  have HB := Lib.hid hb0
  have HL := Lib.hid hl
  have HTL := Lib.hid htl
  have HC := Lib.hid hcall
  clear hS hT hb0 hl htl hcall
  go_enter Tryd.func23, Tryd.ntmps23
  go_wp2_with fail
  generalize w.alloc (.cells #[.slice S m c, .slice T k d] 25) = W0 at *
  refine HC.out.mono ?_
  rintro e w1 ⟨rfl, rfl⟩
  clear HC
  cases hw : wholeL l
  · have HP := Lib.hid (show pRight l ts = false by unfold pRight; rw [hw]; rfl)
    clear hw
    go_wp2
    go_ret
    exact ⟨ret_bool HP.out.symm, HB.out⟩
  · by_cases hkm : k = m
    · subst hkm
      have HP := Lib.hid (show pRight l ts = (List.range l.length).all fun i => blkOk (l.getD i 0) (ts.getD i []) by
        unfold pRight; rw [hw, decide_eq_true (by rw [HTL.out, HL.out])]; rfl)
      have hq : ((k : Int) != (k : Int)) = false := by simp
      clear hw
      go_wp2
      go_loopw [3] (fun i wr => ∃ j : Nat, j ≤ k ∧ i = .int .i64 j ∧ (∀ i, i < j → blkOk (l.getD i 0) (ts.getD i []) = true) ∧ Below W0.heap.size W0 wr) (fun i _ => k - (intOf i).toNat)
      case atStart => exact ⟨0, Nat.zero_le _, rfl, fun _ h => absurd h (by omega), Below.refl _ _⟩
      case round =>
        obtain ⟨j, hj, rfl, hall, hbr⟩ := hrel
        have HALL := Lib.hid hall
        have HBR := Lib.hid hbr
        have p0 := cell_ext hbr k0
        have p1 := cell_ext hbr k1
        clear hall hbr
        by_cases hlt : j < k
        · obtain ⟨tb, toff, A, n, cc, t, rfl, hct, -, hn, hRt, -, htd⟩ := (HT.out.ext HBR.out).at_ hlt
          obtain ⟨sb, soff, x, rfl, hcx, hx, -⟩ := num_at (HS.out.ext HBR.out) hlt
          have hcall := r7right_any A n cc t wr hRt (by omega)
          have hnext : blkOk x t = true → ∀ i, i < j + 1 → blkOk (l.getD i 0) (ts.getD i []) = true := fun h i hi => by
            by_cases e : i = j
            · rw [e, hx, htd]; exact h
            · exact HALL.out i (by omega)
          have hbad : blkOk x t = false → pRight l ts = false := fun h => by
            rw [HP.out, List.all_eq_false]
            exact ⟨j, by simp; have := HL.out; omega, by rw [hx, htd, h]; exact Bool.false_ne_true⟩
          have HNX := Lib.hid hnext
          have HBAD := Lib.hid hbad
          have HRT := Lib.hid hRt
          clear hx htd hnext hbad hRt
          cases htb : tabB t
          · rw [htb] at hcall
            have HK := Lib.hid (show blkOk x t = false by unfold blkOk; rw [htb]; rfl)
            clear htb
            go_wp2_with fail
            refine hcall.mono ?_
            clear hcall
            rintro e w3 ⟨rfl, rfl⟩
            go_wp2
            go_ret
            exact ⟨ret_bool (HBAD.out HK.out).symm, below_le HB.out HBR.out⟩
          · rw [htb] at hcall
            have HBK : Hid (blkOk x t = asksOf x t) := Lib.hid (by unfold blkOk; rw [htb]; rfl)
            by_cases h034 : x = 0 ∨ x = 3 ∨ x = 4
            · have HZ := Lib.hid (rzero_any A n cc t wr HRT.out hn htb)
              have HAS : Hid (asksOf x t = emptyB t) := Lib.hid (by unfold asksOf; rw [if_pos h034])
              clear htb
              cases hem : emptyB t
              · rw [hem] at HZ HAS
                clear hem
                rcases h034 with rfl | rfl | rfl
                all_goals
                  go_wp2_with fail
                  refine hcall.mono ?_
                  clear hcall
                  rintro e w3 ⟨rfl, rfl⟩
                  go_wp2_with fail
                  refine HZ.out.mono ?_
                  rintro e w4 ⟨rfl, hb4⟩
                  have HB4 := Lib.hid (below_le HB.out (below_le HBR.out hb4))
                  clear hb4 p0 p1
                  go_wp2
                  go_ret
                  exact ⟨ret_bool (HBAD.out (HBK.out.trans HAS.out)).symm, HB4.out⟩
              · rw [hem] at HZ HAS
                clear hem
                rcases h034 with rfl | rfl | rfl
                all_goals
                  go_wp2_with fail
                  refine hcall.mono ?_
                  clear hcall
                  rintro e w3 ⟨rfl, rfl⟩
                  go_wp2_with fail
                  refine HZ.out.mono ?_
                  rintro e w4 ⟨rfl, hb4⟩
                  have HB4 := Lib.hid (below_le HBR.out hb4)
                  clear hb4 p0 p1
                  go_wp2
                  go_roundw
                  case rel => exact ⟨j + 1, by omega, by go_num, HNX.out (HBK.out.trans HAS.out), HB4.out⟩
                  case measure => simp [intOf]; omega
            · have d0 : (x == 0) = false := by simp; omega
              have d3 : (x == 3) = false := by simp; omega
              have d4 : (x == 4) = false := by simp; omega
              by_cases h1 : x = 1
              · subst h1
                clear d0 d3 d4 h034 htb
                have HAS : Hid (asksOf 1 t = holeyB t) := Lib.hid (by simp [asksOf])
                have HRM := Lib.hid (r8room_any A n cc t wr HRT.out (by omega))
                have HHB : Hid (holeyB t = (decide (0 < roomN t) && decide (0 < cntN t))) := Lib.hid rfl
                have HCN := Lib.hid (fun (z : World) (hz : Below wr.heap.size wr z) => r7count_any A n cc t z (HRT.out.ext hz) (by omega))
                generalize roomN t = r at *
                generalize cntN t = q at *
                by_cases hr0 : r = 0
                · subst hr0
                  go_wp2_with fail
                  refine hcall.mono ?_
                  clear hcall
                  rintro e w3 ⟨rfl, rfl⟩
                  go_wp2_with fail
                  refine HRM.out.mono ?_
                  rintro e w4 ⟨rfl, hb4⟩
                  have HB4 := Lib.hid (below_le HB.out (below_le HBR.out hb4))
                  clear hb4 p0 p1
                  go_wp2
                  go_ret
                  exact ⟨ret_bool (HBAD.out (by rw [HBK.out, HAS.out, HHB.out]; rfl)).symm, HB4.out⟩
                · have e0 : ((r : Int) == 0) = false := by simp; omega
                  by_cases hq0 : q = 0
                  · subst hq0
                    go_wp2_with fail
                    refine hcall.mono ?_
                    clear hcall
                    rintro e w3 ⟨rfl, rfl⟩
                    go_wp2_with fail
                    refine HRM.out.mono ?_
                    rintro e w4 ⟨rfl, hb4⟩
                    have HC := Lib.hid (HCN.out w4 hb4)
                    have HB4 := Lib.hid (below_le HB.out (below_le HBR.out hb4))
                    clear hb4 p0 p1
                    go_wp2_with fail
                    refine HC.out.mono ?_
                    rintro e w5 ⟨rfl, hb5⟩
                    replace HB4 := Lib.hid (below_le HB4.out hb5)
                    clear hb5
                    go_wp2
                    go_ret
                    exact ⟨ret_bool (HBAD.out (by rw [HBK.out, HAS.out, HHB.out]; simp)).symm, HB4.out⟩
                  · have e1 : ((q : Int) == 0) = false := by simp; omega
                    go_wp2_with fail
                    refine hcall.mono ?_
                    clear hcall
                    rintro e w3 ⟨rfl, rfl⟩
                    go_wp2_with fail
                    refine HRM.out.mono ?_
                    rintro e w4 ⟨rfl, hb4⟩
                    have HC := Lib.hid (HCN.out w4 hb4)
                    have HB4 := Lib.hid (below_le HBR.out hb4)
                    clear hb4 p0 p1
                    go_wp2_with fail
                    refine HC.out.mono ?_
                    rintro e w5 ⟨rfl, hb5⟩
                    replace HB4 := Lib.hid (below_le HB4.out hb5)
                    clear hb5
                    go_wp2
                    go_roundw
                    case rel => exact ⟨j + 1, by omega, by go_num, HNX.out (by rw [HBK.out, HAS.out, HHB.out, decide_eq_true (show 0 < r by omega), decide_eq_true (show 0 < q by omega)]; rfl), HB4.out⟩
                    case measure => simp [intOf]; omega
              · have d1 : (x == 1) = false := by simp; omega
                have HAS : Hid (asksOf x t = true) := Lib.hid (by unfold asksOf; rw [if_neg h034, if_neg h1])
                clear h034 h1 htb
                go_wp2_with fail
                refine hcall.mono ?_
                clear hcall
                rintro e w3 ⟨rfl, rfl⟩
                go_wp2
                go_roundw
                case rel => exact ⟨j + 1, by omega, by go_num, HNX.out (HBK.out.trans HAS.out), HBR.out⟩
                case measure => simp [intOf]; omega
        · obtain rfl : j = k := by omega
          go_wp2
          go_ret
          refine ⟨ret_bool ?_, below_le HB.out HBR.out⟩
          rw [HP.out, eq_comm, List.all_eq_true]
          intro i hi
          exact HALL.out i (by simpa [HL.out] using hi)
    · have hq : ((k : Int) != (m : Int)) = true := by simp; omega
      have HP : Hid (pRight l ts = false) := Lib.hid (by unfold pRight; rw [decide_eq_false (by rw [HTL.out, HL.out]; exact hkm)]; simp)
      clear hw hkm
      go_wp2
      go_ret
      exact ⟨ret_bool HP.out.symm, HB.out⟩

end Go.Proofs.YtllanbggjfmfhaaDoor
namespace Go.Proofs.YtllanbggjfmfhaaDoor
open Go.RowKit Go.Shelf

/-- States and tables in rows of the call's own; the tables lie in other blocks than the states. -/
structure Tbs (w : World) (base : Nat) (v u : Value) (l : List Int) (ts : List (List Int)) (vs : List Value) : Prop where
  st : w.ownsRow base 3 1 v l.length (l.map Iv)
  tb : w.ownsRow base 22 1 u ts.length vs
  at_ : ∀ (i : Nat) (t : List Int), ts[i]? = some t → ∃ (A : Option Addr) (n c : Nat), vs[i]? = some (Value.slice A n c) ∧ n ≤ c ∧ n ≤ 1000 ∧ Row w A n (t.map Iv) ∧ ∀ a, A = some a → base ≤ a.block ∧ some a.block ≠ v.ownBlock ∧ ∃ cs, Blk w a.block 3 cs

section
variable {w w' : World} {base : Nat} {v u : Value} {l : List Int} {ts : List (List Int)} {vs : List Value}
theorem Tbs.none_ (w : World) (base : Nat) : Tbs w base (.slice none 0 0) (.slice none 0 0) [] [] [] := ⟨⟨rfl, .inl ⟨rfl, rfl⟩⟩, ⟨rfl, .inl ⟨rfl, rfl⟩⟩, fun i t h => by simp at h⟩
theorem Tbs.ext (hb : Below w.heap.size w w') (h : Tbs w base v u l ts vs) : Tbs w' base v u l ts vs :=
  ⟨own_ext hb h.st, own_ext hb h.tb, fun i t ht => by
    obtain ⟨A, n, c, h1, h2, h3, h4, h5⟩ := h.at_ i t ht
    exact ⟨A, n, c, h1, h2, h3, h4.ext hb, fun a ha => by
      obtain ⟨g1, g2, cs, g3⟩ := h5 a ha
      exact ⟨g1, g2, cs, g3.ext hb⟩⟩⟩
theorem own_blk {e : TypeId} {n : Nat} {xs : List Value} (h : w.ownsRow base e 1 v n xs) {g : Nat} (hg : v.ownBlock = some g) : ∃ cs, Blk w g e cs := by
  rcases h.2 with ⟨rfl, _⟩ | ⟨g', cap, cur, rfl, _, h1, _⟩
  · cases hg
  · injection hg with hg
    simp at hg
    subst hg
    exact ⟨cur, h1⟩
theorem own_two {e e' : TypeId} {n n' : Nat} {xs xs' : List Value} (h : w.ownsRow base e 1 v n xs) (h' : w.ownsRow base e' 1 u n' xs') (hne : e' ≠ e) : v.ownBlock = none ∨ v.ownBlock ≠ u.ownBlock := by
  cases hv : v.ownBlock with
  | none => exact .inl rfl
  | some g =>
    obtain ⟨cs, hg⟩ := own_blk h hv
    exact .inr (own_ne h' hg hne)
/-- Another block is written, whose type is neither. -/
theorem Tbs.far (h : Tbs w base v u l ts vs) {g : Nat} {t : TypeId} {cs : Array Value} (hg : Blk w g t cs) (h1 : 3 ≠ t) (h2 : 22 ≠ t) (k : Nat) (x : Value) : Tbs (w.setCell ⟨g, k, none⟩ x) base v u l ts vs :=
  ⟨h.st.kept (grown_set w g k x) (.inr (Ne.symm (own_ne h.st hg h1))), h.tb.kept (grown_set w g k x) (.inr (Ne.symm (own_ne h.tb hg h2))), fun i t ht => by
    obtain ⟨A, n, c, h3, h4, h5, h6, h7⟩ := h.at_ i t ht
    refine ⟨A, n, c, h3, h4, h5, h6.far (fun a ha => ?_) x, fun a ha => ?_⟩
    · obtain ⟨-, -, cs', g3⟩ := h7 a ha
      exact blk_ne g3 hg h1
    · obtain ⟨g1, g2, cs', g3⟩ := h7 a ha
      exact ⟨g1, g2, cs', g3.far (p := ⟨g, k, none⟩) (blk_ne g3 hg h1) x⟩⟩
/-- A table more. -/
theorem Tbs.pushT {row : Option Nat} (h : Tbs w base v u l ts vs) {t : List Int} {A : Option Addr} {n c : Nat} {u' : Value} (hn : n ≤ c) (hn2 : n ≤ 1000) (hR : Row w A n (t.map Iv)) (hA : ∀ a, A = some a → base ≤ a.block ∧ some a.block ≠ v.ownBlock ∧ ∃ cs, Blk w a.block 3 cs)
    (hr : row = u.ownBlock) (hown : w'.ownsRow base 22 1 u' (ts.length + 1) (vs ++ [.slice A n c])) (hg : w.grownBy w' row) : Tbs w' base v u' l (ts ++ [t]) (vs ++ [.slice A n c]) := by
  subst hr
  have hvl : vs.length = ts.length := by have := h.tb.1; simpa using this
  have keep : ∀ (A : Option Addr) (n : Nat) (t : List Int), Row w A n (t.map Iv) → (∀ a, A = some a → base ≤ a.block ∧ some a.block ≠ v.ownBlock ∧ ∃ cs, Blk w a.block 3 cs) → Row w' A n (t.map Iv) ∧ ∀ a, A = some a → base ≤ a.block ∧ some a.block ≠ v.ownBlock ∧ ∃ cs, Blk w' a.block 3 cs := by
    intro A n t hR hA
    have hbl : ∀ a, A = some a → w'.heap[a.block]? = w.heap[a.block]? := fun a ha => by
      obtain ⟨-, -, cs, g3⟩ := hA a ha
      exact hg.block a.block (Array.getElem?_eq_some_iff.1 g3).1 (own_ne h.tb g3 (by decide))
    refine ⟨⟨hR.1, fun hp => ?_⟩, fun a ha => ?_⟩
    · obtain ⟨b, off, e, hc⟩ := hR.2 hp
      exact ⟨b, off, e, fun j x hx => (World.cell?_of_block (a := ⟨b, off + j, none⟩) (hbl ⟨b, off, none⟩ e)).trans (hc j x hx)⟩
    · obtain ⟨g1, g2, cs, g3⟩ := hA a ha
      exact ⟨g1, g2, cs, (hbl a ha).trans g3⟩
  refine ⟨h.st.kept hg (own_two h.st h.tb (by decide)), by simpa using hown, fun i t' ht' => ?_⟩
  by_cases e : i < ts.length
  · rw [List.getElem?_append_left e] at ht'
    obtain ⟨A', n', c', h3, h4, h5, h6, h7⟩ := h.at_ i t' ht'
    obtain ⟨k1, k2⟩ := keep A' n' t' h6 h7
    exact ⟨A', n', c', by rw [List.getElem?_append_left (by omega)]; exact h3, h4, h5, k1, k2⟩
  · have hi : i = ts.length := by
      have := (List.getElem?_eq_some_iff.1 ht').1
      simp at this
      omega
    subst hi
    rw [List.getElem?_append_right (Nat.le_refl _)] at ht'
    simp at ht'
    subst ht'
    obtain ⟨k1, k2⟩ := keep A n t hR hA
    exact ⟨A, n, c, by rw [List.getElem?_append_right (by omega), hvl]; simp, hn, hn2, k1, k2⟩
/-- A state more. -/
theorem Tbs.pushS {row : Option Nat} (h : Tbs w base v u l ts vs) {l' : List Int} {v' : Value} (hr : row = v.ownBlock) (hown : w'.ownsRow base 3 1 v' l'.length (l'.map Iv)) (hg : w.grownBy w' row) (hv : v'.ownBlock = v.ownBlock ∨ v'.ownBlock = some w.heap.size) :
    Tbs w' base v' u l' ts vs := by
  subst hr
  refine ⟨hown, h.tb.kept hg (own_two h.tb h.st (by decide)), fun i t ht => ?_⟩
  obtain ⟨A, n, c, h3, h4, h5, h6, h7⟩ := h.at_ i t ht
  have hbl : ∀ a, A = some a → w'.heap[a.block]? = w.heap[a.block]? ∧ a.block < w.heap.size := fun a ha => by
    obtain ⟨-, g2, cs, g3⟩ := h7 a ha
    exact ⟨hg.block a.block (Array.getElem?_eq_some_iff.1 g3).1 g2, (Array.getElem?_eq_some_iff.1 g3).1⟩
  refine ⟨A, n, c, h3, h4, h5, ⟨h6.1, fun hp => ?_⟩, fun a ha => ?_⟩
  · obtain ⟨b, off, e, hc⟩ := h6.2 hp
    exact ⟨b, off, e, fun j x hx => (World.cell?_of_block (a := ⟨b, off + j, none⟩) (hbl ⟨b, off, none⟩ e).1).trans (hc j x hx)⟩
  · obtain ⟨g1, g2, cs, g3⟩ := h7 a ha
    refine ⟨g1, ?_, cs, (hbl a ha).1.trans g3⟩
    rcases hv with e | e
    · rw [e]; exact g2
    · rw [e]
      intro e2
      injection e2 with e2
      have := (hbl a ha).2
      omega
theorem Tbs.read (h : Tbs w base v u l ts vs) : ∃ S c T d, v = .slice S l.length c ∧ u = .slice T ts.length d ∧ Row w S l.length (l.map Iv) ∧ Tabs w T ts.length ts := by
  obtain ⟨S, c, rfl, hS, -⟩ := row_of_owns h.st
  obtain ⟨T, d, rfl, hT⟩ := Own.of_row h.tb
  refine ⟨S, c, T, d, rfl, rfl, hS, rfl, fun hk => ?_⟩
  have hR := hT.row
  obtain ⟨b, off, e, hc⟩ := hR.2 hk
  refine ⟨b, off, e, fun j t ht => ?_⟩
  obtain ⟨A, n, c, h3, h4, h5, h6, -⟩ := h.at_ j t ht
  exact ⟨A, n, c, hc j _ h3, h4, h5, h6⟩
end

/-- A pool, and a number; they can be read. -/
def GivesP (w : World) (l : List Int) (ts : List (List Int)) (code : Nat) (e : Ending) (w' : World) : Prop :=
  ∃ S m c T k d, e = .returned (.tuple #[.agg #[.slice S m c, .slice T k d], .int .i64 code]) ∧ Row w' S m (l.map Iv) ∧ Tabs w' T k ts ∧ Below w.heap.size w w'

end Go.Proofs.YtllanbggjfmfhaaDoor
namespace Go.Proofs.YtllanbggjfmfhaaDoor
open Go.RowKit Go.Shelf

theorem tbs_blk {w w' : World} {base n g : Nat} {v : Value} {e t : TypeId} {xs : List Value} {cs : Array Value} {row : Option Nat} (h : w.ownsRow base e 1 v n xs) (hg : Blk w g t cs) (hne : e ≠ t) (hr : row = v.ownBlock) (hgr : w.grownBy w' row) : Blk w' g t cs := by
  subst hr
  exact (hgr.block g (Array.getElem?_eq_some_iff.1 hg).1 (own_ne h hg hne)).trans hg

set_option maxHeartbeats 1000000 in
theorem rnew_no (b : Int) (w : World) (h : ¬ (1 ≤ b ∧ b ≤ 32)) : Calls Tryd.prog 20 #[.int .i64 b] w (GivesP w [] [] 2) := by
  by_cases h1 : b < 1
  · go_enter Tryd.func20, Tryd.ntmps20
    go_wp2
    exact bodyPost_ret (v := .tuple #[.agg #[.slice none 0 0, .slice none 0 0], .int .i64 2]) (by simp [results, Tryd.results20, go_sem]) rfl ⟨_, _, _, _, _, _, rfl, Row.none_, Tabs.none_, below_box _ _⟩
  · have h2 : 32 < b := by omega
    go_enter Tryd.func20, Tryd.ntmps20
    go_wp2
    exact bodyPost_ret (v := .tuple #[.agg #[.slice none 0 0, .slice none 0 0], .int .i64 2]) (by simp [results, Tryd.results20, go_sem]) rfl ⟨_, _, _, _, _, _, rfl, Row.none_, Tabs.none_, below_box _ _⟩

set_option maxRecDepth 100000 in
set_option maxHeartbeats 4000000 in
theorem rnew_ok (n : Nat) (w : World) (h1 : 1 ≤ n) (h32 : n ≤ 32) : Calls Tryd.prog 20 #[.int .i64 (n : Int)] w (GivesP w (List.replicate n 0) (List.replicate n tab0) 0) := by
  obtain ⟨ii, hii, hiz0, hiz1, hiz2⟩ := info_parts int_info
  obtain ⟨it, hit, htz0, htz1, htz2⟩ := info_parts ints_info
  have hb1 : Below w.heap.size w ((w.alloc (.cells #[.slice none 0 0, .slice none 0 0] 25)).alloc (.cells #[.slice none 0 0, .slice none 0 0] 25)) := below_le (below_box _ _) (below_box _ _)
  have hr1 : Blk ((w.alloc (.cells #[.slice none 0 0, .slice none 0 0] 25)).alloc (.cells #[.slice none 0 0, .slice none 0 0] 25)) w.heap.size 25 #[.slice none 0 0, .slice none 0 0] := Blk.alloc (heap_new rfl _) _
  have hp1 : Blk ((w.alloc (.cells #[.slice none 0 0, .slice none 0 0] 25)).alloc (.cells #[.slice none 0 0, .slice none 0 0] 25)) (w.heap.size + 1) 25 #[.slice none 0 0, .slice none 0 0] := heap_new (by simp) _
  have hz : ((w.alloc (.cells #[.slice none 0 0, .slice none 0 0] 25)).alloc (.cells #[.slice none 0 0, .slice none 0 0] 25)).heap.size = w.heap.size + 2 := by simp
  have HB1 := Lib.hid hb1
  have HR1 := Lib.hid hr1
  have HP1 := Lib.hid hp1
  have hd1 : decide ((n : Int) < 1) = false := by simp; omega
  have hd2 : decide ((n : Int) > 32) = false := by simp; omega
  clear hb1 hr1 hp1
  go_enter Tryd.func20, Tryd.ntmps20
  go_wp2
  generalize (w.alloc (.cells #[.slice none 0 0, .slice none 0 0] 25)).alloc (.cells #[.slice none 0 0, .slice none 0 0] 25) = W1 at *
  go_loopw [5] (fun i wr => ∃ (j : Nat) (v u : Value) (vs : List Value), j ≤ n ∧ i = .int .i64 (j : Nat) ∧ Tbs wr W1.heap.size v u (List.replicate j 0) (List.replicate j tab0) vs ∧ Blk wr (w.heap.size + 1) 25 #[v, u] ∧ Blk wr w.heap.size 25 #[.slice none 0 0, .slice none 0 0] ∧ Below w.heap.size w wr ∧ W1.heap.size ≤ wr.heap.size) (fun i _ => n - (intOf i).toNat)
  case atStart => exact ⟨0, .slice none 0 0, .slice none 0 0, [], Nat.zero_le _, rfl, Tbs.none_ _ _, HP1.out, HR1.out, HB1.out, Nat.le_refl _⟩
  case round =>
    obtain ⟨j, v, u, vs, hj, rfl, q1, q2, q3, q4, q5⟩ := hrel
    have Q1 := Lib.hid q1
    have Q2 := Lib.hid q2
    have Q3 := Lib.hid q3
    have Q4 := Lib.hid q4
    clear q1 q2 q3 q4
    have k0 : wr.cell? ⟨w.heap.size + 1, 0, none⟩ = some v := by have := Q2.out.cell 0; simpa using this
    have k1 : wr.cell? ⟨w.heap.size + 1, 1, none⟩ = some u := by have := Q2.out.cell 1; simpa using this
    by_cases hlt : j < n
    · go_wp2_with (at_builtin; refine stop_here ?_)
      intro _
      refine wpList_append_own_at _ rfl (.tmp 19) (.tmp 20) 22 rfl W1.heap.size 3 ii (.int .i64 0) 1 8 Tryd.underlying22 hii hiz0 hiz1 hiz2 rfl (by omega) v (List.replicate j (0 : Int)).length _ rfl (Q1.out.ext (below_box _ _)).st ⟨wr.heap.size, 0, none⟩ 1 1 [.int .i64 0] rfl rfl (cell_one_new _ _ _) (fun x hx => by rw [List.mem_singleton.1 hx]; rfl) (by simp; unfold maxLen; omega) (by simp; omega) (Nat.le_trans q5 (by simp)) ?_
      intro v' w3 hown hgr _ hat
      obtain ⟨S', c', rfl, -, -⟩ := row_of_owns hown
      have hjl : (List.replicate j (0 : Int)).length + 1 = j + 1 := by simp
      rw [hjl] at hown hat ⊢
      have hT1 := Q1.out.ext (below_box wr (.cells #[.int .i64 0] 3))
      have hT2 := hT1.pushS (l' := List.replicate (j + 1) 0) rfl (by rw [List.replicate_succ']; simpa [Iv] using hown) hgr hat
      have hP3 := tbs_blk hT1.st (Q2.out.ext (below_box wr (.cells #[.int .i64 0] 3))) (by decide) rfl hgr
      have hR3 := tbs_blk hT1.st (Q3.out.ext (below_box wr (.cells #[.int .i64 0] 3))) (by decide) rfl hgr
      have hB3 : Below w.heap.size w w3 := (below_le Q4.out (below_box _ _)).grown hgr (by simp; omega) (fun b e => by have := own_base hT1.st e; omega)
      have hs3 : W1.heap.size ≤ w3.heap.size := Nat.le_trans q5 (Nat.le_trans (by simp) hgr.size)
      have k30 : w3.cell? ⟨w.heap.size + 1, 0, none⟩ = some v := by have := hP3.cell 0; simpa using this
      have f30 := hP3.frozen 0
      have hT3 := hT2.far hP3 (by decide) (by decide) 0 (.slice S' (j + 1) c')
      have hP4 := hP3.set_ 0 (.slice S' (j + 1) c')
      simp at hP4
      have hR4 := hR3.far (p := ⟨w.heap.size + 1, 0, none⟩) (by show w.heap.size ≠ w.heap.size + 1; omega) (.slice S' (j + 1) c')
      have hB4 := hB3.setCell (p := ⟨w.heap.size + 1, 0, none⟩) (by show w.heap.size ≤ w.heap.size + 1; omega) (.slice S' (j + 1) c')
      have hs4 : W1.heap.size ≤ (w3.setCell ⟨w.heap.size + 1, 0, none⟩ (.slice S' (j + 1) c')).heap.size := by simpa [World.setCell] using hs3
      clear Q1 Q2 Q3 Q4 k0 k1 hown hgr hat hT1 hT2 hP3 hR3 hB3 hs3 q5
      have T3 := Lib.hid hT3
      have P4 := Lib.hid hP4
      have R4 := Lib.hid hR4
      have B4 := Lib.hid hB4
      clear hT3 hP4 hR4 hB4
      go_wp2
      generalize w3.setCell ⟨w.heap.size + 1, 0, none⟩ (.slice S' (j + 1) c') = W4 at *
      clear k30 f30
      have k1 : W4.cell? ⟨w.heap.size + 1, 1, none⟩ = some u := by have := P4.out.cell 1; simpa using this
      have hCst := stays_below W1.heap.size W4 hs4
      have t1 := fun x : Of (fun x => Below W1.heap.size W4 x) => (x.ok.cell (p := ⟨w.heap.size + 1, 1, none⟩) (by show w.heap.size + 1 < _; omega)).trans k1
      refine wp_region_mixc (C := fun x => Below W1.heap.size W4 x) 6 hCst (Below.refl _ _) (by kernel_rfl) (by kernel_rfl) ?_
      first | (refine mixc_skip 0 hCst rfl (by kernel_rfl) rfl ?_; go_frame) | (refine mixc_soft 0 hCst rfl (by kernel_rfl) rfl (fun K hK => ?_); go_simp; first | (refine hK _ ?_; clear hK K) | (apply Exists.intro; refine ⟨fun x => ?_, hK _ ?_⟩; (· (fail)); clear hK K; try go_frame))
      first | (refine mixc_skip 1 hCst rfl (by kernel_rfl) rfl ?_; go_frame) | (refine mixc_soft 1 hCst rfl (by kernel_rfl) rfl (fun K hK => ?_); go_simp; first | (refine hK _ ?_; clear hK K) | (apply Exists.intro; refine ⟨fun x => ?_, hK _ ?_⟩; (· (fail)); clear hK K; try go_frame))
      clear t1
      refine mixc_one 2 (by decide) (by kernel_rfl) rfl rfl ?_
      intro w5 hb5 hC5 K hK
      go_simp
      refine (r7make_any w5).mono ?_
      rintro e w6 ⟨B, rfl, hB1, hB2, hb6⟩
      simp only [List.length_replicate]
      have hrow : Row w6 (some ⟨B, 0, none⟩) 32 (tab0.map Iv) := by have := hB2.row; simpa [tab0] using this
      have HRW := Lib.hid hrow
      have HBK := Lib.hid hB2
      have hBs : w5.heap.size ≤ B := hB1
      have h45 : W4.heap.size ≤ w5.heap.size := hb5.size
      have T6 := Lib.hid (T3.out.ext (below_le hb5 hb6))
      have P6 := Lib.hid (P4.out.ext (below_le hb5 hb6))
      have R6 := Lib.hid (R4.out.ext (below_le hb5 hb6))
      have hvB : some B ≠ (Value.slice S' (j + 1) c').ownBlock := fun e => by have := (T3.out.st.lt B e.symm).2; omega
      have hC6 := hCst _ _ hC5 hb6
      refine hK _ _ hC6 ?_
      clear hK K hb5 hC5 hb6 hB1 hB2 hrow
      try go_frame
      refine mixc_one 3 (by decide) (by kernel_rfl) rfl rfl ?_
      intro w7 hb7 hC7 K hK
      go_simp
      have hx7 := below_box w7 (.cells #[.slice (some ⟨B, 0, none⟩) 32 32] 22)
      have HN7 := Lib.hid (row_new1 w7 22 (.slice (some ⟨B, 0, none⟩) 32 32))
      have T7 := Lib.hid (T6.out.ext (below_le hb7 hx7))
      have P7 := Lib.hid (P6.out.ext (below_le hb7 hx7))
      have R7 := Lib.hid (R6.out.ext (below_le hb7 hx7))
      replace HRW := Lib.hid (HRW.out.ext (below_le hb7 hx7))
      replace HBK := Lib.hid (HBK.out.ext (below_le hb7 hx7))
      have hC8 := hCst _ _ hC7 hx7
      refine hK _ _ hC8 ?_
      clear hK K hb7 hC7 hx7 T6 P6 R6 hC6
      try go_frame
      generalize w7.alloc (.cells #[.slice (some ⟨B, 0, none⟩) 32 32] 22) = W8 at *
      refine mixc_one 4 (by decide) (by kernel_rfl) rfl rfl ?_
      intro w9 hb9 hC9 K hK
      have hT9 := T7.out.ext hb9
      refine wp_append_row w9 (.tmp 24) (.tmp 26) 23 rfl W1.heap.size 22 it (.slice none 0 0) 24 Tryd.underlying23 hit htz0 htz1 htz2 rfl u (List.replicate j tab0).length vs rfl hT9.tb _ 1 1 [.slice (some ⟨B, 0, none⟩) 32 32] rfl (HN7.out.ext hb9)
        (fun x hx => by rw [List.mem_singleton.1 hx]; rfl) (by simp; unfold maxLen; omega) (by simp; omega) (Nat.le_trans hs4 hC9.size) fun u' w10 hown hgr => ?_
      obtain ⟨T', d', rfl, -, -⟩ := row_of_owns hown
      have hjt : (List.replicate j tab0).length + 1 = j + 1 := by simp
      rw [hjt] at hown ⊢
      have hC10 : Below W1.heap.size W4 w10 := hC9.grown hgr (Nat.le_trans hs4 hC9.size) fun q e => own_base hT9.tb e
      have hT10 := hT9.pushT (t := tab0) (n := 32) (c := 32) (Nat.le_refl _) (by omega) (HRW.out.ext hb9) (fun a ha => by cases ha; exact ⟨Nat.le_trans hs4 (Nat.le_trans h45 hBs), hvB, _, HBK.out.ext hb9⟩) rfl (by rw [hjt]; exact hown) hgr
      have hP10 := tbs_blk hT9.tb (P7.out.ext hb9) (by decide) rfl hgr
      have hR10 := tbs_blk hT9.tb (R7.out.ext hb9) (by decide) rfl hgr
      refine hK _ _ hC10 ?_
      rw [← List.replicate_succ' (n := j) (a := tab0)] at hT10
      generalize vs ++ [Value.slice (some ⟨B, 0, none⟩) 32 32] = vs' at *
      have T10 := Lib.hid hT10
      have P10 := Lib.hid hP10
      have R10 := Lib.hid hR10
      clear hK K hb9 hC9 hgr hown hT9 hT10 hP10 hR10 T7 P7 R7 HRW HBK HN7 hC8 hvB hBs
      try go_frame
      first | (refine mixc_skip 5 hCst rfl (by kernel_rfl) rfl ?_; go_frame) | (refine mixc_soft 5 hCst rfl (by kernel_rfl) rfl (fun K hK => ?_); go_simp; first | (refine hK _ ?_; clear hK K) | (apply Exists.intro; refine ⟨fun x => ?_, hK _ ?_⟩; (· (fail)); clear hK K; try go_frame))
      refine mixc_last 6 (by kernel_rfl) (by kernel_rfl) rfl rfl ?_
      intro w11 hb11 hC11 K hK
      have hP11 := P10.out.ext hb11
      have k11 : w11.cell? ⟨w.heap.size + 1, 1, none⟩ = some u := by have := hP11.cell 1; simpa using this
      have f11 := hP11.frozen 1
      have hP12 := hP11.set_ 1 (.slice T' (j + 1) d')
      simp at hP12
      have P12 := Lib.hid hP12
      have T12 := Lib.hid ((T10.out.ext hb11).far hP11 (by decide) (by decide) 1 (.slice T' (j + 1) d'))
      have R12 := Lib.hid ((R10.out.ext hb11).far (p := ⟨w.heap.size + 1, 1, none⟩) (by show w.heap.size ≠ w.heap.size + 1; omega) (.slice T' (j + 1) d'))
      have B12 := Lib.hid ((B4.out.trans (hC11.mono (by omega))).setCell (p := ⟨w.heap.size + 1, 1, none⟩) (by show w.heap.size ≤ w.heap.size + 1; omega) (.slice T' (j + 1) d'))
      have hs12 : W1.heap.size ≤ w11.heap.size := Nat.le_trans hs4 hC11.size
      clear hb11 hC11 hP11 hP12
      go_simp
      refine hK _ _ fun w13 hb13 => ?_
      clear hK K k11 f11
      replace P12 := Lib.hid (P12.out.ext hb13)
      replace T12 := Lib.hid (T12.out.ext hb13)
      replace R12 := Lib.hid (R12.out.ext hb13)
      replace B12 := Lib.hid (below_le B12.out hb13)
      have hs13 : W1.heap.size ≤ w13.heap.size := Nat.le_trans hs12 (by have := hb13.size; simpa [World.setCell] using this)
      clear hb13 hs12
      try go_frame
      go_wp2
      go_roundw
      case rel => exact ⟨j + 1, _, _, vs', by omega, by go_num, T12.out, P12.out, R12.out, B12.out, hs13⟩
      case measure => simp [intOf]; omega
    · obtain rfl : j = n := by omega
      obtain ⟨S, c, T, d, hv, hu, -, -⟩ := Q1.out.read
      rw [List.length_replicate] at hv hu
      subst hv
      subst hu
      obtain ⟨⟨r0, r1, f0, f1⟩, q0, q1, hB⟩ := res_two (a' := .slice S j c) (b' := .slice T j d) Q3.out Q4.out (Nat.le_refl _)
      have hT' := (Q1.out.far Q3.out (by decide) (by decide) 0 (.slice S j c)).far ((Q3.out.set_ 0 (.slice S j c))) (by decide) (by decide) 1 (.slice T j d)
      obtain ⟨S2, c2, T2, d2, e1, e2, hS2, hT2⟩ := hT'.read
      rw [List.length_replicate] at e1 e2 hS2 hT2
      cases e1
      cases e2
      have HS2 := Lib.hid hS2
      have HT2 := Lib.hid hT2
      have HB := Lib.hid hB
      clear hS2 hT2 hB hT' Q1 Q2 Q3 Q4
      go_wp2
      exact bodyPost_ret (v := .tuple #[.agg #[.slice S j c, .slice T j d], .int .i64 0]) (by simp [results, Tryd.results20, go_sem, q0, q1]) rfl ⟨_, _, _, _, _, _, rfl, HS2.out, HT2.out, HB.out⟩

/-- The reference's New. -/
theorem rnew_any (b : Int) (w : World) : Calls Tryd.prog 20 #[.int .i64 b] w (GivesP w (pnewL b) (pnewT b) (pnewC b)) := by
  by_cases h : 1 ≤ b ∧ b ≤ 32
  · have h2 := rnew_ok b.toNat w (by omega) (by omega)
    rw [Int.toNat_of_nonneg (by omega)] at h2
    unfold pnewL pnewT pnewC
    rwa [if_pos h, if_pos h, if_pos h]
  · unfold pnewL pnewT pnewC
    rw [if_neg h, if_neg h, if_neg h]
    exact rnew_no b w h

end Go.Proofs.YtllanbggjfmfhaaDoor
namespace Go.Proofs.YtllanbggjfmfhaaDoor
open Go.RowKit Go.Shelf

set_option maxRecDepth 100000 in
set_option maxHeartbeats 2000000 in
/-- The reference's Same. -/
theorem rsame_any (S : Option Addr) (m c : Nat) (T : Option Addr) (k d : Nat) (S' : Option Addr) (m' c' : Nat) (T' : Option Addr) (k' d' : Nat) (l l' : List Int) (ts ts' : List (List Int)) (w : World) (hS : Row w S m (l.map Iv)) (hT : Tabs w T k ts) (hS' : Row w S' m' (l'.map Iv)) (hT' : Tabs w T' k' ts')
    (hm : m ≤ 1000) (hk : k ≤ 1000) (hm' : m' ≤ 1000) (hk' : k' ≤ 1000) :
    Calls Tryd.prog 22 #[.agg #[.slice S m c, .slice T k d], .agg #[.slice S' m' c', .slice T' k' d']] w fun e w' => e = .returned (.bool (psameB l l' ts ts')) ∧ Below w.heap.size w w' := by
  have hb0 : Below w.heap.size w ((w.alloc (.cells #[.slice S m c, .slice T k d] 25)).alloc (.cells #[.slice S' m' c', .slice T' k' d'] 25)) := below_le (below_box _ _) (below_box _ _)
  have h1 : Blk ((w.alloc (.cells #[.slice S m c, .slice T k d] 25)).alloc (.cells #[.slice S' m' c', .slice T' k' d'] 25)) w.heap.size 25 #[.slice S m c, .slice T k d] := Blk.alloc (heap_new rfl _) _
  have h2 : Blk ((w.alloc (.cells #[.slice S m c, .slice T k d] 25)).alloc (.cells #[.slice S' m' c', .slice T' k' d'] 25)) (w.heap.size + 1) 25 #[.slice S' m' c', .slice T' k' d'] := heap_new (by simp) _
  have hcall := ints_any S S' m c m' c' l l' _ (hS.ext hb0) (hS'.ext hb0) (by omega) (by omega)
  have HX := Lib.hid hT.1
  have HY := Lib.hid hT'.1
  have HT := Lib.hid (hT.ext hb0)
  have HT' := Lib.hid (hT'.ext hb0)
  have HB := Lib.hid hb0
  have H1 := Lib.hid h1
  have H2 := Lib.hid h2
  have HC := Lib.hid hcall
  unfold psameB
  clear hS hS' hT hT' hb0 h1 h2 hcall
  by_cases hl : l = l'
  · have hcall := HC.out
    rw [decide_eq_true hl] at hcall ⊢
    clear hl HC
    go_enter Tryd.func22, Tryd.ntmps22
    go_wp2_with fail
    generalize (w.alloc (.cells #[.slice S m c, .slice T k d] 25)).alloc (.cells #[.slice S' m' c', .slice T' k' d'] 25) = W0 at *
    refine hcall.mono ?_
    clear hcall
    rintro e w1 ⟨rfl, hb1⟩
    replace H1 := Lib.hid (H1.out.ext hb1)
    replace H2 := Lib.hid (H2.out.ext hb1)
    replace HT := Lib.hid (HT.out.ext hb1)
    replace HT' := Lib.hid (HT'.out.ext hb1)
    replace HB := Lib.hid (below_le HB.out hb1)
    clear hb1
    have k1 : w1.cell? ⟨w.heap.size, 1, none⟩ = some (.slice T k d) := by have := H1.out.cell 1; simpa using this
    have k2 : w1.cell? ⟨w.heap.size + 1, 1, none⟩ = some (.slice T' k' d') := by have := H2.out.cell 1; simpa using this
    by_cases hkk : k = k'
    · subst hkk
      have hq : ((k : Int) != (k : Int)) = false := by simp
      go_wp2
      clear hq k1 k2
      go_loopw [5] (fun i wr => ∃ j : Nat, j ≤ k ∧ i = .int .i64 j ∧ ts.take j = ts'.take j ∧ Below w1.heap.size w1 wr) (fun i _ => k - (intOf i).toNat)
      case atStart => exact ⟨0, Nat.zero_le _, rfl, rfl, Below.refl _ _⟩
      case round =>
        obtain ⟨j, hj, rfl, ht, hb⟩ := hrel
        have HTK := Lib.hid ht
        have Hb := Lib.hid hb
        have p1 : wr.cell? ⟨w.heap.size, 1, none⟩ = some (.slice T k d) := by have := (H1.out.ext hb).cell 1; simpa using this
        have p2 : wr.cell? ⟨w.heap.size + 1, 1, none⟩ = some (.slice T' k d') := by have := (H2.out.ext hb).cell 1; simpa using this
        clear ht hb
        by_cases hlt : j < k
        · obtain ⟨b1, o1, A1, n1, c1, x, rfl, hc1, -, hn1, hR1, hx1, -⟩ := (HT.out.ext Hb.out).at_ hlt
          obtain ⟨b2, o2, A2, n2, c2, y, rfl, hc2, -, hn2, hR2, hy1, -⟩ := (HT'.out.ext Hb.out).at_ hlt
          have R1 := Lib.hid hR1
          have R2 := Lib.hid hR2
          have HX1 := Lib.hid hx1
          have HY1 := Lib.hid hy1
          have t1 := ext_cell p1
          have t2 := ext_cell p2
          have t3 := ext_cell hc1
          have t4 := ext_cell hc2
          clear hx1 hy1 hR1 hR2
          by_cases hxy : x = y
          · have hcall : ∀ z : Ext wr, Calls Tryd.prog 18 #[.slice A1 n1 c1, .slice A2 n2 c2] z.val fun e w' => e = .returned (.bool true) ∧ Below z.val.heap.size z.val w' := fun z => by
              have h := ints_any A1 A2 n1 c1 n2 c2 x y z.val (R1.out.ext z.below) (R2.out.ext z.below) (by omega) (by omega)
              rw [decide_eq_true hxy] at h
              exact h
            have HCL := Lib.hid hcall
            have HXY := Lib.hid hxy
            clear hcall hxy
            go_wp2
            refine wp_region_plan [(0, true), (1, true), (2, true), (3, true), (4, true), (5, true), (6, true), (7, true), (8, true), (9, true), (10, true), (11, true)] (by kernel_rfl) (by kernel_rfl) ?_
            repeat (first | (refine plan_skip rfl rfl ?_; go_frame) | (refine plan_soft rfl rfl (fun K hK => ?_); go_simp; first | (refine hK _ ?_; clear hK K) | (apply Exists.intro; refine ⟨fun x => ?_, hK _ ?_⟩; (· (go_at_call 18; exact HCL.out x)); clear hK K; try go_frame)))
            refine plan_nil ?_; intro w2 h0b; have Hb2 := Lib.hid h0b; clear h0b
            clear t1 t2 t3 t4 p1 p2 hc1 hc2
            go_wp2
            go_roundw
            case rel => exact ⟨j + 1, by omega, by go_num, (take_eq_tab HX1.out HY1.out HTK.out).2 HXY.out, below_le Hb.out Hb2.out⟩
            case measure => simp [intOf]; omega
          · have hcall : ∀ z : Ext wr, Calls Tryd.prog 18 #[.slice A1 n1 c1, .slice A2 n2 c2] z.val fun e w' => e = .returned (.bool false) ∧ Below z.val.heap.size z.val w' := fun z => by
              have h := ints_any A1 A2 n1 c1 n2 c2 x y z.val (R1.out.ext z.below) (R2.out.ext z.below) (by omega) (by omega)
              rw [decide_eq_false hxy] at h
              exact h
            have HCL := Lib.hid hcall
            have HXY := Lib.hid hxy
            clear hcall hxy
            go_wp2
            refine wp_region_plan [(0, true), (1, true), (2, true), (3, true), (4, true), (5, true), (6, true), (7, true), (8, true), (9, true), (10, true), (11, true)] (by kernel_rfl) (by kernel_rfl) ?_
            repeat (first | (refine plan_skip rfl rfl ?_; go_frame) | (refine plan_soft rfl rfl (fun K hK => ?_); go_simp; first | (refine hK _ ?_; clear hK K) | (apply Exists.intro; refine ⟨fun x => ?_, hK _ ?_⟩; (· (go_at_call 18; exact HCL.out x)); clear hK K; try go_frame)))
            refine plan_nil ?_; intro w2 h0b; have Hb2 := Lib.hid h0b; clear h0b
            clear t1 t2 t3 t4 p1 p2 hc1 hc2
            go_wp2
            go_ret
            refine ⟨ret_bool ?_, below_le HB.out (below_le Hb.out Hb2.out)⟩
            have hne : ¬ ts = ts' := fun e => by
              subst e
              have := HX1.out.symm.trans HY1.out
              exact HXY.out (Option.some.inj this)
            simp [hne]
        · go_wp2
          go_ret
          refine ⟨ret_bool ?_, below_le HB.out Hb.out⟩
          have h1 := HTK.out
          rw [List.take_of_length_le (by have := HX.out; omega), List.take_of_length_le (by have := HY.out; omega)] at h1
          simp [h1]
    · have hq : ((k : Int) != (k' : Int)) = true := by simp; omega
      have hne : ¬ ts = ts' := fun e => hkk (by rw [← HX.out, ← HY.out, e])
      have HN := Lib.hid hne
      clear hne hkk
      go_wp2
      go_ret
      exact ⟨ret_bool (by simp [HN.out]), HB.out⟩
  · have hcall := HC.out
    rw [decide_eq_false hl] at hcall ⊢
    clear hl HC
    go_enter Tryd.func22, Tryd.ntmps22
    go_wp2_with fail
    generalize (w.alloc (.cells #[.slice S m c, .slice T k d] 25)).alloc (.cells #[.slice S' m' c', .slice T' k' d'] 25) = W0 at *
    refine hcall.mono ?_
    clear hcall
    rintro e w1 ⟨rfl, hb1⟩
    replace HB := Lib.hid (below_le HB.out hb1)
    clear hb1
    go_wp2
    go_ret
    exact ⟨ret_bool (by simp), HB.out⟩

/-- The counts of the states up to one. -/
def cntL (l : List Int) (j : Nat) : List Int := (List.range j).map fun i : Nat => (countL l (i : Int) : Int)
theorem cntL_succ (l : List Int) (j : Nat) : cntL l (j + 1) = cntL l j ++ [((countL l (j : Int) : Nat) : Int)] := by simp [cntL, List.range_succ]
theorem cntL_six (l : List Int) : cntL l 6 = cntTo l 6 := rfl
theorem cntL_len (l : List Int) (j : Nat) : (cntL l j).length = j := by simp [cntL]

set_option maxRecDepth 100000 in
set_option maxHeartbeats 2000000 in
/-- The reference's Counts. -/
theorem rcounts_any (S : Option Addr) (m c : Nat) (T : Option Addr) (k d : Nat) (l : List Int) (ts : List (List Int)) (w : World) (hS : Row w S m (l.map Iv)) (hT : Tabs w T k ts) (hm : m ≤ 1000) (hk : k ≤ 1000) :
    Calls Tryd.prog 21 #[.agg #[.slice S m c, .slice T k d]] w (GivesCnt w (pcL l ts) (pcC l ts)) := by
  obtain ⟨ii, hii, hiz0, hiz1, hiz2⟩ := info_parts int_info
  have hb0 := below_box w (.cells #[.slice S m c, .slice T k d] 25)
  have k0 := pbox0 w 25 (.slice S m c) (.slice T k d)
  have k1 := pbox1 w 25 (.slice S m c) (.slice T k d)
  have hcall := rright_any S m c T k d l ts _ (hS.ext hb0) (hT.ext hb0) hm hk
  have HS := Lib.hid (hS.ext hb0)
  have HB := Lib.hid hb0
  clear hS hT hb0
  unfold pcL pcC
  cases hp : pRight l ts
  · rw [hp] at hcall
    clear hp
    go_enter Tryd.func21, Tryd.ntmps21
    go_wp2_with fail
    generalize w.alloc (.cells #[.slice S m c, .slice T k d] 25) = W0 at *
    refine hcall.mono ?_
    clear hcall
    rintro e w1 ⟨rfl, hb1⟩
    replace HB := Lib.hid (below_le HB.out hb1)
    clear hb1 k0 k1
    go_wp2
    exact bodyPost_ret (v := .tuple #[.slice none 0 0, .int .i64 100]) (by simp [results, Tryd.results21, go_sem]) rfl ⟨_, _, _, rfl, Row.none_, HB.out⟩
  · rw [hp] at hcall
    clear hp
    go_enter Tryd.func21, Tryd.ntmps21
    go_wp2_with fail
    generalize w.alloc (.cells #[.slice S m c, .slice T k d] 25) = W0 at *
    refine hcall.mono ?_
    clear hcall
    rintro e w1 ⟨rfl, hb1⟩
    replace HB := Lib.hid (below_le HB.out hb1)
    replace HS := Lib.hid (HS.out.ext hb1)
    replace k0 := cell_ext hb1 k0
    clear hb1 k1
    go_wp2
    go_loopw [4, 5] (fun s i wr => ∃ j : Nat, j ≤ 6 ∧ i = .int .i64 (j : Nat) ∧ wr.ownsRow w1.heap.size 3 1 s (cntL l j).length ((cntL l j).map Iv) ∧ Below w1.heap.size w1 wr) (fun _ i _ => 6 - (intOf i).toNat)
    case atStart => exact ⟨0, Nat.zero_le _, rfl, ⟨rfl, .inl ⟨rfl, rfl⟩⟩, Below.refl _ _⟩
    case round =>
      obtain ⟨j, hj, rfl, hown, hb⟩ := hrel
      have HO := Lib.hid hown
      have Hb := Lib.hid hb
      have hsz := hb.size
      have p0 := cell_ext hb k0
      have hjl := cntL_len l j
      clear hown hb
      by_cases hlt : j < 6
      · have h := refcount_any S m c l (j : Int) wr (HS.out.ext Hb.out) hm
        have hst := cntL_succ l j
        generalize ((countL l (j : Int) : Nat) : Int) = q at *
        have HST := Lib.hid hst
        have hj2 : (j : Int) < 6 := by omega
        generalize hLL : cntL l j = LL at *
        clear hst
        go_wp2_with fail
        refine h.mono ?_
        clear h
        rintro e w' ⟨rfl, rfl⟩
        go_wp2_with (at_builtin; refine stop_here ?_)
        intro _
        refine wpList_push (w0 := w1) wr rfl (.tmp 13) (.tmp 18) 22 rfl w1.heap.size 3 ii (.int .i64 0) 8 Tryd.underlying22 hii hiz0 hiz1 hiz2 rfl u4 LL.length _ rfl HO.out (.int .i64 q) rfl rfl (by unfold maxLen; omega) (by omega) (Nat.le_refl _) hsz Hb.out ?_
        intro v' w3 hown hb3
        have HOW := Lib.hid hown
        have HB3 := Lib.hid hb3
        clear hown hb3 p0
        go_wp2
        go_roundw
        case rel => exact ⟨j + 1, by omega, by go_num, by rw [HST.out]; simpa [Iv] using HOW.out, HB3.out⟩
        case measure => simp [intOf]; omega
      · obtain rfl : j = 6 := by omega
        rw [cntL_six] at HO
        obtain ⟨A', c', rfl, hrow, -⟩ := row_of_owns HO.out
        have HW := Lib.hid hrow
        clear hrow p0
        go_wp2
        exact bodyPost_ret (v := .tuple #[.slice A' (cntTo l 6).length c', .int .i64 0]) (by simp [results, Tryd.results21, go_sem]) rfl ⟨_, _, _, rfl, HW.out, below_le HB.out Hb.out⟩

end Go.Proofs.YtllanbggjfmfhaaDoor
namespace Go.Proofs.YtllanbggjfmfhaaDoor
open Go.RowKit Go.Shelf

theorem pnewL_len (b : Int) : (pnewL b).length ≤ 32 := by
  unfold pnewL
  split
  · simp; omega
  · simp
theorem pnewT_len (b : Int) : (pnewT b).length ≤ 32 := by
  unfold pnewT
  split
  · simp; omega
  · simp
theorem pcL_len (l : List Int) (ts : List (List Int)) : (pcL l ts).length ≤ 6 := by
  unfold pcL
  split
  · rw [cntTo_len]; exact Nat.le_refl _
  · simp

set_option maxRecDepth 100000 in
set_option maxHeartbeats 16000000 in
theorem poolTells_any (S : Option Addr) (m c : Nat) (T : Option Addr) (k d : Nat) (l : List Int) (ts : List (List Int)) (S2 : Option Addr) (m2 c2 : Nat) (T2 : Option Addr) (k2 d2 : Nat) (l2 : List Int) (ts2 : List (List Int)) (n : Int) (aS aR : Addr) (w : World) (hRS : RSent w aS aR) (hE : EType w)
    (hmc : m ≤ c) (hS : Row w S m (l.map Iv)) (hT : TabsU w T k ts) (hk : k ≤ 9223372036854775807) (hmc2 : m2 ≤ c2) (hS2 : Row w S2 m2 (l2.map Iv)) (hT2 : TabsU w T2 k2 ts2) (hk2 : k2 ≤ 9223372036854775807) :
    Calls Tryd.prog 6 #[.agg #[.slice S m c, .slice T k d], .agg #[.slice S2 m2 c2, .slice T2 k2 d2], .int .i64 n] w (Holds w) := by
  have hb0 : Below w.heap.size w ((w.alloc (.cells #[.slice S m c, .slice T k d] 25)).alloc (.cells #[.slice S2 m2 c2, .slice T2 k2 d2] 25)) := below_le (below_box _ _) (below_box _ _)
  have hbl : Blk ((w.alloc (.cells #[.slice S m c, .slice T k d] 25)).alloc (.cells #[.slice S2 m2 c2, .slice T2 k2 d2] 25)) w.heap.size 25 #[.slice S m c, .slice T k d] := Blk.alloc (heap_new rfl _) _
  have hbl2 : Blk ((w.alloc (.cells #[.slice S m c, .slice T k d] 25)).alloc (.cells #[.slice S2 m2 c2, .slice T2 k2 d2] 25)) (w.heap.size + 1) 25 #[.slice S2 m2 c2, .slice T2 k2 d2] := heap_new (by simp) _
  have hz0 : ((w.alloc (.cells #[.slice S m c, .slice T k d] 25)).alloc (.cells #[.slice S2 m2 c2, .slice T2 k2 d2] 25)).heap.size = w.heap.size + 2 := by simp
  have HRS := Lib.hid hRS
  have HE := Lib.hid hE
  have HB := Lib.hid hb0
  have HBL := Lib.hid hbl
  have HBL2 := Lib.hid hbl2
  have HR0 := Lib.hid (row_few hS)
  have HT0 := Lib.hid hT
  have HR02 := Lib.hid (row_few hS2)
  have HT02 := Lib.hid hT2
  have hm34 : min m 34 ≤ 34 := Nat.min_le_right _ _
  have hm234 : min m2 34 ≤ 34 := Nat.min_le_right _ _
  clear hRS hE hb0 hbl hbl2 hS hT hS2 hT2
  go_enter Tryd.func6, Tryd.ntmps6
  go_wp2_with fail
  generalize (w.alloc (.cells #[.slice S m c, .slice T k d] 25)).alloc (.cells #[.slice S2 m2 c2, .slice T2 k2 d2] 25) = W0 at *
  refine (pshown_any aS aR W0 (HRS.out.ext HB.out) (HE.out.ext HB.out)).mono ?_
  rintro e w1 ⟨rfl, hb1⟩
  replace HBL := Lib.hid (HBL.out.ext hb1)
  replace HBL2 := Lib.hid (HBL2.out.ext hb1)
  replace HB := Lib.hid (below_le HB.out hb1)
  have hlt0 : w.heap.size + 2 ≤ w1.heap.size := by have := hb1.size; omega
  have k0 := HBL.out.cell 0
  have k1 := HBL.out.cell 1
  simp at k0 k1
  clear hb1
  go_wp2_with fail
  refine (cut10_any S m c T k d ts w w1 HB.out hmc HT0.out hk).mono ?_
  rintro e w2 ⟨T', k', d', rfl, hk34, htc, hb2⟩
  generalize min m 34 = m' at *
  have h2 := HBL.out.ext hb2
  have f0 := h2.frozen 0
  have f1 := h2.frozen 1
  have d0 := h2.cell 0
  have d1 := h2.cell 1
  have h3 := (h2.set_ 0 (.slice S m' c)).set_ 1 (.slice T' k' d')
  have hb3 : Below w.heap.size w ((w2.setCell ⟨w.heap.size, 0, none⟩ (.slice S m' c)).setCell ⟨w.heap.size, 1, none⟩ (.slice T' k' d')) :=
    ((below_le HB.out hb2).setCell (p := ⟨w.heap.size, 0, none⟩) (Nat.le_refl _) _).setCell (p := ⟨w.heap.size, 1, none⟩) (Nat.le_refl _) _
  have ht3 := (htc.far (p := ⟨w.heap.size, 0, none⟩) (Nat.le_refl _) (by show w.heap.size < _; omega) (.slice S m' c)).far (p := ⟨w.heap.size, 1, none⟩) (Nat.le_refl _) (by show w.heap.size < _; omega) (.slice T' k' d')
  have hq3 := ((HBL2.out.ext hb2).far (p := ⟨w.heap.size, 0, none⟩) (by show w.heap.size + 1 ≠ w.heap.size; omega) (.slice S m' c)).far (p := ⟨w.heap.size, 1, none⟩) (by show w.heap.size + 1 ≠ w.heap.size; omega) (.slice T' k' d')
  have hs3 : w.heap.size + 2 ≤ ((w2.setCell ⟨w.heap.size, 0, none⟩ (.slice S m' c)).setCell ⟨w.heap.size, 1, none⟩ (.slice T' k' d')).heap.size := by have := hb2.size; simp [World.setCell]; omega
  simp at h3 d0 d1
  have HT := Lib.hid ht3
  replace HBL := Lib.hid h3
  replace HBL2 := Lib.hid hq3
  replace HB := Lib.hid hb3
  generalize cutTs ts = ts at *
  clear h2 h3 hb2 hb3 htc ht3 hq3 k0 k1 HT0 hmc
  have q0 := HBL2.out.cell 0
  have q1 := HBL2.out.cell 1
  simp at q0 q1
  go_wp2_with fail
  generalize hW3 : (w2.setCell ⟨w.heap.size, 0, none⟩ (.slice S m' c)).setCell ⟨w.heap.size, 1, none⟩ (.slice T' k' d') = W3 at *
  clear hW3 f0 f1 d0 d1
  refine (cut10_any S2 m2 c2 T2 k2 d2 ts2 w W3 HB.out hmc2 HT02.out hk2).mono ?_
  rintro e w4 ⟨T2', k2', d2', rfl, hk234, htc, hb4⟩
  generalize min m2 34 = m2' at *
  have h4 := HBL2.out.ext hb4
  have f0 := h4.frozen 0
  have f1 := h4.frozen 1
  have d0 := h4.cell 0
  have d1 := h4.cell 1
  have h5 := (h4.set_ 0 (.slice S2 m2' c2)).set_ 1 (.slice T2' k2' d2')
  have hb5 : Below w.heap.size w ((w4.setCell ⟨w.heap.size + 1, 0, none⟩ (.slice S2 m2' c2)).setCell ⟨w.heap.size + 1, 1, none⟩ (.slice T2' k2' d2')) :=
    ((below_le HB.out hb4).setCell (p := ⟨w.heap.size + 1, 0, none⟩) (by show w.heap.size ≤ w.heap.size + 1; omega) _).setCell (p := ⟨w.heap.size + 1, 1, none⟩) (by show w.heap.size ≤ w.heap.size + 1; omega) _
  have ht5 := ((htc.far (p := ⟨w.heap.size + 1, 0, none⟩) (by show w.heap.size ≤ w.heap.size + 1; omega) (by show w.heap.size + 1 < _; omega) (.slice S2 m2' c2)).far (p := ⟨w.heap.size + 1, 1, none⟩) (by show w.heap.size ≤ w.heap.size + 1; omega) (by show w.heap.size + 1 < _; omega) (.slice T2' k2' d2')).tabs
  have ht6 := (((HT.out.ext hb4).far (p := ⟨w.heap.size + 1, 0, none⟩) (by show w.heap.size ≤ w.heap.size + 1; omega) (by show w.heap.size + 1 < _; omega) (.slice S2 m2' c2)).far (p := ⟨w.heap.size + 1, 1, none⟩) (by show w.heap.size ≤ w.heap.size + 1; omega) (by show w.heap.size + 1 < _; omega) (.slice T2' k2' d2')).tabs
  have hq5 := ((HBL.out.ext hb4).far (p := ⟨w.heap.size + 1, 0, none⟩) (by show w.heap.size ≠ w.heap.size + 1; omega) (.slice S2 m2' c2)).far (p := ⟨w.heap.size + 1, 1, none⟩) (by show w.heap.size ≠ w.heap.size + 1; omega) (.slice T2' k2' d2')
  have k0 := hq5.cell 0
  have k1 := hq5.cell 1
  replace q0 := h5.cell 0
  replace q1 := h5.cell 1
  simp at k0 k1 q0 q1 d0 d1
  replace HT := Lib.hid ht6
  have HT2 := Lib.hid ht5
  have HR := Lib.hid (HR0.out.ext hb5)
  have HR2 := Lib.hid (HR02.out.ext hb5)
  replace HB := Lib.hid hb5
  generalize l.take 34 = l at *
  generalize l2.take 34 = l2 at *
  generalize cutTs ts2 = ts2 at *
  clear h4 h5 hb4 hb5 htc ht5 ht6 hq5 HBL HBL2 HR0 HR02 HT02 hlt0 hs3 hz0 hmc2
  go_wp2_with fail
  generalize hW5 : (w4.setCell ⟨w.heap.size + 1, 0, none⟩ (.slice S2 m2' c2)).setCell ⟨w.heap.size + 1, 1, none⟩ (.slice T2' k2' d2') = W5 at *
  clear hW5 f0 f1 d0 d1
  refine (pnew_any n W5 (HE.out.ext HB.out)).mono ?_
  rintro e w6 ⟨v_, rfl, hp_, hb_⟩
  obtain ⟨Sa, ma, ca, Ta, ka, da, rfl, hR_, hT_, -⟩ := hp_.read
  have hma : ma ≤ 1000 := by have h_ := hR_.1; rw [List.length_map] at h_; have h2_ := pnewL_len n; omega
  have hka : ka ≤ 1000 := by have h_ := hT_.1; have h2_ := pnewT_len n; omega
  replace k0 := cell_ext hb_ k0
  replace k1 := cell_ext hb_ k1
  replace q0 := cell_ext hb_ q0
  replace q1 := cell_ext hb_ q1
  replace HR := Lib.hid (HR.out.ext hb_)
  replace HT := Lib.hid (HT.out.ext hb_)
  replace HR2 := Lib.hid (HR2.out.ext hb_)
  replace HT2 := Lib.hid (HT2.out.ext hb_)
  have Ra := Lib.hid hR_
  have Tah := Lib.hid hT_
  replace HB := Lib.hid (below_le HB.out hb_)
  clear hp_ hR_ hT_ hb_
  have hx_ := below_box w6 (.cells #[.slice Sa ma ca, .slice Ta ka da] 25)
  replace k0 := cell_ext hx_ k0
  replace k1 := cell_ext hx_ k1
  replace q0 := cell_ext hx_ q0
  replace q1 := cell_ext hx_ q1
  replace HR := Lib.hid (HR.out.ext hx_)
  replace HT := Lib.hid (HT.out.ext hx_)
  replace HR2 := Lib.hid (HR2.out.ext hx_)
  replace HT2 := Lib.hid (HT2.out.ext hx_)
  replace Ra := Lib.hid (Ra.out.ext hx_)
  replace Tah := Lib.hid (Tah.out.ext hx_)
  have a0 := pbox0 w6 25 (.slice Sa ma ca) (.slice Ta ka da)
  have a1 := pbox1 w6 25 (.slice Sa ma ca) (.slice Ta ka da)
  replace HB := Lib.hid (below_le HB.out hx_)
  clear hx_
  go_wp2_with fail
  generalize w6.alloc (.cells #[.slice Sa ma ca, .slice Ta ka da] 25) = W6 at *
  refine (rnew_any n W6).mono ?_
  rintro e w7 ⟨Sb, mb, cb, Tb, kb, db, rfl, hRb, hTb, hb7⟩
  have hmb : mb ≤ 1000 := by have h_ := hRb.1; rw [List.length_map] at h_; have h2_ := pnewL_len n; omega
  have hkb : kb ≤ 1000 := by have h_ := hTb.1; have h2_ := pnewT_len n; omega
  replace k0 := cell_ext hb7 k0; replace k1 := cell_ext hb7 k1; replace q0 := cell_ext hb7 q0; replace q1 := cell_ext hb7 q1; replace a0 := cell_ext hb7 a0; replace a1 := cell_ext hb7 a1; replace HR := Lib.hid (HR.out.ext hb7); replace HT := Lib.hid (HT.out.ext hb7); replace HR2 := Lib.hid (HR2.out.ext hb7); replace HT2 := Lib.hid (HT2.out.ext hb7); replace Ra := Lib.hid (Ra.out.ext hb7); replace Tah := Lib.hid (Tah.out.ext hb7)
  have Rb := Lib.hid hRb
  have Tbh := Lib.hid hTb
  replace HB := Lib.hid (below_le HB.out hb7)
  clear hRb hTb hb7
  have hx_ := below_box w7 (.cells #[.slice Sb mb cb, .slice Tb kb db] 25)
  replace k0 := cell_ext hx_ k0
  replace k1 := cell_ext hx_ k1
  replace q0 := cell_ext hx_ q0
  replace q1 := cell_ext hx_ q1
  replace a0 := cell_ext hx_ a0
  replace a1 := cell_ext hx_ a1
  replace HR := Lib.hid (HR.out.ext hx_)
  replace HT := Lib.hid (HT.out.ext hx_)
  replace HR2 := Lib.hid (HR2.out.ext hx_)
  replace HT2 := Lib.hid (HT2.out.ext hx_)
  replace Ra := Lib.hid (Ra.out.ext hx_)
  replace Tah := Lib.hid (Tah.out.ext hx_)
  replace Rb := Lib.hid (Rb.out.ext hx_)
  replace Tbh := Lib.hid (Tbh.out.ext hx_)
  have b0 := pbox0 w7 25 (.slice Sb mb cb) (.slice Tb kb db)
  have b1 := pbox1 w7 25 (.slice Sb mb cb) (.slice Tb kb db)
  replace HB := Lib.hid (below_le HB.out hx_)
  clear hx_
  go_wp2_with fail
  generalize w7.alloc (.cells #[.slice Sb mb cb, .slice Tb kb db] 25) = W7 at *
  refine (pcounts_any S m' c T' k' d' l ts W7 (HE.out.ext HB.out) HR.out HT.out (by omega) (by omega)).mono ?_
  rintro e w8 ⟨Ap, mp, cp, rfl, hR_, hb_⟩
  replace k0 := cell_ext hb_ k0
  replace k1 := cell_ext hb_ k1
  replace q0 := cell_ext hb_ q0
  replace q1 := cell_ext hb_ q1
  replace a0 := cell_ext hb_ a0
  replace a1 := cell_ext hb_ a1
  replace b0 := cell_ext hb_ b0
  replace b1 := cell_ext hb_ b1
  replace HR := Lib.hid (HR.out.ext hb_)
  replace HT := Lib.hid (HT.out.ext hb_)
  replace HR2 := Lib.hid (HR2.out.ext hb_)
  replace HT2 := Lib.hid (HT2.out.ext hb_)
  replace Ra := Lib.hid (Ra.out.ext hb_)
  replace Tah := Lib.hid (Tah.out.ext hb_)
  replace Rb := Lib.hid (Rb.out.ext hb_)
  replace Tbh := Lib.hid (Tbh.out.ext hb_)
  have Rp := Lib.hid hR_
  replace HB := Lib.hid (below_le HB.out hb_)
  clear hR_ hb_
  go_wp2_with fail
  refine (rcounts_any S m' c T' k' d' l ts w8 HR.out HT.out (by omega) (by omega)).mono ?_
  rintro e w9 ⟨Ar, mr, cr, rfl, hR_, hb_⟩
  replace k0 := cell_ext hb_ k0
  replace k1 := cell_ext hb_ k1
  replace q0 := cell_ext hb_ q0
  replace q1 := cell_ext hb_ q1
  replace a0 := cell_ext hb_ a0
  replace a1 := cell_ext hb_ a1
  replace b0 := cell_ext hb_ b0
  replace b1 := cell_ext hb_ b1
  replace HR := Lib.hid (HR.out.ext hb_)
  replace HT := Lib.hid (HT.out.ext hb_)
  replace HR2 := Lib.hid (HR2.out.ext hb_)
  replace HT2 := Lib.hid (HT2.out.ext hb_)
  replace Ra := Lib.hid (Ra.out.ext hb_)
  replace Tah := Lib.hid (Tah.out.ext hb_)
  replace Rb := Lib.hid (Rb.out.ext hb_)
  replace Tbh := Lib.hid (Tbh.out.ext hb_)
  replace Rp := Lib.hid (Rp.out.ext hb_)
  have Rr := Lib.hid hR_
  replace HB := Lib.hid (below_le HB.out hb_)
  clear hR_ hb_
  have hmp : mp ≤ 1000 := by have h_ := Rp.out.1; rw [List.length_map] at h_; have h2_ := pcL_len l ts; omega
  have hmr : mr ≤ 1000 := by have h_ := Rr.out.1; rw [List.length_map] at h_; have h2_ := pcL_len l ts; omega
  have hsame : psameB (pnewL n) (pnewL n) (pnewT n) (pnewT n) = true := by simp [psameB]
  have hsame2 : psameB l l ts ts = true := by simp [psameB]
  have C1 : Hid (∀ x : Ext w9, Calls Tryd.prog 22 #[.agg #[.slice Sa ma ca, .slice Ta ka da], .agg #[.slice Sb mb cb, .slice Tb kb db]] x.val fun e w' => e = .returned (.bool true) ∧ Below x.val.heap.size x.val w') := Lib.hid (fun x => by
    have h := rsame_any Sa ma ca Ta ka da Sb mb cb Tb kb db _ _ _ _ x.val (Ra.out.ext x.below) (Tah.out.ext x.below) (Rb.out.ext x.below) (Tbh.out.ext x.below) hma hka hmb hkb
    rwa [hsame] at h)
  have C2 : Hid (∀ x : Ext w9, Calls Tryd.prog 13 #[.agg #[.slice S m' c, .slice T' k' d']] x.val fun e w' => e = .returned (.bool (pRight l ts)) ∧ Below x.val.heap.size x.val w') := Lib.hid (fun x => pright_any S m' c T' k' d' l ts x.val (HR.out.ext x.below) (HT.out.ext x.below) (by omega) (by omega))
  have C3 : Hid (∀ x : Ext w9, Calls Tryd.prog 23 #[.agg #[.slice S m' c, .slice T' k' d']] x.val fun e w' => e = .returned (.bool (pRight l ts)) ∧ Below x.val.heap.size x.val w') := Lib.hid (fun x => rright_any S m' c T' k' d' l ts x.val (HR.out.ext x.below) (HT.out.ext x.below) (by omega) (by omega))
  have C4 : Hid (∀ x : Ext w9, Calls Tryd.prog 18 #[.slice Ap mp cp, .slice Ar mr cr] x.val fun e w' => e = .returned (.bool true) ∧ Below x.val.heap.size x.val w') := Lib.hid (fun x => by
    have h := ints_any Ap Ar mp cp mr cr _ _ x.val (Rp.out.ext x.below) (Rr.out.ext x.below) (by omega) (by omega)
    rwa [decide_eq_true rfl] at h)
  have C5 : Hid (∀ x : Ext w9, Calls Tryd.prog 24 #[.agg #[.slice S m' c, .slice T' k' d'], .agg #[.slice S2 m2' c2, .slice T2' k2' d2']] x.val fun e w' => e = .returned (.bool (psameB l l2 ts ts2)) ∧ Below x.val.heap.size x.val w') := Lib.hid (fun x =>
    psame_any S m' c T' k' d' S2 m2' c2 T2' k2' d2' l l2 ts ts2 x.val (HR.out.ext x.below) (HT.out.ext x.below) (HR2.out.ext x.below) (HT2.out.ext x.below) (by omega) (by omega) (by omega) (by omega))
  have C6 : Hid (∀ x : Ext w9, Calls Tryd.prog 22 #[.agg #[.slice S m' c, .slice T' k' d'], .agg #[.slice S2 m2' c2, .slice T2' k2' d2']] x.val fun e w' => e = .returned (.bool (psameB l l2 ts ts2)) ∧ Below x.val.heap.size x.val w') := Lib.hid (fun x =>
    rsame_any S m' c T' k' d' S2 m2' c2 T2' k2' d2' l l2 ts ts2 x.val (HR.out.ext x.below) (HT.out.ext x.below) (HR2.out.ext x.below) (HT2.out.ext x.below) (by omega) (by omega) (by omega) (by omega))
  have C7 : Hid (∀ x : Ext w9, Calls Tryd.prog 24 #[.agg #[.slice S m' c, .slice T' k' d'], .agg #[.slice S m' c, .slice T' k' d']] x.val fun e w' => e = .returned (.bool true) ∧ Below x.val.heap.size x.val w') := Lib.hid (fun x => by
    have h := psame_any S m' c T' k' d' S m' c T' k' d' l l ts ts x.val (HR.out.ext x.below) (HT.out.ext x.below) (HR.out.ext x.below) (HT.out.ext x.below) (by omega) (by omega) (by omega) (by omega)
    rwa [hsame2] at h)
  generalize psameB l l2 ts ts2 = sb at *
  generalize pRight l ts = pr at *
  have t0 := ext_cell k0
  have t1 := ext_cell k1
  have s0 := ext_cell q0
  have s1 := ext_cell q1
  have e0 := ext_cell a0
  have e1 := ext_cell a1
  have g0 := ext_cell b0
  have g1 := ext_cell b1
  clear k0 k1 q0 q1 a0 a1 b0 b1 HR HT HR2 HT2 Ra Tah Rb Tbh Rp Rr hsame hsame2
  go_wp2
  refine wp_region_plan [(0, true), (1, true), (2, true), (3, true), (4, true), (5, true), (6, true), (7, true), (8, true), (9, true), (10, true), (11, true), (12, true), (13, true), (14, true), (15, true), (16, true), (17, true), (18, true), (19, true), (20, true), (21, true), (22, true), (23, true), (24, true), (25, true), (26, true), (27, true), (28, true), (29, true), (30, true), (31, true), (32, true), (33, true), (34, true), (35, true), (36, true), (37, true), (38, true), (39, true), (40, true), (41, true), (42, true)] (by kernel_rfl) (by kernel_rfl) ?_
  repeat (first | (refine plan_skip rfl rfl ?_; go_frame) | (refine plan_soft rfl rfl (fun K hK => ?_); go_simp; first | (refine hK _ ?_; clear hK K) | (apply Exists.intro; refine ⟨fun x => ?_, hK _ ?_⟩; (· (first | (go_at_call 13; exact C2.out x) | (go_at_call 23; exact C3.out x) | (go_at_call 18; exact C4.out x) | (go_at_call_of 22 Sa; exact C1.out x) | (go_at_call_of 22 S2; exact C6.out x) | (go_at_call_of 24 S2; exact C5.out x) | (go_at_call 24; exact C7.out x))); clear hK K; try go_frame)))
  refine plan_nil ?_; intro wo h0b; have Hbo := Lib.hid h0b; clear h0b
  replace HB := Lib.hid (below_le HB.out Hbo.out)
  go_wp2
  go_ret
  exact ⟨ret_bool (by simp), HB.out⟩

end Go.Proofs.YtllanbggjfmfhaaDoor
namespace Go.Proofs.YtllanbggjfmfhaaDoor
open Go.ChangeShapes Go.WideShapes Go.ChangeAt Go.RowKit

theorem own0 : ownKnob Tryd.prog.godebug = none := by kernel_rfl
theorem laidOut0 : laidOutB Tryd.prog = true := by kernel_rfl
theorem star0 : "*" ++ "errors.errorString" = "*errors.errorString" := by decide
theorem rowErr (u : TypeId) (h : Tryd.prog.typeName? 3 u = some "*errors.errorString") : u = 139 :=
  typeName_ptr_named (nm := "errors.errorString") (by rw [star0]; kernel_rfl) (by kernel_rfl) (by decide) u (by rw [star0]; exact h)
theorem gS0 : Tryd.prog.globalNamed "selion/run.errState" = some 0 := by kernel_rfl
theorem gR0 : Tryd.prog.globalNamed "selion/run.errRun" = some 1 := by kernel_rfl
theorem gS1 : (Tryd.prog.globals[0]?).map (·.type) = some 50 := by kernel_rfl
theorem gR1 : (Tryd.prog.globals[1]?).map (·.type) = some 50 := by kernel_rfl

theorem under_err : ∃ te f, Tryd.prog.underlying 139 = some (.pointer te) ∧ Tryd.prog.underlying te = some (.struct #[f]) ∧ f.type = 9 ∧ f.offset = 0 ∧ Tryd.prog.cellsOf te = 1 :=
  ⟨_, _, Tryd.underlying139, Tryd.underlying161, rfl, rfl, by kernel_rfl⟩
theorem under_iface : ∃ ms, Tryd.prog.underlying 50 = some (.interface ms) := ⟨_, Tryd.underlying50⟩
theorem cells_str : Tryd.prog.cellsOf 9 = 1 := by kernel_rfl
abbrev row0 : OpenClaim := Rows.poolKeepsRow

theorem gT0 : Tryd.prog.globalNamed "errors.errorType" = some 2 := by kernel_rfl
theorem rt0 : (Tryd.prog.cutTypes.find? (·.1 == "internal/reflectlite.rtype")).map (·.2) = some 124 := by kernel_rfl
theorem oneRow0 : ((List.range Tryd.prog.types.size).filter fun t => Tryd.prog.rowNamed t [101, 114, 114, 111, 114]) = [50] := by kernel_rfl
theorem hnd0 : typeHandle Tryd.prog 50 = hnd 50 := by kernel_rfl

/-- What the condition gives of errors' own variable: the handle of the type error. -/
theorem handle0 {W : World} (h : laidMetH Tryd.prog row0.laid W) : EType W := by
  have h1 := h.filter (fun x => x.1 == "errors.errorType")
  have h' : laidMet Tryd.prog [] W ∧ handlesMet Tryd.prog [("errors.errorType", Rows.laid_errors_errorType)] W := h1
  obtain ⟨name, u, ty, e1, e2, e3, e4, e5⟩ := h'.2 _ (List.mem_singleton.2 rfl)
  have en : name = [101, 114, 114, 111, 114] := (Option.some.inj e1).symm
  subst en
  obtain rfl := Option.some.inj (rt0.symm.trans e2)
  have hm : ty ∈ (List.range Tryd.prog.types.size).filter fun t => Tryd.prog.rowNamed t [101, 114, 114, 111, 114] := List.mem_filter.2 ⟨List.mem_range.2 e3, e4⟩
  rw [oneRow0] at hm
  obtain rfl := List.mem_singleton.1 hm
  rw [hnd0] at e5
  have := World.var?_cell gT0 e5 0
  show W.cell? _ = _
  simpa using this

/-- What the row's list gives: the two sentinels, each one's own, and the handle. -/
theorem sents {W : World} (h : laidMetH Tryd.prog row0.laid W) : ∃ aS aR, RSent W aS aR ∧ EType W := by
  have h' : laidMet Tryd.prog [("selion/run.errState", Rows.laid_selion_run_errState), ("selion/run.errRun", Rows.laid_selion_run_errRun)] W := by
    have := h.filter (fun x => x.1 != "errors.errorType")
    rw [MakeChecks.laidMetH_plain _ _ _ (by kernel_rfl)] at this
    exact this
  obtain ⟨te, f, hp, he, hft, hfo, hc⟩ := under_err
  obtain ⟨ms, hi⟩ := under_iface
  obtain ⟨a0, a1, _, _, c0, c1, t0, t1, v0, v1, _, _, _, _, _, _, n01, b0, b1⟩ := laid_sentinels2 h' gS0 gS1 gR0 gR1 hi rowErr hp he hft hfo Tryd.underlying9 hc cells_str
  exact ⟨a0, a1, ⟨⟨by simpa using World.var?_cell gS0 v0 0, c0, t0, b0⟩, ⟨by simpa using World.var?_cell gR0 v1 0, c1, t1, b1⟩, n01⟩, handle0 h⟩

section
variable {H : Type} {enc : TypeId × Value → H} {P : Program}
theorem trodAll_stays (hl : laidOutB P = true) {W W' : World} (hb : Below W.heap.size W W') (sp : Nat → Bool) : ∀ (ts : List TypeId) (vs : List Value) (ds : List (DataW H)) (ps : List MemPlace),
    (ts.all fun t => P.readableRec t && decide (t < P.types.size)) = true → DataW.TrodAll enc P W 0 (fun _ => true) true ts vs ds ps → (∀ x ∈ ps, x.block < W.heap.size) → (∀ x ∈ ps, sp x.block = true) → DataW.TrodAll enc P W' 0 sp true ts vs ds ps
  | [], vs, ds, ps, _, h, _, _ => by
    obtain ⟨rfl, rfl, rfl⟩ := trodAll_nil h
    exact trodAll_mk0
  | t :: ts, vs, ds, ps, hr, h, hlt, hsp => by
    simp only [List.all_cons, Bool.and_eq_true, decide_eq_true_eq] at hr
    obtain ⟨v, vs', d, ds', p, q, rfl, rfl, rfl, h1, h2⟩ := trodAll_cons h
    exact trodAll_cons_mk (WideElems.Trod_stays hl hr.1.1 hr.1.2 h1 (fun x hx => hb.same (hlt x (List.mem_append_left _ hx))) (fun x hx => hsp x (List.mem_append_left _ hx)))
      (trodAll_stays hl hb sp ts vs' ds' q hr.2 h2 (fun x hx => hlt x (List.mem_append_right _ hx)) (fun x hx => hsp x (List.mem_append_right _ hx)))

theorem post_below {f : Func} {s : ChangeSpec} {apart fresh handsOn again : Bool} {W W' : World} {args : Array Value} {v : Value} {ds gs : List (DataW H)} {before pa pv : List MemPlace}
    (hW : DataW.Whole enc P f.params.toList s.vars apart W args.toList ds gs before)
    (hres : ∀ (b : Nat) (sp : Nat → Bool) (hd : Bool), DataW.TrodAll enc P W' b sp hd f.resultTypes.toList (v.resultList f.resultTypes.size) (s.fn H (ds ++ gs)).results [])
    (hargs : ∀ sp : Nat → Bool, (∀ p ∈ before, sp p.block = true) → DataW.TrodAll enc P W' 0 sp true f.params.toList args.toList (s.fn H (ds ++ gs)).args pa)
    (hvars : ∀ sp : Nat → Bool, (∀ p ∈ before, sp p.block = true) → DataW.TrodVars enc P W' sp s.vars (s.fn H (ds ++ gs)).vars pv)
    (hps : before = pa ++ pv) (hb : Below W.heap.size W W')
    (hok : ∀ (j : Nat) (t : TypeId) (r : Value), f.resultTypes[j]? = some t → (v.resultList f.resultTypes.size)[j]? = some r → Value.okWide P W' .any 0 t r) :
    s.post enc P f apart fresh handsOn again W args v W' := by
  have hlt : ∀ p ∈ before, p.block < W.heap.size := fun p hp => hW.lt p hp
  have hold : ∀ p ∈ before, (fun b => decide (b < W.heap.size)) p.block = true := fun p hp => by simpa using hlt p hp
  refine ⟨ds, gs, before, [], pa, pv, hW, hres _ _ _, hargs _ hold, hvars _ hold, World.keptBut_mono (fun p hp => ⟨hp, ?_⟩) (hb.frame (· ∈ before)), fun _ => ?_⟩
  · rw [hps, List.mem_append] at hp
    exact Or.inr hp
  · obtain ⟨_, _, _, _, _, hz, hn⟩ := hW
    refine ⟨hok, _, _, ([] ++ pa) ++ pv, ⟨[] ++ pa, pv, trodAll_append (hargs _ (fun _ _ => rfl)) (hres _ _ _), hvars _ (fun _ _ => rfl), rfl, ?_, ?_⟩, ?_⟩
    · intro b off hp
      have hin : MemPlace.cell b off ∈ before := by rw [hps]; simpa using hp
      rw [hb.frozen (hlt _ hin)]
      exact hz b off hin
    · intro ha
      have := hn ha
      rw [hps] at this
      simpa using this
    · intro p hp _
      rw [hps]
      simpa using hp

/-- THE ROW's LAST STEP, where the law returned true and what was stays. -/
theorem post_true {f : Func} {s : ChangeSpec} (hl : laidOutB P = true) {tb : TypeId} (htb : P.underlying tb = some .bool) (hrt : f.resultTypes = #[tb]) (hvs : s.vars = []) (hr : (f.params.toList.all fun t => P.readableRec t && decide (t < P.types.size)) = true)
    {W W' : World} {args : Array Value} {ds gs : List (DataW H)} {before : List MemPlace}
    (hW : DataW.Whole enc P f.params.toList s.vars false W args.toList ds gs before) (hfn : s.fn H (ds ++ gs) = { results := [.lit (.bool true)], args := ds }) (hb : Below W.heap.size W W') :
    s.post enc P f false true false false W args (.bool true) W' := by
  have hW' := hW
  have hlt : ∀ p ∈ before, p.block < W.heap.size := fun p hp => hW.lt p hp
  obtain ⟨p, q, hA, hV, rfl, hfz, hnd⟩ := hW
  rw [hvs] at hV
  obtain ⟨rfl, rfl⟩ := trodVars_none hV
  simp only [List.append_nil] at hlt hW' hfn
  refine post_below (pa := p) (pv := []) hW' (fun b sp hd => ?_) (fun sp hsp => ?_) (fun sp _ => ?_) (by simp) hb (ok_one hrt rfl (okWide_bool_mk htb _))
  · rw [List.append_nil, hfn, hrt]
    exact trodAll_cons_mk (shut_bool htb _) trodAll_mk0
  · rw [List.append_nil, hfn]
    exact trodAll_stays hl hb sp _ _ _ _ hr hA (fun x hx => hlt x hx) (fun x hx => hsp x hx)
  · rw [List.append_nil, hfn, hvs]
    rfl
end

theorem row_of_cells {W : World} {a : Addr} {len cap : Nat} {zs : List Int} (hl : len ≤ cap) (hz : zs.length = cap) (hc : ∀ i, i < cap → W.cell? (a.add i) = some (.int .i64 (zs.getD i 0))) : Row W (some a) len ((zs.take len).map Iv) := by
  refine ⟨by simp; omega, fun hp => ?_⟩
  have hs0 : a.spot = none := by simpa [Addr.add] using World.cell?_spot (hc 0 (by omega))
  obtain ⟨b, off, spot⟩ := a
  obtain rfl : spot = none := hs0
  refine ⟨b, off, rfl, fun j u hu => ?_⟩
  have hj : j < len := by
    have := (List.getElem?_eq_some_iff.1 hu).1
    simp at this
    omega
  have h2 := hc j (by omega)
  have e : (⟨b, off, none⟩ : Addr).add j = ⟨b, off + j, none⟩ := by
    unfold Addr.add
    by_cases h : j = 0 <;> simp [h]
  rw [e] at h2
  simp [hj, show j < zs.length by omega, Iv] at hu
  rw [h2, ← hu]
  simp [show j < zs.length by omega]

set_option maxRecDepth 100000 in
/-- A list of numbers, opened. -/
theorem open_list {H : Type} {enc : TypeId × Value → H} {W : World} {b : Nat} {v : Value} {d : DataW H} {p : List MemPlace} (hv : Value.okWide Tryd.prog W .any b 22 v) (h : DataW.Trod enc Tryd.prog W 0 (fun _ => true) true 22 v d p) :
    ∃ (A : Option Addr) (m c : Nat) (l : List Int), v = .slice A m c ∧ Row W A m (l.map Iv) ∧ (∀ x ∈ l, -9223372036854775808 ≤ x ∧ x ≤ 9223372036854775807) ∧ m ≤ c := by
  obtain ⟨A, m, c, rfl⟩ : ∃ A m c, v = .slice A m c := okWide_slice Tryd.underlying22 hv
  obtain ⟨fuel, h1⟩ := h
  rcases open_ints Tryd.underlying22 Tryd.underlying3 (by kernel_rfl) h1 with ⟨hs, _⟩ | ⟨a, len, cap, zs, hs, _, hl, _, hz, _, hc, hw⟩
  · obtain ⟨rfl, rfl, rfl⟩ : A = none ∧ m = 0 ∧ c = 0 := by simpa [Value.cells] using hs
    exact ⟨none, 0, 0, [], rfl, Row.none_, by simp, Nat.le_refl _⟩
  · obtain ⟨rfl, rfl, rfl⟩ : some a = A ∧ len = m ∧ cap = c := by simpa [Value.cells, eq_comm] using hs
    rw [if_pos rfl] at hz
    refine ⟨some a, len, cap, zs.take len, rfl, ⟨by simp; omega, fun hp => ?_⟩, fun x hx => bounds_i64 (hw x (List.mem_of_mem_take hx)), hl⟩
    have hs0 : a.spot = none := by simpa [Addr.add] using World.cell?_spot (hc 0 (by omega))
    obtain ⟨b, off, spot⟩ := a
    obtain rfl : spot = none := hs0
    refine ⟨b, off, rfl, fun j u hu => ?_⟩
    have hj : j < len := by
      have := (List.getElem?_eq_some_iff.1 hu).1
      simp at this
      omega
    have hjz : j < zs.length := by omega
    have h2 := hc j hjz
    simp [hj, hjz] at hu
    rw [addr_add] at h2
    simp [hjz] at h2
    rw [h2, ← hu, Iv]

set_option maxRecDepth 100000 in
/-- A pool, opened. -/
theorem open_pool {H : Type} {enc : TypeId × Value → H} {W : World} {b : Nat} {v : Value} {d : DataW H} {p : List MemPlace} (hv : Value.okWide Tryd.prog W .any b 25 v) (h : DataW.Trod enc Tryd.prog W 0 (fun _ => true) true 25 v d p) :
    ∃ (S : Option Addr) (m c : Nat) (T : Option Addr) (k d : Nat) (l : List Int) (ts : List (List Int)), v = .agg #[.slice S m c, .slice T k d] ∧ Row W S m (l.map Iv) ∧ TabsU W T k ts ∧ m ≤ c ∧ k ≤ 9223372036854775807 := by
  obtain ⟨v0, v1, y0, y1, q, rfl, _, _, h0, h1⟩ := Joins.open_agg2 Tryd.underlying25 (by kernel_rfl) (by kernel_rfl) hv h
  have hs0 : ∃ (S : Option Addr) (m c : Nat) (l : List Int), v0 = .slice S m c ∧ Row W S m (l.map Iv) ∧ m ≤ c := by
    rcases open_ints Tryd.underlying22 Tryd.underlying3 (by kernel_rfl) h0 with ⟨hs, _⟩ | ⟨a, len, cap, zs, hs, _, hl, _, hz, _, hc, hw⟩
    · obtain rfl : v0 = .slice none 0 0 := by simpa using hs
      exact ⟨none, 0, 0, [], rfl, Row.none_, Nat.le_refl _⟩
    · obtain rfl : v0 = .slice (some a) len cap := by simpa using hs
      rw [if_pos rfl] at hz
      exact ⟨some a, len, cap, zs.take len, rfl, row_of_cells hl hz (fun i hi => hc i (by omega)), hl⟩
  obtain ⟨S, m, c, l, rfl, hR, hmc⟩ := hs0
  rcases Deep.open_int_rows Tryd.underlying23 Tryd.underlying22 Tryd.underlying3 (by kernel_rfl) (by kernel_rfl) h1 with ⟨hs, _⟩ | ⟨a, len, cap, A, L, C, Z, hs, _, hl, hcm, _, hr⟩
  · obtain rfl : v1 = .slice none 0 0 := by simpa using hs
    exact ⟨S, m, c, none, 0, 0, l, [], rfl, hR, ⟨rfl, fun h => absurd h (by omega)⟩, hmc, by omega⟩
  · obtain rfl : v1 = .slice (some a) len cap := by simpa using hs
    refine ⟨S, m, c, some a, len, cap, l, (List.range len).map fun r => (Z r).take (L r), rfl, hR, ⟨by simp, fun hp => ?_⟩, hmc, by unfold maxLen at hcm; omega⟩
    have hs0 : a.spot = none := by simpa [Addr.add] using World.cell?_spot (hr 0 (by omega)).1
    obtain ⟨b, off, spot⟩ := a
    obtain rfl : spot = none := hs0
    refine ⟨b, off, rfl, fun j t ht => ?_⟩
    rw [List.getElem?_map] at ht
    have hj : j < len := by
      rcases Nat.lt_or_ge j len with h | h
      · exact h
      · rw [List.getElem?_eq_none (by simpa using h)] at ht; cases ht
    rw [List.getElem?_eq_getElem (by simpa using hj)] at ht
    simp at ht
    subst ht
    obtain ⟨e1, e2, e3, e4, _, e6, e7⟩ := hr j (by omega)
    have e : (⟨b, off, none⟩ : Addr).add j = ⟨b, off + j, none⟩ := by
      unfold Addr.add
      by_cases h : j = 0 <;> simp [h]
    rw [e] at e1
    refine ⟨A j, L j, C j, e1, e2, ?_⟩
    cases hA : A j with
    | none =>
      have := e6 hA
      have hL0 : L j = 0 := by omega
      rw [hL0]
      simpa using Row.none_
    | some a' => exact row_of_cells e2 e4 (e7 a' hA).2

/-- THE DOOR's OWN HEAP MEETS THE CONDITION. -/
theorem door_met (os : Os) (args : Array Value) : laidMetH Tryd.prog row0.laid ((World.doorLaid Tryd.prog 200 os).forCall (fun _ _ => 0) ⟨#[], args, []⟩).memory :=
  laidMetH_of_parts3 (fuel := 8) (laidMet_of_run' 8 (by kernel_rfl) (by kernel_rfl)) (by kernel_rfl) (by kernel_rfl)

end Go.Proofs.YtllanbggjfmfhaaDoor
namespace Go.Proofs.YtllanbggjfmfhaaDoor.PoolTells
open Go.ChangeShapes Go.WideShapes Go.ChangeAt Go.RowKit

set_option maxRecDepth 100000 in
theorem contract (H : Type) (enc : TypeId × Value → H) (W : World) (base : Nat) (args : Array Value) (ds gs : List (DataW H)) (before : List MemPlace)
    (hval : ∀ (j : Nat) t v, Tryd.f6.params[j]? = some t → args[j]? = some v → Value.okWide Tryd.prog W .any base t v)
    (hW : DataW.Whole enc Tryd.prog Tryd.f6.params.toList Rows.poolTellsSpec.vars false W args.toList ds gs before) (hL : laidMetH Tryd.prog Rows.poolTellsRow.laid W) :
    Calls Tryd.prog 6 args W fun e W' => ∃ v, e = .returned v ∧ Rows.poolTellsSpec.post enc Tryd.prog Tryd.f6 false true false false W args v W' := by
  have hW' := hW
  obtain ⟨p, q, hA0, hV, rfl, hfz, hnd⟩ := hW
  have hA : DataW.TrodAll enc Tryd.prog W 0 (fun _ => true) true Tryd.f6.params.toList args.toList ds p := hA0
  rw [Tryd.params6] at hA hval
  obtain ⟨v0, vs0, d0, ds0, p0, q0, hargs, rfl, rfl, h0, r0⟩ := trodAll_cons hA
  obtain ⟨v1, vs1, d1, ds1, p1, q1, rfl, rfl, rfl, h1, r1⟩ := trodAll_cons r0
  obtain ⟨v2, vs2, d2, ds2, p2, q2, rfl, rfl, rfl, h2, r2⟩ := trodAll_cons r1
  obtain ⟨rfl, rfl, rfl⟩ := trodAll_nil r2
  obtain rfl : args = #[v0, v1, v2] := by cases args; simp_all
  obtain ⟨rfl, rfl⟩ := trodVars_none hV
  obtain ⟨S0, m0, c0, T0, k0, e0, l0, t0, rfl, hS0, hT0, hc0, hk0⟩ := open_pool (hval 0 _ v0 rfl rfl) h0
  obtain ⟨S1, m1, c1, T1, k1, e1, l1, t1, rfl, hS1, hT1, hc1, hk1⟩ := open_pool (hval 1 _ v1 rfl rfl) h1
  obtain ⟨i2, rfl, rfl, rfl, b2⟩ := open_int Tryd.underlying3 (hval 2 _ v2 rfl rfl) h2
  obtain ⟨aS, aR, hRS, hE⟩ := sents hL
  refine (poolTells_any S0 m0 c0 T0 k0 e0 l0 t0 S1 m1 c1 T1 k1 e1 l1 t1 i2 aS aR W hRS hE hc0 hS0 hT0 hk0 hc1 hS1 hT1 hk1).mono fun e W' ⟨he, hb⟩ => ?_
  subst he
  exact ⟨_, rfl, post_true laidOut0 Tryd.underlying4 (by kernel_rfl) rfl (by kernel_rfl) hW' rfl hb⟩

noncomputable def wArgs : Array Value := #[.agg #[.slice none 0 0, .slice none 0 0], .agg #[.slice none 0 0, .slice none 0 0], .int .i64 0]

theorem reads (os : Os) {H : Type} (enc : TypeId × Value → H) : ∃ places, DataW.whole enc Tryd.prog ((World.doorLaid Tryd.prog 200 os).forCall (fun _ _ => 0) ⟨#[], wArgs, []⟩).memory Tryd.f6.params.toList Rows.poolTellsSpec.vars false wArgs.toList 8 = some ([.agg [.nil, .nil], .agg [.nil, .nil], .lit (.int .i64 0)], [], places) :=
  ⟨[], by kernel_rfl⟩

set_option maxRecDepth 100000 in
theorem lifted (os : Os) (started : os.Started) (H : Type) (enc : TypeId × Value → H) (F : Stop.Interp) :
    ReturnsInHanded {} Tryd.checked os 6 .any ((OpenSpec.ofChange Rows.poolTellsSpec).preRow enc Tryd.prog Tryd.f6 Rows.poolTellsRow.domain false Rows.poolTellsRow.laid) (((OpenSpec.ofChange Rows.poolTellsSpec).at F).post enc Tryd.prog Tryd.f6 false true false false) := by
  obtain ⟨places, hx⟩ := reads os enc
  refine returnsInHanded_of_row (C := Tryd.checked) (s := OpenSpec.ofChange Rows.poolTellsSpec) own0 started (by kernel_rfl) Tryd.func6
    (witness_row_atRef (enc := enc) (C := Tryd.checked) false (World.doorLaid Tryd.prog 200 os) wArgs rfl (by kernel_rfl) (by kernel_rfl) (by kernel_rfl)
      (OpenSpec.preRow_of_cond 8 hx (by kernel_rfl) (fun k hk => by cases hk) (by kernel_rfl) (door_met os _))) ?_
  intro W base args ds gs before hval hW _ _ _ hL _ _
  exact contract H enc W base args ds gs before hval hW hL

theorem said : Rows.PoolTellsSaid :=
  OpenClaim.holds_of_cond 6 Tryd.f6 rfl rfl rfl rfl rfl rfl rfl ⟨rfl, rfl, rfl, rfl, rfl⟩ rfl rfl rfl rfl rfl (by kernel_rfl) Tryd.func6 (by kernel_rfl)
    (of_decide_eq_true (by kernel_rfl)) (by unfold Func.isWrapper; first | (rw [if_pos (by decide +kernel)]; kernel_rfl) | (rw [if_neg (by decide +kernel)]; exact ⟨rfl, rfl⟩))
    (fun os started H enc _ F => by rw [OpenClaim.pre_eq_preRow]; exact lifted os started H enc F)

theorem plain (f : FuncId) (fn : Func) (hf : Tryd.pinned.checked.prog.funcNamed "selion/selionlaw10.PoolTells" = some f) (hfn : Tryd.pinned.checked.prog.funcs[f]? = some fn) :
    true = Tryd.pinned.checked.prog.looks [] ∧ ∀ (j : Nat) t, fn.params[j]? = some t → Tryd.pinned.checked.prog.wantsStandIn t = false := by
  obtain rfl : f = 6 := Option.some.inj ((show Tryd.prog.funcNamed "selion/selionlaw10.PoolTells" = some 6 by kernel_rfl).symm.trans hf) |>.symm
  obtain rfl : fn = Tryd.f6 := (Option.some.inj (Tryd.func6.symm.trans hfn)).symm
  refine ⟨by kernel_rfl, fun j t ht => ?_⟩
  have h : (Tryd.f6.params.toList.all fun t => !Tryd.prog.wantsStandIn t) = true := by kernel_rfl
  have := List.all_eq_true.1 h t (by simpa using Array.mem_of_getElem? ht)
  show Tryd.prog.wantsStandIn t = false
  simpa using this

/-- THE CARD. -/
theorem card : Rows.PoolTellsCardSaid :=
  Claim7.holds_tied_plain_at .later [] _ _ _ _ said (fun _ h => by cases h) (by kernel_rfl) (fun _ h => by cases h) poolTells_row_tie rfl ⟨rfl, rfl⟩ (by kernel_rfl) rfl plain (by kernel_rfl)
end Go.Proofs.YtllanbggjfmfhaaDoor.PoolTells
