/-
  What is proved: contracts of those functions that this program has, and plain facts beside them. No condition beyond those stated. plain laws of pools: what is taken leaves a right pool. No program in sight. No condition beyond those stated. plain laws of pools: how many blocks have a state after one is set, or a large one put; what is put, and given back, is as it was. No program in sight. No condition beyond those stated. contracts of zero and Right of the reference of layer 10. No condition beyond those stated. a pool that is built row by row, in new memory. No condition beyond those stated. contracts of those functions that this program has, and plain facts beside them. No condition beyond those stated. a block of another type stays where a row of the call's own grows. No condition beyond those stated. contracts of Put and Cut of the reference of layer 9. No condition beyond those stated. the contract of Own of the reference of layer 10. No condition beyond those stated. a pool of the call's own that is changed; contracts of take, TakeFree, TakeHole of the reference of layer 10. No condition beyond those stated. the contract of First of the reference of layer 9. No condition beyond those stated. contracts of Close of the reference of layer 10. No condition beyond those stated. contracts of TakeFree, TakeHole, TakeRun of the reference of layer 10. No condition beyond those stated. the contract of Drop of the reference of layer 10. No condition beyond those stated. the contract of Set of the reference of layer 10. No condition beyond those stated. PoolGives returns true. No condition beyond those stated. contracts of those functions that this program has, and plain facts beside them. No condition beyond those stated. the row of PoolGives, and its tied card: whatever the input, true; the input reads as it did. No condition beyond the statement's own.
-/
import Derived.Test.YtllanbggjfmfhaaGreatDoorOq
import Derived.Test.YtllanbggjfmfhaaGreatDoorIb
import Derived.Test.YtllanbggjfmfhaaGreatDoorKa
import Derived.Test.YtllanbggjfmfhaaGreatDoorIc
import Derived.Maps.AppendAt
import Derived.Deep.Cut
import Derived.Deep.CutRange
import Derived.Test.YtllanbggjfmfhaaGreatDoorOp
import Derived.Test.YtllanbggjfmfhaaGreatDoorIa
import Derived.Test.YtllanbggjfmfhaaGreatDoorCards
import Derived.Test.YtllanbggjfmfhaaGreatDoorTie
import Derived.ProofKit
import Derived.OpenShut
import Derived.Below
import Derived.ChangeSame
import Derived.WideKeyArgs
import Derived.LaidMore
import Derived.LaidHandle
import Derived.MakeChecks
import Derived.Stop.Joined
import Derived.Stop.LaidErr
import Derived.Stop.LaidTwo
import Derived.Lib.SmallJoins
import Derived.Deep.Matrix
import Derived.Deep.DeepHandedRow
import Derived.Deep.DeepWitnessRowRef
namespace Go.Proofs.YtllanbggjfmfhaaGreatDoor
open Go.RowKit Go.Shelf

set_option maxHeartbeats 1000000 in
theorem refright_any (A : Option Addr) (m c : Nat) (l : List Int) (w : World) (hR : Row w A m (l.map Iv)) (hm : m ≤ 1000) :
    Calls Tryz.prog 57 #[.slice A m c] w fun e w' => e = .returned (.bool (rightL l)) ∧ w = w' := by
  have hl := hR.1
  simp at hl
  have HR := Lib.hid hR
  have HL := Lib.hid hl
  clear hR hl
  go_enter Tryz.func57, Tryz.ntmps57
  go_wp2
  go_loop [3] (fun i => ∃ k : Nat, k ≤ m ∧ i = .int .i64 k ∧ ∀ j, j < k → knownB (l.getD j 0) = true) (fun i => m - (intOf i).toNat)
  case atStart => exact ⟨0, Nat.zero_le _, rfl, fun j hj => absurd hj (by omega)⟩
  case round =>
    obtain ⟨k, hk, rfl, hz⟩ := hrel
    have HZ := Lib.hid hz
    clear hz
    by_cases hlt : k < m
    · obtain ⟨b, off, x, rfl, hcx, hx, hx2⟩ := num_at HR.out hlt
      have hbad : knownB x = false → rightL l = false := fun h => by
        unfold rightL
        rw [show l.all knownB = false by rw [List.all_eq_false]; exact ⟨x, List.mem_of_getElem? hx2, by rw [h]; exact Bool.false_ne_true⟩]
        simp
      have BAD := Lib.hid hbad
      have HX := Lib.hid hx
      clear hbad hx hx2
      by_cases h0 : x < 0
      · have HK : Hid (knownB x = false) := Lib.hid (by simp [knownB]; omega)
        go_wp2
        go_ret
        exact ⟨ret_bool (BAD.out HK.out).symm, rfl⟩
      by_cases h1 : 5 < x
      · have HK : Hid (knownB x = false) := Lib.hid (by simp [knownB]; omega)
        go_wp2
        go_ret
        exact ⟨ret_bool (BAD.out HK.out).symm, rfl⟩
      · have HK : Hid (knownB x = true) := Lib.hid (by simp [knownB]; omega)
        go_wp2
        go_round
        case rel => exact ⟨k + 1, by omega, by go_num, fun j hj => by
          by_cases e : j = k
          · rw [e, HX.out]; exact HK.out
          · exact HZ.out j (by omega)⟩
        case measure => simp [intOf]; omega
    · have HALL : Hid (l.all knownB = true) := Lib.hid (by
        rw [List.all_eq_true]
        intro x hx
        obtain ⟨j, hj, rfl⟩ := List.mem_iff_getElem.1 hx
        have := HZ.out j (by have := HL.out; omega)
        rwa [List.getD_eq_getElem?_getD, List.getElem?_eq_getElem hj] at this)
      by_cases h1 : 1 ≤ m
      · by_cases h2 : m ≤ 32
        · go_wp2
          go_ret
          refine ⟨ret_bool ?_, rfl⟩
          have := HL.out
          rw [rightL, HALL.out, decide_eq_true (show 1 ≤ l.length by omega), decide_eq_true (show l.length ≤ 32 by omega)]
          simp
          omega
        · go_wp2
          go_ret
          refine ⟨ret_bool ?_, rfl⟩
          have := HL.out
          rw [rightL, decide_eq_false (show ¬ l.length ≤ 32 by omega)]
          simp
          omega
      · go_wp2
        go_ret
        refine ⟨ret_bool ?_, rfl⟩
        have := HL.out
        rw [rightL, decide_eq_false (show ¬ 1 ≤ l.length by omega)]
        simp

set_option maxRecDepth 100000 in
set_option maxHeartbeats 1000000 in
theorem refwhole_any (A : Option Addr) (m c : Nat) (l : List Int) (w : World) (hR : Row w A m (l.map Iv)) (hm : m ≤ 1000) :
    Calls Tryz.prog 59 #[.slice A m c] w fun e w' => e = .returned (.bool (wholeL l)) ∧ w = w' := by
  have hl := hR.1
  simp at hl
  have HR := Lib.hid hR
  have HL := Lib.hid hl
  clear hR hl
  go_enter Tryz.func59, Tryz.ntmps59
  go_wp2
  go_loop [3] (fun i => ∃ k : Nat, k ≤ m ∧ i = .int .i64 k ∧ ∀ j, j < k → okAt l j = true) (fun i => m - (intOf i).toNat)
  case atStart => exact ⟨0, Nat.zero_le _, rfl, fun j hj => absurd hj (by omega)⟩
  case round =>
    obtain ⟨k, hk, rfl, hz⟩ := hrel
    have HZ := Lib.hid hz
    clear hz
    have NX : Hid (okAt l k = true → ∀ j, j < k + 1 → okAt l j = true) := Lib.hid (fun h j hj => by
      by_cases e : j = k
      · rw [e]; exact h
      · exact HZ.out j (by omega))
    by_cases hlt : k < m
    · obtain ⟨b, off, y, rfl, hcy, hy, -⟩ := num_at HR.out hlt
      have BAD : Hid (okAt l k = false → wholeL l = false) := Lib.hid (fun h => by
        unfold wholeL
        rw [show (List.range l.length).all (okAt l) = false by
          rw [List.all_eq_false]
          exact ⟨k, by simp; have := HL.out; omega, by rw [h]; exact Bool.false_ne_true⟩]
        simp)
      have HY := Lib.hid hy
      clear hy
      by_cases h4 : y = 4
      · subst h4
        by_cases hk0 : k = 0
        · have ho : okAt l k = false := by
            unfold okAt
            rw [HY.out, show (k == 0) = true by simpa using hk0]
            rfl
          have hkz : ((k : Int) == 0) = true := by simp; omega
          have HO := Lib.hid ho
          clear ho hk0
          go_wp2
          go_ret
          exact ⟨ret_bool (BAD.out HO.out).symm, rfl⟩
        · obtain ⟨b', off', x, e', hcx, hx, -⟩ := num_at (k := k - 1) HR.out (by omega)
          cases e'
          have hk1 : 1 ≤ k := by omega
          have hkz : ((k : Int) == 0) = false := by simp; omega
          have hsub : ((k : Int) - 1).toNat = k - 1 := by omega
          have hkn : ((k : Int) - 1) < m := by omega
          have ho : okAt l k = (x == 3 || x == 4) := by
            simp only [okAt, HY.out, hx]
            simp [hk0]
          have HO := Lib.hid ho
          clear ho hx
          by_cases h3 : x = 3
          · have hd3 : (x != 3) = false := by simpa using h3
            have HP : Hid ((x == 3 || x == 4) = true) := Lib.hid (by simp [h3])
            clear h3
            go_wp2
            go_round
            case rel => exact ⟨k + 1, by omega, by go_num, NX.out (HO.out.trans HP.out)⟩
            case measure => simp [intOf]; omega
          · have hd3 : (x != 3) = true := by simpa using h3
            by_cases h5 : x = 4
            · have hd4 : (x != 4) = false := by simpa using h5
              have HP : Hid ((x == 3 || x == 4) = true) := Lib.hid (by simp [h5])
              clear h3 h5
              go_wp2
              go_round
              case rel => exact ⟨k + 1, by omega, by go_num, NX.out (HO.out.trans HP.out)⟩
              case measure => simp [intOf]; omega
            · have hd4 : (x != 4) = true := by simpa using h5
              have HP : Hid ((x == 3 || x == 4) = false) := Lib.hid (by simp [h3, h5])
              clear h3 h5
              go_wp2
              go_ret
              exact ⟨ret_bool (BAD.out (HO.out.trans HP.out)).symm, rfl⟩
      · have hd : (y == 4) = false := by simpa using h4
        have ho : okAt l k = true := by simp only [okAt, HY.out, hd]; rfl
        have HO := Lib.hid ho
        clear ho
        go_wp2
        go_round
        case rel => exact ⟨k + 1, by omega, by go_num, NX.out HO.out⟩
        case measure => simp [intOf]; omega
    · have HALL : Hid (wholeL l = rightL l) := Lib.hid (by
        unfold wholeL
        rw [show (List.range l.length).all (okAt l) = true by
          rw [List.all_eq_true]
          exact fun j hj => HZ.out j (by have := HL.out; simp at hj; omega)]
        simp)
      go_wp2_with fail
      refine (refright_any A m c l w HR.out hm).mono ?_
      rintro e w' ⟨rfl, rfl⟩
      go_wp2
      go_ret
      exact ⟨ret_bool HALL.out.symm, rfl⟩

set_option maxHeartbeats 1000000 in
theorem free_any (A : Option Addr) (m c : Nat) (l : List Int) (f : Nat) (w : World) (hR : Row w A m (l.map Iv)) (hm : m ≤ 1000) (hf : f ≤ m) :
    Calls Tryz.prog 58 #[.slice A m c, .int .i64 f] w fun e w' => e = .returned (.int .i64 (freeN l f : Nat)) ∧ w = w' := by
  have hl := hR.1
  simp at hl
  have hle := free_le l f (by omega)
  have hall := free_all l f
  have hstp := free_stop l f (by omega)
  obtain ⟨q, hq⟩ : ∃ q, freeN l f = q := ⟨_, rfl⟩
  rw [hq] at hle hall hstp
  have HR := Lib.hid hR
  have HL := Lib.hid hl
  have HAL := Lib.hid hall
  have HSP := Lib.hid hstp
  have HQ := Lib.hid hq
  have hqm : f + q ≤ m := by omega
  clear hR hl hall hstp hq hle
  go_enter Tryz.func58, Tryz.ntmps58
  go_wp2
  go_loop [5] (fun i => ∃ j : Nat, j ≤ q ∧ i = .int .i64 j) (fun i => q - (intOf i).toNat)
  case atStart => exact ⟨0, Nat.zero_le _, rfl⟩
  case round =>
    obtain ⟨j, hj, rfl⟩ := hrel
    have hwr : ((f : Int) + (j : Int)).toNat = f + j := by omega
    by_cases hlt : j < q
    · obtain ⟨b, off, x, rfl, hcx, hx, -⟩ := num_at (k := f + j) HR.out (by omega)
      rw [HAL.out (f + j) (by omega) (by omega)] at hx
      subst hx
      have hb1 : (f : Int) + (j : Int) < m := by omega
      go_wp2
      go_round
      case rel => exact ⟨j + 1, by omega, by go_num⟩
      case measure => simp [intOf]; omega
    · obtain rfl : j = q := by omega
      have hcase : (m ≤ f + j) ∨ (f + j < m ∧ l.getD (f + j) 0 ≠ 0) := by
        rcases Nat.lt_or_ge (f + j) m with h | h
        · refine .inr ⟨h, ?_⟩
          rcases HSP.out with h2 | h2
          · have := HL.out; omega
          · exact h2
        · exact .inl h
      rcases hcase with hc1 | ⟨hc1, hc2⟩
      · have hb1 : ¬ (f : Int) + (j : Int) < m := by omega
        go_wp2
        go_ret
        exact ⟨ret_int (by rw [HQ.out]), rfl⟩
      · obtain ⟨b, off, x, rfl, hcx, hx, -⟩ := num_at (k := f + j) HR.out hc1
        have hzd : (x == 0) = false := by rw [hx] at hc2; simpa using hc2
        have hb1 : (f : Int) + (j : Int) < m := by omega
        clear hx hc2
        go_wp2
        go_ret
        exact ⟨ret_int (by rw [HQ.out]), rfl⟩

end Go.Proofs.YtllanbggjfmfhaaGreatDoor
namespace Go.Proofs.YtllanbggjfmfhaaGreatDoor
open Go.RowKit Go.Shelf

theorem pright_iff {l : List Int} {ts : List (List Int)} : pRight l ts = true ↔ wholeL l = true ∧ ts.length = l.length ∧ ∀ i, i < l.length → tabB (ts.getD i []) = true ∧ asksOf (l.getD i 0) (ts.getD i []) = true := by
  simp only [pRight, Bool.and_eq_true, decide_eq_true_eq, List.all_eq_true, List.mem_range, blkOk]
  constructor
  · rintro ⟨⟨h1, h2⟩, h3⟩
    exact ⟨h1, h2, h3⟩
  · rintro ⟨h1, h2, h3⟩
    exact ⟨⟨h1, h2⟩, h3⟩

theorem firstOf_spec {l : List Int} {s : Int} {i : Nat} (h : firstOf l s = some i) : i < l.length ∧ l.getD i 0 = s := by
  unfold firstOf at h
  have h1 := List.mem_of_find?_eq_some h
  have h2 := List.find?_some h
  exact ⟨by simpa using h1, by simpa using h2⟩
theorem firstOf_some {l : List Int} {s : Int} : (firstOf l s).isSome = decide (0 < countL l s) := by
  rw [Bool.eq_iff_iff]
  unfold firstOf
  rw [List.find?_isSome, decide_eq_true_eq]
  unfold countL
  rw [List.countP_pos_iff]
  constructor
  · rintro ⟨i, hi, h⟩
    rw [List.mem_range] at hi
    exact ⟨l[i], List.getElem_mem _, by simpa [hi] using h⟩
  · rintro ⟨x, hx, h⟩
    obtain ⟨i, hi, rfl⟩ := List.mem_iff_getElem.1 hx
    exact ⟨i, by simpa using hi, by simpa [hi] using h⟩

/-- A state that is no large one's may be set to another such one. -/
theorem whole_set {l : List Int} {i : Nat} {x : Int} (hw : wholeL l = true) (hi : i < l.length) (h3 : l.getD i 0 ≠ 3) (h4 : l.getD i 0 ≠ 4) (hx : 0 ≤ x ∧ x ≤ 5) (hx4 : x ≠ 4) : wholeL (l.set i x) = true := by
  obtain ⟨hr, ho⟩ := whole_iff.1 hw
  obtain ⟨h1, h2, h5⟩ := right_iff.1 hr
  refine whole_iff.2 ⟨right_iff.2 ⟨by simpa using h1, by simpa using h2, fun j hj => ?_⟩, fun j hj => ?_⟩
  · rw [getD_set_eq l j i x hi]
    split
    · exact hx
    · exact h5 j (by simpa using hj)
  · have hj' : j < l.length := by simpa using hj
    have := okAt_iff.1 (ho j hj')
    rw [okAt_iff, getD_set_eq l j i x hi, getD_set_eq l (j - 1) i x hi]
    intro h
    by_cases e : j = i
    · rw [if_pos e] at h; exact absurd h hx4
    · rw [if_neg e] at h
      obtain ⟨a, b⟩ := this h
      refine ⟨a, ?_⟩
      by_cases e2 : j - 1 = i
      · rw [e2] at b
        rcases b with b | b
        · exact absurd b h3
        · exact absurd b h4
      · rw [if_neg e2]; exact b

theorem pright_set {l : List Int} {ts : List (List Int)} {i : Nat} {x : Int} (hp : pRight l ts = true) (hi : i < l.length) (h3 : l.getD i 0 ≠ 3) (h4 : l.getD i 0 ≠ 4) (hx : x = 2 ∨ x = 5) : pRight (l.set i x) ts = true := by
  obtain ⟨hw, ht, ha⟩ := pright_iff.1 hp
  refine pright_iff.2 ⟨whole_set hw hi h3 h4 (by omega) (by omega), by simpa using ht, fun j hj => ?_⟩
  have hj' : j < l.length := by simpa using hj
  refine ⟨(ha j hj').1, ?_⟩
  rw [getD_set_eq l j i x hi]
  split
  · unfold asksOf
    rw [if_neg (by omega), if_neg (by omega)]
  · exact (ha j hj').2

theorem others_set {l : List Int} {ts : List (List Int)} {i : Nat} {x : Int} (ht : ts.length = l.length) (hi : i < l.length) : Others l (l.set i x) ts ts i 1 := by
  refine ⟨by simp, ht, ht, fun j hj h => ⟨?_, rfl⟩⟩
  rw [getD_set_eq l j i x hi, if_neg (by omega)]

theorem take_keeps {l : List Int} {ts : List (List Int)} {s : Int} (hs : s = 0 ∨ s = 1) (h : takeOk l ts s = true) :
    pRight l ts = true ∧ pRight (takeL l ts s) (takeT l ts s) = true ∧ Others l (takeL l ts s) ts (takeT l ts s) (takeN l ts s) 1 ∧ takeN l ts s < l.length ∧ l.getD (takeN l ts s) 0 = s ∧ takeL l ts s = l.set (takeN l ts s) 5 ∧ takeT l ts s = ts := by
  have hp : pRight l ts = true := by
    unfold takeOk at h
    exact (Bool.and_eq_true_iff.1 h).1
  have hf : (firstOf l s).isSome = true := by
    unfold takeOk at h
    exact (Bool.and_eq_true_iff.1 h).2
  obtain ⟨i, hi⟩ := Option.isSome_iff_exists.1 hf
  have hN : takeN l ts s = i := by unfold takeN; rw [h, hi]; rfl
  have hL : takeL l ts s = l.set i 5 := by unfold takeL; rw [h, hN]; rfl
  have hT : takeT l ts s = ts := by unfold takeT; rw [h]; rfl
  obtain ⟨h1, h2⟩ := firstOf_spec hi
  rw [hN, hL, hT]
  exact ⟨hp, pright_set hp h1 (by omega) (by omega) (.inr rfl), others_set (pright_iff.1 hp).2.1 h1, h1, h2, rfl, rfl⟩

theorem run_keeps {l : List Int} {ts : List (List Int)} {k : Int} (h : runOk l ts k = true) :
    pRight l ts = true ∧ 1 ≤ k ∧ k ≤ 32 ∧ PutIn l (runN l ts k) k.toNat ∧ pRight (runL l ts k) (runT l ts k) = true ∧ Others l (runL l ts k) ts (runT l ts k) (runN l ts k) k.toNat ∧ runL l ts k = putL l (runN l ts k) k.toNat ∧ runT l ts k = ts := by
  have hp : pRight l ts = true := by
    unfold runOk at h
    exact (Bool.and_eq_true_iff.1 h).1
  have hf : (firstR l k).isSome = true := by
    unfold runOk at h
    exact (Bool.and_eq_true_iff.1 h).2
  obtain ⟨r, hr⟩ := Option.isSome_iff_exists.1 hf
  have hN : runN l ts k = r.1 := by unfold runN; rw [h, hr]; rfl
  have hL : runL l ts k = putL l r.1 k.toNat := by unfold runL; rw [h, hN]; rfl
  have hT : runT l ts k = ts := by unfold runT; rw [h]; rfl
  obtain ⟨hpo, hk⟩ := first_fits hr
  obtain ⟨hpi, _, _, hlen⟩ := PutIn.of hpo
  obtain ⟨hw, ht, ha⟩ := pright_iff.1 hp
  have hle := (right_iff.1 (whole_iff.1 hw).1).2.1
  rw [Int.toNat_natCast] at hpi
  rw [hN, hL, hT]
  refine ⟨hp, hk, by omega, hpi, ?_, ⟨put_len _ _ _, ht, ht, fun j hj hjo => ⟨?_, rfl⟩⟩, rfl, rfl⟩
  · refine pright_iff.2 ⟨put_whole_whole hw hpi, by rw [put_len]; exact ht, fun j hj => ?_⟩
    rw [put_len] at hj
    refine ⟨(ha j hj).1, ?_⟩
    have hz : r.1 ≤ j → j < r.1 + k.toNat → asksOf 0 (ts.getD j []) = true := fun h1 h2 => by
      have h3 := (ha j hj).2
      rwa [hpi.hz j h1 h2] at h3
    have e3 : ∀ t, asksOf 3 t = asksOf 0 t := fun t => by simp [asksOf]
    have e4 : ∀ t, asksOf 4 t = asksOf 0 t := fun t => by simp [asksOf]
    rw [put_get hj]
    split
    · rename_i e
      rw [e3]; exact hz (by omega) (by omega)
    · split
      · rename_i e
        rw [e4]; exact hz (by omega) (by omega)
      · exact (ha j hj).2
  · rw [put_get hj, if_neg (by omega), if_neg (by omega)]

theorem takeL_len (l : List Int) (ts : List (List Int)) (s : Int) : (takeL l ts s).length ≤ l.length := by
  unfold takeL
  split <;> simp
theorem takeT_len (l : List Int) (ts : List (List Int)) (s : Int) : (takeT l ts s).length ≤ ts.length := by
  unfold takeT
  split <;> simp
theorem runL_len (l : List Int) (ts : List (List Int)) (k : Int) : (runL l ts k).length ≤ l.length := by
  unfold runL
  split
  · rw [put_len]; exact Nat.le_refl _
  · simp
theorem runT_len (l : List Int) (ts : List (List Int)) (k : Int) : (runT l ts k).length ≤ ts.length := by
  unfold runT
  split <;> simp

end Go.Proofs.YtllanbggjfmfhaaGreatDoor
namespace Go.Proofs.YtllanbggjfmfhaaGreatDoor
open Go.RowKit Go.Shelf

theorem count_at {l : List Int} {i : Nat} {x a : Int} (hi : i < l.length) (h0 : l.getD i 0 = a) (s : Int) :
    countL (l.set i x) s + (if a = s then 1 else 0) = countL l s + (if x = s then 1 else 0) := by
  unfold countL
  have h1 : l[i] = a := by simpa [hi] using h0
  rw [List.countP_set hi, h1]
  by_cases e : a = s
  · have h2 : 0 < l.countP (· == s) := List.countP_pos_iff.2 ⟨l[i], List.getElem_mem hi, by simp [h1, e]⟩
    by_cases f : x = s
    · simp [e, f]; omega
    · simp [e, f]; omega
  · by_cases f : x = s <;> simp [e, f]

theorem put_counts {l : List Int} {f k : Nat} (h : PutIn l f k) : countL (putL l f k) 0 + k = countL l 0 ∧ countL (putL l f k) 3 = countL l 3 + 1 ∧ countL (putL l f k) 4 + 1 = countL l 4 + k := by
  have hk := h.hk
  have hfk := h.hfk
  have gen : ∀ j, 1 ≤ j → j ≤ k → countL (putL l f j) 0 + j = countL l 0 ∧ countL (putL l f j) 3 = countL l 3 + 1 ∧ countL (putL l f j) 4 + 1 = countL l 4 + j := by
    intro j
    induction j with
    | zero => intro h; omega
    | succ j ih =>
      intro _ hjk
      by_cases hj : j = 0
      · subst hj
        rw [← put_one (by omega)]
        have hz := h.hz f (by omega) (by omega)
        have a0 := count_at (x := 3) (by omega) hz 0
        have a3 := count_at (x := 3) (by omega) hz 3
        have a4 := count_at (x := 3) (by omega) hz 4
        simp at a0 a3 a4
        omega
      · rw [← put_step (by omega) (by omega)]
        obtain ⟨h1, h2, h3⟩ := ih (by omega) (by omega)
        have hz : (putL l f j).getD (f + j) 0 = 0 := by rw [put_get (by omega), if_neg (by omega), if_neg (by omega)]; exact h.hz _ (by omega) (by omega)
        have hl : f + j < (putL l f j).length := by rw [put_len]; omega
        have a0 := count_at (x := 4) hl hz 0
        have a3 := count_at (x := 4) hl hz 3
        have a4 := count_at (x := 4) hl hz 4
        simp at a0 a3 a4
        omega
  exact gen k hk (Nat.le_refl _)

theorem cntTo_six (l : List Int) : cntTo l 6 = [((countL l 0 : Nat) : Int), ((countL l 1 : Nat) : Int), ((countL l 2 : Nat) : Int), ((countL l 3 : Nat) : Int), ((countL l 4 : Nat) : Int), ((countL l 5 : Nat) : Int)] := rfl

/-- What a block that is taken changes of the counts. -/
theorem take_counts {l : List Int} {ts : List (List Int)} {s : Int} (hs : s = 0 ∨ s = 1) (h : takeOk l ts s = true) :
    pRight (takeL l ts s) (takeT l ts s) = true ∧ countL (takeL l ts s) s + 1 = countL l s ∧ countL (takeL l ts s) 5 = countL l 5 + 1 ∧ countL (takeL l ts s) (1 - s) = countL l (1 - s) := by
  obtain ⟨-, h2, -, h4, h5, h6, -⟩ := take_keeps hs h
  refine ⟨h2, ?_⟩
  rw [h6]
  have a1 := count_at (x := 5) h4 h5 s
  have a2 := count_at (x := 5) h4 h5 5
  have a3 := count_at (x := 5) h4 h5 (1 - s)
  rw [if_pos rfl, if_neg (by omega)] at a1
  rw [if_neg (by omega), if_pos rfl] at a2
  rw [if_neg (by omega), if_neg (by omega)] at a3
  exact ⟨by omega, by omega, by omega⟩
theorem run_counts {l : List Int} {ts : List (List Int)} {k : Int} (h : runOk l ts k = true) :
    1 ≤ k ∧ k ≤ 32 ∧ pRight (runL l ts k) (runT l ts k) = true ∧ (countL (runL l ts k) 0 : Int) = countL l 0 - k ∧ (countL (runL l ts k) 3 : Int) = countL l 3 + 1 ∧ (countL (runL l ts k) 4 : Int) = countL l 4 + k - 1 := by
  obtain ⟨-, h1, h2, h3, h4, -, h6, -⟩ := run_keeps h
  obtain ⟨a0, a3, a4⟩ := put_counts h3
  rw [h6] at h4 ⊢
  exact ⟨h1, h2, h4, by omega, by omega, by omega⟩
theorem takeOk_iff {l : List Int} {ts : List (List Int)} {s : Int} (hp : pRight l ts = true) : takeOk l ts s = decide (0 < countL l s) := by
  unfold takeOk
  rw [hp, firstOf_some]
  rfl
theorem pright_len {l : List Int} {ts : List (List Int)} (hp : pRight l ts = true) : 1 ≤ l.length ∧ l.length ≤ 32 := by
  have h := right_iff.1 (whole_iff.1 (pright_iff.1 hp).1).1
  exact ⟨h.1, h.2.1⟩

theorem empty_tab {t : List Int} (ht : tabB t = true) (h : cntN t = 0) : t = tab0 := by
  have hl := tab_len ht
  unfold cntN linesR at h
  rw [ht] at h
  simp only [if_true] at h
  have h2 : linesL t = [] := List.eq_nil_of_length_eq_zero h
  unfold linesL at h2
  rw [List.map_eq_nil_iff, List.filter_eq_nil_iff] at h2
  refine list_ext0 (by rw [hl]; rfl) fun i hi => ?_
  have h3 := h2 i (by rw [List.mem_range]; omega)
  unfold keptB at h3
  have h4 : t.getD i 0 = 0 := by
    by_cases e : t.getD i 0 = 0
    · exact e
    · exact absurd (by rw [Bool.or_eq_true]; exact .inl (bne_iff_ne.2 e)) h3
  rw [h4]
  have h5 : ∀ i, i < 32 → tab0.getD i 0 = 0 := by decide
  exact (h5 i (by omega)).symm

theorem hasB1 (y x : Int) : hasB [y] x = decide (x = y) := by simp [hasB]
theorem hasN_set {l : List Int} {i : Nat} {x : Int} {ws : List Int} (hi : i < l.length) (hx : hasB ws x = true) : hasN (l.set i x) (i : Int) ws = true := by
  unfold hasN
  rw [Int.toNat_natCast, getD_set_eq l i i x hi, if_pos rfl, hx]
  simp; omega
theorem set_set_same (l : List Int) (i : Nat) (x y : Int) : (l.set i x).set i y = l.set i y := by simp
theorem set_back {l : List Int} {i : Nat} {y : Int} (hi : i < l.length) (h : l.getD i 0 = y) : l.set i y = l := by
  refine list_ext0 (by simp) fun j hj => ?_
  rw [getD_set_eq l j i y hi]
  split
  · rename_i e; rw [e, h]
  · rfl
theorem set_back_t {ts : List (List Int)} {i : Nat} {t : List Int} (h : ts.getD i [] = t) : ts.set i t = ts := by
  by_cases hi : i < ts.length
  · have : ts[i] = t := by simpa [hi] using h
    rw [← this]; exact List.set_getElem_self hi
  · rw [List.set_eq_of_length_le (by omega)]

/-- A large one that is taken is dropped again. -/
theorem run_back {l : List Int} {ts : List (List Int)} {k : Int} (h : runOk l ts k = true) :
    1 ≤ k ∧ dropC (runL l ts k) (runT l ts k) (runN l ts k : Nat) = 0 ∧ ((dropN (runL l ts k) (runT l ts k) (runN l ts k : Nat) : Nat) : Int) = k ∧ dropL (runL l ts k) (runT l ts k) (runN l ts k : Nat) = l ∧ dropT (runL l ts k) (runT l ts k) (runN l ts k : Nat) = ts := by
  obtain ⟨hp, h1, h2, h3, h4, -, h6, h7⟩ := run_keeps h
  have hw := (pright_iff.1 hp).1
  have hk := h3.hk
  have hfk := h3.hfk
  have hc : cutOk (runL l ts k) (runN l ts k : Nat) = true := by
    rw [h6]
    unfold cutOk
    rw [Int.toNat_natCast, put_head h3, put_len]
    simp; omega
  have he : endC (runL l ts k) (runN l ts k : Nat) = runN l ts k + k.toNat := by
    unfold endC
    rw [h6, Int.toNat_natCast]
    exact put_end hw h3
  unfold dropC dropN dropL dropT
  rw [h4, hc, he, Int.toNat_natCast]
  simp only [Bool.and_self, if_true]
  refine ⟨h1, trivial, by omega, ?_, h7⟩
  rw [h6]
  exact put_cut h3
theorem run_free {l : List Int} {ts : List (List Int)} {k : Int} (h : runOk l ts k = true) : takeOk l ts 0 = true := by
  obtain ⟨hp, -, -, h3, -⟩ := run_keeps h
  rw [takeOk_iff hp]
  have := (put_counts h3).1
  have := h3.hk
  simp; omega

/-- A block that is taken, closed, and laid with an empty table, is free again. -/
theorem take_back {l : List Int} {ts : List (List Int)} (h : takeOk l ts 0 = true) :
    closeC (takeL l ts 0) (takeT l ts 0) (takeN l ts 0 : Nat) = 0 ∧ setC (closeL (takeL l ts 0) (takeT l ts 0) (takeN l ts 0 : Nat)) (closeT (takeL l ts 0) (takeT l ts 0) (takeN l ts 0 : Nat)) (takeN l ts 0 : Nat) tab0 = 0
    ∧ setL (closeL (takeL l ts 0) (takeT l ts 0) (takeN l ts 0 : Nat)) (closeT (takeL l ts 0) (takeT l ts 0) (takeN l ts 0 : Nat)) (takeN l ts 0 : Nat) tab0 = l
    ∧ setT (closeL (takeL l ts 0) (takeT l ts 0) (takeN l ts 0 : Nat)) (closeT (takeL l ts 0) (takeT l ts 0) (takeN l ts 0 : Nat)) (takeN l ts 0 : Nat) tab0 = ts := by
  obtain ⟨hp, h2, -, h4, h5, h6, h7⟩ := take_keeps (.inl rfl) h
  generalize takeN l ts 0 = i at *
  have hn : hasN (takeL l ts 0) (i : Nat) [5] = true := by rw [h6]; exact hasN_set h4 rfl
  have hcl : closeL (takeL l ts 0) (takeT l ts 0) (i : Nat) = l.set i 2 := by
    unfold closeL
    rw [h2, hn, Int.toNat_natCast, h6, set_set_same]; rfl
  have hct : closeT (takeL l ts 0) (takeT l ts 0) (i : Nat) = ts := by
    unfold closeT
    rw [h2, hn, h7]; rfl
  have hpr : pRight (l.set i 2) ts = true := pright_set hp h4 (by omega) (by omega) (.inl rfl)
  have hn2 : hasN (l.set i 2) (i : Nat) [1, 2, 5] = true := hasN_set h4 rfl
  have ht0 : tabB tab0 = true := by decide
  have hok : setOk (l.set i 2) ts (i : Nat) tab0 = true := by unfold setOk; rw [hpr, hn2, ht0]; rfl
  rw [hcl, hct]
  refine ⟨by unfold closeC; rw [h2, hn]; rfl, by unfold setC; rw [hpr, hn2, ht0]; rfl, ?_, ?_⟩
  · unfold setL
    rw [hok, Int.toNat_natCast, set_set_same]
    exact set_back h4 h5
  · unfold setT
    rw [hok, Int.toNat_natCast]
    obtain ⟨h8, h9⟩ := (pright_iff.1 hp).2.2 i h4
    rw [h5] at h9
    have h10 : cntN (ts.getD i []) = 0 := by
      unfold asksOf emptyB at h9
      simpa using h9
    exact set_back_t (empty_tab h8 h10)

theorem state_le (t : List Int) : 0 ≤ stateOf t ∧ stateOf t ≤ 2 := by
  unfold stateOf
  split
  · omega
  · split <;> omega
theorem state_asks (t : List Int) : asksOf (stateOf t) t = true := by
  unfold stateOf
  split
  · rename_i h; simp [asksOf, emptyB, h]
  · rename_i h
    split
    · rename_i h2; simp [asksOf, holeyB]; omega
    · simp [asksOf]

/-- A block with a table laid anew. -/
theorem set_keeps {l : List Int} {ts : List (List Int)} {b : Int} {t : List Int} (h : setOk l ts b t = true) :
    ∃ i : Nat, b = i ∧ i < l.length ∧ ts.length = l.length ∧ pRight l ts = true ∧ pRight (setL l ts b t) (setT l ts b t) = true ∧ Others l (setL l ts b t) ts (setT l ts b t) i 1
      ∧ setL l ts b t = l.set i (stateOf t) ∧ setT l ts b t = ts.set i t
      ∧ countL (setL l ts b t) 3 = countL l 3 ∧ countL (setL l ts b t) 4 = countL l 4 ∧ countL (setL l ts b t) 0 + countL (setL l ts b t) 1 + countL (setL l ts b t) 2 + countL (setL l ts b t) 5 = countL l 0 + countL l 1 + countL l 2 + countL l 5 := by
  have h' := h
  unfold setOk at h'
  simp only [Bool.and_eq_true] at h'
  obtain ⟨hp, hn, ht⟩ := h'
  obtain ⟨i, rfl, hi, hm⟩ := hasN_lt hn
  have hm' : l.getD i 0 = 1 ∨ l.getD i 0 = 2 ∨ l.getD i 0 = 5 := by simpa [hasB] using hm
  obtain ⟨hw, hl, ha⟩ := pright_iff.1 hp
  have hL : setL l ts (i : Int) t = l.set i (stateOf t) := by unfold setL; rw [h, Int.toNat_natCast]; rfl
  have hT : setT l ts (i : Int) t = ts.set i t := by unfold setT; rw [h, Int.toNat_natCast]; rfl
  obtain ⟨s0, s2⟩ := state_le t
  have hg : ∀ j, (ts.set i t).getD j [] = if j = i then t else ts.getD j [] := fun j => by
    by_cases e : j = i
    · subst e; simp [show j < ts.length by omega]
    · simp [e, List.getElem?_set_ne (Ne.symm e)]
  have a := fun s => count_at (x := stateOf t) hi rfl s
  have a0 := a 0
  have a1 := a 1
  have a2 := a 2
  have a3 := a 3
  have a4 := a 4
  have a5 := a 5
  rw [hL, hT]
  refine ⟨i, rfl, hi, hl, hp, ?_, ⟨by simp, hl, by simp [hl], fun j hj hji => ?_⟩, rfl, rfl, ?_⟩
  · refine pright_iff.2 ⟨whole_set hw hi (by omega) (by omega) (by omega) (by omega), by simp [hl], fun j hj => ?_⟩
    have hj' : j < l.length := by simpa using hj
    rw [getD_set_eq l j i _ hi, hg]
    split
    · exact ⟨ht, state_asks t⟩
    · exact ha j hj'
  · rw [getD_set_eq l j i _ hi, if_neg (by omega), hg, if_neg (by omega)]
    exact ⟨rfl, rfl⟩
  · clear a
    generalize l.getD i 0 = y at *
    generalize stateOf t = x at *
    clear h hn hm hp hw ha hL hT hg hl ht
    rcases hm' with rfl | rfl | rfl
    all_goals
      obtain rfl | rfl | rfl : x = 0 ∨ x = 1 ∨ x = 2 := by omega
      all_goals
        simp at a0 a1 a2 a3 a4 a5
        omega

theorem setC_no {l : List Int} {ts : List (List Int)} {b : Int} {t : List Int} (h : setOk l ts b t = false) : setC l ts b t ≠ 0 ∧ setL l ts b t = [] ∧ (setC l ts b t = 100 ↔ pRight l ts = false) := by
  refine ⟨?_, by unfold setL; rw [h]; rfl, ?_⟩
  · unfold setOk at h
    unfold setC
    cases hp : pRight l ts
    · simp
    · rw [hp, Bool.true_and] at h
      rw [h]; simp
  · unfold setOk at h
    unfold setC
    cases hp : pRight l ts
    · simp
    · rw [hp, Bool.true_and] at h
      rw [h]; simp
theorem setC_ok {l : List Int} {ts : List (List Int)} {b : Int} {t : List Int} (h : setOk l ts b t = true) : setC l ts b t = 0 := by
  unfold setOk at h
  simp only [Bool.and_eq_true] at h
  unfold setC
  simp [h.1, h.2.1, h.2.2]
theorem setL_len (l : List Int) (ts : List (List Int)) (b : Int) (t : List Int) : (setL l ts b t).length ≤ l.length := by
  unfold setL
  split <;> simp
theorem setT_len (l : List Int) (ts : List (List Int)) (b : Int) (t : List Int) : (setT l ts b t).length ≤ ts.length := by
  unfold setT
  split <;> simp
theorem closeL_len (l : List Int) (ts : List (List Int)) (b : Int) : (closeL l ts b).length ≤ l.length := by
  unfold closeL
  split <;> simp
theorem closeT_len (l : List Int) (ts : List (List Int)) (b : Int) : (closeT l ts b).length ≤ ts.length := by
  unfold closeT
  split <;> simp
theorem dropL_len (l : List Int) (ts : List (List Int)) (b : Int) : (dropL l ts b).length ≤ l.length := by
  unfold dropL
  split
  · rw [cut_len]; exact Nat.le_refl _
  · simp
theorem dropT_len (l : List Int) (ts : List (List Int)) (b : Int) : (dropT l ts b).length ≤ ts.length := by
  unfold dropT
  split <;> simp

end Go.Proofs.YtllanbggjfmfhaaGreatDoor
namespace Go.Proofs.YtllanbggjfmfhaaGreatDoor
open Go.RowKit Go.Shelf

theorem empty_dec {t : List Int} (hT : tabB t = true) : emptyB t = decide (t = List.replicate 32 0) := by
  rw [Bool.eq_iff_iff, decide_eq_true_eq]
  unfold emptyB
  rw [beq_iff_eq]
  constructor
  · exact fun h => empty_tab hT h
  · intro h
    rw [h]
    decide
set_option maxHeartbeats 1000000 in
theorem rzero_any (A : Option Addr) (m c : Nat) (t : List Int) (w : World) (hR : Row w A m (t.map Iv)) (hm : m ≤ 1000) (hT : tabB t = true) :
    Calls Tryz.prog 60 #[.slice A m c] w fun e w' => e = .returned (.bool (emptyB t)) ∧ Below w.heap.size w w' := by
  have HR := Lib.hid hR
  have HTT := Lib.hid (empty_dec hT)
  clear hR hT
  generalize emptyB t = r at *
  go_enter Tryz.func60, Tryz.ntmps60
  go_wp2_with fail
  refine (r7make_any w).mono ?_
  rintro e w1 ⟨B, rfl, -, hbk, hb⟩
  have hrow : Row w1 (some ⟨B, 0, none⟩) 32 ((List.replicate 32 (0 : Int)).map Iv) := by have := hbk.row; simpa using this
  have hlen : (List.replicate 32 (0 : Int)).length = 32 := rfl
  rw [hlen]
  have hi := ints_any A (some ⟨B, 0, none⟩) m c 32 32 t (List.replicate 32 0) w1 (HR.out.ext hb) hrow (by omega) (by omega)
  rw [show decide (t = List.replicate 32 0) = r by
    rw [HTT.out, Bool.eq_iff_iff, decide_eq_true_eq]] at hi
  have HI := Lib.hid hi
  clear hi
  have HB := Lib.hid hb
  clear hbk hb hrow hlen
  go_wp2_with fail
  refine HI.out.mono ?_
  rintro e w2 ⟨rfl, hb2⟩
  replace HB := Lib.hid (below_le HB.out hb2)
  clear hb2
  go_wp2
  go_ret
  exact ⟨rfl, HB.out⟩

set_option maxRecDepth 100000 in
set_option maxHeartbeats 4000000 in
/-- The reference's Right of a pool. -/
theorem rright_any (S : Option Addr) (m c : Nat) (T : Option Addr) (k d : Nat) (l : List Int) (ts : List (List Int)) (w : World) (hS : Row w S m (l.map Iv)) (hT : Tabs w T k ts) (hm : m ≤ 1000) (hk : k ≤ 1000) :
    Calls Tryz.prog 31 #[.agg #[.slice S m c, .slice T k d]] w fun e w' => e = .returned (.bool (pRight l ts)) ∧ Below w.heap.size w w' := by
  have hl := hS.1
  have htl := hT.1
  simp at hl
  have hb0 := below_box w (.cells #[.slice S m c, .slice T k d] 25)
  have k0 := pbox0 w 25 (.slice S m c) (.slice T k d)
  have k1 := pbox1 w 25 (.slice S m c) (.slice T k d)
  have hcall := refwhole_any S m c l _ (hS.ext hb0) hm
  have HS := Lib.hid (hS.ext hb0)
  have HT := Lib.hid (hT.ext hb0)
  have HB := Lib.hid hb0
  have HL := Lib.hid hl
  have HTL := Lib.hid htl
  have HC := Lib.hid hcall
  clear hS hT hb0 hl htl hcall
  go_enter Tryz.func31, Tryz.ntmps31
  go_wp2_with fail
  generalize w.alloc (.cells #[.slice S m c, .slice T k d] 25) = W0 at *
  refine HC.out.mono ?_
  rintro e w1 ⟨rfl, rfl⟩
  clear HC
  cases hw : wholeL l
  · have HP := Lib.hid (show pRight l ts = false by unfold pRight; rw [hw]; rfl)
    clear hw
    go_wp2
    go_ret
    exact ⟨ret_bool HP.out.symm, HB.out⟩
  · by_cases hkm : k = m
    · subst hkm
      have HP := Lib.hid (show pRight l ts = (List.range l.length).all fun i => blkOk (l.getD i 0) (ts.getD i []) by
        unfold pRight; rw [hw, decide_eq_true (by rw [HTL.out, HL.out])]; rfl)
      have hq : ((k : Int) != (k : Int)) = false := by simp
      clear hw
      go_wp2
      go_loopw [3] (fun i wr => ∃ j : Nat, j ≤ k ∧ i = .int .i64 j ∧ (∀ i, i < j → blkOk (l.getD i 0) (ts.getD i []) = true) ∧ Below W0.heap.size W0 wr) (fun i _ => k - (intOf i).toNat)
      case atStart => exact ⟨0, Nat.zero_le _, rfl, fun _ h => absurd h (by omega), Below.refl _ _⟩
      case round =>
        obtain ⟨j, hj, rfl, hall, hbr⟩ := hrel
        have HALL := Lib.hid hall
        have HBR := Lib.hid hbr
        have p0 := cell_ext hbr k0
        have p1 := cell_ext hbr k1
        clear hall hbr
        by_cases hlt : j < k
        · obtain ⟨tb, toff, A, n, cc, t, rfl, hct, -, hn, hRt, -, htd⟩ := (HT.out.ext HBR.out).at_ hlt
          obtain ⟨sb, soff, x, rfl, hcx, hx, -⟩ := num_at (HS.out.ext HBR.out) hlt
          have hcall := r7right_any A n cc t wr hRt (by omega)
          have hnext : blkOk x t = true → ∀ i, i < j + 1 → blkOk (l.getD i 0) (ts.getD i []) = true := fun h i hi => by
            by_cases e : i = j
            · rw [e, hx, htd]; exact h
            · exact HALL.out i (by omega)
          have hbad : blkOk x t = false → pRight l ts = false := fun h => by
            rw [HP.out, List.all_eq_false]
            exact ⟨j, by simp; have := HL.out; omega, by rw [hx, htd, h]; exact Bool.false_ne_true⟩
          have HNX := Lib.hid hnext
          have HBAD := Lib.hid hbad
          have HRT := Lib.hid hRt
          clear hx htd hnext hbad hRt
          cases htb : tabB t
          · rw [htb] at hcall
            have HK := Lib.hid (show blkOk x t = false by unfold blkOk; rw [htb]; rfl)
            clear htb
            go_wp2_with fail
            refine hcall.mono ?_
            clear hcall
            rintro e w3 ⟨rfl, rfl⟩
            go_wp2
            go_ret
            exact ⟨ret_bool (HBAD.out HK.out).symm, below_le HB.out HBR.out⟩
          · rw [htb] at hcall
            have HBK : Hid (blkOk x t = asksOf x t) := Lib.hid (by unfold blkOk; rw [htb]; rfl)
            by_cases h034 : x = 0 ∨ x = 3 ∨ x = 4
            · have HZ := Lib.hid (rzero_any A n cc t wr HRT.out hn htb)
              have HAS : Hid (asksOf x t = emptyB t) := Lib.hid (by unfold asksOf; rw [if_pos h034])
              clear htb
              cases hem : emptyB t
              · rw [hem] at HZ HAS
                clear hem
                rcases h034 with rfl | rfl | rfl
                all_goals
                  go_wp2_with fail
                  refine hcall.mono ?_
                  clear hcall
                  rintro e w3 ⟨rfl, rfl⟩
                  go_wp2_with fail
                  refine HZ.out.mono ?_
                  rintro e w4 ⟨rfl, hb4⟩
                  have HB4 := Lib.hid (below_le HB.out (below_le HBR.out hb4))
                  clear hb4 p0 p1
                  go_wp2
                  go_ret
                  exact ⟨ret_bool (HBAD.out (HBK.out.trans HAS.out)).symm, HB4.out⟩
              · rw [hem] at HZ HAS
                clear hem
                rcases h034 with rfl | rfl | rfl
                all_goals
                  go_wp2_with fail
                  refine hcall.mono ?_
                  clear hcall
                  rintro e w3 ⟨rfl, rfl⟩
                  go_wp2_with fail
                  refine HZ.out.mono ?_
                  rintro e w4 ⟨rfl, hb4⟩
                  have HB4 := Lib.hid (below_le HBR.out hb4)
                  clear hb4 p0 p1
                  go_wp2
                  go_roundw
                  case rel => exact ⟨j + 1, by omega, by go_num, HNX.out (HBK.out.trans HAS.out), HB4.out⟩
                  case measure => simp [intOf]; omega
            · have d0 : (x == 0) = false := by simp; omega
              have d3 : (x == 3) = false := by simp; omega
              have d4 : (x == 4) = false := by simp; omega
              by_cases h1 : x = 1
              · subst h1
                clear d0 d3 d4 h034 htb
                have HAS : Hid (asksOf 1 t = holeyB t) := Lib.hid (by simp [asksOf])
                have HRM := Lib.hid (r8room_any A n cc t wr HRT.out (by omega))
                have HHB : Hid (holeyB t = (decide (0 < roomN t) && decide (0 < cntN t))) := Lib.hid rfl
                have HCN := Lib.hid (fun (z : World) (hz : Below wr.heap.size wr z) => r7count_any A n cc t z (HRT.out.ext hz) (by omega))
                generalize roomN t = r at *
                generalize cntN t = q at *
                by_cases hr0 : r = 0
                · subst hr0
                  go_wp2_with fail
                  refine hcall.mono ?_
                  clear hcall
                  rintro e w3 ⟨rfl, rfl⟩
                  go_wp2_with fail
                  refine HRM.out.mono ?_
                  rintro e w4 ⟨rfl, hb4⟩
                  have HB4 := Lib.hid (below_le HB.out (below_le HBR.out hb4))
                  clear hb4 p0 p1
                  go_wp2
                  go_ret
                  exact ⟨ret_bool (HBAD.out (by rw [HBK.out, HAS.out, HHB.out]; rfl)).symm, HB4.out⟩
                · have e0 : ((r : Int) == 0) = false := by simp; omega
                  by_cases hq0 : q = 0
                  · subst hq0
                    go_wp2_with fail
                    refine hcall.mono ?_
                    clear hcall
                    rintro e w3 ⟨rfl, rfl⟩
                    go_wp2_with fail
                    refine HRM.out.mono ?_
                    rintro e w4 ⟨rfl, hb4⟩
                    have HC := Lib.hid (HCN.out w4 hb4)
                    have HB4 := Lib.hid (below_le HB.out (below_le HBR.out hb4))
                    clear hb4 p0 p1
                    go_wp2_with fail
                    refine HC.out.mono ?_
                    rintro e w5 ⟨rfl, hb5⟩
                    replace HB4 := Lib.hid (below_le HB4.out hb5)
                    clear hb5
                    go_wp2
                    go_ret
                    exact ⟨ret_bool (HBAD.out (by rw [HBK.out, HAS.out, HHB.out]; simp)).symm, HB4.out⟩
                  · have e1 : ((q : Int) == 0) = false := by simp; omega
                    go_wp2_with fail
                    refine hcall.mono ?_
                    clear hcall
                    rintro e w3 ⟨rfl, rfl⟩
                    go_wp2_with fail
                    refine HRM.out.mono ?_
                    rintro e w4 ⟨rfl, hb4⟩
                    have HC := Lib.hid (HCN.out w4 hb4)
                    have HB4 := Lib.hid (below_le HBR.out hb4)
                    clear hb4 p0 p1
                    go_wp2_with fail
                    refine HC.out.mono ?_
                    rintro e w5 ⟨rfl, hb5⟩
                    replace HB4 := Lib.hid (below_le HB4.out hb5)
                    clear hb5
                    go_wp2
                    go_roundw
                    case rel => exact ⟨j + 1, by omega, by go_num, HNX.out (by rw [HBK.out, HAS.out, HHB.out, decide_eq_true (show 0 < r by omega), decide_eq_true (show 0 < q by omega)]; rfl), HB4.out⟩
                    case measure => simp [intOf]; omega
              · have d1 : (x == 1) = false := by simp; omega
                have HAS : Hid (asksOf x t = true) := Lib.hid (by unfold asksOf; rw [if_neg h034, if_neg h1])
                clear h034 h1 htb
                go_wp2_with fail
                refine hcall.mono ?_
                clear hcall
                rintro e w3 ⟨rfl, rfl⟩
                go_wp2
                go_roundw
                case rel => exact ⟨j + 1, by omega, by go_num, HNX.out (HBK.out.trans HAS.out), HBR.out⟩
                case measure => simp [intOf]; omega
        · obtain rfl : j = k := by omega
          go_wp2
          go_ret
          refine ⟨ret_bool ?_, below_le HB.out HBR.out⟩
          rw [HP.out, eq_comm, List.all_eq_true]
          intro i hi
          exact HALL.out i (by simpa [HL.out] using hi)
    · have hq : ((k : Int) != (m : Int)) = true := by simp; omega
      have HP : Hid (pRight l ts = false) := Lib.hid (by unfold pRight; rw [decide_eq_false (by rw [HTL.out, HL.out]; exact hkm)]; simp)
      clear hw hkm
      go_wp2
      go_ret
      exact ⟨ret_bool HP.out.symm, HB.out⟩

end Go.Proofs.YtllanbggjfmfhaaGreatDoor
namespace Go.Proofs.YtllanbggjfmfhaaGreatDoor
open Go.RowKit Go.Shelf

/-- States and tables in rows of the call's own; the tables lie in other blocks than the states. -/
structure Tbs (w : World) (base : Nat) (v u : Value) (l : List Int) (ts : List (List Int)) (vs : List Value) : Prop where
  st : w.ownsRow base 3 1 v l.length (l.map Iv)
  tb : w.ownsRow base 22 1 u ts.length vs
  at_ : ∀ (i : Nat) (t : List Int), ts[i]? = some t → ∃ (A : Option Addr) (n c : Nat), vs[i]? = some (Value.slice A n c) ∧ n ≤ c ∧ n ≤ 1000 ∧ Row w A n (t.map Iv) ∧ ∀ a, A = some a → base ≤ a.block ∧ some a.block ≠ v.ownBlock ∧ ∃ cs, Blk w a.block 3 cs

section
variable {w w' : World} {base : Nat} {v u : Value} {l : List Int} {ts : List (List Int)} {vs : List Value}
theorem Tbs.none_ (w : World) (base : Nat) : Tbs w base (.slice none 0 0) (.slice none 0 0) [] [] [] := ⟨⟨rfl, .inl ⟨rfl, rfl⟩⟩, ⟨rfl, .inl ⟨rfl, rfl⟩⟩, fun i t h => by simp at h⟩
theorem Tbs.ext (hb : Below w.heap.size w w') (h : Tbs w base v u l ts vs) : Tbs w' base v u l ts vs :=
  ⟨own_ext hb h.st, own_ext hb h.tb, fun i t ht => by
    obtain ⟨A, n, c, h1, h2, h3, h4, h5⟩ := h.at_ i t ht
    exact ⟨A, n, c, h1, h2, h3, h4.ext hb, fun a ha => by
      obtain ⟨g1, g2, cs, g3⟩ := h5 a ha
      exact ⟨g1, g2, cs, g3.ext hb⟩⟩⟩
theorem own_blk {e : TypeId} {n : Nat} {xs : List Value} (h : w.ownsRow base e 1 v n xs) {g : Nat} (hg : v.ownBlock = some g) : ∃ cs, Blk w g e cs := by
  rcases h.2 with ⟨rfl, _⟩ | ⟨g', cap, cur, rfl, _, h1, _⟩
  · cases hg
  · injection hg with hg
    simp at hg
    subst hg
    exact ⟨cur, h1⟩
theorem own_two {e e' : TypeId} {n n' : Nat} {xs xs' : List Value} (h : w.ownsRow base e 1 v n xs) (h' : w.ownsRow base e' 1 u n' xs') (hne : e' ≠ e) : v.ownBlock = none ∨ v.ownBlock ≠ u.ownBlock := by
  cases hv : v.ownBlock with
  | none => exact .inl rfl
  | some g =>
    obtain ⟨cs, hg⟩ := own_blk h hv
    exact .inr (own_ne h' hg hne)
/-- Another block is written, whose type is neither. -/
theorem Tbs.far (h : Tbs w base v u l ts vs) {g : Nat} {t : TypeId} {cs : Array Value} (hg : Blk w g t cs) (h1 : 3 ≠ t) (h2 : 22 ≠ t) (k : Nat) (x : Value) : Tbs (w.setCell ⟨g, k, none⟩ x) base v u l ts vs :=
  ⟨h.st.kept (grown_set w g k x) (.inr (Ne.symm (own_ne h.st hg h1))), h.tb.kept (grown_set w g k x) (.inr (Ne.symm (own_ne h.tb hg h2))), fun i t ht => by
    obtain ⟨A, n, c, h3, h4, h5, h6, h7⟩ := h.at_ i t ht
    refine ⟨A, n, c, h3, h4, h5, h6.far (fun a ha => ?_) x, fun a ha => ?_⟩
    · obtain ⟨-, -, cs', g3⟩ := h7 a ha
      exact blk_ne g3 hg h1
    · obtain ⟨g1, g2, cs', g3⟩ := h7 a ha
      exact ⟨g1, g2, cs', g3.far (p := ⟨g, k, none⟩) (blk_ne g3 hg h1) x⟩⟩
/-- A table more. -/
theorem Tbs.pushT {row : Option Nat} (h : Tbs w base v u l ts vs) {t : List Int} {A : Option Addr} {n c : Nat} {u' : Value} (hn : n ≤ c) (hn2 : n ≤ 1000) (hR : Row w A n (t.map Iv)) (hA : ∀ a, A = some a → base ≤ a.block ∧ some a.block ≠ v.ownBlock ∧ ∃ cs, Blk w a.block 3 cs)
    (hr : row = u.ownBlock) (hown : w'.ownsRow base 22 1 u' (ts.length + 1) (vs ++ [.slice A n c])) (hg : w.grownBy w' row) : Tbs w' base v u' l (ts ++ [t]) (vs ++ [.slice A n c]) := by
  subst hr
  have hvl : vs.length = ts.length := by have := h.tb.1; simpa using this
  have keep : ∀ (A : Option Addr) (n : Nat) (t : List Int), Row w A n (t.map Iv) → (∀ a, A = some a → base ≤ a.block ∧ some a.block ≠ v.ownBlock ∧ ∃ cs, Blk w a.block 3 cs) → Row w' A n (t.map Iv) ∧ ∀ a, A = some a → base ≤ a.block ∧ some a.block ≠ v.ownBlock ∧ ∃ cs, Blk w' a.block 3 cs := by
    intro A n t hR hA
    have hbl : ∀ a, A = some a → w'.heap[a.block]? = w.heap[a.block]? := fun a ha => by
      obtain ⟨-, -, cs, g3⟩ := hA a ha
      exact hg.block a.block (Array.getElem?_eq_some_iff.1 g3).1 (own_ne h.tb g3 (by decide))
    refine ⟨⟨hR.1, fun hp => ?_⟩, fun a ha => ?_⟩
    · obtain ⟨b, off, e, hc⟩ := hR.2 hp
      exact ⟨b, off, e, fun j x hx => (World.cell?_of_block (a := ⟨b, off + j, none⟩) (hbl ⟨b, off, none⟩ e)).trans (hc j x hx)⟩
    · obtain ⟨g1, g2, cs, g3⟩ := hA a ha
      exact ⟨g1, g2, cs, (hbl a ha).trans g3⟩
  refine ⟨h.st.kept hg (own_two h.st h.tb (by decide)), by simpa using hown, fun i t' ht' => ?_⟩
  by_cases e : i < ts.length
  · rw [List.getElem?_append_left e] at ht'
    obtain ⟨A', n', c', h3, h4, h5, h6, h7⟩ := h.at_ i t' ht'
    obtain ⟨k1, k2⟩ := keep A' n' t' h6 h7
    exact ⟨A', n', c', by rw [List.getElem?_append_left (by omega)]; exact h3, h4, h5, k1, k2⟩
  · have hi : i = ts.length := by
      have := (List.getElem?_eq_some_iff.1 ht').1
      simp at this
      omega
    subst hi
    rw [List.getElem?_append_right (Nat.le_refl _)] at ht'
    simp at ht'
    subst ht'
    obtain ⟨k1, k2⟩ := keep A n t hR hA
    exact ⟨A, n, c, by rw [List.getElem?_append_right (by omega), hvl]; simp, hn, hn2, k1, k2⟩
/-- A state more. -/
theorem Tbs.pushS {row : Option Nat} (h : Tbs w base v u l ts vs) {l' : List Int} {v' : Value} (hr : row = v.ownBlock) (hown : w'.ownsRow base 3 1 v' l'.length (l'.map Iv)) (hg : w.grownBy w' row) (hv : v'.ownBlock = v.ownBlock ∨ v'.ownBlock = some w.heap.size) :
    Tbs w' base v' u l' ts vs := by
  subst hr
  refine ⟨hown, h.tb.kept hg (own_two h.tb h.st (by decide)), fun i t ht => ?_⟩
  obtain ⟨A, n, c, h3, h4, h5, h6, h7⟩ := h.at_ i t ht
  have hbl : ∀ a, A = some a → w'.heap[a.block]? = w.heap[a.block]? ∧ a.block < w.heap.size := fun a ha => by
    obtain ⟨-, g2, cs, g3⟩ := h7 a ha
    exact ⟨hg.block a.block (Array.getElem?_eq_some_iff.1 g3).1 g2, (Array.getElem?_eq_some_iff.1 g3).1⟩
  refine ⟨A, n, c, h3, h4, h5, ⟨h6.1, fun hp => ?_⟩, fun a ha => ?_⟩
  · obtain ⟨b, off, e, hc⟩ := h6.2 hp
    exact ⟨b, off, e, fun j x hx => (World.cell?_of_block (a := ⟨b, off + j, none⟩) (hbl ⟨b, off, none⟩ e).1).trans (hc j x hx)⟩
  · obtain ⟨g1, g2, cs, g3⟩ := h7 a ha
    refine ⟨g1, ?_, cs, (hbl a ha).1.trans g3⟩
    rcases hv with e | e
    · rw [e]; exact g2
    · rw [e]
      intro e2
      injection e2 with e2
      have := (hbl a ha).2
      omega
theorem Tbs.read (h : Tbs w base v u l ts vs) : ∃ S c T d, v = .slice S l.length c ∧ u = .slice T ts.length d ∧ Row w S l.length (l.map Iv) ∧ Tabs w T ts.length ts := by
  obtain ⟨S, c, rfl, hS, -⟩ := row_of_owns h.st
  obtain ⟨T, d, rfl, hT⟩ := Own.of_row h.tb
  refine ⟨S, c, T, d, rfl, rfl, hS, rfl, fun hk => ?_⟩
  have hR := hT.row
  obtain ⟨b, off, e, hc⟩ := hR.2 hk
  refine ⟨b, off, e, fun j t ht => ?_⟩
  obtain ⟨A, n, c, h3, h4, h5, h6, -⟩ := h.at_ j t ht
  exact ⟨A, n, c, hc j _ h3, h4, h5, h6⟩
end

/-- A pool, and a number; they can be read. -/
def GivesP (w : World) (l : List Int) (ts : List (List Int)) (code : Nat) (e : Ending) (w' : World) : Prop :=
  ∃ S m c T k d, e = .returned (.tuple #[.agg #[.slice S m c, .slice T k d], .int .i64 code]) ∧ Row w' S m (l.map Iv) ∧ Tabs w' T k ts ∧ Below w.heap.size w w'

end Go.Proofs.YtllanbggjfmfhaaGreatDoor
namespace Go.Proofs.YtllanbggjfmfhaaGreatDoor
open Go.RowKit Go.Shelf

set_option maxRecDepth 100000 in
set_option maxHeartbeats 2000000 in
/-- The reference's Same. -/
theorem rsame_any (S : Option Addr) (m c : Nat) (T : Option Addr) (k d : Nat) (S' : Option Addr) (m' c' : Nat) (T' : Option Addr) (k' d' : Nat) (l l' : List Int) (ts ts' : List (List Int)) (w : World) (hS : Row w S m (l.map Iv)) (hT : Tabs w T k ts) (hS' : Row w S' m' (l'.map Iv)) (hT' : Tabs w T' k' ts')
    (hm : m ≤ 1000) (hk : k ≤ 1000) (hm' : m' ≤ 1000) (hk' : k' ≤ 1000) :
    Calls Tryz.prog 13 #[.agg #[.slice S m c, .slice T k d], .agg #[.slice S' m' c', .slice T' k' d']] w fun e w' => e = .returned (.bool (psameB l l' ts ts')) ∧ Below w.heap.size w w' := by
  have hb0 : Below w.heap.size w ((w.alloc (.cells #[.slice S m c, .slice T k d] 25)).alloc (.cells #[.slice S' m' c', .slice T' k' d'] 25)) := below_le (below_box _ _) (below_box _ _)
  have h1 : Blk ((w.alloc (.cells #[.slice S m c, .slice T k d] 25)).alloc (.cells #[.slice S' m' c', .slice T' k' d'] 25)) w.heap.size 25 #[.slice S m c, .slice T k d] := Blk.alloc (heap_new rfl _) _
  have h2 : Blk ((w.alloc (.cells #[.slice S m c, .slice T k d] 25)).alloc (.cells #[.slice S' m' c', .slice T' k' d'] 25)) (w.heap.size + 1) 25 #[.slice S' m' c', .slice T' k' d'] := heap_new (by simp) _
  have hcall := ints_any S S' m c m' c' l l' _ (hS.ext hb0) (hS'.ext hb0) (by omega) (by omega)
  have HX := Lib.hid hT.1
  have HY := Lib.hid hT'.1
  have HT := Lib.hid (hT.ext hb0)
  have HT' := Lib.hid (hT'.ext hb0)
  have HB := Lib.hid hb0
  have H1 := Lib.hid h1
  have H2 := Lib.hid h2
  have HC := Lib.hid hcall
  unfold psameB
  clear hS hS' hT hT' hb0 h1 h2 hcall
  by_cases hl : l = l'
  · have hcall := HC.out
    rw [decide_eq_true hl] at hcall ⊢
    clear hl HC
    go_enter Tryz.func13, Tryz.ntmps13
    go_wp2_with fail
    generalize (w.alloc (.cells #[.slice S m c, .slice T k d] 25)).alloc (.cells #[.slice S' m' c', .slice T' k' d'] 25) = W0 at *
    refine hcall.mono ?_
    clear hcall
    rintro e w1 ⟨rfl, hb1⟩
    replace H1 := Lib.hid (H1.out.ext hb1)
    replace H2 := Lib.hid (H2.out.ext hb1)
    replace HT := Lib.hid (HT.out.ext hb1)
    replace HT' := Lib.hid (HT'.out.ext hb1)
    replace HB := Lib.hid (below_le HB.out hb1)
    clear hb1
    have k1 : w1.cell? ⟨w.heap.size, 1, none⟩ = some (.slice T k d) := by have := H1.out.cell 1; simpa using this
    have k2 : w1.cell? ⟨w.heap.size + 1, 1, none⟩ = some (.slice T' k' d') := by have := H2.out.cell 1; simpa using this
    by_cases hkk : k = k'
    · subst hkk
      have hq : ((k : Int) != (k : Int)) = false := by simp
      go_wp2
      clear hq k1 k2
      go_loopw [5] (fun i wr => ∃ j : Nat, j ≤ k ∧ i = .int .i64 j ∧ ts.take j = ts'.take j ∧ Below w1.heap.size w1 wr) (fun i _ => k - (intOf i).toNat)
      case atStart => exact ⟨0, Nat.zero_le _, rfl, rfl, Below.refl _ _⟩
      case round =>
        obtain ⟨j, hj, rfl, ht, hb⟩ := hrel
        have HTK := Lib.hid ht
        have Hb := Lib.hid hb
        have p1 : wr.cell? ⟨w.heap.size, 1, none⟩ = some (.slice T k d) := by have := (H1.out.ext hb).cell 1; simpa using this
        have p2 : wr.cell? ⟨w.heap.size + 1, 1, none⟩ = some (.slice T' k d') := by have := (H2.out.ext hb).cell 1; simpa using this
        clear ht hb
        by_cases hlt : j < k
        · obtain ⟨b1, o1, A1, n1, c1, x, rfl, hc1, -, hn1, hR1, hx1, -⟩ := (HT.out.ext Hb.out).at_ hlt
          obtain ⟨b2, o2, A2, n2, c2, y, rfl, hc2, -, hn2, hR2, hy1, -⟩ := (HT'.out.ext Hb.out).at_ hlt
          have R1 := Lib.hid hR1
          have R2 := Lib.hid hR2
          have HX1 := Lib.hid hx1
          have HY1 := Lib.hid hy1
          have t1 := ext_cell p1
          have t2 := ext_cell p2
          have t3 := ext_cell hc1
          have t4 := ext_cell hc2
          clear hx1 hy1 hR1 hR2
          by_cases hxy : x = y
          · have hcall : ∀ z : Ext wr, Calls Tryz.prog 23 #[.slice A1 n1 c1, .slice A2 n2 c2] z.val fun e w' => e = .returned (.bool true) ∧ Below z.val.heap.size z.val w' := fun z => by
              have h := ints_any A1 A2 n1 c1 n2 c2 x y z.val (R1.out.ext z.below) (R2.out.ext z.below) (by omega) (by omega)
              rw [decide_eq_true hxy] at h
              exact h
            have HCL := Lib.hid hcall
            have HXY := Lib.hid hxy
            clear hcall hxy
            go_wp2
            refine wp_region_plan [(0, true), (1, true), (2, true), (3, true), (4, true), (5, true), (6, true), (7, true), (8, true), (9, true), (10, true), (11, true)] (by kernel_rfl) (by kernel_rfl) ?_
            repeat (first | (refine plan_skip rfl rfl ?_; go_frame) | (refine plan_soft rfl rfl (fun K hK => ?_); go_simp; first | (refine hK _ ?_; clear hK K) | (apply Exists.intro; refine ⟨fun x => ?_, hK _ ?_⟩; (· (go_at_call 23; exact HCL.out x)); clear hK K; try go_frame)))
            refine plan_nil ?_; intro w2 h0b; have Hb2 := Lib.hid h0b; clear h0b
            clear t1 t2 t3 t4 p1 p2 hc1 hc2
            go_wp2
            go_roundw
            case rel => exact ⟨j + 1, by omega, by go_num, (take_eq_tab HX1.out HY1.out HTK.out).2 HXY.out, below_le Hb.out Hb2.out⟩
            case measure => simp [intOf]; omega
          · have hcall : ∀ z : Ext wr, Calls Tryz.prog 23 #[.slice A1 n1 c1, .slice A2 n2 c2] z.val fun e w' => e = .returned (.bool false) ∧ Below z.val.heap.size z.val w' := fun z => by
              have h := ints_any A1 A2 n1 c1 n2 c2 x y z.val (R1.out.ext z.below) (R2.out.ext z.below) (by omega) (by omega)
              rw [decide_eq_false hxy] at h
              exact h
            have HCL := Lib.hid hcall
            have HXY := Lib.hid hxy
            clear hcall hxy
            go_wp2
            refine wp_region_plan [(0, true), (1, true), (2, true), (3, true), (4, true), (5, true), (6, true), (7, true), (8, true), (9, true), (10, true), (11, true)] (by kernel_rfl) (by kernel_rfl) ?_
            repeat (first | (refine plan_skip rfl rfl ?_; go_frame) | (refine plan_soft rfl rfl (fun K hK => ?_); go_simp; first | (refine hK _ ?_; clear hK K) | (apply Exists.intro; refine ⟨fun x => ?_, hK _ ?_⟩; (· (go_at_call 23; exact HCL.out x)); clear hK K; try go_frame)))
            refine plan_nil ?_; intro w2 h0b; have Hb2 := Lib.hid h0b; clear h0b
            clear t1 t2 t3 t4 p1 p2 hc1 hc2
            go_wp2
            go_ret
            refine ⟨ret_bool ?_, below_le HB.out (below_le Hb.out Hb2.out)⟩
            have hne : ¬ ts = ts' := fun e => by
              subst e
              have := HX1.out.symm.trans HY1.out
              exact HXY.out (Option.some.inj this)
            simp [hne]
        · go_wp2
          go_ret
          refine ⟨ret_bool ?_, below_le HB.out Hb.out⟩
          have h1 := HTK.out
          rw [List.take_of_length_le (by have := HX.out; omega), List.take_of_length_le (by have := HY.out; omega)] at h1
          simp [h1]
    · have hq : ((k : Int) != (k' : Int)) = true := by simp; omega
      have hne : ¬ ts = ts' := fun e => hkk (by rw [← HX.out, ← HY.out, e])
      have HN := Lib.hid hne
      clear hne hkk
      go_wp2
      go_ret
      exact ⟨ret_bool (by simp [HN.out]), HB.out⟩
  · have hcall := HC.out
    rw [decide_eq_false hl] at hcall ⊢
    clear hl HC
    go_enter Tryz.func13, Tryz.ntmps13
    go_wp2_with fail
    generalize (w.alloc (.cells #[.slice S m c, .slice T k d] 25)).alloc (.cells #[.slice S' m' c', .slice T' k' d'] 25) = W0 at *
    refine hcall.mono ?_
    clear hcall
    rintro e w1 ⟨rfl, hb1⟩
    replace HB := Lib.hid (below_le HB.out hb1)
    clear hb1
    go_wp2
    go_ret
    exact ⟨ret_bool (by simp), HB.out⟩


end Go.Proofs.YtllanbggjfmfhaaGreatDoor
namespace Go.Proofs.YtllanbggjfmfhaaGreatDoor
open Go.RowKit Go.Shelf

theorem tbs_blk {w w' : World} {base n g : Nat} {v : Value} {e t : TypeId} {xs : List Value} {cs : Array Value} {row : Option Nat} (h : w.ownsRow base e 1 v n xs) (hg : Blk w g t cs) (hne : e ≠ t) (hr : row = v.ownBlock) (hgr : w.grownBy w' row) : Blk w' g t cs := by
  subst hr
  exact (hgr.block g (Array.getElem?_eq_some_iff.1 hg).1 (own_ne h hg hne)).trans hg

end Go.Proofs.YtllanbggjfmfhaaGreatDoor
namespace Go.Proofs.YtllanbggjfmfhaaGreatDoor
open Go.RowKit Go.Shelf

/-- A list and a number, whatever room the list has. -/
def GivesL (w : World) (code : Nat) (l : List Int) (e : Ending) (w' : World) : Prop :=
  ∃ A m c, e = .returned (.tuple #[.slice A m c, .int .i64 code]) ∧ Row w' A m (l.map Iv) ∧ Below w.heap.size w w'
/-- The same, in new memory. -/
def GivesLF (w : World) (code : Nat) (l : List Int) (e : Ending) (w' : World) : Prop :=
  ∃ A m c, e = .returned (.tuple #[.slice A m c, .int .i64 code]) ∧ Row w' A m (l.map Iv) ∧ Below w.heap.size w w' ∧ m ≤ c ∧ ∀ a, A = some a → w.heap.size ≤ a.block
def GivesCF (w : World) (code n : Nat) (l : List Int) (e : Ending) (w' : World) : Prop :=
  ∃ A m c, e = .returned (.tuple #[.slice A m c, .int .i64 n, .int .i64 code]) ∧ Row w' A m (l.map Iv) ∧ Below w.heap.size w w' ∧ m ≤ c ∧ ∀ a, A = some a → w.heap.size ≤ a.block
theorem cap_of_own {w : World} {base : Nat} {e : TypeId} {A : Option Addr} {n c : Nat} {xs : List Value} (h : w.ownsRow base e 1 (.slice A n c) n xs) : n ≤ c := by
  rcases h.2 with ⟨h1, h2⟩ | ⟨g, cap, cur, h1, -, -, h2, -⟩
  · omega
  · injection h1 with _ _ h3
    omega
def GivesC (w : World) (code n : Nat) (l : List Int) (e : Ending) (w' : World) : Prop :=
  ∃ A m c, e = .returned (.tuple #[.slice A m c, .int .i64 n, .int .i64 code]) ∧ Row w' A m (l.map Iv) ∧ Below w.heap.size w w'

set_option maxRecDepth 100000 in
theorem run_make_room (z : Int) (h0 : 0 ≤ z) (h1 : z ≤ 100000) (W : World) :
    (Instr.makeSlice 22 (.int .i64 0) (.int .i64 z)).run Tryz.prog W = .ok (.slice (some ⟨W.heap.size, 0, none⟩) 0 z.toNat) (W.alloc (.cells (zerosI z.toNat) 3)) := by
  obtain ⟨i, hi, hz0, hz1, hz2⟩ := info_parts int_info
  have hr := run_make (P := Tryz.prog) W 22 3 i _ Tryz.underlying22 hi hz0 .i64 .i64 0 z (by omega) (by omega) (by rw [hz2]; omega) (by omega)
  rw [hr]
  congr 3
  rw [hz1]
  apply Array.ext
  · simp [zerosI, madeCells]
  · intro j h1 h2
    simp [zerosI, madeCells, Value.cells, Nat.mod_one]
theorem own_room {W : World} {g base k : Nat} (hg : W.heap.size = g) (hb : base ≤ g) (hk : k ≤ 100000) : (W.alloc (.cells (zerosI k) 3)).ownsRow base 3 1 (.slice (some ⟨g, 0, none⟩) 0 k) 0 [] :=
  ⟨rfl, .inr ⟨g, k, zerosI k, rfl, hb, heap_new hg _, Nat.zero_le _, by unfold maxLen; omega, by simp [zerosI], rfl⟩⟩
theorem one_ints (l : List Int) : ∀ u ∈ l.map Iv, u.oneCell' = true := by intro u hu; obtain ⟨x, _, rfl⟩ := List.mem_map.1 hu; rfl

theorem free_put {l : List Int} {f k : Int} (hf : 0 ≤ f) (hfl : f < l.length) (hk : 1 ≤ k) : decide ((freeN l f.toNat : Int) < k) = !putOk l f k := by
  have h1 := free_le l f.toNat (by omega)
  unfold putOk
  rw [decide_eq_true hf, decide_eq_true hk]
  by_cases h : (freeN l f.toNat : Int) < k
  · rw [decide_eq_true h]
    by_cases h2 : f + k ≤ l.length
    · rw [decide_eq_true h2]
      have : freeAt l f.toNat k.toNat = false := by
        cases e : freeAt l f.toNat k.toNat
        · rfl
        · have := free_ge (l := l) (s := f.toNat) (e := f.toNat + k.toNat) (by omega) (by omega) ((freeAt_iff (by omega)).1 e)
          omega
      rw [this]; rfl
    · rw [decide_eq_false h2]; rfl
  · rw [decide_eq_false h, decide_eq_true (show f + k ≤ l.length by omega), (freeAt_iff (by omega)).2 (fun j h1 h2 => free_all l f.toNat j h1 (by omega))]
    rfl

set_option maxRecDepth 100000 in
set_option maxHeartbeats 1000000 in
theorem refput_no (A : Option Addr) (m c : Nat) (l : List Int) (f k : Int) (w : World) (hR : Row w A m (l.map Iv)) (hm : m ≤ 1000) (hc : wholeL l = false ∨ putOk l f k = false) :
    Calls Tryz.prog 33 #[.slice A m c, .int .i64 f, .int .i64 k] w (GivesLF w (codeP l f k) []) := by
  have hl := hR.1
  simp at hl
  have HR := Lib.hid hR
  have HL := Lib.hid hl
  obtain ⟨cd, hcd⟩ : ∃ cd, codeP l f k = cd := ⟨_, rfl⟩
  rw [hcd]
  have HCD := Lib.hid hcd
  clear hR hl hcd
  go_enter Tryz.func33, Tryz.ntmps33
  go_wp2_with fail
  refine (refwhole_any A m c l w HR.out hm).mono ?_
  rintro e w' ⟨rfl, rfl⟩
  cases hw : wholeL l
  · have hcd : cd = 90 := by rw [← HCD.out]; simp [codeP, hw]
    have HC := Lib.hid hcd
    clear hcd hw
    go_wp2
    exact bodyPost_ret (v := .tuple #[.slice none 0 0, .int .i64 90]) (by simp [results, Tryz.results33, go_sem]) rfl ⟨_, _, _, by rw [HC.out]; rfl, Row.none_, Below.refl _ _, Nat.le_refl _, fun _ h => by cases h⟩
  · have hp : putOk l f k = false := by
      rcases hc with h | h
      · rw [hw] at h; cases h
      · exact h
    have hcd : cd = 91 := by rw [← HCD.out]; simp [codeP, hw, hp]
    have HC := Lib.hid hcd
    have HP := Lib.hid hp
    clear hcd hw hp hc
    by_cases h1 : k < 1
    · go_wp2
      exact bodyPost_ret (v := .tuple #[.slice none 0 0, .int .i64 91]) (by simp [results, Tryz.results33, go_sem]) rfl ⟨_, _, _, by rw [HC.out]; rfl, Row.none_, Below.refl _ _, Nat.le_refl _, fun _ h => by cases h⟩
    by_cases h2 : f < 0
    · go_wp2
      exact bodyPost_ret (v := .tuple #[.slice none 0 0, .int .i64 91]) (by simp [results, Tryz.results33, go_sem]) rfl ⟨_, _, _, by rw [HC.out]; rfl, Row.none_, Below.refl _ _, Nat.le_refl _, fun _ h => by cases h⟩
    by_cases h3 : (m : Int) ≤ f
    · go_wp2
      exact bodyPost_ret (v := .tuple #[.slice none 0 0, .int .i64 91]) (by simp [results, Tryz.results33, go_sem]) rfl ⟨_, _, _, by rw [HC.out]; rfl, Row.none_, Below.refl _ _, Nat.le_refl _, fun _ h => by cases h⟩
    · have hfp := free_put (l := l) (f := f) (k := k) (by omega) (by have := HL.out; omega) (by omega)
      rw [HP.out] at hfp
      have h := free_any A m c l f.toNat w HR.out hm (by omega)
      rw [Int.toNat_of_nonneg (by omega)] at h
      generalize freeN l f.toNat = q at *
      have HH := Lib.hid h
      have hqk : (q : Int) < k := by simpa using hfp
      clear hfp h
      go_wp2_with fail
      refine HH.out.mono ?_
      rintro e w' ⟨rfl, rfl⟩
      go_wp2
      exact bodyPost_ret (v := .tuple #[.slice none 0 0, .int .i64 91]) (by simp [results, Tryz.results33, go_sem]) rfl ⟨_, _, _, by rw [HC.out]; rfl, Row.none_, Below.refl _ _, Nat.le_refl _, fun _ h => by cases h⟩

set_option maxRecDepth 100000 in
set_option maxHeartbeats 1000000 in
theorem refput_in (A : Option Addr) (m c : Nat) (l : List Int) (f k : Nat) (w : World) (hR : Row w A m (l.map Iv)) (hm : m ≤ 1000) (hw : wholeL l = true) (hp : putOk l f k = true) :
    Calls Tryz.prog 33 #[.slice A m c, .int .i64 f, .int .i64 k] w (GivesLF w 0 (putL l f k)) := by
  have hl := hR.1
  simp at hl
  obtain ⟨hpi, -, -, -⟩ := PutIn.of hp
  simp only [Int.toNat_natCast] at hpi
  have hk := hpi.hk
  have hfk := hpi.hfk
  have hfp := free_put (l := l) (f := f) (k := k) (by omega) (by omega) (by omega)
  rw [hp, Int.toNat_natCast] at hfp
  have hfr := free_any A m c l f w hR hm (by omega)
  generalize freeN l f = q at *
  have hqk : (k : Int) ≤ q := by simpa using hfp
  have hmk := run_make_room (m : Int) (by omega) (by omega)
  simp only [Int.toNat_natCast] at hmk
  obtain ⟨inf, hinf, hi0, hi1, hi2⟩ := info_parts int_info
  have HR := Lib.hid hR
  have HL := Lib.hid hl
  have HW := Lib.hid hw
  have HFR := Lib.hid hfr
  have hfm : f + k ≤ m := by omega
  clear hR hl hw hp hpi hfp hfr
  go_enter Tryz.func33, Tryz.ntmps33
  go_wp2_with fail
  have h := refwhole_any A m c l w HR.out hm
  rw [HW.out] at h
  refine h.mono ?_
  clear h
  rintro e w' ⟨rfl, rfl⟩
  go_wp2_with fail
  refine HFR.out.mono ?_
  rintro e w' ⟨rfl, rfl⟩
  go_wp2_with (at_builtin; refine stop_here ?_)
  intro _
  refine wpList_append_row _ rfl (.tmp 34) (.tmp 35) 22 rfl w.heap.size 3 inf (.int .i64 0) 8 Tryz.underlying22 hinf hi0 hi1 hi2 rfl _ 0 [] rfl (own_room rfl (Nat.le_refl _) (by omega)) A m c (l.map Iv) rfl (HR.out.ext (below_box _ _)) (one_ints l) (by unfold maxLen; omega) (by omega) (by simp) ?_
  intro v' w1 hown hgr
  simp only [List.nil_append, Nat.zero_add] at hown
  obtain ⟨C, cp, rfl, hOw⟩ := Own.of_row hown
  have hcp := cap_of_own hown
  have hb1 : Below w.heap.size w w1 := (below_box w (.cells (zerosI m) 3)).trans ((Below.refl _ _).grown hgr (by simp) (fun b e => by cases e; exact Nat.le_refl _))
  obtain ⟨g, cur, rfl, hgb, hbk, hcx⟩ := hOw.at_ (k := f) (by omega)
  obtain ⟨u0, hcu⟩ : ∃ u, w1.cell? ⟨g, f, none⟩ = some u := ⟨_, hcx⟩
  clear hcx
  have f0 := hbk.frozen f
  have hO2 := hOw.set_ (k := f) (Iv 3)
  rw [← List.map_set, put_one (by omega)] at hO2
  have HO := Lib.hid hO2
  have HB := Lib.hid (hb1.setCell (p := ⟨g, f, none⟩) hgb (Iv 3))
  have hfm2 : f < m := by omega
  simp only [Iv] at HB HO
  clear hown hgr hOw hb1 hbk hO2 hmk
  go_wp2
  generalize w1.setCell ⟨g, f, none⟩ (.int .i64 3) = w2 at *
  clear f0 hcu
  go_loopw [9] (fun i wr => ∃ j : Nat, 1 ≤ j ∧ j ≤ k ∧ i = .int .i64 j ∧ Own 3 wr w.heap.size (some ⟨g, 0, none⟩) m ((putL l f j).map Iv) ∧ Below w.heap.size w wr) (fun i _ => k - (intOf i).toNat)
  case atStart => exact ⟨1, Nat.le_refl _, hk, rfl, HO.out, HB.out⟩
  case round =>
    obtain ⟨j, hj1, hjk, rfl, hOr, hbr⟩ := hrel
    have HOr := Lib.hid hOr
    have HBr := Lib.hid hbr
    clear hbr
    by_cases hlt : j < k
    · obtain ⟨g', cur', e', hgb', hbk, hcx⟩ := hOr.at_ (k := f + j) (by omega)
      cases e'
      obtain ⟨u1, hcu⟩ : ∃ u, wr.cell? ⟨g, f + j, none⟩ = some u := ⟨_, hcx⟩
      clear hcx
      have f0 := hbk.frozen (f + j)
      have hO2 := hOr.set_ (k := f + j) (Iv 4)
      rw [← List.map_set, put_step hj1 (by have := HL.out; omega)] at hO2
      have HO2 := Lib.hid hO2
      have HB2 := Lib.hid (HBr.out.setCell (p := ⟨g, f + j, none⟩) hgb (Iv 4))
      have hwr : ((f : Int) + (j : Int)).toNat = f + j := by omega
      have hjm : (f : Int) + (j : Int) < m := by omega
      simp only [Iv] at HB2 HO2
      clear hO2 hbk hOr
      go_wp2
      go_roundw
      case rel => exact ⟨j + 1, by omega, by omega, by go_num, HO2.out, HB2.out⟩
      case measure => simp [intOf]; omega
    · obtain rfl : j = k := by omega
      clear hOr
      go_wp2
      refine bodyPost_ret (v := .tuple #[.slice (some ⟨g, 0, none⟩) m cp, .int .i64 0]) (by simp [results, Tryz.results33, go_sem]) rfl ⟨_, _, _, rfl, HOr.out.row, HBr.out, hcp, fun _ h => by cases h; exact hgb⟩

/-- The reference's Put. -/
theorem refput_fresh (A : Option Addr) (m c : Nat) (l : List Int) (f k : Int) (w : World) (hR : Row w A m (l.map Iv)) (hm : m ≤ 1000) :
    Calls Tryz.prog 33 #[.slice A m c, .int .i64 f, .int .i64 k] w (GivesLF w (codeP l f k) (resP l f k)) := by
  cases hw : wholeL l
  · have h := refput_no A m c l f k w hR hm (.inl hw)
    rwa [show resP l f k = [] by simp [resP, hw]]
  · cases hp : putOk l f k
    · have h := refput_no A m c l f k w hR hm (.inr hp)
      rwa [show resP l f k = [] by simp [resP, hp]]
    · obtain ⟨-, h0, h1, -⟩ := PutIn.of hp
      have h := refput_in A m c l f.toNat k.toNat w hR hm hw (by rw [Int.toNat_of_nonneg h0, Int.toNat_of_nonneg (by omega)]; exact hp)
      rw [Int.toNat_of_nonneg h0, Int.toNat_of_nonneg (by omega)] at h
      rwa [show codeP l f k = 0 by simp [codeP, hw, hp], show resP l f k = putL l f.toNat k.toNat by simp [resP, hw, hp]]

set_option maxRecDepth 100000 in
set_option maxHeartbeats 1000000 in
theorem refcut_no (A : Option Addr) (m c : Nat) (l : List Int) (f : Int) (w : World) (hR : Row w A m (l.map Iv)) (hm : m ≤ 1000) (hc : wholeL l = false ∨ cutOk l f = false) :
    Calls Tryz.prog 38 #[.slice A m c, .int .i64 f] w (GivesCF w (codeC l f) 0 []) := by
  have hl := hR.1
  simp at hl
  have HR := Lib.hid hR
  have HL := Lib.hid hl
  obtain ⟨cd, hcd⟩ : ∃ cd, codeC l f = cd := ⟨_, rfl⟩
  rw [hcd]
  have HCD := Lib.hid hcd
  clear hR hl hcd
  go_enter Tryz.func38, Tryz.ntmps38
  go_wp2_with fail
  refine (refwhole_any A m c l w HR.out hm).mono ?_
  rintro e w' ⟨rfl, rfl⟩
  cases hw : wholeL l
  · have hcd : cd = 90 := by rw [← HCD.out]; simp [codeC, hw]
    have HC := Lib.hid hcd
    clear hcd hw
    go_wp2
    exact bodyPost_ret (v := .tuple #[.slice none 0 0, .int .i64 0, .int .i64 90]) (by simp [results, Tryz.results38, go_sem]) rfl ⟨_, _, _, by rw [HC.out]; rfl, Row.none_, Below.refl _ _, Nat.le_refl _, fun _ h => by cases h⟩
  · have hp : cutOk l f = false := by
      rcases hc with h | h
      · rw [hw] at h; cases h
      · exact h
    have hcd : cd = 91 := by rw [← HCD.out]; simp [codeC, hw, hp]
    have HC := Lib.hid hcd
    have HP := Lib.hid hp
    clear hcd hw hp hc
    by_cases h2 : f < 0
    · go_wp2
      exact bodyPost_ret (v := .tuple #[.slice none 0 0, .int .i64 0, .int .i64 91]) (by simp [results, Tryz.results38, go_sem]) rfl ⟨_, _, _, by rw [HC.out]; rfl, Row.none_, Below.refl _ _, Nat.le_refl _, fun _ h => by cases h⟩
    by_cases h3 : (m : Int) ≤ f
    · go_wp2
      exact bodyPost_ret (v := .tuple #[.slice none 0 0, .int .i64 0, .int .i64 91]) (by simp [results, Tryz.results38, go_sem]) rfl ⟨_, _, _, by rw [HC.out]; rfl, Row.none_, Below.refl _ _, Nat.le_refl _, fun _ h => by cases h⟩
    · obtain ⟨b, off, x, rfl, hcx, hx, -⟩ := num_at (k := f.toNat) HR.out (by omega)
      have hd : (x != 3) = true := by
        have h1 := HP.out
        have h2 := HL.out
        unfold cutOk at h1
        rw [decide_eq_true (show 0 ≤ f by omega), decide_eq_true (show f < l.length by omega), hx] at h1
        simpa using h1
      clear hx
      go_wp2
      exact bodyPost_ret (v := .tuple #[.slice none 0 0, .int .i64 0, .int .i64 91]) (by simp [results, Tryz.results38, go_sem]) rfl ⟨_, _, _, by rw [HC.out]; rfl, Row.none_, Below.refl _ _, Nat.le_refl _, fun _ h => by cases h⟩

set_option maxRecDepth 100000 in
set_option maxHeartbeats 2000000 in
theorem refcut_in (A : Option Addr) (m c : Nat) (l : List Int) (f : Nat) (w : World) (hR : Row w A m (l.map Iv)) (hm : m ≤ 1000) (hw : wholeL l = true) (hfm : f < m) (h3 : l.getD f 0 = 3) (e : Nat) (he : f + 1 + tailN l (f + 1) = e) :
    Calls Tryz.prog 38 #[.slice A m c, .int .i64 f] w (GivesCF w 0 (e - f) (cutL l f e)) := by
  have hl := hR.1
  simp at hl
  have hle := tail_le l (f + 1) (by omega)
  have hall := tail_all l (f + 1)
  have hstp := tail_stop l (f + 1) (by omega)
  rw [he] at hle hall hstp
  have hef : f < e := by omega
  have hem : e ≤ m := by omega
  have hmk := run_make_room (m : Int) (by omega) (by omega)
  simp only [Int.toNat_natCast] at hmk
  obtain ⟨inf, hinf, hi0, hi1, hi2⟩ := info_parts int_info
  have HR := Lib.hid hR
  have HW := Lib.hid hw
  have HL := Lib.hid hl
  have HAL := Lib.hid hall
  have HSP := Lib.hid hstp
  obtain ⟨b, off, x, rfl, hcx0, hx, -⟩ := num_at (k := f) hR hfm
  rw [h3] at hx
  subst hx
  clear hR hw hl h3 hall hstp he hle
  go_enter Tryz.func38, Tryz.ntmps38
  go_wp2_with fail
  have h := refwhole_any (some ⟨b, off, none⟩) m c l w HR.out hm
  rw [HW.out] at h
  refine h.mono ?_
  clear h
  rintro en w' ⟨rfl, rfl⟩
  go_wp2_with (at_builtin; refine stop_here ?_)
  intro _
  refine wpList_append_row _ rfl (.tmp 29) (.tmp 30) 22 rfl w.heap.size 3 inf (.int .i64 0) 8 Tryz.underlying22 hinf hi0 hi1 hi2 rfl _ 0 [] rfl (own_room rfl (Nat.le_refl _) (by omega)) (some ⟨b, off, none⟩) m c (l.map Iv) rfl (HR.out.ext (below_box _ _)) (one_ints l) (by unfold maxLen; omega) (by omega) (by simp) ?_
  intro v' w1 hown hgr
  simp only [List.nil_append, Nat.zero_add] at hown
  obtain ⟨C, cp, rfl, hOw⟩ := Own.of_row hown
  have hcp := cap_of_own hown
  have hb1 : Below w.heap.size w w1 := (below_box w (.cells (zerosI m) 3)).trans ((Below.refl _ _).grown hgr (by simp) (fun b e => by cases e; exact Nat.le_refl _))
  obtain ⟨g, cur, rfl, hgb, hbk, hcx⟩ := hOw.at_ (k := f) (by omega)
  obtain ⟨u0, hcu⟩ : ∃ u, w1.cell? ⟨g, f, none⟩ = some u := ⟨_, hcx⟩
  clear hcx
  have f0 := hbk.frozen f
  have hO2 := hOw.set_ (k := f) (Iv 0)
  rw [← List.map_set] at hO2
  have hcs := cut_step (l := l) (f := f) (e := f) (Nat.le_refl _) (by have := HL.out; omega)
  rw [cut_none] at hcs
  rw [hcs] at hO2
  have HO := Lib.hid hO2
  have HB := Lib.hid (hb1.setCell (p := ⟨g, f, none⟩) hgb (Iv 0))
  simp only [Iv] at HB HO
  clear hown hgr hOw hb1 hbk hO2 hmk hcs hcx0
  go_wp2
  generalize w1.setCell ⟨g, f, none⟩ (.int .i64 0) = w2 at *
  clear f0 hcu
  go_loopw [8] (fun i wr => ∃ j : Nat, 1 ≤ j ∧ f + j ≤ e ∧ i = .int .i64 j ∧ Own 3 wr w.heap.size (some ⟨g, 0, none⟩) m ((cutL l f (f + j)).map Iv) ∧ Below w.heap.size w wr) (fun i _ => e - f - (intOf i).toNat)
  case atStart => exact ⟨1, Nat.le_refl _, by omega, rfl, HO.out, HB.out⟩
  case round =>
    obtain ⟨j, hj1, hje, rfl, hOr, hbr⟩ := hrel
    have HOr := Lib.hid hOr
    have HBr := Lib.hid hbr
    have hwr : ((f : Int) + (j : Int)).toNat = f + j := by omega
    clear hbr
    by_cases hlt : f + j < e
    · obtain ⟨g', cur', e', hgb', hbk, hcx⟩ := hOr.at_ (k := f + j) (by omega)
      cases e'
      obtain ⟨u1, hcu⟩ : ∃ u, wr.cell? ⟨g, f + j, none⟩ = some u := ⟨_, hcx⟩
      clear hcx
      obtain ⟨b', off', x, e', hcz, hz, -⟩ := num_at (k := f + j) (HR.out.ext HBr.out) (by omega)
      cases e'
      rw [HAL.out (f + j) (by omega) hlt] at hz
      subst hz
      have f0 := hbk.frozen (f + j)
      have hO2 := hOr.set_ (k := f + j) (Iv 0)
      rw [← List.map_set, cut_step (by omega) (by have := HL.out; omega)] at hO2
      have HO2 := Lib.hid hO2
      have HB2 := Lib.hid (HBr.out.setCell (p := ⟨g, f + j, none⟩) hgb (Iv 0))
      have hjm : (f : Int) + (j : Int) < m := by omega
      simp only [Iv] at HB2 HO2
      clear hO2 hbk hOr
      go_wp2
      go_roundw
      case rel => exact ⟨j + 1, by omega, by omega, by go_num, HO2.out, HB2.out⟩
      case measure => simp [intOf]; omega
    · obtain ⟨q, rfl⟩ : ∃ q, e = f + q := ⟨j, by omega⟩
      obtain rfl : j = q := by omega
      clear hOr
      have hcase : (m ≤ f + j) ∨ (f + j < m ∧ l.getD (f + j) 0 ≠ 4) := by
        rcases Nat.lt_or_ge (f + j) m with h | h
        · refine .inr ⟨h, ?_⟩
          rcases HSP.out with h2 | h2
          · have := HL.out; omega
          · exact h2
        · exact .inl h
      rcases hcase with hc1 | ⟨hc1, hc2⟩
      case' inl =>
        have hb1 : ¬ (f : Int) + (j : Int) < m := by omega
      case' inr =>
        obtain ⟨b', off', x, e', hcz, hz, -⟩ := num_at (k := f + j) (HR.out.ext HBr.out) hc1
        cases e'
        have hzd : (x == 4) = false := by rw [hz] at hc2; simpa using hc2
        have hb1 : (f : Int) + (j : Int) < m := by omega
        clear hz hc2
      all_goals
        go_wp2
        exact bodyPost_ret (v := .tuple #[.slice (some ⟨g, 0, none⟩) m cp, .int .i64 (j : Int), .int .i64 0]) (by simp [results, Tryz.results38, go_sem]) rfl ⟨_, m, cp, by first | rfl | (rw [show f + j - f = j by omega]; rfl), HOr.out.row, HBr.out, hcp, fun _ h => by cases h; exact hgb⟩

/-- The reference's Cut. -/
theorem refcut_fresh (A : Option Addr) (m c : Nat) (l : List Int) (f : Int) (w : World) (hR : Row w A m (l.map Iv)) (hm : m ≤ 1000) :
    Calls Tryz.prog 38 #[.slice A m c, .int .i64 f] w (GivesCF w (codeC l f) (numC l f) (resC l f)) := by
  have hl := hR.1
  simp at hl
  cases hw : wholeL l
  · have h := refcut_no A m c l f w hR hm (.inl hw)
    rwa [show resC l f = [] by simp [resC, hw], show numC l f = 0 by simp [numC, hw]]
  · cases hc : cutOk l f
    · have h := refcut_no A m c l f w hR hm (.inr hc)
      rwa [show resC l f = [] by simp [resC, hc], show numC l f = 0 by simp [numC, hc]]
    · obtain ⟨⟨h0, h1⟩, h2⟩ : (0 ≤ f ∧ f < l.length) ∧ l.getD f.toNat 0 = 3 := by
        simpa [cutOk] using hc
      have h := refcut_in A m c l f.toNat w hR hm hw (by omega) h2 (endC l f) rfl
      rw [Int.toNat_of_nonneg h0] at h
      rwa [show codeC l f = 0 by simp [codeC, hw, hc], show resC l f = cutL l f.toNat (endC l f) by simp [resC, hw, hc], show numC l f = endC l f - f.toNat by simp [numC, hw, hc]]

theorem refput_any (A : Option Addr) (m c : Nat) (l : List Int) (f k : Int) (w : World) (hR : Row w A m (l.map Iv)) (hm : m ≤ 1000) :
    Calls Tryz.prog 33 #[.slice A m c, .int .i64 f, .int .i64 k] w (GivesL w (codeP l f k) (resP l f k)) :=
  (refput_fresh A m c l f k w hR hm).mono fun _ _ ⟨A, m, c, h1, h2, h3, _⟩ => ⟨A, m, c, h1, h2, h3⟩
theorem refcut_any (A : Option Addr) (m c : Nat) (l : List Int) (f : Int) (w : World) (hR : Row w A m (l.map Iv)) (hm : m ≤ 1000) :
    Calls Tryz.prog 38 #[.slice A m c, .int .i64 f] w (GivesC w (codeC l f) (numC l f) (resC l f)) :=
  (refcut_fresh A m c l f w hR hm).mono fun _ _ ⟨A, m, c, h1, h2, h3, _⟩ => ⟨A, m, c, h1, h2, h3⟩

end Go.Proofs.YtllanbggjfmfhaaGreatDoor
namespace Go.Proofs.YtllanbggjfmfhaaGreatDoor
open Go.RowKit Go.Shelf

section
variable {w w' : World} {base : Nat} {v u : Value} {l : List Int} {ts : List (List Int)} {vs : List Value}
theorem owns_mono {b b' : Nat} {e : TypeId} {n : Nat} {xs : List Value} (h : w.ownsRow b e 1 v n xs) (hb : b' ≤ b) : w.ownsRow b' e 1 v n xs := by
  refine ⟨h.1, ?_⟩
  rcases h.2 with h | ⟨g, cap, cur, h1, h2, h3⟩
  · exact .inl h
  · exact .inr ⟨g, cap, cur, h1, Nat.le_trans hb h2, h3⟩
theorem Tbs.mono {base' : Nat} (h : Tbs w base v u l ts vs) (hb : base' ≤ base) : Tbs w base' v u l ts vs :=
  ⟨owns_mono h.st hb, owns_mono h.tb hb, fun i t ht => by
    obtain ⟨A, n, c, h1, h2, h3, h4, h5⟩ := h.at_ i t ht
    exact ⟨A, n, c, h1, h2, h3, h4, fun a ha => by
      obtain ⟨g1, g2, g3⟩ := h5 a ha
      exact ⟨Nat.le_trans hb g1, g2, g3⟩⟩⟩
theorem own_cap {e : TypeId} {A : Option Addr} {n c : Nat} {xs : List Value} (h : w.ownsRow base e 1 (.slice A n c) n xs) : n ≤ c := by
  rcases h.2 with ⟨h1, h2⟩ | ⟨g, cap, cur, h1, -, -, h2, -⟩
  · omega
  · injection h1 with _ _ h3
    omega
/-- The states alone. -/
theorem Tbs.of_states (h : w.ownsRow base 3 1 v l.length (l.map Iv)) : Tbs w base v (.slice none 0 0) l [] [] := ⟨h, ⟨rfl, .inl ⟨rfl, rfl⟩⟩, fun i t ht => by simp at ht⟩
end

/-- A pool of the call's own. -/
def OwnP (w : World) (l : List Int) (ts : List (List Int)) (e : Ending) (w' : World) : Prop :=
  ∃ S c T d vs, e = .returned (.agg #[.slice S l.length c, .slice T ts.length d]) ∧ Tbs w' w.heap.size (.slice S l.length c) (.slice T ts.length d) l ts vs ∧ Below w.heap.size w w'

set_option maxRecDepth 100000 in
set_option maxHeartbeats 4000000 in
/-- The reference's Own. -/
theorem rown_any (S : Option Addr) (m c : Nat) (T : Option Addr) (k d : Nat) (l : List Int) (ts : List (List Int)) (w : World) (hS : Row w S m (l.map Iv)) (hT : Tabs w T k ts) (hm : m ≤ 1000) (hk : k ≤ 1000) :
    Calls Tryz.prog 32 #[.agg #[.slice S m c, .slice T k d]] w (OwnP w l ts) := by
  obtain ⟨ii, hii, hiz0, hiz1, hiz2⟩ := info_parts int_info
  obtain ⟨it, hit, htz0, htz1, htz2⟩ := info_parts ints_info
  have hml := hS.1
  have hkl := hT.1
  rw [List.length_map] at hml
  have hb1 : Below w.heap.size w (((w.alloc (.cells #[.slice S m c, .slice T k d] 25)).alloc (.cells #[.slice none 0 0, .slice none 0 0] 25)).alloc (.cells #[.slice none 0 0, .slice none 0 0] 25)) := below_le (below_le (below_box _ _) (below_box _ _)) (below_box _ _)
  have hp1 : Blk (((w.alloc (.cells #[.slice S m c, .slice T k d] 25)).alloc (.cells #[.slice none 0 0, .slice none 0 0] 25)).alloc (.cells #[.slice none 0 0, .slice none 0 0] 25)) w.heap.size 25 #[.slice S m c, .slice T k d] := Blk.alloc (Blk.alloc (heap_new rfl _) _) _
  have hr1 : Blk (((w.alloc (.cells #[.slice S m c, .slice T k d] 25)).alloc (.cells #[.slice none 0 0, .slice none 0 0] 25)).alloc (.cells #[.slice none 0 0, .slice none 0 0] 25)) (w.heap.size + 1) 25 #[.slice none 0 0, .slice none 0 0] := Blk.alloc (heap_new (by simp) _) _
  have ho1 : Blk (((w.alloc (.cells #[.slice S m c, .slice T k d] 25)).alloc (.cells #[.slice none 0 0, .slice none 0 0] 25)).alloc (.cells #[.slice none 0 0, .slice none 0 0] 25)) (w.heap.size + 2) 25 #[.slice none 0 0, .slice none 0 0] := heap_new (by simp) _
  have hz : (((w.alloc (.cells #[.slice S m c, .slice T k d] 25)).alloc (.cells #[.slice none 0 0, .slice none 0 0] 25)).alloc (.cells #[.slice none 0 0, .slice none 0 0] 25)).heap.size = w.heap.size + 3 := by simp
  have HB1 := Lib.hid hb1
  have HP1 := Lib.hid hp1
  have HR1 := Lib.hid hr1
  have HO1 := Lib.hid ho1
  have HSR := Lib.hid hS
  have HT := Lib.hid hT
  have HML := Lib.hid hml
  have HKL := Lib.hid hkl
  clear hb1 hp1 hr1 ho1 hS hT hml hkl
  go_enter Tryz.func32, Tryz.ntmps32
  go_wp2_with (at_builtin; refine stop_here ?_)
  intro _
  generalize ((w.alloc (.cells #[.slice S m c, .slice T k d] 25)).alloc (.cells #[.slice none 0 0, .slice none 0 0] 25)).alloc (.cells #[.slice none 0 0, .slice none 0 0] 25) = W1 at *
  refine wpList_append_row W1 rfl (.tmp 6) (.tmp 8) 22 rfl W1.heap.size 3 ii (.int .i64 0) 8 Tryz.underlying22 hii hiz0 hiz1 hiz2 rfl (.slice none 0 0) 0 [] rfl ⟨rfl, .inl ⟨rfl, rfl⟩⟩ S m c (l.map Iv) rfl (HSR.out.ext HB1.out) (one_ints l) (by unfold maxLen; omega) (by omega) (Nat.le_refl _) fun v0 w2 hown hgr => ?_
  simp only [List.nil_append, Nat.zero_add] at hown ⊢
  obtain ⟨SA, SC, rfl, -, -⟩ := row_of_owns hown
  have hT2 : Tbs w2 W1.heap.size (.slice SA m SC) (.slice none 0 0) l [] [] := Tbs.of_states (by rw [HML.out]; exact hown)
  have hx2 : Below W1.heap.size W1 w2 := (Below.refl _ _).grown hgr (Nat.le_refl _) (fun b e => by cases e)
  have hP2 := HP1.out.ext hx2
  have hR2 := HR1.out.ext hx2
  have hO2 := HO1.out.ext hx2
  have hB2 := below_le HB1.out hx2
  have c0 : w2.cell? ⟨w.heap.size + 2, 0, none⟩ = some (.slice none 0 0) := by have := hO2.cell 0; simpa using this
  have f0 := hO2.frozen 0
  have T3 := Lib.hid (hT2.far hO2 (by decide) (by decide) 0 (.slice SA m SC))
  have P3 := Lib.hid (hP2.far (p := ⟨w.heap.size + 2, 0, none⟩) (by show w.heap.size ≠ w.heap.size + 2; omega) (.slice SA m SC))
  have R3 := Lib.hid (hR2.far (p := ⟨w.heap.size + 2, 0, none⟩) (by show w.heap.size + 1 ≠ w.heap.size + 2; omega) (.slice SA m SC))
  have hO3 := hO2.set_ 0 (.slice SA m SC)
  simp at hO3
  have O3 := Lib.hid hO3
  have B3 := Lib.hid (hB2.setCell (p := ⟨w.heap.size + 2, 0, none⟩) (by show w.heap.size ≤ w.heap.size + 2; omega) (.slice SA m SC))
  have hs3 : W1.heap.size ≤ (w2.setCell ⟨w.heap.size + 2, 0, none⟩ (.slice SA m SC)).heap.size := by simpa [World.setCell] using hx2.size
  clear hown hgr hT2 hx2 hP2 hR2 hO2 hB2 hO3 HB1 HP1 HR1 HO1
  go_wp2
  generalize w2.setCell ⟨w.heap.size + 2, 0, none⟩ (.slice SA m SC) = W3 at *
  clear c0 f0
  go_loopw [4] (fun i wr => ∃ (j : Nat) (u : Value) (vs : List Value), j ≤ k ∧ i = .int .i64 (j : Nat) ∧ Tbs wr W1.heap.size (.slice SA m SC) u l (ts.take j) vs ∧ Blk wr (w.heap.size + 2) 25 #[.slice SA m SC, u] ∧ Blk wr (w.heap.size + 1) 25 #[.slice none 0 0, .slice none 0 0] ∧ Blk wr w.heap.size 25 #[.slice S m c, .slice T k d] ∧ Below w.heap.size w wr ∧ W1.heap.size ≤ wr.heap.size) (fun i _ => k - (intOf i).toNat)
  case atStart => exact ⟨0, .slice none 0 0, [], Nat.zero_le _, rfl, T3.out, O3.out, R3.out, P3.out, B3.out, hs3⟩
  case round =>
    obtain ⟨j, u, vs, hj, rfl, q1, q2, q3, q4, q5, q6⟩ := hrel
    have Q1 := Lib.hid q1
    have Q2 := Lib.hid q2
    have Q3 := Lib.hid q3
    have Q4 := Lib.hid q4
    have Q5 := Lib.hid q5
    clear q1 q2 q3 q4 q5 T3 P3 R3 O3 B3 hs3
    have k1 : wr.cell? ⟨w.heap.size, 1, none⟩ = some (.slice T k d) := by have := Q4.out.cell 1; simpa using this
    by_cases hlt : j < k
    · have o1 : wr.cell? ⟨w.heap.size + 2, 1, none⟩ = some u := by have := Q2.out.cell 1; simpa using this
      obtain ⟨tb, toff, A, n, cc, t, rfl, hct, -, hn, hRt, hjt, -⟩ := (HT.out.ext Q5.out).at_ hlt
      have hct0 : tb < W1.heap.size := by
        obtain ⟨tb', toff', A', n', cc', t', e', hct', -⟩ := HT.out.at_ hlt
        cases e'
        have : tb < w.heap.size := lt_of_cell hct'
        omega
      have hRt0 : Row w A n (t.map Iv) := by
        obtain ⟨tb', toff', A', n', cc', t', e', hct', -, -, hr', ht', -⟩ := HT.out.at_ hlt
        cases e'
        have h9 := cell_ext Q5.out hct'
        rw [hct] at h9
        rw [hjt] at ht'
        cases h9
        cases ht'
        exact hr'
      have hnl : t.length = n := by have := hRt0.1; simpa using this
      have HRT := Lib.hid hRt0
      have HJT := Lib.hid hjt
      have HNL := Lib.hid hnl
      have hCst := stays_below W1.heap.size wr q6
      have t1 := fun x : Of (fun x => Below W1.heap.size wr x) => (x.ok.cell (p := ⟨w.heap.size + 2, 1, none⟩) (by show w.heap.size + 2 < _; omega)).trans o1
      have t2 := fun x : Of (fun x => Below W1.heap.size wr x) => (x.ok.cell (p := ⟨w.heap.size, 1, none⟩) (by show w.heap.size < _; omega)).trans k1
      have t3 := fun x : Of (fun x => Below W1.heap.size wr x) => (x.ok.cell (p := ⟨tb, toff + j, none⟩) hct0).trans hct
      clear hRt hRt0 hjt hnl
      go_wp2
      clear o1 k1 hct
      refine wp_region_mixc (C := fun x => Below W1.heap.size wr x) 11 hCst (Below.refl _ _) (by kernel_rfl) (by kernel_rfl) ?_
      first | (refine mixc_skip 0 hCst rfl (by kernel_rfl) rfl ?_; go_frame) | (refine mixc_soft 0 hCst rfl (by kernel_rfl) rfl (fun K hK => ?_); go_simp; first | (refine hK _ ?_; clear hK K) | (apply Exists.intro; refine ⟨fun x => ?_, hK _ ?_⟩; (· (fail)); clear hK K; try go_frame))
      first | (refine mixc_skip 1 hCst rfl (by kernel_rfl) rfl ?_; go_frame) | (refine mixc_soft 1 hCst rfl (by kernel_rfl) rfl (fun K hK => ?_); go_simp; first | (refine hK _ ?_; clear hK K) | (apply Exists.intro; refine ⟨fun x => ?_, hK _ ?_⟩; (· (fail)); clear hK K; try go_frame))
      first | (refine mixc_skip 2 hCst rfl (by kernel_rfl) rfl ?_; go_frame) | (refine mixc_soft 2 hCst rfl (by kernel_rfl) rfl (fun K hK => ?_); go_simp; first | (refine hK _ ?_; clear hK K) | (apply Exists.intro; refine ⟨fun x => ?_, hK _ ?_⟩; (· (fail)); clear hK K; try go_frame))
      first | (refine mixc_skip 3 hCst rfl (by kernel_rfl) rfl ?_; go_frame) | (refine mixc_soft 3 hCst rfl (by kernel_rfl) rfl (fun K hK => ?_); go_simp; first | (refine hK _ ?_; clear hK K) | (apply Exists.intro; refine ⟨fun x => ?_, hK _ ?_⟩; (· (fail)); clear hK K; try go_frame))
      first | (refine mixc_skip 4 hCst rfl (by kernel_rfl) rfl ?_; go_frame) | (refine mixc_soft 4 hCst rfl (by kernel_rfl) rfl (fun K hK => ?_); go_simp; first | (refine hK _ ?_; clear hK K) | (apply Exists.intro; refine ⟨fun x => ?_, hK _ ?_⟩; (· (fail)); clear hK K; try go_frame))
      first | (refine mixc_skip 5 hCst rfl (by kernel_rfl) rfl ?_; go_frame) | (refine mixc_soft 5 hCst rfl (by kernel_rfl) rfl (fun K hK => ?_); go_simp; first | (refine hK _ ?_; clear hK K) | (apply Exists.intro; refine ⟨fun x => ?_, hK _ ?_⟩; (· (fail)); clear hK K; try go_frame))
      first | (refine mixc_skip 6 hCst rfl (by kernel_rfl) rfl ?_; go_frame) | (refine mixc_soft 6 hCst rfl (by kernel_rfl) rfl (fun K hK => ?_); go_simp; first | (refine hK _ ?_; clear hK K) | (apply Exists.intro; refine ⟨fun x => ?_, hK _ ?_⟩; (· (fail)); clear hK K; try go_frame))
      clear t1 t2 t3
      refine mixc_one 7 (by decide) (by kernel_rfl) rfl rfl ?_
      intro w5 hb5 hC5 K hK
      refine wp_append_row w5 (.const (.slice none 0 0)) (.tmp 24) 22 rfl w5.heap.size 3 ii (.int .i64 0) 8 Tryz.underlying22 hii hiz0 hiz1 hiz2 rfl (.slice none 0 0) 0 [] rfl ⟨rfl, .inl ⟨rfl, rfl⟩⟩ A n cc (t.map Iv) rfl (HRT.out.ext (below_le Q5.out hb5)) (one_ints t) (by unfold maxLen; omega) (by omega) (Nat.le_refl _) fun v2 w6 hown hgr => ?_
      simp only [List.nil_append, Nat.zero_add] at hown ⊢
      have hb6 : Below w5.heap.size w5 w6 := (Below.refl _ _).grown hgr (Nat.le_refl _) (fun b e => by cases e)
      obtain ⟨A2, c2, rfl, hrow, hA2⟩ := row_of_owns hown
      have hcap := own_cap hown
      have hA3 : ∀ a, A2 = some a → W1.heap.size ≤ a.block ∧ some a.block ≠ (Value.slice SA m SC).ownBlock ∧ ∃ cs, Blk w6 a.block 3 cs := fun a ha => by
        refine ⟨Nat.le_trans q6 (Nat.le_trans hb5.size (hA2 a ha)), fun e => ?_, own_blk hown (by rw [ha]; rfl)⟩
        have := (Q1.out.st.lt _ e.symm).2
        have := hA2 a ha
        have := hb5.size
        omega
      have HRW := Lib.hid hrow
      have HA3 := Lib.hid hA3
      have T6 := Lib.hid (Q1.out.ext (below_le hb5 hb6))
      have O6 := Lib.hid (Q2.out.ext (below_le hb5 hb6))
      have R6 := Lib.hid (Q3.out.ext (below_le hb5 hb6))
      have P6 := Lib.hid (Q4.out.ext (below_le hb5 hb6))
      have hC6 := hCst _ _ hC5 hb6
      refine hK _ _ hC6 ?_
      clear hK K hb5 hC5 hb6 hown hgr hrow hA2 hA3 Q1 Q2 Q3 Q4
      try go_frame
      refine mixc_one 8 (by decide) (by kernel_rfl) rfl rfl ?_
      intro w7 hb7 hC7 K hK
      go_simp
      have hx7 := below_box w7 (.cells #[.slice A2 n c2] 22)
      have HN7 := Lib.hid (row_new1 w7 22 (.slice A2 n c2))
      have T7 := Lib.hid (T6.out.ext (below_le hb7 hx7))
      have O7 := Lib.hid (O6.out.ext (below_le hb7 hx7))
      have R7 := Lib.hid (R6.out.ext (below_le hb7 hx7))
      have P7 := Lib.hid (P6.out.ext (below_le hb7 hx7))
      replace HRW := Lib.hid (HRW.out.ext (below_le hb7 hx7))
      have hA4 : ∀ a, A2 = some a → W1.heap.size ≤ a.block ∧ some a.block ≠ (Value.slice SA m SC).ownBlock ∧ ∃ cs, Blk (w7.alloc (.cells #[.slice A2 n c2] 22)) a.block 3 cs := fun a ha => by
        obtain ⟨x1, x2, cs, x3⟩ := HA3.out a ha
        exact ⟨x1, x2, cs, x3.ext (below_le hb7 hx7)⟩
      replace HA3 := Lib.hid hA4
      clear hA4
      have hC8 := hCst _ _ hC7 hx7
      refine hK _ _ hC8 ?_
      clear hK K hb7 hC7 hx7 T6 O6 R6 P6 hC6
      try go_frame
      generalize w7.alloc (.cells #[.slice A2 n c2] 22) = W8 at *
      refine mixc_one 9 (by decide) (by kernel_rfl) rfl rfl ?_
      intro w9 hb9 hC9 K hK
      have hT9 := T7.out.ext hb9
      have htl : (ts.take j).length = j := by rw [List.length_take, HKL.out]; omega
      refine wp_append_row w9 (.tmp 19) (.tmp 26) 23 rfl W1.heap.size 22 it (.slice none 0 0) 24 Tryz.underlying23 hit htz0 htz1 htz2 rfl u (ts.take j).length vs rfl hT9.tb _ 1 1 [.slice A2 n c2] rfl (HN7.out.ext hb9)
        (fun x hx => by rw [List.mem_singleton.1 hx]; rfl) (by rw [htl]; unfold maxLen; omega) (by rw [htl]; omega) (Nat.le_trans q6 hC9.size) fun u' w10 hown hgr => ?_
      obtain ⟨T', d', rfl, -, -⟩ := row_of_owns hown
      have hC10 : Below W1.heap.size wr w10 := hC9.grown hgr (Nat.le_trans q6 hC9.size) fun q e => own_base hT9.tb e
      have hT10 := hT9.pushT (t := t) hcap hn (HRW.out.ext hb9) (fun a ha => by obtain ⟨x1, x2, cs, x3⟩ := HA3.out a ha; exact ⟨x1, x2, cs, x3.ext hb9⟩) rfl hown hgr
      have hO10 := tbs_blk hT9.tb (O7.out.ext hb9) (by decide) rfl hgr
      have hR10 := tbs_blk hT9.tb (R7.out.ext hb9) (by decide) rfl hgr
      have hP10 := tbs_blk hT9.tb (P7.out.ext hb9) (by decide) rfl hgr
      rw [htl] at hown hT10 ⊢
      refine hK _ _ hC10 ?_
      rw [show ts.take j ++ [t] = ts.take (j + 1) by rw [List.take_add_one, HJT.out]; rfl] at hT10
      generalize vs ++ [Value.slice A2 n c2] = vs' at *
      have T10 := Lib.hid hT10
      have O10 := Lib.hid hO10
      have R10 := Lib.hid hR10
      have P10 := Lib.hid hP10
      clear hK K hb9 hC9 hgr hown hT9 hT10 hO10 hR10 hP10 T7 O7 R7 P7 HRW HA3 HN7 hC8 htl
      try go_frame
      first | (refine mixc_skip 10 hCst rfl (by kernel_rfl) rfl ?_; go_frame) | (refine mixc_soft 10 hCst rfl (by kernel_rfl) rfl (fun K hK => ?_); go_simp; first | (refine hK _ ?_; clear hK K) | (apply Exists.intro; refine ⟨fun x => ?_, hK _ ?_⟩; (· (fail)); clear hK K; try go_frame))
      refine mixc_last 11 (by kernel_rfl) (by kernel_rfl) rfl rfl ?_
      intro w11 hb11 hC11 K hK
      have hO11 := O10.out.ext hb11
      have k11 : w11.cell? ⟨w.heap.size + 2, 1, none⟩ = some u := by have := hO11.cell 1; simpa using this
      have f11 := hO11.frozen 1
      have hO12 := hO11.set_ 1 (.slice T' (j + 1) d')
      simp at hO12
      have O12 := Lib.hid hO12
      have T12 := Lib.hid ((T10.out.ext hb11).far hO11 (by decide) (by decide) 1 (.slice T' (j + 1) d'))
      have R12 := Lib.hid ((R10.out.ext hb11).far (p := ⟨w.heap.size + 2, 1, none⟩) (by show w.heap.size + 1 ≠ w.heap.size + 2; omega) (.slice T' (j + 1) d'))
      have P12 := Lib.hid ((P10.out.ext hb11).far (p := ⟨w.heap.size + 2, 1, none⟩) (by show w.heap.size ≠ w.heap.size + 2; omega) (.slice T' (j + 1) d'))
      have B12 := Lib.hid ((Q5.out.trans (hC11.mono (by omega))).setCell (p := ⟨w.heap.size + 2, 1, none⟩) (by show w.heap.size ≤ w.heap.size + 2; omega) (.slice T' (j + 1) d'))
      have hs12 : W1.heap.size ≤ w11.heap.size := Nat.le_trans q6 hC11.size
      clear hb11 hC11 hO11 hO12
      go_simp
      refine hK _ _ fun w13 hb13 => ?_
      clear hK K k11 f11
      replace O12 := Lib.hid (O12.out.ext hb13)
      replace T12 := Lib.hid (T12.out.ext hb13)
      replace R12 := Lib.hid (R12.out.ext hb13)
      replace P12 := Lib.hid (P12.out.ext hb13)
      replace B12 := Lib.hid (below_le B12.out hb13)
      have hs13 : W1.heap.size ≤ w13.heap.size := Nat.le_trans hs12 (by have := hb13.size; simpa [World.setCell] using this)
      clear hb13 hs12
      try go_frame
      go_wp2
      go_roundw
      case rel => exact ⟨j + 1, _, vs', by omega, by go_num, T12.out, O12.out, R12.out, P12.out, B12.out, hs13⟩
      case measure => simp [intOf]; omega
    · obtain rfl : j = k := by omega
      rw [List.take_of_length_le (by rw [HKL.out]; exact Nat.le_refl _)] at Q1
      obtain ⟨T', d', rfl, -, -⟩ := row_of_owns Q1.out.tb
      have o0 : wr.cell? ⟨w.heap.size + 2, 0, none⟩ = some (.slice SA m SC) := by have := Q2.out.cell 0; simpa using this
      have o1 : wr.cell? ⟨w.heap.size + 2, 1, none⟩ = some (.slice T' ts.length d') := by have := Q2.out.cell 1; simpa using this
      obtain ⟨⟨r0, r1, f0, f1⟩, q0, q1, hB⟩ := res_two (a' := .slice SA m SC) (b' := .slice T' ts.length d') Q3.out Q5.out (by omega)
      have hT' := ((Q1.out.far Q3.out (by decide) (by decide) 0 (.slice SA m SC)).far ((Q3.out.set_ 0 (.slice SA m SC))) (by decide) (by decide) 1 (.slice T' ts.length d')).mono (base' := w.heap.size) (by omega)
      obtain rfl := HML.out
      have HTT := Lib.hid hT'
      have HB := Lib.hid hB
      clear hB hT' Q1 Q2 Q3 Q4 Q5
      go_wp2
      exact bodyPost_ret (v := .agg #[.slice SA l.length SC, .slice T' ts.length d']) (by simp [results, Tryz.results32, go_sem, q0, q1]) rfl ⟨_, _, _, _, _, rfl, HTT.out, HB.out⟩

end Go.Proofs.YtllanbggjfmfhaaGreatDoor
namespace Go.Proofs.YtllanbggjfmfhaaGreatDoor
open Go.RowKit Go.Shelf

/-- States and tables in rows of the call's own, as they are changed. -/
structure Tbq (w : World) (base : Nat) (S T : Option Addr) (l : List Int) (ts : List (List Int)) (vs : List Value) : Prop where
  st : Own 3 w base S l.length (l.map Iv)
  tb : Own 22 w base T ts.length vs
  at_ : ∀ (i : Nat) (t : List Int), ts[i]? = some t → ∃ (A : Option Addr) (n c : Nat), vs[i]? = some (Value.slice A n c) ∧ n ≤ c ∧ n ≤ 1000 ∧ Row w A n (t.map Iv) ∧ ∀ a, A = some a → base ≤ a.block ∧ (∀ s, S = some s → a.block ≠ s.block) ∧ ∃ cs, Blk w a.block 3 cs

section
variable {w w' : World} {base : Nat} {S T : Option Addr} {l : List Int} {ts : List (List Int)} {vs : List Value}
theorem Tbq.of {c d : Nat} (h : Tbs w base (.slice S l.length c) (.slice T ts.length d) l ts vs) : Tbq w base S T l ts vs := by
  obtain ⟨S', c', e1, h1⟩ := Own.of_row h.st
  obtain ⟨T', d', e2, h2⟩ := Own.of_row h.tb
  cases e1
  cases e2
  refine ⟨h1, h2, fun i t ht => ?_⟩
  obtain ⟨A, n, c, h3, h4, h5, h6, h7⟩ := h.at_ i t ht
  exact ⟨A, n, c, h3, h4, h5, h6, fun a ha => by
    obtain ⟨g1, g2, g3⟩ := h7 a ha
    refine ⟨g1, fun s hs e => g2 ?_, g3⟩
    subst hs
    rw [e]; rfl⟩
theorem Tbq.ext (hb : Below w.heap.size w w') (h : Tbq w base S T l ts vs) : Tbq w' base S T l ts vs :=
  ⟨h.st.ext hb, h.tb.ext hb, fun i t ht => by
    obtain ⟨A, n, c, h3, h4, h5, h6, h7⟩ := h.at_ i t ht
    exact ⟨A, n, c, h3, h4, h5, h6.ext hb, fun a ha => by
      obtain ⟨g0, g1, cs, g2⟩ := h7 a ha
      exact ⟨g0, g1, cs, g2.ext hb⟩⟩⟩
/-- Another block is written, whose type is neither. -/
theorem Tbq.far (h : Tbq w base S T l ts vs) {g : Nat} {t : TypeId} {cs : Array Value} (hg : Blk w g t cs) (h1 : 3 ≠ t) (h2 : 22 ≠ t) (k : Nat) (x : Value) : Tbq (w.setCell ⟨g, k, none⟩ x) base S T l ts vs :=
  ⟨h.st.far hg h1 k x, h.tb.far hg h2 k x, fun i t ht => by
    obtain ⟨A, n, c, h3, h4, h5, h6, h7⟩ := h.at_ i t ht
    refine ⟨A, n, c, h3, h4, h5, h6.far (fun a ha => ?_) x, fun a ha => ?_⟩
    · obtain ⟨-, -, cs', g3⟩ := h7 a ha
      exact blk_ne g3 hg h1
    · obtain ⟨g0, g1, cs', g3⟩ := h7 a ha
      exact ⟨g0, g1, cs', g3.far (p := ⟨g, k, none⟩) (blk_ne g3 hg h1) x⟩⟩
/-- One state is set. -/
theorem Tbq.setS {g : Nat} (h : Tbq w base (some ⟨g, 0, none⟩) T l ts vs) {k : Nat} (hk : k < l.length) (x : Int) : Tbq (w.setCell ⟨g, k, none⟩ (.int .i64 x)) base (some ⟨g, 0, none⟩) T (l.set k x) ts vs := by
  obtain ⟨g', cur, e, -, hbk, -⟩ := h.st.at_ hk
  cases e
  have h1 := h.st.set_ (k := k) (.int .i64 x)
  rw [show (l.map Iv).set k (Value.int .i64 x) = (l.set k x).map Iv from by rw [List.map_set]; rfl] at h1
  refine ⟨by rw [List.length_set]; exact h1, h.tb.far hbk (by decide) k (.int .i64 x), fun i t ht => ?_⟩
  obtain ⟨A, n, c, h3, h4, h5, h6, h7⟩ := h.at_ i t ht
  refine ⟨A, n, c, h3, h4, h5, h6.far (p := ⟨g, k, none⟩) (fun a ha => (h7 a ha).2.1 ⟨g, 0, none⟩ rfl) (.int .i64 x), fun a ha => ?_⟩
  obtain ⟨g0, g1, cs', g3⟩ := h7 a ha
  refine ⟨g0, g1, ?_⟩
  exact ⟨cs', g3.far (p := ⟨g, k, none⟩) (g1 ⟨g, 0, none⟩ rfl) _⟩
/-- One table is set. -/
theorem Tbq.setT {g : Nat} (h : Tbq w base S (some ⟨g, 0, none⟩) l ts vs) {k : Nat} (hk : k < ts.length) {t : List Int} {A : Option Addr} {n c : Nat} (hn : n ≤ c) (hn2 : n ≤ 1000) (hR : Row w A n (t.map Iv))
    (hA : ∀ a, A = some a → base ≤ a.block ∧ (∀ s, S = some s → a.block ≠ s.block) ∧ ∃ cs, Blk w a.block 3 cs) : Tbq (w.setCell ⟨g, k, none⟩ (.slice A n c)) base S (some ⟨g, 0, none⟩) l (ts.set k t) (vs.set k (.slice A n c)) := by
  obtain ⟨g', cur, e, -, hbk, -⟩ := h.tb.at_ hk
  cases e
  have hvl : vs.length = ts.length := h.tb.1
  have keep : ∀ (A : Option Addr) (n : Nat) (t : List Int) (u : Value), Row w A n (t.map Iv) → (∀ a, A = some a → base ≤ a.block ∧ (∀ s, S = some s → a.block ≠ s.block) ∧ ∃ cs, Blk w a.block 3 cs) → Row (w.setCell ⟨g, k, none⟩ u) A n (t.map Iv) ∧ ∀ a, A = some a → base ≤ a.block ∧ (∀ s, S = some s → a.block ≠ s.block) ∧ ∃ cs, Blk (w.setCell ⟨g, k, none⟩ u) a.block 3 cs := by
    intro A n t u hR hA
    have hne : ∀ a, A = some a → a.block ≠ g := fun a ha => by
      obtain ⟨-, -, cs, g3⟩ := hA a ha
      exact blk_ne g3 hbk (by decide)
    refine ⟨hR.far (fun a ha => hne a ha) u, fun a ha => ?_⟩
    obtain ⟨g0, g1, cs, g3⟩ := hA a ha
    exact ⟨g0, g1, cs, g3.far (p := ⟨g, k, none⟩) (hne a ha) u⟩
  refine ⟨h.st.far hbk (by decide) k _, by rw [List.length_set]; exact h.tb.set_ (k := k) (.slice A n c), fun i t' ht' => ?_⟩
  by_cases e : k = i
  · subst e
    rw [List.getElem?_set_self hk] at ht'
    cases ht'
    obtain ⟨k1, k2⟩ := keep A n t (.slice A n c) hR hA
    exact ⟨A, n, c, by rw [List.getElem?_set_self (by omega)], hn, hn2, k1, k2⟩
  · rw [List.getElem?_set_ne e] at ht'
    obtain ⟨A', n', c', h3, h4, h5, h6, h7⟩ := h.at_ i t' ht'
    obtain ⟨k1, k2⟩ := keep A' n' t' (.slice A n c) h6 h7
    exact ⟨A', n', c', by rw [List.getElem?_set_ne e]; exact h3, h4, h5, k1, k2⟩
theorem Tbq.read (h : Tbq w base S T l ts vs) : Row w S l.length (l.map Iv) ∧ Tabs w T ts.length ts := by
  refine ⟨h.st.row, rfl, fun hk => ?_⟩
  obtain ⟨b, off, e, hc⟩ := h.tb.row.2 hk
  refine ⟨b, off, e, fun j t ht => ?_⟩
  obtain ⟨A, n, c, h3, h4, h5, h6, -⟩ := h.at_ j t ht
  exact ⟨A, n, c, hc j _ h3, h4, h5, h6⟩
/-- As a result in new memory; the states may lie elsewhere in it. -/
theorem Tbq.tabs_at (h : Tbq w base S T l ts vs) {X : World} (hX : ∀ b, base ≤ b → b < w.heap.size → X.heap[b]? = w.heap[b]?) : Tabs X T ts.length ts := by
  refine ⟨rfl, fun hk => ?_⟩
  obtain ⟨g, cur, rfl, hgb, hbk, hm, htk⟩ := h.tb.2 hk
  have hg := hX g hgb hbk.lt
  refine ⟨g, 0, rfl, fun j t ht => ?_⟩
  obtain ⟨A, n, c, h3, h4, h5, h6, h7⟩ := h.at_ j t ht
  obtain ⟨b, off, e, hc⟩ := h.tb.row.2 hk
  cases e
  refine ⟨A, n, c, (World.cell?_of_block (w := w) (a := ⟨g, 0 + j, none⟩) hg).trans (hc j _ h3), h4, h5, h6.1, fun hn => ?_⟩
  obtain ⟨b, off, e, hc2⟩ := h6.2 hn
  obtain ⟨g0, -, cs, g2⟩ := h7 _ e
  exact ⟨b, off, e, fun q u hu => (World.cell?_of_block (w := w) (a := ⟨b, off + q, none⟩) (hX b g0 g2.lt)).trans (hc2 q u hu)⟩
theorem Tbq.poolF (h : Tbq w base S T l ts vs) {base' c d : Nat} (hb : base' ≤ base) (hc : l.length ≤ c) : PoolF w base' (.agg #[.slice S l.length c, .slice T ts.length d]) l ts := by
  refine ⟨S, _, c, T, _, d, rfl, hc, fun X hX => ⟨⟨by simp, fun hm => ?_⟩, h.tabs_at fun b h1 h2 => hX b (Nat.le_trans hb h1) h2⟩⟩
  obtain ⟨g, cur, rfl, hgb, hbk, -⟩ := h.st.2 hm
  have hg := hX g (Nat.le_trans hb hgb) hbk.lt
  obtain ⟨b, off, e, hc⟩ := h.st.row.2 hm
  cases e
  exact ⟨g, 0, rfl, fun j u hu => (World.cell?_of_block (w := w) (a := ⟨g, 0 + j, none⟩) hg).trans (hc j u hu)⟩
end

theorem first_is {l : List Int} {s : Int} {j : Nat} (hj : j < l.length) (hx : l.getD j 0 = s) (hz : ∀ q, q < j → l.getD q 0 ≠ s) : firstOf l s = some j := by
  unfold firstOf
  rw [List.find?_range_eq_some]
  refine ⟨by simpa using hx, by simpa using hj, fun q hq => ?_⟩
  have := hz q hq
  simpa using this
theorem first_none {l : List Int} {s : Int} (hz : ∀ q, q < l.length → l.getD q 0 ≠ s) : firstOf l s = none := by
  unfold firstOf
  rw [List.find?_range_eq_none]
  intro q hq
  have := hz q hq
  simpa using this

set_option maxRecDepth 100000 in
set_option maxHeartbeats 4000000 in
/-- The reference's take. -/
theorem rtake_any (S : Option Addr) (m c : Nat) (T : Option Addr) (k d : Nat) (l : List Int) (ts : List (List Int)) (s : Int) (w : World) (hS : Row w S m (l.map Iv)) (hT : Tabs w T k ts) (hm : m ≤ 1000) (hk : k ≤ 1000) :
    Calls Tryz.prog 26 #[.agg #[.slice S m c, .slice T k d], .int .i64 s] w (GivesTake w (takeL l ts s) (takeT l ts s) (takeN l ts s : Nat) (takeOk l ts s)) := by
  have hml := hS.1
  rw [List.length_map] at hml
  have hb1 : Below w.heap.size w ((w.alloc (.cells #[.slice S m c, .slice T k d] 25)).alloc (.cells #[.slice none 0 0, .slice none 0 0] 25)) := below_le (below_box _ _) (below_box _ _)
  have hp1 : Blk ((w.alloc (.cells #[.slice S m c, .slice T k d] 25)).alloc (.cells #[.slice none 0 0, .slice none 0 0] 25)) w.heap.size 25 #[.slice S m c, .slice T k d] := Blk.alloc (heap_new rfl _) _
  have hr1 : Blk ((w.alloc (.cells #[.slice S m c, .slice T k d] 25)).alloc (.cells #[.slice none 0 0, .slice none 0 0] 25)) (w.heap.size + 1) 25 #[.slice none 0 0, .slice none 0 0] := heap_new (by simp) _
  have HB1 := Lib.hid hb1
  have HP1 := Lib.hid hp1
  have HR1 := Lib.hid hr1
  have HSR := Lib.hid (hS.ext hb1)
  have HT := Lib.hid (hT.ext hb1)
  have HML := Lib.hid hml
  have NO : Hid (takeOk l ts s = false → takeL l ts s = [] ∧ takeT l ts s = [] ∧ takeN l ts s = 0) := Lib.hid (fun h => by unfold takeL takeT takeN; rw [h]; exact ⟨rfl, rfl, rfl⟩)
  have YES : Hid (∀ j, pRight l ts = true → firstOf l s = some j → takeOk l ts s = true ∧ l.set j 5 = takeL l ts s ∧ ts = takeT l ts s ∧ j = takeN l ts s) := Lib.hid (fun j h1 h2 => by
    have h3 : takeOk l ts s = true := by unfold takeOk; rw [h1, h2]; rfl
    have h4 : takeN l ts s = j := by unfold takeN; rw [h3, h2]; rfl
    exact ⟨h3, by unfold takeL; rw [h3, h4]; rfl, by unfold takeT; rw [h3]; rfl, h4.symm⟩)
  have OKW : Hid (pRight l ts = false → takeOk l ts s = false) := Lib.hid (fun h => by unfold takeOk; rw [h]; rfl)
  have OKF : Hid (firstOf l s = none → takeOk l ts s = false) := Lib.hid (fun h => by unfold takeOk; rw [h]; simp)
  generalize takeL l ts s = tl at *
  generalize takeT l ts s = tt at *
  generalize takeN l ts s = tn at *
  generalize takeOk l ts s = tok at *
  clear hb1 hp1 hr1 hS hT hml
  go_enter Tryz.func26, Tryz.ntmps26
  go_wp2
  generalize (w.alloc (.cells #[.slice S m c, .slice T k d] 25)).alloc (.cells #[.slice none 0 0, .slice none 0 0] 25) = W1 at *
  go_loopw [7] (fun i wr => ∃ j : Nat, j ≤ m ∧ i = .int .i64 (j : Nat) ∧ (∀ q, q < j → l.getD q 0 ≠ s) ∧ Below W1.heap.size W1 wr) (fun i _ => m - (intOf i).toNat)
  case atStart => exact ⟨0, Nat.zero_le _, rfl, fun q hq => absurd hq (by omega), Below.refl _ _⟩
  case round =>
    obtain ⟨j, hj, rfl, hz, hb⟩ := hrel
    have HZ := Lib.hid hz
    have Hb := Lib.hid hb
    have k0 : wr.cell? ⟨w.heap.size, 0, none⟩ = some (.slice S m c) := by have := (HP1.out.ext hb).cell 0; simpa using this
    have k1 : wr.cell? ⟨w.heap.size, 1, none⟩ = some (.slice T k d) := by have := (HP1.out.ext hb).cell 1; simpa using this
    clear hz hb
    by_cases hlt : j < m
    · have h := rright_any S m c T k d l ts wr (HSR.out.ext Hb.out) (HT.out.ext Hb.out) hm hk
      cases hp : pRight l ts
      · rw [hp] at h
        obtain rfl := OKW.out hp
        obtain ⟨rfl, rfl, rfl⟩ := NO.out rfl
        clear hp OKW OKF NO YES
        go_wp2_with fail
        refine h.mono ?_
        clear h
        rintro e w3 ⟨rfl, hb3⟩
        obtain ⟨⟨r0, r1, f0, f1⟩, q0, q1, hB⟩ := res_two (a' := .slice none 0 0) (b' := .slice none 0 0) (HR1.out.ext (below_le Hb.out hb3)) (below_le HB1.out (below_le Hb.out hb3)) (by omega)
        have HB := Lib.hid hB
        clear hb3 hB k0 k1
        go_wp2
        exact bodyPost_ret (v := .tuple #[.agg #[.slice none 0 0, .slice none 0 0], .int .i64 0, .bool false]) (by simp [results, Tryz.results26, go_sem, q0, q1]) rfl ⟨_, rfl, PoolF.none_, HB.out⟩
      · rw [hp] at h
        have HPR := Lib.hid hp
        clear hp OKW NO
        go_wp2_with fail
        refine h.mono ?_
        clear h
        rintro e w3 ⟨rfl, hb3⟩
        have Hb3 := Lib.hid (below_le Hb.out hb3)
        replace k0 := cell_ext hb3 k0
        replace k1 := cell_ext hb3 k1
        clear hb3
        obtain ⟨b, off, x, rfl, hcx, hx, -⟩ := num_at (HSR.out.ext Hb3.out) hlt
        by_cases hxs : x = s
        · subst hxs
          obtain ⟨rfl, rfl, rfl, rfl⟩ := YES.out j HPR.out (first_is (by have := HML.out; omega) hx HZ.out)
          clear YES OKF hx
          go_wp2_with fail
          refine (rown_any _ m c T k d l ts w3 (HSR.out.ext Hb3.out) (HT.out.ext Hb3.out) hm hk).mono ?_
          rintro e w4 ⟨SA, SC, TA, TD, vs, rfl, hT4, hb4⟩
          have hx4 := below_box w4 (.cells #[.slice SA l.length SC, .slice TA ts.length TD] 25)
          have BX : Hid (Blk (w4.alloc (.cells #[.slice SA l.length SC, .slice TA ts.length TD] 25)) w4.heap.size 25 #[.slice SA l.length SC, .slice TA ts.length TD]) := Lib.hid (heap_new rfl _)
          have TQ := Lib.hid ((Tbq.of hT4).ext hx4)
          have R4 := Lib.hid (HR1.out.ext (below_le Hb3.out (below_le hb4 hx4)))
          have B4 := Lib.hid (below_le HB1.out (below_le Hb3.out (below_le hb4 hx4)))
          have hw3 : w.heap.size ≤ w3.heap.size := Nat.le_trans HB1.out.size Hb3.out.size
          have hgt : w.heap.size + 1 < w4.heap.size := Nat.lt_of_lt_of_le HR1.out.lt (Nat.le_trans Hb3.out.size hb4.size)
          have hcap := own_cap hT4.st
          clear hT4 hb4 hx4 k0 k1 hcx
          go_upto_region 6 with fail
          generalize w4.alloc (.cells #[.slice SA l.length SC, .slice TA ts.length TD] 25) = W5 at *
          generalize w4.heap.size = B5 at *
          have hjl : j < l.length := by have := HML.out; omega
          obtain ⟨g, cur, rfl, hgb, hbk, hcx⟩ := TQ.out.st.at_ hjl
          have b0 : W5.cell? ⟨B5, 0, none⟩ = some (.slice (some ⟨g, 0, none⟩) l.length SC) := by have := BX.out.cell 0; simpa using this
          obtain ⟨u0, hcu⟩ : ∃ u, W5.cell? ⟨g, j, none⟩ = some u := ⟨_, hcx⟩
          have fz := hbk.frozen j
          have hjl2 : (j : Int) < (l.length : Int) := by omega
          have TQ6 := Lib.hid (TQ.out.setS hjl 5)
          have BX6 := Lib.hid (BX.out.far (p := ⟨g, j, none⟩) (blk_ne BX.out hbk (by decide)) (.int .i64 5))
          have R6 := Lib.hid (R4.out.far (p := ⟨g, j, none⟩) (blk_ne R4.out hbk (by decide)) (.int .i64 5))
          have B6 := Lib.hid (B4.out.setCell (p := ⟨g, j, none⟩) (by show w.heap.size ≤ g; omega) (.int .i64 5))
          clear hcx hbk TQ BX R4 B4 hgb
          go_upto_region 7 with fail
          generalize W5.setCell ⟨g, j, none⟩ (.int .i64 5) = W6 at *
          clear hcu fz b0
          have b0 : W6.cell? ⟨B5, 0, none⟩ = some (.slice (some ⟨g, 0, none⟩) l.length SC) := by have := BX6.out.cell 0; simpa using this
          have b1 : W6.cell? ⟨B5, 1, none⟩ = some (.slice TA ts.length TD) := by have := BX6.out.cell 1; simpa using this
          obtain ⟨⟨r0, r1, f0, f1⟩, q0, q1, hB⟩ := res_two (a' := .slice (some ⟨g, 0, none⟩) l.length SC) (b' := .slice TA ts.length TD) R6.out B6.out (by omega)
          have hrd := ((TQ6.out.far R6.out (by decide) (by decide) 0 (.slice (some ⟨g, 0, none⟩) l.length SC)).far (R6.out.set_ 0 (.slice (some ⟨g, 0, none⟩) l.length SC)) (by decide) (by decide) 1 (.slice TA ts.length TD)).poolF (base' := w.heap.size) (c := SC) (d := TD) hw3 (by rw [List.length_set]; exact hcap)
          rw [List.length_set] at hrd
          have HRD := Lib.hid hrd
          have HB := Lib.hid hB
          clear hrd hB TQ6 BX6 R6 B6
          go_wp2
          exact bodyPost_ret (v := .tuple #[.agg #[.slice (some ⟨g, 0, none⟩) l.length SC, .slice TA ts.length TD], .int .i64 j, .bool true]) (by simp [results, Tryz.results26, go_sem, q0, q1]) rfl ⟨_, rfl, HRD.out, HB.out⟩
        · have hd : (x == s) = false := by simpa using hxs
          have HX := Lib.hid (show ∀ q, q < j + 1 → l.getD q 0 ≠ s from fun q hq => by
            by_cases e : q = j
            · rw [e, hx]; exact hxs
            · exact HZ.out q (by omega))
          clear hx hxs
          go_wp2
          go_roundw
          case rel => exact ⟨j + 1, by omega, by go_num, HX.out, Hb3.out⟩
          case measure => simp [intOf]; omega
    · obtain rfl := OKF.out (first_none (fun q hq => HZ.out q (by have := HML.out; omega)))
      obtain ⟨rfl, rfl, rfl⟩ := NO.out rfl
      obtain ⟨⟨r0, r1, f0, f1⟩, q0, q1, hB⟩ := res_two (a' := .slice none 0 0) (b' := .slice none 0 0) (HR1.out.ext Hb.out) (below_le HB1.out Hb.out) (by omega)
      have HB := Lib.hid hB
      clear hB OKF NO YES OKW
      go_wp2
      exact bodyPost_ret (v := .tuple #[.agg #[.slice none 0 0, .slice none 0 0], .int .i64 0, .bool false]) (by simp [results, Tryz.results26, go_sem, q0, q1]) rfl ⟨_, rfl, PoolF.none_, HB.out⟩

end Go.Proofs.YtllanbggjfmfhaaGreatDoor
namespace Go.Proofs.YtllanbggjfmfhaaGreatDoor
open Go.RowKit Go.Shelf

/-- The first block from which so many are free. -/
theorem first_at {l : List Int} {k : Int} {i : Nat} (hr : rightL l = true) (hk : 1 ≤ k) (hi : i < l.length) (hz : ∀ j, j < i → (freeN l j : Int) < k) (hp : k ≤ (freeN l i : Int)) : ∃ r, firstR l k = some r ∧ r.1 = i := by
  have h2 := free_le l i (by omega)
  obtain ⟨r, h1, hle⟩ := fits_first (l := l) (a := i) (k := k.toNat) hr (by omega) (by omega) ((freeAt_iff (by omega)).2 fun j h3 h4 => free_all l i j h3 (by omega))
  rw [Int.toNat_of_nonneg (by omega)] at h1
  refine ⟨r, h1, ?_⟩
  rcases Nat.lt_or_ge r.1 i with h | h
  · exfalso
    have h3 := hz r.1 h
    unfold firstR at h1
    rw [if_pos (by simp [hr, hk])] at h1
    have h4 := List.find?_some h1
    have h5 := runs_mem (List.mem_of_find?_eq_some h1)
    simp only [longB, decide_eq_true_eq] at h4
    omega
  · omega
theorem first_no {l : List Int} {k : Int} (hz : ∀ j, j < l.length → (freeN l j : Int) < k) : firstR l k = none := by
  unfold firstR
  split
  · rw [List.find?_eq_none]
    intro r hm hl
    have h5 := runs_mem hm
    simp only [longB, decide_eq_true_eq] at hl
    have := hz r.1 (by omega)
    omega
  · rfl

set_option maxHeartbeats 1000000 in
theorem reffirst_any (A : Option Addr) (m c : Nat) (l : List Int) (k : Int) (w : World) (hR : Row w A m (l.map Iv)) (hm : m ≤ 1000) :
    Calls Tryz.prog 30 #[.slice A m c, .int .i64 k] w (GivesFirst w (firstR l k)) := by
  have hl := hR.1
  simp at hl
  have HR := Lib.hid hR
  have HL := Lib.hid hl
  clear hR hl
  go_enter Tryz.func30, Tryz.ntmps30
  go_wp2_with fail
  refine (refright_any A m c l w HR.out hm).mono ?_
  rintro e w' ⟨rfl, rfl⟩
  cases hr : rightL l
  · have HQ : Hid (firstR l k = none) := Lib.hid (by simp [firstR, hr])
    clear hr
    go_wp2
    exact bodyPost_ret (v := .tuple #[.int .i64 0, .bool false]) (by simp [results, Tryz.results30, go_sem]) rfl ⟨by rw [HQ.out]; rfl, Below.refl _ _⟩
  · by_cases hk : k < 1
    · have HQ : Hid (firstR l k = none) := Lib.hid (by unfold firstR; rw [decide_eq_false (show ¬ 1 ≤ k by omega)]; simp)
      clear hr
      go_wp2
      exact bodyPost_ret (v := .tuple #[.int .i64 0, .bool false]) (by simp [results, Tryz.results30, go_sem]) rfl ⟨by rw [HQ.out]; rfl, Below.refl _ _⟩
    · have Hr := Lib.hid hr
      clear hr
      go_wp2
      go_loop [6] (fun i => ∃ j : Nat, j ≤ m ∧ i = .int .i64 j ∧ ∀ q, q < j → (freeN l q : Int) < k) (fun i => m - (intOf i).toNat)
      case atStart => exact ⟨0, Nat.zero_le _, rfl, fun q hq => absurd hq (by omega)⟩
      case round =>
        obtain ⟨j, hj, rfl, hz⟩ := hrel
        have HZ := Lib.hid hz
        clear hz
        by_cases hlt : j < m
        · have h := free_any A m c l j w HR.out hm (by omega)
          obtain ⟨q, hq⟩ : ∃ q, freeN l j = q := ⟨_, rfl⟩
          rw [hq] at h
          have HQ := Lib.hid hq
          have HH := Lib.hid h
          clear h hq
          go_wp2_with fail
          refine HH.out.mono ?_
          rintro e w' ⟨rfl, rfl⟩
          by_cases hqk : k ≤ (q : Int)
          · go_wp2
            obtain ⟨r, h1, h2⟩ := first_at Hr.out (by omega) (by have := HL.out; omega) HZ.out (by rw [HQ.out]; exact hqk)
            refine bodyPost_ret (v := .tuple #[.int .i64 j, .bool true]) (by simp [results, Tryz.results30, go_sem]) rfl ⟨?_, Below.refl _ _⟩
            rw [h1]
            simp only [Option.getD_some, Option.isSome_some, h2]
          · go_wp2
            go_round
            case rel => exact ⟨j + 1, by omega, by go_num, fun q' hq' => by
              by_cases e : q' = j
              · rw [e, HQ.out]; omega
              · exact HZ.out q' (by omega)⟩
            case measure => simp [intOf]; omega
        · go_wp2
          refine bodyPost_ret (v := .tuple #[.int .i64 0, .bool false]) (by simp [results, Tryz.results30, go_sem]) rfl ⟨?_, Below.refl _ _⟩
          rw [first_no (fun q hq => HZ.out q (by have := HL.out; omega))]
          rfl

end Go.Proofs.YtllanbggjfmfhaaGreatDoor
namespace Go.Proofs.YtllanbggjfmfhaaGreatDoor
open Go.RowKit Go.Shelf

set_option maxRecDepth 100000 in
set_option maxHeartbeats 2000000 in
/-- The reference's Close. -/
theorem rclose_any (S : Option Addr) (m c : Nat) (T : Option Addr) (k d : Nat) (l : List Int) (ts : List (List Int)) (b : Int) (w : World) (hS : Row w S m (l.map Iv)) (hT : Tabs w T k ts) (hm : m ≤ 1000) (hk : k ≤ 1000) :
    Calls Tryz.prog 16 #[.agg #[.slice S m c, .slice T k d], .int .i64 b] w (GivesErr w (closeL l ts b) (closeT l ts b) (closeC l ts b)) := by
  have hb1 : Below w.heap.size w ((w.alloc (.cells #[.slice S m c, .slice T k d] 25)).alloc (.cells #[.slice none 0 0, .slice none 0 0] 25)) := below_le (below_box _ _) (below_box _ _)
  have hp1 : Blk ((w.alloc (.cells #[.slice S m c, .slice T k d] 25)).alloc (.cells #[.slice none 0 0, .slice none 0 0] 25)) w.heap.size 25 #[.slice S m c, .slice T k d] := Blk.alloc (heap_new rfl _) _
  have hr1 : Blk ((w.alloc (.cells #[.slice S m c, .slice T k d] 25)).alloc (.cells #[.slice none 0 0, .slice none 0 0] 25)) (w.heap.size + 1) 25 #[.slice none 0 0, .slice none 0 0] := heap_new (by simp) _
  have hz1 : ((w.alloc (.cells #[.slice S m c, .slice T k d] 25)).alloc (.cells #[.slice none 0 0, .slice none 0 0] 25)).heap.size = w.heap.size + 2 := by simp
  have HB := Lib.hid hb1
  have HP := Lib.hid hp1
  have HRS := Lib.hid hr1
  have HS := Lib.hid (hS.ext hb1)
  have HT := Lib.hid (hT.ext hb1)
  have hml := hS.1
  rw [List.length_map] at hml
  have HML := Lib.hid hml
  have F100 : Hid (pRight l ts = false → closeL l ts b = [] ∧ closeT l ts b = [] ∧ closeC l ts b = 100) := Lib.hid (fun h => ⟨by unfold closeL; rw [h]; rfl, by unfold closeT; rw [h]; rfl, by unfold closeC; rw [h]; rfl⟩)
  have F90 : Hid (pRight l ts = true → hasN l b [5] = false → closeL l ts b = [] ∧ closeT l ts b = [] ∧ closeC l ts b = 90) := Lib.hid (fun h h2 => ⟨by unfold closeL; rw [h2]; simp, by unfold closeT; rw [h2]; simp, by unfold closeC; rw [h, h2]; rfl⟩)
  have F0 : Hid (pRight l ts = true → hasN l b [5] = true → l.set b.toNat 2 = closeL l ts b ∧ ts = closeT l ts b ∧ closeC l ts b = 0) := Lib.hid (fun h h2 => ⟨by unfold closeL; rw [h, h2]; rfl, by unfold closeT; rw [h, h2]; rfl, by unfold closeC; rw [h, h2]; rfl⟩)
  generalize closeL l ts b = tl at *
  generalize closeT l ts b = tt at *
  generalize closeC l ts b = cc at *
  clear hb1 hr1 hp1 hS hT hml
  go_enter Tryz.func16, Tryz.ntmps16
  go_wp2_with fail
  generalize ((w.alloc (.cells #[.slice S m c, .slice T k d] 25)).alloc (.cells #[.slice none 0 0, .slice none 0 0] 25)) = W1 at *
  have k0 : W1.cell? ⟨w.heap.size, 0, none⟩ = some (.slice S m c) := by have := HP.out.cell 0; simpa using this
  have k1 : W1.cell? ⟨w.heap.size, 1, none⟩ = some (.slice T k d) := by have := HP.out.cell 1; simpa using this
  have h := rright_any S m c T k d l ts W1 HS.out HT.out hm hk
  cases hp : pRight l ts
  · rw [hp] at h
    obtain ⟨rfl, rfl, rfl⟩ := F100.out hp
    clear hp F90 F0
    refine h.mono ?_
    clear h
    rintro e w3 ⟨rfl, hb3⟩
    replace HRS := Lib.hid (HRS.out.ext hb3)
    replace HP := Lib.hid (HP.out.ext hb3)
    replace HS := Lib.hid (HS.out.ext hb3)
    replace HT := Lib.hid (HT.out.ext hb3)
    replace HB := Lib.hid (below_le HB.out hb3)
    clear hb3 k0 k1
    obtain ⟨⟨r0, r1, f0, f1⟩, q0, q1, hB⟩ := res_two (a' := .slice none 0 0) (b' := .slice none 0 0) HRS.out HB.out (by omega)
    have HB2 := Lib.hid hB
    clear hB
    go_wp2
    exact bodyPost_ret (v := .tuple #[.agg #[.slice none 0 0, .slice none 0 0], .int .i64 100]) (by simp [results, Tryz.results16, go_sem, q0, q1]) rfl ⟨_, rfl, PoolF.none_, HB2.out⟩
  · rw [hp] at h
    have HPR := Lib.hid hp
    clear hp
    refine h.mono ?_
    clear h
    rintro e w3 ⟨rfl, hb3⟩
    replace HRS := Lib.hid (HRS.out.ext hb3)
    replace HP := Lib.hid (HP.out.ext hb3)
    replace HS := Lib.hid (HS.out.ext hb3)
    replace HT := Lib.hid (HT.out.ext hb3)
    replace HB := Lib.hid (below_le HB.out hb3)
    replace k0 := cell_ext hb3 k0
    replace k1 := cell_ext hb3 k1
    clear hb3
    cases hn : hasN l b [5]
    · obtain ⟨rfl, rfl, rfl⟩ := F90.out HPR.out hn
      clear F0
      by_cases b1 : b < 0
      · clear hn
        obtain ⟨⟨r0, r1, f0, f1⟩, q0, q1, hB⟩ := res_two (a' := .slice none 0 0) (b' := .slice none 0 0) HRS.out HB.out (by omega)
        have HB2 := Lib.hid hB
        clear hB
        go_wp2
        exact bodyPost_ret (v := .tuple #[.agg #[.slice none 0 0, .slice none 0 0], .int .i64 90]) (by simp [results, Tryz.results16, go_sem, q0, q1]) rfl ⟨_, rfl, PoolF.none_, HB2.out⟩
      by_cases b2 : (m : Int) ≤ b
      · clear hn
        obtain ⟨⟨r0, r1, f0, f1⟩, q0, q1, hB⟩ := res_two (a' := .slice none 0 0) (b' := .slice none 0 0) HRS.out HB.out (by omega)
        have HB2 := Lib.hid hB
        clear hB
        go_wp2
        exact bodyPost_ret (v := .tuple #[.agg #[.slice none 0 0, .slice none 0 0], .int .i64 90]) (by simp [results, Tryz.results16, go_sem, q0, q1]) rfl ⟨_, rfl, PoolF.none_, HB2.out⟩
      · obtain ⟨i, rfl⟩ : ∃ i : Nat, b = i := ⟨b.toNat, by omega⟩
        have him : i < m := by omega
        obtain ⟨sb, so, x, rfl, hcx, hx, -⟩ := num_at HS.out him
        have hx5 : (x != 5) = true := by
          unfold hasN at hn
          rw [Int.toNat_natCast, hx, decide_eq_true (show (0 : Int) ≤ (i : Int) by omega), decide_eq_true (show (i : Int) < (l.length : Int) by have := HML.out; omega)] at hn
          simpa [hasB] using hn
        have g1 : decide ((i : Int) < 0) = false := by simp
        have g2 : decide ((i : Int) ≥ (m : Int)) = false := by simp; omega
        have n2 : ¬ m ≤ i := by omega
        clear hn hx
        obtain ⟨⟨r0, r1, f0, f1⟩, q0, q1, hB⟩ := res_two (a' := .slice none 0 0) (b' := .slice none 0 0) HRS.out HB.out (by omega)
        have HB2 := Lib.hid hB
        clear hB
        go_wp2
        exact bodyPost_ret (v := .tuple #[.agg #[.slice none 0 0, .slice none 0 0], .int .i64 90]) (by simp [results, Tryz.results16, go_sem, q0, q1]) rfl ⟨_, rfl, PoolF.none_, HB2.out⟩
    · obtain ⟨rfl, rfl, rfl⟩ := F0.out HPR.out hn
      obtain ⟨i, rfl, hjl, hh⟩ := hasN_lt hn
      have HTN : Hid ((i : Int).toNat = i) := Lib.hid (Int.toNat_natCast i)
      have him : i < m := by have := HML.out; omega
      obtain ⟨sb, so, x, rfl, hcx, hx, -⟩ := num_at HS.out him
      obtain rfl : x = 5 := by rw [hx] at hh; simpa [hasB] using hh
      have g1 : decide ((i : Int) < 0) = false := by simp
      have g2 : decide ((i : Int) ≥ (m : Int)) = false := by simp; omega
      have n2 : ¬ m ≤ i := by omega
      have him2 : (i : Int) < (m : Int) := by omega
      have hjl2 : (i : Int) < (l.length : Int) := by omega
      clear hn hx hh
      go_wp2_with fail
      refine (rown_any _ m c T k d l ts w3 HS.out HT.out hm hk).mono ?_
      rintro e w4 ⟨SA, SC, TA, TD, vs, rfl, hT4, hb4⟩
      have hx4 := below_box w4 (.cells #[.slice SA l.length SC, .slice TA ts.length TD] 25)
      have hcap := own_cap hT4.st
      have BX : Hid (Blk (w4.alloc (.cells #[.slice SA l.length SC, .slice TA ts.length TD] 25)) w4.heap.size 25 #[.slice SA l.length SC, .slice TA ts.length TD]) := Lib.hid (heap_new rfl _)
      have TQ := Lib.hid ((Tbq.of hT4).ext hx4)
      have hw3 : w.heap.size ≤ w3.heap.size := HB.out.size
      have hgt : w.heap.size + 1 < w4.heap.size := Nat.lt_of_lt_of_le HRS.out.lt hb4.size
      replace HRS := Lib.hid (HRS.out.ext (below_le hb4 hx4))
      replace HB := Lib.hid (below_le HB.out (below_le hb4 hx4))
      replace HP := Lib.hid (HP.out.ext (below_le hb4 hx4))
      clear hT4 hb4 hx4
      clear k0 k1 hcx
      go_upto_region 6 with fail
      generalize w4.alloc (.cells #[.slice SA l.length SC, .slice TA ts.length TD] 25) = W5 at *
      generalize w4.heap.size = B5 at *
      obtain ⟨g, cur, rfl, hgb, hbk, hcx⟩ := TQ.out.st.at_ (k := i) (by simpa using hjl)
      have b0 : W5.cell? ⟨B5, 0, none⟩ = some (.slice (some ⟨g, 0, none⟩) l.length SC) := by have := BX.out.cell 0; simpa using this
      obtain ⟨u0, hcu⟩ : ∃ u, W5.cell? ⟨g, i, none⟩ = some u := ⟨_, hcx⟩
      have fz := hbk.frozen i
      replace TQ := Lib.hid (TQ.out.setS (k := i) (by simpa using hjl) 2)
      replace BX := Lib.hid (BX.out.far (p := ⟨g, i, none⟩) (blk_ne BX.out hbk (by decide)) (.int .i64 2))
      replace HRS := Lib.hid (HRS.out.far (p := ⟨g, i, none⟩) (blk_ne HRS.out hbk (by decide)) (.int .i64 2))
      replace HB := Lib.hid (HB.out.setCell (p := ⟨g, i, none⟩) (by show w.heap.size ≤ g; omega) (.int .i64 2))
      clear hcx hbk hgb
      go_upto_region 7 with fail
      generalize W5.setCell ⟨g, i, none⟩ (.int .i64 2) = W6 at *
      clear hcu fz b0
      have b0 : W6.cell? ⟨B5, 0, none⟩ = some (.slice (some ⟨g, 0, none⟩) l.length SC) := by have := BX.out.cell 0; simpa using this
      have b1 : W6.cell? ⟨B5, 1, none⟩ = some (.slice TA ts.length TD) := by have := BX.out.cell 1; simpa using this
      obtain ⟨⟨r0, r1, f0, f1⟩, q0, q1, hB⟩ := res_two (a' := .slice (some ⟨g, 0, none⟩) l.length SC) (b' := .slice TA ts.length TD) HRS.out HB.out (by omega)
      have hrd := ((TQ.out.far HRS.out (by decide) (by decide) 0 (.slice (some ⟨g, 0, none⟩) l.length SC)).far (HRS.out.set_ 0 (.slice (some ⟨g, 0, none⟩) l.length SC)) (by decide) (by decide) 1 (.slice TA ts.length TD)).poolF (base' := w.heap.size) (c := SC) (d := TD) hw3 (by rw [List.length_set]; exact hcap)
      rw [List.length_set] at hrd
      have HRD := Lib.hid hrd
      have HB2 := Lib.hid hB
      clear hrd hB TQ BX HRS
      go_wp2
      exact bodyPost_ret (v := .tuple #[.agg #[.slice (some ⟨g, 0, none⟩) l.length SC, .slice TA ts.length TD], .int .i64 0]) (by simp [results, Tryz.results16, go_sem, q0, q1]) rfl ⟨_, rfl, (by rw [HTN.out]; exact HRD.out), HB2.out⟩

end Go.Proofs.YtllanbggjfmfhaaGreatDoor
namespace Go.Proofs.YtllanbggjfmfhaaGreatDoor
open Go.RowKit Go.Shelf

/-- A list in new memory is what it was wherever new memory is. -/
theorem row_agree {w X : World} {base : Nat} {A : Option Addr} {n : Nat} {xs : List Value} (h : Row w A n xs) (hA : ∀ a, A = some a → base ≤ a.block) (hX : ∀ b, base ≤ b → b < w.heap.size → X.heap[b]? = w.heap[b]?) : Row X A n xs := by
  refine ⟨h.1, fun hp => ?_⟩
  obtain ⟨b, off, e, hc⟩ := h.2 hp
  refine ⟨b, off, e, fun j u hu => ?_⟩
  have h1 := hc j u hu
  exact (World.cell?_of_block (w := w) (a := ⟨b, off + j, none⟩) (hX b (hA _ e) (lt_of_cell h1))).trans h1

set_option maxHeartbeats 1000000 in
/-- The reference's TakeFree. -/
theorem rtakeFree_any (S : Option Addr) (m c : Nat) (T : Option Addr) (k d : Nat) (l : List Int) (ts : List (List Int)) (w : World) (hS : Row w S m (l.map Iv)) (hT : Tabs w T k ts) (hm : m ≤ 1000) (hk : k ≤ 1000) :
    Calls Tryz.prog 8 #[.agg #[.slice S m c, .slice T k d]] w (GivesTake w (takeL l ts 0) (takeT l ts 0) (takeN l ts 0 : Nat) (takeOk l ts 0)) := by
  have hb1 : Below w.heap.size w ((w.alloc (.cells #[.slice S m c, .slice T k d] 25)).alloc (.cells #[.slice none 0 0, .slice none 0 0] 25)) := below_le (below_box _ _) (below_box _ _)
  have hp1 : Blk ((w.alloc (.cells #[.slice S m c, .slice T k d] 25)).alloc (.cells #[.slice none 0 0, .slice none 0 0] 25)) w.heap.size 25 #[.slice S m c, .slice T k d] := Blk.alloc (heap_new rfl _) _
  have hr1 : Blk ((w.alloc (.cells #[.slice S m c, .slice T k d] 25)).alloc (.cells #[.slice none 0 0, .slice none 0 0] 25)) (w.heap.size + 1) 25 #[.slice none 0 0, .slice none 0 0] := heap_new (by simp) _
  have hz1 : ((w.alloc (.cells #[.slice S m c, .slice T k d] 25)).alloc (.cells #[.slice none 0 0, .slice none 0 0] 25)).heap.size = w.heap.size + 2 := by simp
  have HB := Lib.hid hb1
  have HP := Lib.hid hp1
  have HRS := Lib.hid hr1
  have HS := Lib.hid (hS.ext hb1)
  have HT := Lib.hid (hT.ext hb1)
  have hcall := rtake_any S m c T k d l ts 0 _ (hS.ext hb1) (hT.ext hb1) hm hk
  have HC := Lib.hid hcall
  generalize takeL l ts 0 = tl at *
  generalize takeT l ts 0 = tt at *
  generalize takeN l ts 0 = tn at *
  generalize takeOk l ts 0 = tok at *
  clear hb1 hr1 hp1 hcall hS hT
  go_enter Tryz.func8, Tryz.ntmps8
  go_wp2_with fail
  generalize ((w.alloc (.cells #[.slice S m c, .slice T k d] 25)).alloc (.cells #[.slice none 0 0, .slice none 0 0] 25)) = W1 at *
  refine HC.out.mono ?_
  rintro e w2 ⟨v, rfl, hp, hb2⟩
  obtain ⟨S', m', c', T', k', d', rfl, -⟩ := hp.read
  obtain ⟨⟨r0, r1, f0, f1⟩, q0, q1, hB⟩ := res_two (a' := .slice S' m' c') (b' := .slice T' k' d') (HRS.out.ext hb2) (below_le HB.out hb2) (by omega)
  have HPF := Lib.hid (((hp.far (p := ⟨w.heap.size + 1, 0, none⟩) (by show w.heap.size + 1 < _; omega) (.slice S' m' c')).far (p := ⟨w.heap.size + 1, 1, none⟩) (by show w.heap.size + 1 < _; omega) (.slice T' k' d')).mono (base' := w.heap.size) (by omega))
  have HB2 := Lib.hid hB
  clear hp hb2 hB HC
  go_wp2
  exact bodyPost_ret (v := .tuple #[.agg #[.slice S' m' c', .slice T' k' d'], .int .i64 tn, .bool tok]) (by simp [results, Tryz.results8, go_sem, q0, q1]) rfl ⟨_, rfl, HPF.out, HB2.out⟩

set_option maxHeartbeats 1000000 in
/-- The reference's TakeHole. -/
theorem rtakeHole_any (S : Option Addr) (m c : Nat) (T : Option Addr) (k d : Nat) (l : List Int) (ts : List (List Int)) (w : World) (hS : Row w S m (l.map Iv)) (hT : Tabs w T k ts) (hm : m ≤ 1000) (hk : k ≤ 1000) :
    Calls Tryz.prog 10 #[.agg #[.slice S m c, .slice T k d]] w (GivesTake w (takeL l ts 1) (takeT l ts 1) (takeN l ts 1 : Nat) (takeOk l ts 1)) := by
  have hb1 : Below w.heap.size w ((w.alloc (.cells #[.slice S m c, .slice T k d] 25)).alloc (.cells #[.slice none 0 0, .slice none 0 0] 25)) := below_le (below_box _ _) (below_box _ _)
  have hp1 : Blk ((w.alloc (.cells #[.slice S m c, .slice T k d] 25)).alloc (.cells #[.slice none 0 0, .slice none 0 0] 25)) w.heap.size 25 #[.slice S m c, .slice T k d] := Blk.alloc (heap_new rfl _) _
  have hr1 : Blk ((w.alloc (.cells #[.slice S m c, .slice T k d] 25)).alloc (.cells #[.slice none 0 0, .slice none 0 0] 25)) (w.heap.size + 1) 25 #[.slice none 0 0, .slice none 0 0] := heap_new (by simp) _
  have hz1 : ((w.alloc (.cells #[.slice S m c, .slice T k d] 25)).alloc (.cells #[.slice none 0 0, .slice none 0 0] 25)).heap.size = w.heap.size + 2 := by simp
  have HB := Lib.hid hb1
  have HP := Lib.hid hp1
  have HRS := Lib.hid hr1
  have HS := Lib.hid (hS.ext hb1)
  have HT := Lib.hid (hT.ext hb1)
  have hcall := rtake_any S m c T k d l ts 1 _ (hS.ext hb1) (hT.ext hb1) hm hk
  have HC := Lib.hid hcall
  generalize takeL l ts 1 = tl at *
  generalize takeT l ts 1 = tt at *
  generalize takeN l ts 1 = tn at *
  generalize takeOk l ts 1 = tok at *
  clear hb1 hr1 hp1 hcall hS hT
  go_enter Tryz.func10, Tryz.ntmps10
  go_wp2_with fail
  generalize ((w.alloc (.cells #[.slice S m c, .slice T k d] 25)).alloc (.cells #[.slice none 0 0, .slice none 0 0] 25)) = W1 at *
  refine HC.out.mono ?_
  rintro e w2 ⟨v, rfl, hp, hb2⟩
  obtain ⟨S', m', c', T', k', d', rfl, -⟩ := hp.read
  obtain ⟨⟨r0, r1, f0, f1⟩, q0, q1, hB⟩ := res_two (a' := .slice S' m' c') (b' := .slice T' k' d') (HRS.out.ext hb2) (below_le HB.out hb2) (by omega)
  have HPF := Lib.hid (((hp.far (p := ⟨w.heap.size + 1, 0, none⟩) (by show w.heap.size + 1 < _; omega) (.slice S' m' c')).far (p := ⟨w.heap.size + 1, 1, none⟩) (by show w.heap.size + 1 < _; omega) (.slice T' k' d')).mono (base' := w.heap.size) (by omega))
  have HB2 := Lib.hid hB
  clear hp hb2 hB HC
  go_wp2
  exact bodyPost_ret (v := .tuple #[.agg #[.slice S' m' c', .slice T' k' d'], .int .i64 tn, .bool tok]) (by simp [results, Tryz.results10, go_sem, q0, q1]) rfl ⟨_, rfl, HPF.out, HB2.out⟩

set_option maxRecDepth 100000 in
set_option maxHeartbeats 2000000 in
/-- The reference's TakeRun. -/
theorem rtakeRun_any (S : Option Addr) (m c : Nat) (T : Option Addr) (k d : Nat) (l : List Int) (ts : List (List Int)) (n : Int) (w : World) (hS : Row w S m (l.map Iv)) (hT : Tabs w T k ts) (hm : m ≤ 1000) (hk : k ≤ 1000) :
    Calls Tryz.prog 12 #[.agg #[.slice S m c, .slice T k d], .int .i64 n] w (GivesTake w (runL l ts n) (runT l ts n) (runN l ts n : Nat) (runOk l ts n)) := by
  have hb1 : Below w.heap.size w ((w.alloc (.cells #[.slice S m c, .slice T k d] 25)).alloc (.cells #[.slice none 0 0, .slice none 0 0] 25)) := below_le (below_box _ _) (below_box _ _)
  have hp1 : Blk ((w.alloc (.cells #[.slice S m c, .slice T k d] 25)).alloc (.cells #[.slice none 0 0, .slice none 0 0] 25)) w.heap.size 25 #[.slice S m c, .slice T k d] := Blk.alloc (heap_new rfl _) _
  have hr1 : Blk ((w.alloc (.cells #[.slice S m c, .slice T k d] 25)).alloc (.cells #[.slice none 0 0, .slice none 0 0] 25)) (w.heap.size + 1) 25 #[.slice none 0 0, .slice none 0 0] := heap_new (by simp) _
  have hz1 : ((w.alloc (.cells #[.slice S m c, .slice T k d] 25)).alloc (.cells #[.slice none 0 0, .slice none 0 0] 25)).heap.size = w.heap.size + 2 := by simp
  have HB := Lib.hid hb1
  have HP := Lib.hid hp1
  have HRS := Lib.hid hr1
  have HS := Lib.hid (hS.ext hb1)
  have HT := Lib.hid (hT.ext hb1)
  have NO : Hid (runOk l ts n = false → runL l ts n = [] ∧ runT l ts n = [] ∧ runN l ts n = 0) := Lib.hid (fun h => by unfold runL runT runN; rw [h]; exact ⟨rfl, rfl, rfl⟩)
  have OKW : Hid (pRight l ts = false → runOk l ts n = false) := Lib.hid (fun h => by unfold runOk; rw [h]; rfl)
  have OKF : Hid (firstR l n = none → runOk l ts n = false) := Lib.hid (fun h => by unfold runOk; rw [h]; simp)
  have YES : Hid (∀ r, pRight l ts = true → firstR l n = some r → runOk l ts n = true ∧ putL l r.1 n.toNat = runL l ts n ∧ ts = runT l ts n ∧ r.1 = runN l ts n) := Lib.hid (fun r h1 h2 => by
    have h3 : runOk l ts n = true := by unfold runOk; rw [h1, h2]; rfl
    have h4 : runN l ts n = r.1 := by unfold runN; rw [h3, h2]; rfl
    exact ⟨h3, by unfold runL; rw [h3, h4]; rfl, by unfold runT; rw [h3]; rfl, h4.symm⟩)
  generalize runL l ts n = tl at *
  generalize runT l ts n = tt at *
  generalize runN l ts n = tn at *
  generalize runOk l ts n = tok at *
  clear hb1 hr1 hp1 hS hT
  go_enter Tryz.func12, Tryz.ntmps12
  go_wp2_with fail
  generalize ((w.alloc (.cells #[.slice S m c, .slice T k d] 25)).alloc (.cells #[.slice none 0 0, .slice none 0 0] 25)) = W1 at *
  have k0 : W1.cell? ⟨w.heap.size, 0, none⟩ = some (.slice S m c) := by have := HP.out.cell 0; simpa using this
  have k1 : W1.cell? ⟨w.heap.size, 1, none⟩ = some (.slice T k d) := by have := HP.out.cell 1; simpa using this
  have h := reffirst_any S m c l n W1 HS.out hm
  cases hf : firstR l n with
  | none =>
    obtain rfl := OKF.out hf
    obtain ⟨rfl, rfl, rfl⟩ := NO.out rfl
    rw [hf] at h
    clear hf OKF OKW YES NO
    refine h.mono ?_
    clear h
    rintro e w2 ⟨rfl, hb2⟩
    replace HRS := Lib.hid (HRS.out.ext hb2)
    replace HP := Lib.hid (HP.out.ext hb2)
    replace HS := Lib.hid (HS.out.ext hb2)
    replace HT := Lib.hid (HT.out.ext hb2)
    replace HB := Lib.hid (below_le HB.out hb2)
    clear hb2 k0 k1
    simp only [Option.getD_none, Option.isSome_none]
    obtain ⟨⟨r0, r1, f0, f1⟩, q0, q1, hB⟩ := res_two (a' := .slice none 0 0) (b' := .slice none 0 0) HRS.out HB.out (by omega)
    have HB2 := Lib.hid hB
    clear hB
    go_wp2
    exact bodyPost_ret (v := .tuple #[.agg #[.slice none 0 0, .slice none 0 0], .int .i64 0, .bool false]) (by simp [results, Tryz.results12, go_sem, q0, q1]) rfl ⟨_, rfl, PoolF.none_, HB2.out⟩
  | some r =>
    rw [hf] at h
    obtain ⟨hpo, hn1⟩ := first_fits hf
    refine h.mono ?_
    clear h
    rintro e w2 ⟨rfl, hb2⟩
    replace HRS := Lib.hid (HRS.out.ext hb2)
    replace HP := Lib.hid (HP.out.ext hb2)
    replace HS := Lib.hid (HS.out.ext hb2)
    replace HT := Lib.hid (HT.out.ext hb2)
    replace HB := Lib.hid (below_le HB.out hb2)
    replace k0 := cell_ext hb2 k0
    replace k1 := cell_ext hb2 k1
    clear hb2
    simp only [Option.getD_some, Option.isSome_some]
    have h := rright_any S m c T k d l ts w2 HS.out HT.out hm hk
    cases hp : pRight l ts
    · rw [hp] at h
      obtain rfl := OKW.out hp
      obtain ⟨rfl, rfl, rfl⟩ := NO.out rfl
      clear hf hp OKF OKW YES NO hpo
      go_wp2_with fail
      refine h.mono ?_
      clear h
      rintro e w3 ⟨rfl, hb3⟩
      replace HRS := Lib.hid (HRS.out.ext hb3)
      replace HP := Lib.hid (HP.out.ext hb3)
      replace HS := Lib.hid (HS.out.ext hb3)
      replace HT := Lib.hid (HT.out.ext hb3)
      replace HB := Lib.hid (below_le HB.out hb3)
      clear hb3 k0 k1
      obtain ⟨⟨r0, r1, f0, f1⟩, q0, q1, hB⟩ := res_two (a' := .slice none 0 0) (b' := .slice none 0 0) HRS.out HB.out (by omega)
      have HB2 := Lib.hid hB
      clear hB
      go_wp2
      exact bodyPost_ret (v := .tuple #[.agg #[.slice none 0 0, .slice none 0 0], .int .i64 0, .bool false]) (by simp [results, Tryz.results12, go_sem, q0, q1]) rfl ⟨_, rfl, PoolF.none_, HB2.out⟩
    · rw [hp] at h
      obtain ⟨rfl, rfl, rfl, rfl⟩ := YES.out r hp hf
      have hw := (pright_iff.1 hp).1
      have hres : resP l (r.1 : Int) n = putL l r.1 n.toNat := by unfold resP; rw [hw, hpo]; rfl
      have HRES := Lib.hid hres
      have hlen : (putL l r.1 n.toNat).length = l.length := put_len _ _ _
      have HLEN := Lib.hid hlen
      clear hf hp OKF OKW YES NO hw hres hlen
      go_wp2_with fail
      refine h.mono ?_
      clear h
      rintro e w3 ⟨rfl, hb3⟩
      replace HRS := Lib.hid (HRS.out.ext hb3)
      replace HP := Lib.hid (HP.out.ext hb3)
      replace HS := Lib.hid (HS.out.ext hb3)
      replace HT := Lib.hid (HT.out.ext hb3)
      replace HB := Lib.hid (below_le HB.out hb3)
      replace k0 := cell_ext hb3 k0
      replace k1 := cell_ext hb3 k1
      clear hb3
      go_wp2_with fail
      refine (rown_any S m c T k d l ts w3 HS.out HT.out hm hk).mono ?_
      rintro e w4 ⟨SA, SC, TA, TD, vs, rfl, hT4, hb4⟩
      have hx4 := below_box w4 (.cells #[.slice SA l.length SC, .slice TA ts.length TD] 25)
      have hcap := own_cap hT4.st
      have BX : Hid (Blk (w4.alloc (.cells #[.slice SA l.length SC, .slice TA ts.length TD] 25)) w4.heap.size 25 #[.slice SA l.length SC, .slice TA ts.length TD]) := Lib.hid (heap_new rfl _)
      have TQ := Lib.hid ((Tbq.of hT4).ext hx4)
      have hw3 : w.heap.size ≤ w3.heap.size := HB.out.size
      have hgt : w.heap.size + 1 < w4.heap.size := Nat.lt_of_lt_of_le HRS.out.lt hb4.size
      replace HRS := Lib.hid (HRS.out.ext (below_le hb4 hx4))
      replace HB := Lib.hid (below_le HB.out (below_le hb4 hx4))
      replace HP := Lib.hid (HP.out.ext (below_le hb4 hx4))
      clear hT4 hb4 hx4
      have b0 := pbox0 w4 25 (.slice SA l.length SC) (.slice TA ts.length TD)
      clear k0 k1
      go_wp2_with fail
      generalize w4.alloc (.cells #[.slice SA l.length SC, .slice TA ts.length TD] 25) = W5 at *
      have hll : l.length ≤ 1000 := by have h_ := HS.out.1; rw [List.length_map] at h_; omega
      have h := refput_fresh SA l.length SC l (r.1 : Int) n W5 TQ.out.read.1 hll
      rw [HRES.out] at h
      refine h.mono ?_
      clear h
      rintro e w6 ⟨A', m', c', rfl, hrow, hb6, hmc, hfr⟩
      have hz5 : w4.heap.size < W5.heap.size := BX.out.lt
      generalize w4.heap.size = B5 at *
      have hbx6 := BX.out.ext hb6
      have c0 : w6.cell? ⟨B5, 0, none⟩ = some (.slice SA l.length SC) := by have := hbx6.cell 0; simpa using this
      have fz := hbx6.frozen 0
      have hb7 := hbx6.set_ 0 (.slice A' m' c')
      simp at hb7
      have hfar : ∀ a, A' = some a → a.block ≠ B5 := fun a ha e => by have := hfr a ha; omega
      have hrow7 := hrow.far (p := ⟨B5, 0, none⟩) hfar (.slice A' m' c')
      have TQ7 := Lib.hid ((TQ.out.ext hb6).far hbx6 (by decide) (by decide) 0 (.slice A' m' c'))
      have HR7 := Lib.hid ((HRS.out.ext hb6).far (p := ⟨B5, 0, none⟩) (by show w.heap.size + 1 ≠ B5; omega) (.slice A' m' c'))
      have HB7 := Lib.hid ((below_le HB.out hb6).setCell (p := ⟨B5, 0, none⟩) (by show w.heap.size ≤ B5; omega) (.slice A' m' c'))
      have BX7 := Lib.hid hb7
      have HROW := Lib.hid hrow7
      have hs5 : w.heap.size ≤ W5.heap.size := HB.out.size
      clear hbx6 hb6 hb7 hrow hrow7 TQ HRS HB BX
      go_upto_region 6 with fail
      generalize w6.setCell ⟨B5, 0, none⟩ (.slice A' m' c') = W7 at *
      clear c0 fz
      have c0 : W7.cell? ⟨B5, 0, none⟩ = some (.slice A' m' c') := by have := BX7.out.cell 0; simpa using this
      have c1 : W7.cell? ⟨B5, 1, none⟩ = some (.slice TA ts.length TD) := by have := BX7.out.cell 1; simpa using this
      obtain ⟨⟨r0, r1, f0, f1⟩, q0, q1, hB⟩ := res_two (a' := .slice A' m' c') (b' := .slice TA ts.length TD) HR7.out HB7.out (by omega)
      have hQ := (TQ7.out.far HR7.out (by decide) (by decide) 0 (.slice A' m' c')).far (HR7.out.set_ 0 (.slice A' m' c')) (by decide) (by decide) 1 (.slice TA ts.length TD)
      have hne : ∀ a, A' = some a → a.block ≠ w.heap.size + 1 := fun a ha e => by have := hfr a ha; omega
      have hRw := (HROW.out.far (p := ⟨w.heap.size + 1, 0, none⟩) hne (.slice A' m' c')).far (p := ⟨w.heap.size + 1, 1, none⟩) hne (.slice TA ts.length TD)
      have hpf : PoolF ((W7.setCell ⟨w.heap.size + 1, 0, none⟩ (.slice A' m' c')).setCell ⟨w.heap.size + 1, 1, none⟩ (.slice TA ts.length TD)) w.heap.size (.agg #[.slice A' m' c', .slice TA ts.length TD]) (putL l r.1 n.toNat) ts := ⟨A', m', c', TA, _, TD, rfl, hmc, fun X hX => ⟨row_agree hRw (fun a ha => (by have := hfr a ha; omega)) hX, hQ.tabs_at fun b h1 h2 => hX b (Nat.le_trans hw3 h1) h2⟩⟩
      have HPF := Lib.hid hpf
      have HB8 := Lib.hid hB
      clear hpf hB hQ hRw TQ7 HR7 HB7 BX7 HROW
      go_wp2
      exact bodyPost_ret (v := .tuple #[.agg #[.slice A' m' c', .slice TA ts.length TD], .int .i64 r.1, .bool true]) (by simp [results, Tryz.results12, go_sem, q0, q1]) rfl ⟨_, rfl, HPF.out, HB8.out⟩

end Go.Proofs.YtllanbggjfmfhaaGreatDoor
namespace Go.Proofs.YtllanbggjfmfhaaGreatDoor
open Go.RowKit Go.Shelf

set_option maxRecDepth 100000 in
set_option maxHeartbeats 2000000 in
/-- The reference's Drop. -/
theorem rdrop_any (S : Option Addr) (m c : Nat) (T : Option Addr) (k d : Nat) (l : List Int) (ts : List (List Int)) (b : Int) (w : World) (hS : Row w S m (l.map Iv)) (hT : Tabs w T k ts) (hm : m ≤ 1000) (hk : k ≤ 1000) :
    Calls Tryz.prog 18 #[.agg #[.slice S m c, .slice T k d], .int .i64 b] w (GivesDrop w (dropL l ts b) (dropT l ts b) (dropN l ts b) (dropC l ts b)) := by
  have hb1 : Below w.heap.size w ((w.alloc (.cells #[.slice S m c, .slice T k d] 25)).alloc (.cells #[.slice none 0 0, .slice none 0 0] 25)) := below_le (below_box _ _) (below_box _ _)
  have hp1 : Blk ((w.alloc (.cells #[.slice S m c, .slice T k d] 25)).alloc (.cells #[.slice none 0 0, .slice none 0 0] 25)) w.heap.size 25 #[.slice S m c, .slice T k d] := Blk.alloc (heap_new rfl _) _
  have hr1 : Blk ((w.alloc (.cells #[.slice S m c, .slice T k d] 25)).alloc (.cells #[.slice none 0 0, .slice none 0 0] 25)) (w.heap.size + 1) 25 #[.slice none 0 0, .slice none 0 0] := heap_new (by simp) _
  have hz1 : ((w.alloc (.cells #[.slice S m c, .slice T k d] 25)).alloc (.cells #[.slice none 0 0, .slice none 0 0] 25)).heap.size = w.heap.size + 2 := by simp
  have HB := Lib.hid hb1
  have HP := Lib.hid hp1
  have HRS := Lib.hid hr1
  have HS := Lib.hid (hS.ext hb1)
  have HT := Lib.hid (hT.ext hb1)
  have F100 : Hid (pRight l ts = false → dropL l ts b = [] ∧ dropT l ts b = [] ∧ dropN l ts b = 0 ∧ dropC l ts b = 100) := Lib.hid (fun h => ⟨by unfold dropL; rw [h]; rfl, by unfold dropT; rw [h]; rfl, by unfold dropN; rw [h]; rfl, by unfold dropC; rw [h]; rfl⟩)
  have F91 : Hid (pRight l ts = true → cutOk l b = false → dropL l ts b = [] ∧ dropT l ts b = [] ∧ dropN l ts b = 0 ∧ dropC l ts b = 91) := Lib.hid (fun h h2 => ⟨by unfold dropL; rw [h2]; simp, by unfold dropT; rw [h2]; simp, by unfold dropN; rw [h2]; simp, by unfold dropC; rw [h, h2]; rfl⟩)
  have F0 : Hid (pRight l ts = true → cutOk l b = true → cutL l b.toNat (endC l b) = dropL l ts b ∧ ts = dropT l ts b ∧ endC l b - b.toNat = dropN l ts b ∧ dropC l ts b = 0) := Lib.hid (fun h h2 => ⟨by unfold dropL; rw [h, h2]; rfl, by unfold dropT; rw [h, h2]; rfl, by unfold dropN; rw [h, h2]; rfl, by unfold dropC; rw [h, h2]; rfl⟩)
  generalize dropL l ts b = tl at *
  generalize dropT l ts b = tt at *
  generalize dropN l ts b = tn at *
  generalize dropC l ts b = cc at *
  clear hb1 hr1 hp1 hS hT
  go_enter Tryz.func18, Tryz.ntmps18
  go_wp2_with fail
  generalize ((w.alloc (.cells #[.slice S m c, .slice T k d] 25)).alloc (.cells #[.slice none 0 0, .slice none 0 0] 25)) = W1 at *
  have k0 : W1.cell? ⟨w.heap.size, 0, none⟩ = some (.slice S m c) := by have := HP.out.cell 0; simpa using this
  have k1 : W1.cell? ⟨w.heap.size, 1, none⟩ = some (.slice T k d) := by have := HP.out.cell 1; simpa using this
  have h := rright_any S m c T k d l ts W1 HS.out HT.out hm hk
  cases hp : pRight l ts
  · rw [hp] at h
    obtain ⟨rfl, rfl, rfl, rfl⟩ := F100.out hp
    clear hp F91 F0
    refine h.mono ?_
    clear h
    rintro e w3 ⟨rfl, hb3⟩
    replace HRS := Lib.hid (HRS.out.ext hb3)
    replace HS := Lib.hid (HS.out.ext hb3)
    replace HT := Lib.hid (HT.out.ext hb3)
    replace HB := Lib.hid (below_le HB.out hb3)
    clear hb3 k0 k1
    obtain ⟨⟨r0, r1, f0, f1⟩, q0, q1, hB⟩ := res_two (a' := .slice none 0 0) (b' := .slice none 0 0) HRS.out HB.out (by omega)
    have HB2 := Lib.hid hB
    clear hB
    go_wp2
    exact bodyPost_ret (v := .tuple #[.agg #[.slice none 0 0, .slice none 0 0], .int .i64 0, .int .i64 100]) (by simp [results, Tryz.results18, go_sem, q0, q1]) rfl ⟨_, rfl, PoolF.none_, HB2.out⟩
  · rw [hp] at h
    have hw := (pright_iff.1 hp).1
    have HPR := Lib.hid hp
    clear hp F100
    refine h.mono ?_
    clear h
    rintro e w3 ⟨rfl, hb3⟩
    replace HRS := Lib.hid (HRS.out.ext hb3)
    replace HS := Lib.hid (HS.out.ext hb3)
    replace HT := Lib.hid (HT.out.ext hb3)
    replace HB := Lib.hid (below_le HB.out hb3)
    replace k0 := cell_ext hb3 k0
    replace k1 := cell_ext hb3 k1
    clear hb3
    go_wp2_with fail
    have h := refcut_fresh S m c l b w3 HS.out hm
    cases hn : cutOk l b
    · obtain ⟨rfl, rfl, rfl, rfl⟩ := F91.out HPR.out hn
      rw [show codeC l b = 91 by unfold codeC; rw [hw, hn]; rfl, show resC l b = [] by unfold resC; rw [hn]; simp, show numC l b = 0 by unfold numC; rw [hn]; simp] at h
      clear hn hw F0 F91
      refine h.mono ?_
      clear h
      rintro e w4 ⟨A', m', c', rfl, -, hb4, -, -⟩
      replace HRS := Lib.hid (HRS.out.ext hb4)
      replace HS := Lib.hid (HS.out.ext hb4)
      replace HT := Lib.hid (HT.out.ext hb4)
      replace HB := Lib.hid (below_le HB.out hb4)
      clear hb4 k0 k1
      obtain ⟨⟨r0, r1, f0, f1⟩, q0, q1, hB⟩ := res_two (a' := .slice none 0 0) (b' := .slice none 0 0) HRS.out HB.out (by omega)
      have HB2 := Lib.hid hB
      clear hB
      go_wp2
      exact bodyPost_ret (v := .tuple #[.agg #[.slice none 0 0, .slice none 0 0], .int .i64 0, .int .i64 91]) (by simp [results, Tryz.results18, go_sem, q0, q1]) rfl ⟨_, rfl, PoolF.none_, HB2.out⟩
    · obtain ⟨rfl, rfl, rfl, rfl⟩ := F0.out HPR.out hn
      rw [show codeC l b = 0 by unfold codeC; rw [hw, hn]; rfl, show resC l b = cutL l b.toNat (endC l b) by unfold resC; rw [hw, hn]; rfl, show numC l b = endC l b - b.toNat by unfold numC; rw [hw, hn]; rfl] at h
      generalize cutL l b.toNat (endC l b) = l2 at *
      generalize endC l b - b.toNat = q at *
      clear hn hw F91
      refine h.mono ?_
      clear h
      have hw3 : w.heap.size + 1 < w3.heap.size := HRS.out.lt
      rintro e w5 ⟨A', m', c', rfl, hrow, hb5, hmc, hfr⟩
      replace HRS := Lib.hid (HRS.out.ext hb5)
      replace HS := Lib.hid (HS.out.ext hb5)
      replace HT := Lib.hid (HT.out.ext hb5)
      replace HB := Lib.hid (below_le HB.out hb5)
      replace k0 := cell_ext hb5 k0
      replace k1 := cell_ext hb5 k1
      have hrow1 := hrow
      have HROW0 := Lib.hid hrow
      clear hb5 hrow
      go_wp2_with fail
      refine (rown_any S m c T k d l ts w5 HS.out HT.out hm hk).mono ?_
      rintro e w4 ⟨SA, SC, TA, TD, vs, rfl, hT4, hb4⟩
      have hx4 := below_box w4 (.cells #[.slice SA l.length SC, .slice TA ts.length TD] 25)
      have BX : Hid (Blk (w4.alloc (.cells #[.slice SA l.length SC, .slice TA ts.length TD] 25)) w4.heap.size 25 #[.slice SA l.length SC, .slice TA ts.length TD]) := Lib.hid (heap_new rfl _)
      have TQ := Lib.hid ((Tbq.of hT4).ext hx4)
      have hw35 : w.heap.size ≤ w5.heap.size := HB.out.size
      have hgt : w.heap.size + 1 < w4.heap.size := Nat.lt_of_lt_of_le HRS.out.lt hb4.size
      have hne5 : ∀ a, A' = some a → 0 < m' → a.block < w5.heap.size := fun a ha hm' => hrow1.block_lt hm' a ha
      have h54 : w5.heap.size ≤ w4.heap.size := hb4.size
      replace HROW0 := Lib.hid (HROW0.out.ext (below_le hb4 hx4))
      replace HRS := Lib.hid (HRS.out.ext (below_le hb4 hx4))
      replace HB := Lib.hid (below_le HB.out (below_le hb4 hx4))
      clear hT4 hb4 hx4 k0 k1 hrow1
      go_upto_region 7 with fail
      generalize w4.alloc (.cells #[.slice SA l.length SC, .slice TA ts.length TD] 25) = W5 at *
      generalize w4.heap.size = B5 at *
      have c0 : W5.cell? ⟨B5, 0, none⟩ = some (.slice SA l.length SC) := by have := BX.out.cell 0; simpa using this
      have fz := BX.out.frozen 0
      have hb7 := BX.out.set_ 0 (.slice A' m' c')
      simp at hb7
      have hrow7 : Row (W5.setCell ⟨B5, 0, none⟩ (.slice A' m' c')) A' m' (l2.map Iv) := by
        by_cases hm0 : 0 < m'
        · exact HROW0.out.far (p := ⟨B5, 0, none⟩) (fun a ha e => by have := hne5 a ha hm0; have e2 : a.block = B5 := e; omega) (.slice A' m' c')
        · exact ⟨HROW0.out.1, fun h => absurd h hm0⟩
      have TQ7 := Lib.hid (TQ.out.far BX.out (by decide) (by decide) 0 (.slice A' m' c'))
      have HR7 := Lib.hid (HRS.out.far (p := ⟨B5, 0, none⟩) (by show w.heap.size + 1 ≠ B5; omega) (.slice A' m' c'))
      have HB7 := Lib.hid (HB.out.setCell (p := ⟨B5, 0, none⟩) (by show w.heap.size ≤ B5; omega) (.slice A' m' c'))
      have BX7 := Lib.hid hb7
      have HROW := Lib.hid hrow7
      clear hb7 hrow7 TQ HRS HB BX HROW0
      go_upto_region 8 with fail
      generalize W5.setCell ⟨B5, 0, none⟩ (.slice A' m' c') = W7 at *
      clear c0 fz
      have c0 : W7.cell? ⟨B5, 0, none⟩ = some (.slice A' m' c') := by have := BX7.out.cell 0; simpa using this
      have c1 : W7.cell? ⟨B5, 1, none⟩ = some (.slice TA ts.length TD) := by have := BX7.out.cell 1; simpa using this
      obtain ⟨⟨r0, r1, f0, f1⟩, q0, q1, hB⟩ := res_two (a' := .slice A' m' c') (b' := .slice TA ts.length TD) HR7.out HB7.out (by omega)
      have hQ := (TQ7.out.far HR7.out (by decide) (by decide) 0 (.slice A' m' c')).far (HR7.out.set_ 0 (.slice A' m' c')) (by decide) (by decide) 1 (.slice TA ts.length TD)
      have hne : ∀ a, A' = some a → a.block ≠ w.heap.size + 1 := fun a ha e => by have := hfr a ha; omega
      have hRw := (HROW.out.far (p := ⟨w.heap.size + 1, 0, none⟩) hne (.slice A' m' c')).far (p := ⟨w.heap.size + 1, 1, none⟩) hne (.slice TA ts.length TD)
      have hpf : PoolF ((W7.setCell ⟨w.heap.size + 1, 0, none⟩ (.slice A' m' c')).setCell ⟨w.heap.size + 1, 1, none⟩ (.slice TA ts.length TD)) w.heap.size (.agg #[.slice A' m' c', .slice TA ts.length TD]) l2 ts := ⟨A', m', c', TA, _, TD, rfl, hmc, fun X hX => ⟨row_agree hRw (fun a ha => (by have := hfr a ha; omega)) hX, hQ.tabs_at fun b h1 h2 => hX b (Nat.le_trans hw35 h1) h2⟩⟩
      have HPF := Lib.hid hpf
      have HB8 := Lib.hid hB
      clear hpf hB hQ hRw TQ7 HR7 HB7 BX7 HROW
      go_wp2
      exact bodyPost_ret (v := .tuple #[.agg #[.slice A' m' c', .slice TA ts.length TD], .int .i64 q, .int .i64 0]) (by simp [results, Tryz.results18, go_sem, q0, q1]) rfl ⟨_, rfl, HPF.out, HB8.out⟩

end Go.Proofs.YtllanbggjfmfhaaGreatDoor
namespace Go.Proofs.YtllanbggjfmfhaaGreatDoor
open Go.RowKit Go.Shelf

set_option maxRecDepth 100000 in
set_option maxHeartbeats 4000000 in
/-- The reference's Set. -/
theorem rset_any (S : Option Addr) (m c : Nat) (T : Option Addr) (k d : Nat) (l : List Int) (ts : List (List Int)) (b : Int) (A : Option Addr) (q cq : Nat) (t : List Int) (w : World) (hS : Row w S m (l.map Iv)) (hT : Tabs w T k ts) (hm : m ≤ 1000) (hk : k ≤ 1000) (hA : Row w A q (t.map Iv)) (hq : q ≤ 1000) :
    Calls Tryz.prog 20 #[.agg #[.slice S m c, .slice T k d], .int .i64 b, .slice A q cq] w (GivesErr w (setL l ts b t) (setT l ts b t) (setC l ts b t)) := by
  obtain ⟨ii, hii, hiz0, hiz1, hiz2⟩ := info_parts int_info
  have hb1 : Below w.heap.size w ((w.alloc (.cells #[.slice S m c, .slice T k d] 25)).alloc (.cells #[.slice none 0 0, .slice none 0 0] 25)) := below_le (below_box _ _) (below_box _ _)
  have hp1 : Blk ((w.alloc (.cells #[.slice S m c, .slice T k d] 25)).alloc (.cells #[.slice none 0 0, .slice none 0 0] 25)) w.heap.size 25 #[.slice S m c, .slice T k d] := Blk.alloc (heap_new rfl _) _
  have hr1 : Blk ((w.alloc (.cells #[.slice S m c, .slice T k d] 25)).alloc (.cells #[.slice none 0 0, .slice none 0 0] 25)) (w.heap.size + 1) 25 #[.slice none 0 0, .slice none 0 0] := heap_new (by simp) _
  have hz1 : ((w.alloc (.cells #[.slice S m c, .slice T k d] 25)).alloc (.cells #[.slice none 0 0, .slice none 0 0] 25)).heap.size = w.heap.size + 2 := by simp
  have hml := hS.1
  rw [List.length_map] at hml
  have HML := Lib.hid hml
  have HAL : Hid (∀ a, A = some a → 0 < q → a.block < w.heap.size) := Lib.hid (fun a ha h0 => hA.block_lt h0 a ha)
  have HB := Lib.hid hb1
  have HP := Lib.hid hp1
  have HRS := Lib.hid hr1
  have HS := Lib.hid (hS.ext hb1)
  have HT := Lib.hid (hT.ext hb1)
  have HA := Lib.hid (hA.ext hb1)
  have F100 : Hid (pRight l ts = false → setL l ts b t = [] ∧ setT l ts b t = [] ∧ setC l ts b t = 100) := Lib.hid (fun h => ⟨by unfold setL setOk; rw [h]; rfl, by unfold setT setOk; rw [h]; rfl, by unfold setC; rw [h]; rfl⟩)
  have F90 : Hid (pRight l ts = true → (hasN l b [1, 2, 5] && tabB t) = false → setL l ts b t = [] ∧ setT l ts b t = [] ∧ setC l ts b t = 90) := Lib.hid (fun h h2 => ⟨by unfold setL setOk; rw [h2]; simp, by unfold setT setOk; rw [h2]; simp, by unfold setC; rw [h, h2]; rfl⟩)
  have F0 : Hid (pRight l ts = true → (hasN l b [1, 2, 5] && tabB t) = true → l.set b.toNat (stateOf t) = setL l ts b t ∧ ts.set b.toNat t = setT l ts b t ∧ setC l ts b t = 0) := Lib.hid (fun h h2 => ⟨by unfold setL setOk; rw [h, h2]; rfl, by unfold setT setOk; rw [h, h2]; rfl, by unfold setC; rw [h, h2]; rfl⟩)
  generalize setL l ts b t = tl at *
  generalize setT l ts b t = tt at *
  generalize setC l ts b t = cc at *
  clear hb1 hr1 hp1 hS hT hA hml
  go_enter Tryz.func20, Tryz.ntmps20
  go_wp2_with fail
  generalize ((w.alloc (.cells #[.slice S m c, .slice T k d] 25)).alloc (.cells #[.slice none 0 0, .slice none 0 0] 25)) = W1 at *
  have k0 : W1.cell? ⟨w.heap.size, 0, none⟩ = some (.slice S m c) := by have := HP.out.cell 0; simpa using this
  have k1 : W1.cell? ⟨w.heap.size, 1, none⟩ = some (.slice T k d) := by have := HP.out.cell 1; simpa using this
  have h := rright_any S m c T k d l ts W1 HS.out HT.out hm hk
  cases hp : pRight l ts
  · rw [hp] at h
    obtain ⟨rfl, rfl, rfl⟩ := F100.out hp
    clear hp F90 F0
    refine h.mono ?_
    clear h
    rintro e w3 ⟨rfl, hb3⟩
    replace HRS := Lib.hid (HRS.out.ext hb3)
    replace HS := Lib.hid (HS.out.ext hb3)
    replace HT := Lib.hid (HT.out.ext hb3)
    replace HA := Lib.hid (HA.out.ext hb3)
    replace HB := Lib.hid (below_le HB.out hb3)
    clear hb3 k0 k1
    obtain ⟨⟨r0, r1, f0, f1⟩, q0, q1, hB⟩ := res_two (a' := .slice none 0 0) (b' := .slice none 0 0) HRS.out HB.out (by omega)
    have HB2 := Lib.hid hB
    clear hB
    go_wp2
    exact bodyPost_ret (v := .tuple #[.agg #[.slice none 0 0, .slice none 0 0], .int .i64 100]) (by simp [results, Tryz.results20, go_sem, q0, q1]) rfl ⟨_, rfl, PoolF.none_, HB2.out⟩
  · rw [hp] at h
    have HPR := Lib.hid hp
    have HTL := Lib.hid (pright_iff.1 hp).2.1
    clear hp F100
    refine h.mono ?_
    clear h
    rintro e w3 ⟨rfl, hb3⟩
    replace HRS := Lib.hid (HRS.out.ext hb3)
    replace HS := Lib.hid (HS.out.ext hb3)
    replace HT := Lib.hid (HT.out.ext hb3)
    replace HA := Lib.hid (HA.out.ext hb3)
    replace HB := Lib.hid (below_le HB.out hb3)
    replace k0 := cell_ext hb3 k0
    replace k1 := cell_ext hb3 k1
    clear hb3
    by_cases b1 : b < 0
    · obtain ⟨rfl, rfl, rfl⟩ := F90.out HPR.out (by unfold hasN; rw [decide_eq_false (show ¬ 0 ≤ b by omega)]; rfl)
      clear F90 F0
      obtain ⟨⟨r0, r1, f0, f1⟩, q0, q1, hB⟩ := res_two (a' := .slice none 0 0) (b' := .slice none 0 0) HRS.out HB.out (by omega)
      have HB2 := Lib.hid hB
      clear hB
      go_wp2
      exact bodyPost_ret (v := .tuple #[.agg #[.slice none 0 0, .slice none 0 0], .int .i64 90]) (by simp [results, Tryz.results20, go_sem, q0, q1]) rfl ⟨_, rfl, PoolF.none_, HB2.out⟩
    by_cases b2 : (m : Int) ≤ b
    · obtain ⟨rfl, rfl, rfl⟩ := F90.out HPR.out (by unfold hasN; rw [decide_eq_false (show ¬ b < l.length by have := HML.out; omega)]; simp)
      clear F90 F0
      obtain ⟨⟨r0, r1, f0, f1⟩, q0, q1, hB⟩ := res_two (a' := .slice none 0 0) (b' := .slice none 0 0) HRS.out HB.out (by omega)
      have HB2 := Lib.hid hB
      clear hB
      go_wp2
      exact bodyPost_ret (v := .tuple #[.agg #[.slice none 0 0, .slice none 0 0], .int .i64 90]) (by simp [results, Tryz.results20, go_sem, q0, q1]) rfl ⟨_, rfl, PoolF.none_, HB2.out⟩
    obtain ⟨i, rfl⟩ : ∃ i : Nat, b = i := ⟨b.toNat, by omega⟩
    have him : i < m := by omega
    obtain ⟨sb, so, x, rfl, hcx, hx, -⟩ := num_at HS.out him
    have hhas : hasN l (i : Int) [1, 2, 5] = hasB [1, 2, 5] x := by
      unfold hasN
      rw [Int.toNat_natCast, hx, decide_eq_true (show (0 : Int) ≤ (i : Int) by omega), decide_eq_true (show (i : Int) < (l.length : Int) by have := HML.out; omega)]
      rfl
    rw [hhas, Int.toNat_natCast] at F0
    rw [hhas] at F90
    have g1 : decide ((i : Int) < 0) = false := by simp
    have g2 : decide ((i : Int) ≥ (m : Int)) = false := by simp; omega
    have n2 : ¬ m ≤ i := by omega
    have him2 : (i : Int) < (m : Int) := by omega
    have hrt := r7right_any A q cq t w3 HA.out (by omega)
    clear hhas hx b1 b2
    cases htb : tabB t
    · obtain ⟨rfl, rfl, rfl⟩ := F90.out HPR.out (by rw [htb]; simp)
      rw [htb] at hrt
      clear htb F90 F0
      go_wp2_with fail
      refine hrt.mono ?_
      clear hrt
      rintro e w' ⟨rfl, rfl⟩
      obtain ⟨⟨r0, r1, f0, f1⟩, q0, q1, hB⟩ := res_two (a' := .slice none 0 0) (b' := .slice none 0 0) HRS.out HB.out (by omega)
      have HB2 := Lib.hid hB
      clear hB
      go_wp2
      exact bodyPost_ret (v := .tuple #[.agg #[.slice none 0 0, .slice none 0 0], .int .i64 90]) (by simp [results, Tryz.results20, go_sem, q0, q1]) rfl ⟨_, rfl, PoolF.none_, HB2.out⟩
    · rw [htb] at hrt F90 F0
      rw [Bool.and_true] at F90 F0
      have HTB := Lib.hid htb
      clear htb
      go_wp2_with fail
      refine hrt.mono ?_
      clear hrt
      rintro e w' ⟨rfl, rfl⟩
      by_cases hx125 : x = 1 ∨ x = 2 ∨ x = 5
      · obtain ⟨rfl, rfl, rfl⟩ := F0.out HPR.out (by simpa [hasB] using hx125)
        clear F90 F0 g1 g2 n2
        have hjl : i < l.length := by have := HML.out; omega
        have hjt : i < ts.length := by have := HTL.out; omega
        have hjl2 : (i : Int) < (l.length : Int) := by omega
        have hjt2 : (i : Int) < (ts.length : Int) := by omega
        have OWN := Lib.hid (rown_any (some ⟨sb, so, none⟩) m c T k d l ts w3 HS.out HT.out hm hk)
        rcases hx125 with rfl | rfl | rfl
        all_goals
          go_wp2_with fail
          refine OWN.out.mono ?_
          clear OWN
          rintro e w4 ⟨SA, SC, TA, TD, vs, rfl, hT4, hb4⟩
          have hx4 := below_box w4 (.cells #[.slice SA l.length SC, .slice TA ts.length TD] 25)
          have hcap := own_cap hT4.st
          have BX : Hid (Blk (w4.alloc (.cells #[.slice SA l.length SC, .slice TA ts.length TD] 25)) w4.heap.size 25 #[.slice SA l.length SC, .slice TA ts.length TD]) := Lib.hid (heap_new rfl _)
          have TQ := Lib.hid ((Tbq.of hT4).ext hx4)
          have hw3 : w.heap.size ≤ w3.heap.size := HB.out.size
          have hgt : w.heap.size + 1 < w4.heap.size := Nat.lt_of_lt_of_le HRS.out.lt hb4.size
          have hw35 : w3.heap.size ≤ (w4.alloc (.cells #[.slice SA l.length SC, .slice TA ts.length TD] 25)).heap.size := Nat.le_trans hb4.size hx4.size
          replace HRS := Lib.hid (HRS.out.ext (below_le hb4 hx4))
          replace HB := Lib.hid (below_le HB.out (below_le hb4 hx4))
          replace HA := Lib.hid (HA.out.ext (below_le hb4 hx4))
          clear hT4 hb4 hx4 k0 k1 hcx HS HT HP
          go_upto_region 8 with fail
          generalize w4.alloc (.cells #[.slice SA l.length SC, .slice TA ts.length TD] 25) = W5 at *
          generalize w4.heap.size = B5 at *
          obtain ⟨gT, curT, rfl, hgbT, hbkT, hcxT⟩ := TQ.out.tb.at_ hjt
          obtain ⟨g, cur, rfl, hgb, hbk, -⟩ := TQ.out.st.at_ hjl
          have hg5 : g < W5.heap.size := hbk.lt
          have b1 : W5.cell? ⟨B5, 1, none⟩ = some (.slice (some ⟨gT, 0, none⟩) ts.length TD) := by have := BX.out.cell 1; simpa using this
          obtain ⟨u0, hcu⟩ : ∃ u, W5.cell? ⟨gT, i, none⟩ = some u := ⟨_, hcxT⟩
          have BT := Lib.hid hbkT
          have BS := Lib.hid hbk
          have t1 := ext_cell b1
          clear hcxT hbkT hbk b1
          refine wp_region_mixs 6 (by kernel_rfl) (by kernel_rfl) ?_
          first | (refine mixs_skip 0 rfl (by kernel_rfl) rfl ?_; go_frame) | (refine mixs_soft 0 rfl (by kernel_rfl) rfl (fun K hK => ?_); go_simp; first | (refine hK _ ?_; clear hK K) | (apply Exists.intro; refine ⟨fun x => ?_, hK _ ?_⟩; (· (fail)); clear hK K; try go_frame))
          first | (refine mixs_skip 1 rfl (by kernel_rfl) rfl ?_; go_frame) | (refine mixs_soft 1 rfl (by kernel_rfl) rfl (fun K hK => ?_); go_simp; first | (refine hK _ ?_; clear hK K) | (apply Exists.intro; refine ⟨fun x => ?_, hK _ ?_⟩; (· (fail)); clear hK K; try go_frame))
          first | (refine mixs_skip 2 rfl (by kernel_rfl) rfl ?_; go_frame) | (refine mixs_soft 2 rfl (by kernel_rfl) rfl (fun K hK => ?_); go_simp; first | (refine hK _ ?_; clear hK K) | (apply Exists.intro; refine ⟨fun x => ?_, hK _ ?_⟩; (· (fail)); clear hK K; try go_frame))
          first | (refine mixs_skip 3 rfl (by kernel_rfl) rfl ?_; go_frame) | (refine mixs_soft 3 rfl (by kernel_rfl) rfl (fun K hK => ?_); go_simp; first | (refine hK _ ?_; clear hK K) | (apply Exists.intro; refine ⟨fun x => ?_, hK _ ?_⟩; (· (fail)); clear hK K; try go_frame))
          clear t1
          refine mixs_one 4 (by decide) (by kernel_rfl) rfl rfl ?_
          intro w6 hb6 hB6 K hK
          refine wp_append_row w6 (.const (.slice none 0 0)) (.tmp 56) 22 rfl w6.heap.size 3 ii (.int .i64 0) 8 Tryz.underlying22 hii hiz0 hiz1 hiz2 rfl (.slice none 0 0) 0 [] rfl ⟨rfl, .inl ⟨rfl, rfl⟩⟩ A q cq (t.map Iv) rfl (HA.out.ext hB6) (one_ints t) (by unfold maxLen; omega) (by omega) (Nat.le_refl _) fun v2 w7 hown hgr => ?_
          simp only [List.nil_append, Nat.zero_add] at hown ⊢
          have hb7 : Below w6.heap.size w6 w7 := (Below.refl _ _).grown hgr (Nat.le_refl _) (fun b e => by cases e)
          obtain ⟨A2, c2, rfl, hrow, hA2⟩ := row_of_owns hown
          have hcap2 := own_cap hown
          have hA3 : ∀ a, A2 = some a → w3.heap.size ≤ a.block ∧ (∀ s, some (⟨g, 0, none⟩ : Addr) = some s → a.block ≠ s.block) ∧ ∃ cs, Blk w7 a.block 3 cs := fun a ha => by
            refine ⟨Nat.le_trans hw35 (Nat.le_trans hB6.size (hA2 a ha)), fun s hs e => ?_, own_blk hown (by rw [ha]; rfl)⟩
            cases hs
            have h1 := hA2 a ha
            have h2 := hB6.size
            have e2 : a.block = g := e
            omega
          have HRW := Lib.hid hrow
          have HA3 := Lib.hid hA3
          refine hK _ _ (below_le hB6 hb7) ?_
          clear hK K hb6 hB6 hb7 hown hgr hrow hA2 hA3
          try go_frame
          first | (refine mixs_skip 5 rfl (by kernel_rfl) rfl ?_; go_frame) | (refine mixs_soft 5 rfl (by kernel_rfl) rfl (fun K hK => ?_); go_simp; first | (refine hK _ ?_; clear hK K) | (apply Exists.intro; refine ⟨fun x => ?_, hK _ ?_⟩; (· (fail)); clear hK K; try go_frame))
          refine mixs_last 6 (by kernel_rfl) (by kernel_rfl) rfl rfl ?_
          intro w8 hb8 hB8 K hK
          have hA4 : ∀ a, A2 = some a → w3.heap.size ≤ a.block ∧ (∀ s, some (⟨g, 0, none⟩ : Addr) = some s → a.block ≠ s.block) ∧ ∃ cs, Blk w8 a.block 3 cs := fun a ha => by
            obtain ⟨x1, x2, cs, x3⟩ := HA3.out a ha
            exact ⟨x1, x2, cs, x3.ext hb8⟩
          have TQ9 := Lib.hid ((TQ.out.ext hB8).setT (k := i) hjt hcap2 hq (HRW.out.ext hb8) hA4)
          have hbt := BT.out.ext hB8
          have hbx := BX.out.ext hB8
          have hrs := HRS.out.ext hB8
          have BX9 := Lib.hid (hbx.far (p := ⟨gT, i, none⟩) (blk_ne hbx hbt (by decide)) (.slice A2 q c2))
          have HR9 := Lib.hid (hrs.far (p := ⟨gT, i, none⟩) (blk_ne hrs hbt (by decide)) (.slice A2 q c2))
          have HB9 := Lib.hid ((below_le HB.out hB8).setCell (p := ⟨gT, i, none⟩) (by show w.heap.size ≤ gT; omega) (.slice A2 q c2))
          have hA9 : Row (w8.setCell ⟨gT, i, none⟩ (.slice A2 q c2)) A q (t.map Iv) := by
            by_cases hq0 : 0 < q
            · exact (HA.out.ext hB8).far (p := ⟨gT, i, none⟩) (fun a ha e => by have h1 := HAL.out a ha hq0; have e2 : a.block = gT := e; omega) (.slice A2 q c2)
            · exact ⟨HA.out.1, fun h => absurd h hq0⟩
          have HA9 := Lib.hid hA9
          replace hcu := cell_ext hB8 hcu
          have fz := hbt.frozen i
          clear hb8 hB8 hA4 hbt hbx hrs hA9 TQ HRS HB HA BX HRW HA3 BT BS
          go_simp
          refine hK _ _ fun w9 hb9 => ?_
          clear hK K hcu fz
          replace TQ9 := Lib.hid (TQ9.out.ext hb9)
          replace BX9 := Lib.hid (BX9.out.ext hb9)
          replace HR9 := Lib.hid (HR9.out.ext hb9)
          replace HB9 := Lib.hid (below_le HB9.out hb9)
          replace HA9 := Lib.hid (HA9.out.ext hb9)
          clear hb9
          try go_frame
          have hcn := r7count_any A q cq t w9 HA9.out (by omega)
          have HST : Hid (stateOf t = if cntN t = 0 then 0 else if 0 < roomN t then 1 else 2) := Lib.hid rfl
          have HRM := Lib.hid (fun (z : World) (hz : Below w9.heap.size w9 z) => r8room_any A q cq t z (HA9.out.ext hz) (by omega))
          generalize stateOf t = st at *
          generalize cntN t = cn at *
          generalize roomN t = rn at *
          by_cases hc0 : cn = 0
          · subst hc0
            obtain rfl : st = 0 := by rw [HST.out]; rfl
            clear HST HRM
            go_wp2_with fail
            refine hcn.mono ?_
            clear hcn
            rintro e w10 ⟨rfl, hb10⟩
            replace TQ9 := Lib.hid (TQ9.out.ext hb10)
            replace BX9 := Lib.hid (BX9.out.ext hb10)
            replace HR9 := Lib.hid (HR9.out.ext hb10)
            replace HB9 := Lib.hid (below_le HB9.out hb10)
            clear hb10 HA9
            have b0 : w10.cell? ⟨B5, 0, none⟩ = some (.slice (some ⟨g, 0, none⟩) l.length SC) := by have := BX9.out.cell 0; simpa using this
            obtain ⟨g', cur', e', hgb', hbk', hcx'⟩ := TQ9.out.st.at_ hjl
            cases e'
            obtain ⟨u1, hcu1⟩ : ∃ u, w10.cell? ⟨g, i, none⟩ = some u := ⟨_, hcx'⟩
            have fz1 := hbk'.frozen i
            have TQA := Lib.hid (TQ9.out.setS hjl 0)
            have BXA := Lib.hid (BX9.out.far (p := ⟨g, i, none⟩) (blk_ne BX9.out hbk' (by decide)) (.int .i64 0))
            have HRA := Lib.hid (HR9.out.far (p := ⟨g, i, none⟩) (blk_ne HR9.out hbk' (by decide)) (.int .i64 0))
            have HBA := Lib.hid (HB9.out.setCell (p := ⟨g, i, none⟩) (by show w.heap.size ≤ g; omega) (.int .i64 0))
            clear hcx' hbk' hgb' TQ9 BX9 HR9 HB9
            go_upto_region 14 with fail
            generalize w10.setCell ⟨g, i, none⟩ (.int .i64 0) = W6 at *
            clear hcu1 fz1 b0
            have b0 : W6.cell? ⟨B5, 0, none⟩ = some (.slice (some ⟨g, 0, none⟩) l.length SC) := by have := BXA.out.cell 0; simpa using this
            have b1 : W6.cell? ⟨B5, 1, none⟩ = some (.slice (some ⟨gT, 0, none⟩) ts.length TD) := by have := BXA.out.cell 1; simpa using this
            obtain ⟨⟨r0, r1, f0, f1⟩, q0, q1, hB⟩ := res_two (a' := .slice (some ⟨g, 0, none⟩) l.length SC) (b' := .slice (some ⟨gT, 0, none⟩) ts.length TD) HRA.out HBA.out (by omega)
            have hrd := ((TQA.out.far HRA.out (by decide) (by decide) 0 (.slice (some ⟨g, 0, none⟩) l.length SC)).far (HRA.out.set_ 0 (.slice (some ⟨g, 0, none⟩) l.length SC)) (by decide) (by decide) 1 (.slice (some ⟨gT, 0, none⟩) ts.length TD)).poolF (base' := w.heap.size) (c := SC) (d := TD) hw3 (by rw [List.length_set]; exact hcap)
            rw [List.length_set, List.length_set] at hrd
            have HRD := Lib.hid hrd
            have HB2 := Lib.hid hB
            clear hrd hB TQA BXA HRA
            go_wp2
            exact bodyPost_ret (v := .tuple #[.agg #[.slice (some ⟨g, 0, none⟩) l.length SC, .slice (some ⟨gT, 0, none⟩) ts.length TD], .int .i64 0]) (by simp [results, Tryz.results20, go_sem, q0, q1]) rfl ⟨_, rfl, HRD.out, HB2.out⟩
          · have e0 : ((cn : Int) == 0) = false := by simp; omega
            by_cases hr0 : 0 < rn
            · obtain rfl : st = 1 := by rw [HST.out, if_neg hc0, if_pos hr0]
              have e1 : decide ((rn : Int) > 0) = true := by simp; omega
              clear HST
              go_wp2_with fail
              refine hcn.mono ?_
              clear hcn
              rintro e w10 ⟨rfl, hb10⟩
              have hrm := HRM.out w10 hb10
              replace TQ9 := Lib.hid (TQ9.out.ext hb10)
              replace BX9 := Lib.hid (BX9.out.ext hb10)
              replace HR9 := Lib.hid (HR9.out.ext hb10)
              replace HB9 := Lib.hid (below_le HB9.out hb10)
              clear hb10 HA9
              go_wp2_with fail
              refine hrm.mono ?_
              clear hrm HRM
              rintro e w11 ⟨rfl, hb11⟩
              replace TQ9 := Lib.hid (TQ9.out.ext hb11)
              replace BX9 := Lib.hid (BX9.out.ext hb11)
              replace HR9 := Lib.hid (HR9.out.ext hb11)
              replace HB9 := Lib.hid (below_le HB9.out hb11)
              clear hb11
              have b0 : w11.cell? ⟨B5, 0, none⟩ = some (.slice (some ⟨g, 0, none⟩) l.length SC) := by have := BX9.out.cell 0; simpa using this
              obtain ⟨g', cur', e', hgb', hbk', hcx'⟩ := TQ9.out.st.at_ hjl
              cases e'
              obtain ⟨u1, hcu1⟩ : ∃ u, w11.cell? ⟨g, i, none⟩ = some u := ⟨_, hcx'⟩
              have fz1 := hbk'.frozen i
              have TQA := Lib.hid (TQ9.out.setS hjl 1)
              have BXA := Lib.hid (BX9.out.far (p := ⟨g, i, none⟩) (blk_ne BX9.out hbk' (by decide)) (.int .i64 1))
              have HRA := Lib.hid (HR9.out.far (p := ⟨g, i, none⟩) (blk_ne HR9.out hbk' (by decide)) (.int .i64 1))
              have HBA := Lib.hid (HB9.out.setCell (p := ⟨g, i, none⟩) (by show w.heap.size ≤ g; omega) (.int .i64 1))
              clear hcx' hbk' hgb' TQ9 BX9 HR9 HB9
              go_upto_region 14 with fail
              generalize w11.setCell ⟨g, i, none⟩ (.int .i64 1) = W6 at *
              clear hcu1 fz1 b0
              have b0 : W6.cell? ⟨B5, 0, none⟩ = some (.slice (some ⟨g, 0, none⟩) l.length SC) := by have := BXA.out.cell 0; simpa using this
              have b1 : W6.cell? ⟨B5, 1, none⟩ = some (.slice (some ⟨gT, 0, none⟩) ts.length TD) := by have := BXA.out.cell 1; simpa using this
              obtain ⟨⟨r0, r1, f0, f1⟩, q0, q1, hB⟩ := res_two (a' := .slice (some ⟨g, 0, none⟩) l.length SC) (b' := .slice (some ⟨gT, 0, none⟩) ts.length TD) HRA.out HBA.out (by omega)
              have hrd := ((TQA.out.far HRA.out (by decide) (by decide) 0 (.slice (some ⟨g, 0, none⟩) l.length SC)).far (HRA.out.set_ 0 (.slice (some ⟨g, 0, none⟩) l.length SC)) (by decide) (by decide) 1 (.slice (some ⟨gT, 0, none⟩) ts.length TD)).poolF (base' := w.heap.size) (c := SC) (d := TD) hw3 (by rw [List.length_set]; exact hcap)
              rw [List.length_set, List.length_set] at hrd
              have HRD := Lib.hid hrd
              have HB2 := Lib.hid hB
              clear hrd hB TQA BXA HRA
              go_wp2
              exact bodyPost_ret (v := .tuple #[.agg #[.slice (some ⟨g, 0, none⟩) l.length SC, .slice (some ⟨gT, 0, none⟩) ts.length TD], .int .i64 0]) (by simp [results, Tryz.results20, go_sem, q0, q1]) rfl ⟨_, rfl, HRD.out, HB2.out⟩
            · obtain rfl : st = 2 := by rw [HST.out, if_neg hc0, if_neg hr0]
              obtain rfl : rn = 0 := by omega
              clear HST
              go_wp2_with fail
              refine hcn.mono ?_
              clear hcn
              rintro e w10 ⟨rfl, hb10⟩
              have hrm := HRM.out w10 hb10
              replace TQ9 := Lib.hid (TQ9.out.ext hb10)
              replace BX9 := Lib.hid (BX9.out.ext hb10)
              replace HR9 := Lib.hid (HR9.out.ext hb10)
              replace HB9 := Lib.hid (below_le HB9.out hb10)
              clear hb10 HA9
              go_wp2_with fail
              refine hrm.mono ?_
              clear hrm HRM
              rintro e w11 ⟨rfl, hb11⟩
              replace TQ9 := Lib.hid (TQ9.out.ext hb11)
              replace BX9 := Lib.hid (BX9.out.ext hb11)
              replace HR9 := Lib.hid (HR9.out.ext hb11)
              replace HB9 := Lib.hid (below_le HB9.out hb11)
              clear hb11
              have b0 : w11.cell? ⟨B5, 0, none⟩ = some (.slice (some ⟨g, 0, none⟩) l.length SC) := by have := BX9.out.cell 0; simpa using this
              obtain ⟨g', cur', e', hgb', hbk', hcx'⟩ := TQ9.out.st.at_ hjl
              cases e'
              obtain ⟨u1, hcu1⟩ : ∃ u, w11.cell? ⟨g, i, none⟩ = some u := ⟨_, hcx'⟩
              have fz1 := hbk'.frozen i
              have TQA := Lib.hid (TQ9.out.setS hjl 2)
              have BXA := Lib.hid (BX9.out.far (p := ⟨g, i, none⟩) (blk_ne BX9.out hbk' (by decide)) (.int .i64 2))
              have HRA := Lib.hid (HR9.out.far (p := ⟨g, i, none⟩) (blk_ne HR9.out hbk' (by decide)) (.int .i64 2))
              have HBA := Lib.hid (HB9.out.setCell (p := ⟨g, i, none⟩) (by show w.heap.size ≤ g; omega) (.int .i64 2))
              clear hcx' hbk' hgb' TQ9 BX9 HR9 HB9
              go_upto_region 14 with fail
              generalize w11.setCell ⟨g, i, none⟩ (.int .i64 2) = W6 at *
              clear hcu1 fz1 b0
              have b0 : W6.cell? ⟨B5, 0, none⟩ = some (.slice (some ⟨g, 0, none⟩) l.length SC) := by have := BXA.out.cell 0; simpa using this
              have b1 : W6.cell? ⟨B5, 1, none⟩ = some (.slice (some ⟨gT, 0, none⟩) ts.length TD) := by have := BXA.out.cell 1; simpa using this
              obtain ⟨⟨r0, r1, f0, f1⟩, q0, q1, hB⟩ := res_two (a' := .slice (some ⟨g, 0, none⟩) l.length SC) (b' := .slice (some ⟨gT, 0, none⟩) ts.length TD) HRA.out HBA.out (by omega)
              have hrd := ((TQA.out.far HRA.out (by decide) (by decide) 0 (.slice (some ⟨g, 0, none⟩) l.length SC)).far (HRA.out.set_ 0 (.slice (some ⟨g, 0, none⟩) l.length SC)) (by decide) (by decide) 1 (.slice (some ⟨gT, 0, none⟩) ts.length TD)).poolF (base' := w.heap.size) (c := SC) (d := TD) hw3 (by rw [List.length_set]; exact hcap)
              rw [List.length_set, List.length_set] at hrd
              have HRD := Lib.hid hrd
              have HB2 := Lib.hid hB
              clear hrd hB TQA BXA HRA
              go_wp2
              exact bodyPost_ret (v := .tuple #[.agg #[.slice (some ⟨g, 0, none⟩) l.length SC, .slice (some ⟨gT, 0, none⟩) ts.length TD], .int .i64 0]) (by simp [results, Tryz.results20, go_sem, q0, q1]) rfl ⟨_, rfl, HRD.out, HB2.out⟩
      · obtain ⟨rfl, rfl, rfl⟩ := F90.out HPR.out (by simpa [hasB] using hx125)
        have d1 : (x != 1) = true := by simp; omega
        have d2 : (x != 2) = true := by simp; omega
        have d5 : (x != 5) = true := by simp; omega
        clear F90 F0 hx125
        obtain ⟨⟨r0, r1, f0, f1⟩, q0, q1, hB⟩ := res_two (a' := .slice none 0 0) (b' := .slice none 0 0) HRS.out HB.out (by omega)
        have HB2 := Lib.hid hB
        clear hB
        go_wp2
        exact bodyPost_ret (v := .tuple #[.agg #[.slice none 0 0, .slice none 0 0], .int .i64 90]) (by simp [results, Tryz.results20, go_sem, q0, q1]) rfl ⟨_, rfl, PoolF.none_, HB2.out⟩

end Go.Proofs.YtllanbggjfmfhaaGreatDoor
namespace Go.Proofs.YtllanbggjfmfhaaGreatDoor
open Go.RowKit Go.Shelf

set_option maxRecDepth 100000 in
set_option maxHeartbeats 16000000 in
theorem poolGives_any (S : Option Addr) (m c : Nat) (T : Option Addr) (k d : Nat) (l : List Int) (ts : List (List Int)) (b : Int) (A : Option Addr) (q cq : Nat) (t : List Int) (aS aR : Addr) (w : World) (hRS : RSent w aS aR) (hE : EType w) (hmc : m ≤ c) (hS : Row w S m (l.map Iv)) (hT : TabsU w T k ts) (hk : k ≤ 9223372036854775807) (hA : Row w A q (t.map Iv)) (hq : q ≤ cq) :
    Calls Tryz.prog 4 #[.agg #[.slice S m c, .slice T k d], .int .i64 b, .slice A q cq] w (Holds w) := by
  have HA0 := Lib.hid (row_take hA)
  have hq34 : min q 34 ≤ 34 := Nat.min_le_right _ _
  clear hA
  have hx := below_box w (.cells #[.slice S m c, .slice T k d] 25)
  have hbl : Blk (w.alloc (.cells #[.slice S m c, .slice T k d] 25)) w.heap.size 25 #[.slice S m c, .slice T k d] := heap_new rfl _
  have k0 := pbox0 w 25 (.slice S m c) (.slice T k d)
  have k1 := pbox1 w 25 (.slice S m c) (.slice T k d)
  have HRS := Lib.hid hRS
  have HE := Lib.hid hE
  have HB := Lib.hid hx
  have HBL := Lib.hid hbl
  have HR0 := Lib.hid (row_few hS)
  have HT0 := Lib.hid hT
  have hm34 : min m 34 ≤ 34 := Nat.min_le_right _ _
  clear hRS hE hx hbl hS hT
  go_enter Tryz.func4, Tryz.ntmps4
  go_wp2_with fail
  generalize w.alloc (.cells #[.slice S m c, .slice T k d] 25) = W0 at *
  refine (pshown_any aS aR W0 (HRS.out.ext HB.out) (HE.out.ext HB.out)).mono ?_
  rintro e w1 ⟨rfl, hb1⟩
  replace k0 := cell_ext hb1 k0
  replace k1 := cell_ext hb1 k1
  replace HBL := Lib.hid (HBL.out.ext hb1)
  replace HB := Lib.hid (below_le HB.out hb1)
  clear hb1
  have hlt0 := HBL.out.lt
  go_wp2_with fail
  refine (cut10_any S m c T k d ts w w1 HB.out hmc HT0.out hk).mono ?_
  rintro e w2 ⟨T', k', d', rfl, hk34, htc, hb2⟩
  generalize min m 34 = m' at *
  have h2 := HBL.out.ext hb2
  have f0 := h2.frozen 0
  have f1 := h2.frozen 1
  have d0 := h2.cell 0
  have d1 := h2.cell 1
  have h3 := (h2.set_ 0 (.slice S m' c)).set_ 1 (.slice T' k' d')
  have hb3 : Below w.heap.size w ((w2.setCell ⟨w.heap.size, 0, none⟩ (.slice S m' c)).setCell ⟨w.heap.size, 1, none⟩ (.slice T' k' d')) :=
    ((below_le HB.out hb2).setCell (p := ⟨w.heap.size, 0, none⟩) (Nat.le_refl _) _).setCell (p := ⟨w.heap.size, 1, none⟩) (Nat.le_refl _) _
  have ht3 := ((htc.far (p := ⟨w.heap.size, 0, none⟩) (Nat.le_refl _) hlt0 (.slice S m' c)).far (p := ⟨w.heap.size, 1, none⟩) (Nat.le_refl _) hlt0 (.slice T' k' d')).tabs
  replace k0 := h3.cell 0
  replace k1 := h3.cell 1
  simp at k0 k1 d0 d1
  have HT := Lib.hid ht3
  have HR := Lib.hid (HR0.out.ext hb3)
  replace HB := Lib.hid hb3
  generalize l.take 34 = l at *
  generalize cutTs ts = ts at *
  clear h2 h3 hb2 hb3 htc ht3 HBL HR0 HT0 hlt0 hmc
  go_wp2_with fail
  generalize (w2.setCell ⟨w.heap.size, 0, none⟩ (.slice S m' c)).setCell ⟨w.heap.size, 1, none⟩ (.slice T' k' d') = W3 at *
  clear f0 f1 d0 d1
  have hll : l.length ≤ 34 := by have h := HR.out.1; simp at h; omega
  have htl : ts.length ≤ 34 := by have h := HT.out.1; omega
  refine (cut07_any A q cq W3 hq).mono ?_
  rintro e w4 ⟨rfl, rfl⟩
  have HA := Lib.hid (HA0.out.ext HB.out)
  clear HA0 hq
  generalize min q 34 = q' at *
  generalize t.take 34 = t at *
  go_wp2_with fail
  refine (close_any S m' c T' k' d' l ts b W3 (HE.out.ext HB.out) HR.out HT.out (by omega) (by omega)).mono ?_
  rintro e w4 ⟨v_, rfl, hp_, hb_⟩
  obtain ⟨Sa, ma, ca, Ta, ka, da, rfl, hR_, hT_, -⟩ := hp_.read
  have hma : ma ≤ 1000 := by have h_ := hR_.1; rw [List.length_map] at h_; have h2_ := closeL_len l ts b; omega
  have hka : ka ≤ 1000 := by have h_ := hT_.1; have h2_ := closeT_len l ts b; omega
  replace k0 := cell_ext hb_ k0
  replace k1 := cell_ext hb_ k1
  replace HR := Lib.hid (HR.out.ext hb_)
  replace HT := Lib.hid (HT.out.ext hb_)
  replace HA := Lib.hid (HA.out.ext hb_)
  have Ra := Lib.hid hR_
  have Tah := Lib.hid hT_
  replace HB := Lib.hid (below_le HB.out hb_)
  clear hp_ hR_ hT_ hb_
  have hx_ := below_box w4 (.cells #[.slice Sa ma ca, .slice Ta ka da] 25)
  replace k0 := cell_ext hx_ k0
  replace k1 := cell_ext hx_ k1
  replace HR := Lib.hid (HR.out.ext hx_)
  replace HT := Lib.hid (HT.out.ext hx_)
  replace HA := Lib.hid (HA.out.ext hx_)
  replace Ra := Lib.hid (Ra.out.ext hx_)
  replace Tah := Lib.hid (Tah.out.ext hx_)
  have a0 := pbox0 w4 25 (.slice Sa ma ca) (.slice Ta ka da)
  have a1 := pbox1 w4 25 (.slice Sa ma ca) (.slice Ta ka da)
  replace HB := Lib.hid (below_le HB.out hx_)
  clear hx_
  go_wp2_with fail
  generalize w4.alloc (.cells #[.slice Sa ma ca, .slice Ta ka da] 25) = W4 at *
  refine (rclose_any S m' c T' k' d' l ts b W4 HR.out HT.out (by omega) (by omega)).mono ?_
  rintro e w5 ⟨v_, rfl, hp_, hb_⟩
  obtain ⟨Sb, mb, cb, Tb, kb, db, rfl, hR_, hT_, -⟩ := hp_.read
  have hmb : mb ≤ 1000 := by have h_ := hR_.1; rw [List.length_map] at h_; have h2_ := closeL_len l ts b; omega
  have hkb : kb ≤ 1000 := by have h_ := hT_.1; have h2_ := closeT_len l ts b; omega
  replace k0 := cell_ext hb_ k0
  replace k1 := cell_ext hb_ k1
  replace a0 := cell_ext hb_ a0
  replace a1 := cell_ext hb_ a1
  replace HR := Lib.hid (HR.out.ext hb_)
  replace HT := Lib.hid (HT.out.ext hb_)
  replace HA := Lib.hid (HA.out.ext hb_)
  replace Ra := Lib.hid (Ra.out.ext hb_)
  replace Tah := Lib.hid (Tah.out.ext hb_)
  have Rb := Lib.hid hR_
  have Tbh := Lib.hid hT_
  replace HB := Lib.hid (below_le HB.out hb_)
  clear hp_ hR_ hT_ hb_
  have hx_ := below_box w5 (.cells #[.slice Sb mb cb, .slice Tb kb db] 25)
  replace k0 := cell_ext hx_ k0
  replace k1 := cell_ext hx_ k1
  replace a0 := cell_ext hx_ a0
  replace a1 := cell_ext hx_ a1
  replace HR := Lib.hid (HR.out.ext hx_)
  replace HT := Lib.hid (HT.out.ext hx_)
  replace HA := Lib.hid (HA.out.ext hx_)
  replace Ra := Lib.hid (Ra.out.ext hx_)
  replace Tah := Lib.hid (Tah.out.ext hx_)
  replace Rb := Lib.hid (Rb.out.ext hx_)
  replace Tbh := Lib.hid (Tbh.out.ext hx_)
  have b0 := pbox0 w5 25 (.slice Sb mb cb) (.slice Tb kb db)
  have b1 := pbox1 w5 25 (.slice Sb mb cb) (.slice Tb kb db)
  replace HB := Lib.hid (below_le HB.out hx_)
  clear hx_
  go_wp2_with fail
  generalize w5.alloc (.cells #[.slice Sb mb cb, .slice Tb kb db] 25) = W5 at *
  refine (drop_any S m' c T' k' d' l ts b aS aR W5 (HRS.out.ext HB.out) (HE.out.ext HB.out) HR.out HT.out (by omega) (by omega)).mono ?_
  rintro e w6 ⟨v_, rfl, hp_, hb_⟩
  obtain ⟨Se, me, ce, Te, ke, de, rfl, hR_, hT_, -⟩ := hp_.read
  have hme : me ≤ 1000 := by have h_ := hR_.1; rw [List.length_map] at h_; have h2_ := dropL_len l ts b; omega
  have hke : ke ≤ 1000 := by have h_ := hT_.1; have h2_ := dropT_len l ts b; omega
  replace k0 := cell_ext hb_ k0
  replace k1 := cell_ext hb_ k1
  replace a0 := cell_ext hb_ a0
  replace a1 := cell_ext hb_ a1
  replace b0 := cell_ext hb_ b0
  replace b1 := cell_ext hb_ b1
  replace HR := Lib.hid (HR.out.ext hb_)
  replace HT := Lib.hid (HT.out.ext hb_)
  replace HA := Lib.hid (HA.out.ext hb_)
  replace Ra := Lib.hid (Ra.out.ext hb_)
  replace Tah := Lib.hid (Tah.out.ext hb_)
  replace Rb := Lib.hid (Rb.out.ext hb_)
  replace Tbh := Lib.hid (Tbh.out.ext hb_)
  have Re := Lib.hid hR_
  have Teh := Lib.hid hT_
  replace HB := Lib.hid (below_le HB.out hb_)
  clear hp_ hR_ hT_ hb_
  have hx_ := below_box w6 (.cells #[.slice Se me ce, .slice Te ke de] 25)
  replace k0 := cell_ext hx_ k0
  replace k1 := cell_ext hx_ k1
  replace a0 := cell_ext hx_ a0
  replace a1 := cell_ext hx_ a1
  replace b0 := cell_ext hx_ b0
  replace b1 := cell_ext hx_ b1
  replace HR := Lib.hid (HR.out.ext hx_)
  replace HT := Lib.hid (HT.out.ext hx_)
  replace HA := Lib.hid (HA.out.ext hx_)
  replace Ra := Lib.hid (Ra.out.ext hx_)
  replace Tah := Lib.hid (Tah.out.ext hx_)
  replace Rb := Lib.hid (Rb.out.ext hx_)
  replace Tbh := Lib.hid (Tbh.out.ext hx_)
  replace Re := Lib.hid (Re.out.ext hx_)
  replace Teh := Lib.hid (Teh.out.ext hx_)
  have e0 := pbox0 w6 25 (.slice Se me ce) (.slice Te ke de)
  have e1 := pbox1 w6 25 (.slice Se me ce) (.slice Te ke de)
  replace HB := Lib.hid (below_le HB.out hx_)
  clear hx_
  go_wp2_with fail
  generalize w6.alloc (.cells #[.slice Se me ce, .slice Te ke de] 25) = W6 at *
  refine (rdrop_any S m' c T' k' d' l ts b W6 HR.out HT.out (by omega) (by omega)).mono ?_
  rintro e w7 ⟨v_, rfl, hp_, hb_⟩
  obtain ⟨Sf, mf, cf, Tf, kf, df, rfl, hR_, hT_, -⟩ := hp_.read
  have hmf : mf ≤ 1000 := by have h_ := hR_.1; rw [List.length_map] at h_; have h2_ := dropL_len l ts b; omega
  have hkf : kf ≤ 1000 := by have h_ := hT_.1; have h2_ := dropT_len l ts b; omega
  replace k0 := cell_ext hb_ k0
  replace k1 := cell_ext hb_ k1
  replace a0 := cell_ext hb_ a0
  replace a1 := cell_ext hb_ a1
  replace b0 := cell_ext hb_ b0
  replace b1 := cell_ext hb_ b1
  replace e0 := cell_ext hb_ e0
  replace e1 := cell_ext hb_ e1
  replace HR := Lib.hid (HR.out.ext hb_)
  replace HT := Lib.hid (HT.out.ext hb_)
  replace HA := Lib.hid (HA.out.ext hb_)
  replace Ra := Lib.hid (Ra.out.ext hb_)
  replace Tah := Lib.hid (Tah.out.ext hb_)
  replace Rb := Lib.hid (Rb.out.ext hb_)
  replace Tbh := Lib.hid (Tbh.out.ext hb_)
  replace Re := Lib.hid (Re.out.ext hb_)
  replace Teh := Lib.hid (Teh.out.ext hb_)
  have Rf := Lib.hid hR_
  have Tfh := Lib.hid hT_
  replace HB := Lib.hid (below_le HB.out hb_)
  clear hp_ hR_ hT_ hb_
  have hx_ := below_box w7 (.cells #[.slice Sf mf cf, .slice Tf kf df] 25)
  replace k0 := cell_ext hx_ k0
  replace k1 := cell_ext hx_ k1
  replace a0 := cell_ext hx_ a0
  replace a1 := cell_ext hx_ a1
  replace b0 := cell_ext hx_ b0
  replace b1 := cell_ext hx_ b1
  replace e0 := cell_ext hx_ e0
  replace e1 := cell_ext hx_ e1
  replace HR := Lib.hid (HR.out.ext hx_)
  replace HT := Lib.hid (HT.out.ext hx_)
  replace HA := Lib.hid (HA.out.ext hx_)
  replace Ra := Lib.hid (Ra.out.ext hx_)
  replace Tah := Lib.hid (Tah.out.ext hx_)
  replace Rb := Lib.hid (Rb.out.ext hx_)
  replace Tbh := Lib.hid (Tbh.out.ext hx_)
  replace Re := Lib.hid (Re.out.ext hx_)
  replace Teh := Lib.hid (Teh.out.ext hx_)
  replace Rf := Lib.hid (Rf.out.ext hx_)
  replace Tfh := Lib.hid (Tfh.out.ext hx_)
  have f0 := pbox0 w7 25 (.slice Sf mf cf) (.slice Tf kf df)
  have f1 := pbox1 w7 25 (.slice Sf mf cf) (.slice Tf kf df)
  replace HB := Lib.hid (below_le HB.out hx_)
  clear hx_
  go_wp2_with fail
  generalize w7.alloc (.cells #[.slice Sf mf cf, .slice Tf kf df] 25) = W7 at *
  refine (set_any S m' c T' k' d' l ts b A q' cq t W7 (HE.out.ext HB.out) HR.out HT.out (by omega) (by omega) HA.out (by omega)).mono ?_
  rintro e w8 ⟨v_, rfl, hp_, hb_⟩
  obtain ⟨Sg, mg, cg, Tg, kg, dg, rfl, hR_, hT_, -⟩ := hp_.read
  have hmg : mg ≤ 1000 := by have h_ := hR_.1; rw [List.length_map] at h_; have h2_ := setL_len l ts b t; omega
  have hkg : kg ≤ 1000 := by have h_ := hT_.1; have h2_ := setT_len l ts b t; omega
  replace k0 := cell_ext hb_ k0
  replace k1 := cell_ext hb_ k1
  replace a0 := cell_ext hb_ a0
  replace a1 := cell_ext hb_ a1
  replace b0 := cell_ext hb_ b0
  replace b1 := cell_ext hb_ b1
  replace e0 := cell_ext hb_ e0
  replace e1 := cell_ext hb_ e1
  replace f0 := cell_ext hb_ f0
  replace f1 := cell_ext hb_ f1
  replace HR := Lib.hid (HR.out.ext hb_)
  replace HT := Lib.hid (HT.out.ext hb_)
  replace HA := Lib.hid (HA.out.ext hb_)
  replace Ra := Lib.hid (Ra.out.ext hb_)
  replace Tah := Lib.hid (Tah.out.ext hb_)
  replace Rb := Lib.hid (Rb.out.ext hb_)
  replace Tbh := Lib.hid (Tbh.out.ext hb_)
  replace Re := Lib.hid (Re.out.ext hb_)
  replace Teh := Lib.hid (Teh.out.ext hb_)
  replace Rf := Lib.hid (Rf.out.ext hb_)
  replace Tfh := Lib.hid (Tfh.out.ext hb_)
  have Rg := Lib.hid hR_
  have Tgh := Lib.hid hT_
  replace HB := Lib.hid (below_le HB.out hb_)
  clear hp_ hR_ hT_ hb_
  have hx_ := below_box w8 (.cells #[.slice Sg mg cg, .slice Tg kg dg] 25)
  replace k0 := cell_ext hx_ k0
  replace k1 := cell_ext hx_ k1
  replace a0 := cell_ext hx_ a0
  replace a1 := cell_ext hx_ a1
  replace b0 := cell_ext hx_ b0
  replace b1 := cell_ext hx_ b1
  replace e0 := cell_ext hx_ e0
  replace e1 := cell_ext hx_ e1
  replace f0 := cell_ext hx_ f0
  replace f1 := cell_ext hx_ f1
  replace HR := Lib.hid (HR.out.ext hx_)
  replace HT := Lib.hid (HT.out.ext hx_)
  replace HA := Lib.hid (HA.out.ext hx_)
  replace Ra := Lib.hid (Ra.out.ext hx_)
  replace Tah := Lib.hid (Tah.out.ext hx_)
  replace Rb := Lib.hid (Rb.out.ext hx_)
  replace Tbh := Lib.hid (Tbh.out.ext hx_)
  replace Re := Lib.hid (Re.out.ext hx_)
  replace Teh := Lib.hid (Teh.out.ext hx_)
  replace Rf := Lib.hid (Rf.out.ext hx_)
  replace Tfh := Lib.hid (Tfh.out.ext hx_)
  replace Rg := Lib.hid (Rg.out.ext hx_)
  replace Tgh := Lib.hid (Tgh.out.ext hx_)
  have g0 := pbox0 w8 25 (.slice Sg mg cg) (.slice Tg kg dg)
  have g1 := pbox1 w8 25 (.slice Sg mg cg) (.slice Tg kg dg)
  replace HB := Lib.hid (below_le HB.out hx_)
  clear hx_
  go_wp2_with fail
  generalize w8.alloc (.cells #[.slice Sg mg cg, .slice Tg kg dg] 25) = W8 at *
  refine (rset_any S m' c T' k' d' l ts b A q' cq t W8 HR.out HT.out (by omega) (by omega) HA.out (by omega)).mono ?_
  rintro e w9 ⟨v_, rfl, hp_, hb_⟩
  obtain ⟨Sh, mh, ch, Th, kh, dh, rfl, hR_, hT_, -⟩ := hp_.read
  have hmh : mh ≤ 1000 := by have h_ := hR_.1; rw [List.length_map] at h_; have h2_ := setL_len l ts b t; omega
  have hkh : kh ≤ 1000 := by have h_ := hT_.1; have h2_ := setT_len l ts b t; omega
  replace a0 := cell_ext hb_ a0
  replace a1 := cell_ext hb_ a1
  replace b0 := cell_ext hb_ b0
  replace b1 := cell_ext hb_ b1
  replace e0 := cell_ext hb_ e0
  replace e1 := cell_ext hb_ e1
  replace f0 := cell_ext hb_ f0
  replace f1 := cell_ext hb_ f1
  replace g0 := cell_ext hb_ g0
  replace g1 := cell_ext hb_ g1
  replace Ra := Lib.hid (Ra.out.ext hb_)
  replace Tah := Lib.hid (Tah.out.ext hb_)
  replace Rb := Lib.hid (Rb.out.ext hb_)
  replace Tbh := Lib.hid (Tbh.out.ext hb_)
  replace Re := Lib.hid (Re.out.ext hb_)
  replace Teh := Lib.hid (Teh.out.ext hb_)
  replace Rf := Lib.hid (Rf.out.ext hb_)
  replace Tfh := Lib.hid (Tfh.out.ext hb_)
  replace Rg := Lib.hid (Rg.out.ext hb_)
  replace Tgh := Lib.hid (Tgh.out.ext hb_)
  have Rh := Lib.hid hR_
  have Thh := Lib.hid hT_
  replace HB := Lib.hid (below_le HB.out hb_)
  clear hp_ hR_ hT_ hb_
  clear k0 k1 HR HT HA
  have hx_ := below_box w9 (.cells #[.slice Sh mh ch, .slice Th kh dh] 25)
  replace a0 := cell_ext hx_ a0
  replace a1 := cell_ext hx_ a1
  replace b0 := cell_ext hx_ b0
  replace b1 := cell_ext hx_ b1
  replace e0 := cell_ext hx_ e0
  replace e1 := cell_ext hx_ e1
  replace f0 := cell_ext hx_ f0
  replace f1 := cell_ext hx_ f1
  replace g0 := cell_ext hx_ g0
  replace g1 := cell_ext hx_ g1
  replace Ra := Lib.hid (Ra.out.ext hx_)
  replace Tah := Lib.hid (Tah.out.ext hx_)
  replace Rb := Lib.hid (Rb.out.ext hx_)
  replace Tbh := Lib.hid (Tbh.out.ext hx_)
  replace Re := Lib.hid (Re.out.ext hx_)
  replace Teh := Lib.hid (Teh.out.ext hx_)
  replace Rf := Lib.hid (Rf.out.ext hx_)
  replace Tfh := Lib.hid (Tfh.out.ext hx_)
  replace Rg := Lib.hid (Rg.out.ext hx_)
  replace Tgh := Lib.hid (Tgh.out.ext hx_)
  replace Rh := Lib.hid (Rh.out.ext hx_)
  replace Thh := Lib.hid (Thh.out.ext hx_)
  have h0 := pbox0 w9 25 (.slice Sh mh ch) (.slice Th kh dh)
  have h1 := pbox1 w9 25 (.slice Sh mh ch) (.slice Th kh dh)
  replace HB := Lib.hid (below_le HB.out hx_)
  clear hx_
  go_wp2_with fail
  generalize w9.alloc (.cells #[.slice Sh mh ch, .slice Th kh dh] 25) = W9 at *
  have q1 : psameB (closeL l ts b) (closeL l ts b) (closeT l ts b) (closeT l ts b) = true := by simp [psameB]
  have q2 : psameB (dropL l ts b) (dropL l ts b) (dropT l ts b) (dropT l ts b) = true := by simp [psameB]
  have q3 : psameB (setL l ts b t) (setL l ts b t) (setT l ts b t) (setT l ts b t) = true := by simp [psameB]
  have s1 := rsame_any Sa ma ca Ta ka da Sb mb cb Tb kb db _ _ _ _ W9 Ra.out Tah.out Rb.out Tbh.out hma hka hmb hkb
  rw [q1] at s1
  refine (s1).mono ?_
  rintro e w10 ⟨rfl, hb_⟩
  replace e0 := cell_ext hb_ e0
  replace e1 := cell_ext hb_ e1
  replace f0 := cell_ext hb_ f0
  replace f1 := cell_ext hb_ f1
  replace g0 := cell_ext hb_ g0
  replace g1 := cell_ext hb_ g1
  replace h0 := cell_ext hb_ h0
  replace h1 := cell_ext hb_ h1
  replace Re := Lib.hid (Re.out.ext hb_)
  replace Teh := Lib.hid (Teh.out.ext hb_)
  replace Rf := Lib.hid (Rf.out.ext hb_)
  replace Tfh := Lib.hid (Tfh.out.ext hb_)
  replace Rg := Lib.hid (Rg.out.ext hb_)
  replace Tgh := Lib.hid (Tgh.out.ext hb_)
  replace Rh := Lib.hid (Rh.out.ext hb_)
  replace Thh := Lib.hid (Thh.out.ext hb_)
  replace HB := Lib.hid (below_le HB.out hb_)
  clear hb_
  clear s1 a0 a1 b0 b1 Ra Tah Rb Tbh q1
  go_wp2_with fail
  have s2 := rsame_any Se me ce Te ke de Sf mf cf Tf kf df _ _ _ _ w10 Re.out Teh.out Rf.out Tfh.out hme hke hmf hkf
  rw [q2] at s2
  refine (s2).mono ?_
  rintro e w11 ⟨rfl, hb_⟩
  replace g0 := cell_ext hb_ g0
  replace g1 := cell_ext hb_ g1
  replace h0 := cell_ext hb_ h0
  replace h1 := cell_ext hb_ h1
  replace Rg := Lib.hid (Rg.out.ext hb_)
  replace Tgh := Lib.hid (Tgh.out.ext hb_)
  replace Rh := Lib.hid (Rh.out.ext hb_)
  replace Thh := Lib.hid (Thh.out.ext hb_)
  replace HB := Lib.hid (below_le HB.out hb_)
  clear hb_
  clear s2 e0 e1 f0 f1 Re Teh Rf Tfh q2
  go_wp2_with fail
  have s3 := rsame_any Sg mg cg Tg kg dg Sh mh ch Th kh dh _ _ _ _ w11 Rg.out Tgh.out Rh.out Thh.out hmg hkg hmh hkh
  rw [q3] at s3
  refine (s3).mono ?_
  rintro e w12 ⟨rfl, hb_⟩
  replace HB := Lib.hid (below_le HB.out hb_)
  clear hb_
  clear s3 g0 g1 h0 h1 Rg Tgh Rh Thh q3
  go_wp2
  go_ret
  exact ⟨ret_bool (by simp), HB.out⟩

end Go.Proofs.YtllanbggjfmfhaaGreatDoor
namespace Go.Proofs.YtllanbggjfmfhaaGreatDoor
open Go.ChangeShapes Go.WideShapes Go.ChangeAt Go.RowKit

theorem own0 : ownKnob Tryz.prog.godebug = none := by kernel_rfl
theorem laidOut0 : laidOutB Tryz.prog = true := by kernel_rfl
theorem star0 : "*" ++ "errors.errorString" = "*errors.errorString" := by decide
theorem rowErr (u : TypeId) (h : Tryz.prog.typeName? 3 u = some "*errors.errorString") : u = 136 :=
  typeName_ptr_named (nm := "errors.errorString") (by rw [star0]; kernel_rfl) (by kernel_rfl) (by decide) u (by rw [star0]; exact h)
theorem gS0 : Tryz.prog.globalNamed "selion/run.errState" = some 0 := by kernel_rfl
theorem gR0 : Tryz.prog.globalNamed "selion/run.errRun" = some 1 := by kernel_rfl
theorem gS1 : (Tryz.prog.globals[0]?).map (·.type) = some 47 := by kernel_rfl
theorem gR1 : (Tryz.prog.globals[1]?).map (·.type) = some 47 := by kernel_rfl

theorem under_err : ∃ te f, Tryz.prog.underlying 136 = some (.pointer te) ∧ Tryz.prog.underlying te = some (.struct #[f]) ∧ f.type = 9 ∧ f.offset = 0 ∧ Tryz.prog.cellsOf te = 1 :=
  ⟨_, _, Tryz.underlying136, Tryz.underlying158, rfl, rfl, by kernel_rfl⟩
theorem under_iface : ∃ ms, Tryz.prog.underlying 47 = some (.interface ms) := ⟨_, Tryz.underlying47⟩
theorem cells_str : Tryz.prog.cellsOf 9 = 1 := by kernel_rfl
abbrev row0 : OpenClaim := Rows.poolTakesRow

theorem gT0 : Tryz.prog.globalNamed "errors.errorType" = some 2 := by kernel_rfl
theorem rt0 : (Tryz.prog.cutTypes.find? (·.1 == "internal/reflectlite.rtype")).map (·.2) = some 121 := by kernel_rfl
theorem oneRow0 : ((List.range Tryz.prog.types.size).filter fun t => Tryz.prog.rowNamed t [101, 114, 114, 111, 114]) = [47] := by kernel_rfl
theorem hnd0 : typeHandle Tryz.prog 47 = hnd 47 := by kernel_rfl

/-- What the condition gives of errors' own variable: the handle of the type error. -/
theorem handle0 {W : World} (h : laidMetH Tryz.prog row0.laid W) : EType W := by
  have h1 := h.filter (fun x => x.1 == "errors.errorType")
  have h' : laidMet Tryz.prog [] W ∧ handlesMet Tryz.prog [("errors.errorType", Rows.laid_errors_errorType)] W := h1
  obtain ⟨name, u, ty, e1, e2, e3, e4, e5⟩ := h'.2 _ (List.mem_singleton.2 rfl)
  have en : name = [101, 114, 114, 111, 114] := (Option.some.inj e1).symm
  subst en
  obtain rfl := Option.some.inj (rt0.symm.trans e2)
  have hm : ty ∈ (List.range Tryz.prog.types.size).filter fun t => Tryz.prog.rowNamed t [101, 114, 114, 111, 114] := List.mem_filter.2 ⟨List.mem_range.2 e3, e4⟩
  rw [oneRow0] at hm
  obtain rfl := List.mem_singleton.1 hm
  rw [hnd0] at e5
  have := World.var?_cell gT0 e5 0
  show W.cell? _ = _
  simpa using this

/-- What the row's list gives: the two sentinels, each one's own, and the handle. -/
theorem sents {W : World} (h : laidMetH Tryz.prog row0.laid W) : ∃ aS aR, RSent W aS aR ∧ EType W := by
  have h' : laidMet Tryz.prog [("selion/run.errState", Rows.laid_selion_run_errState), ("selion/run.errRun", Rows.laid_selion_run_errRun)] W := by
    have := h.filter (fun x => x.1 != "errors.errorType")
    rw [MakeChecks.laidMetH_plain _ _ _ (by kernel_rfl)] at this
    exact this
  obtain ⟨te, f, hp, he, hft, hfo, hc⟩ := under_err
  obtain ⟨ms, hi⟩ := under_iface
  obtain ⟨a0, a1, _, _, c0, c1, t0, t1, v0, v1, _, _, _, _, _, _, n01, b0, b1⟩ := laid_sentinels2 h' gS0 gS1 gR0 gR1 hi rowErr hp he hft hfo Tryz.underlying9 hc cells_str
  exact ⟨a0, a1, ⟨⟨by simpa using World.var?_cell gS0 v0 0, c0, t0, b0⟩, ⟨by simpa using World.var?_cell gR0 v1 0, c1, t1, b1⟩, n01⟩, handle0 h⟩

section
variable {H : Type} {enc : TypeId × Value → H} {P : Program}
theorem trodAll_stays (hl : laidOutB P = true) {W W' : World} (hb : Below W.heap.size W W') (sp : Nat → Bool) : ∀ (ts : List TypeId) (vs : List Value) (ds : List (DataW H)) (ps : List MemPlace),
    (ts.all fun t => P.readableRec t && decide (t < P.types.size)) = true → DataW.TrodAll enc P W 0 (fun _ => true) true ts vs ds ps → (∀ x ∈ ps, x.block < W.heap.size) → (∀ x ∈ ps, sp x.block = true) → DataW.TrodAll enc P W' 0 sp true ts vs ds ps
  | [], vs, ds, ps, _, h, _, _ => by
    obtain ⟨rfl, rfl, rfl⟩ := trodAll_nil h
    exact trodAll_mk0
  | t :: ts, vs, ds, ps, hr, h, hlt, hsp => by
    simp only [List.all_cons, Bool.and_eq_true, decide_eq_true_eq] at hr
    obtain ⟨v, vs', d, ds', p, q, rfl, rfl, rfl, h1, h2⟩ := trodAll_cons h
    exact trodAll_cons_mk (WideElems.Trod_stays hl hr.1.1 hr.1.2 h1 (fun x hx => hb.same (hlt x (List.mem_append_left _ hx))) (fun x hx => hsp x (List.mem_append_left _ hx)))
      (trodAll_stays hl hb sp ts vs' ds' q hr.2 h2 (fun x hx => hlt x (List.mem_append_right _ hx)) (fun x hx => hsp x (List.mem_append_right _ hx)))

theorem post_below {f : Func} {s : ChangeSpec} {apart fresh handsOn again : Bool} {W W' : World} {args : Array Value} {v : Value} {ds gs : List (DataW H)} {before pa pv : List MemPlace}
    (hW : DataW.Whole enc P f.params.toList s.vars apart W args.toList ds gs before)
    (hres : ∀ (b : Nat) (sp : Nat → Bool) (hd : Bool), DataW.TrodAll enc P W' b sp hd f.resultTypes.toList (v.resultList f.resultTypes.size) (s.fn H (ds ++ gs)).results [])
    (hargs : ∀ sp : Nat → Bool, (∀ p ∈ before, sp p.block = true) → DataW.TrodAll enc P W' 0 sp true f.params.toList args.toList (s.fn H (ds ++ gs)).args pa)
    (hvars : ∀ sp : Nat → Bool, (∀ p ∈ before, sp p.block = true) → DataW.TrodVars enc P W' sp s.vars (s.fn H (ds ++ gs)).vars pv)
    (hps : before = pa ++ pv) (hb : Below W.heap.size W W')
    (hok : ∀ (j : Nat) (t : TypeId) (r : Value), f.resultTypes[j]? = some t → (v.resultList f.resultTypes.size)[j]? = some r → Value.okWide P W' .any 0 t r) :
    s.post enc P f apart fresh handsOn again W args v W' := by
  have hlt : ∀ p ∈ before, p.block < W.heap.size := fun p hp => hW.lt p hp
  have hold : ∀ p ∈ before, (fun b => decide (b < W.heap.size)) p.block = true := fun p hp => by simpa using hlt p hp
  refine ⟨ds, gs, before, [], pa, pv, hW, hres _ _ _, hargs _ hold, hvars _ hold, World.keptBut_mono (fun p hp => ⟨hp, ?_⟩) (hb.frame (· ∈ before)), fun _ => ?_⟩
  · rw [hps, List.mem_append] at hp
    exact Or.inr hp
  · obtain ⟨_, _, _, _, _, hz, hn⟩ := hW
    refine ⟨hok, _, _, ([] ++ pa) ++ pv, ⟨[] ++ pa, pv, trodAll_append (hargs _ (fun _ _ => rfl)) (hres _ _ _), hvars _ (fun _ _ => rfl), rfl, ?_, ?_⟩, ?_⟩
    · intro b off hp
      have hin : MemPlace.cell b off ∈ before := by rw [hps]; simpa using hp
      rw [hb.frozen (hlt _ hin)]
      exact hz b off hin
    · intro ha
      have := hn ha
      rw [hps] at this
      simpa using this
    · intro p hp _
      rw [hps]
      simpa using hp

/-- THE ROW's LAST STEP, where the law returned true and what was stays. -/
theorem post_true {f : Func} {s : ChangeSpec} (hl : laidOutB P = true) {tb : TypeId} (htb : P.underlying tb = some .bool) (hrt : f.resultTypes = #[tb]) (hvs : s.vars = []) (hr : (f.params.toList.all fun t => P.readableRec t && decide (t < P.types.size)) = true)
    {W W' : World} {args : Array Value} {ds gs : List (DataW H)} {before : List MemPlace}
    (hW : DataW.Whole enc P f.params.toList s.vars false W args.toList ds gs before) (hfn : s.fn H (ds ++ gs) = { results := [.lit (.bool true)], args := ds }) (hb : Below W.heap.size W W') :
    s.post enc P f false true false false W args (.bool true) W' := by
  have hW' := hW
  have hlt : ∀ p ∈ before, p.block < W.heap.size := fun p hp => hW.lt p hp
  obtain ⟨p, q, hA, hV, rfl, hfz, hnd⟩ := hW
  rw [hvs] at hV
  obtain ⟨rfl, rfl⟩ := trodVars_none hV
  simp only [List.append_nil] at hlt hW' hfn
  refine post_below (pa := p) (pv := []) hW' (fun b sp hd => ?_) (fun sp hsp => ?_) (fun sp _ => ?_) (by simp) hb (ok_one hrt rfl (okWide_bool_mk htb _))
  · rw [List.append_nil, hfn, hrt]
    exact trodAll_cons_mk (shut_bool htb _) trodAll_mk0
  · rw [List.append_nil, hfn]
    exact trodAll_stays hl hb sp _ _ _ _ hr hA (fun x hx => hlt x hx) (fun x hx => hsp x hx)
  · rw [List.append_nil, hfn, hvs]
    rfl
end

theorem row_of_cells {W : World} {a : Addr} {len cap : Nat} {zs : List Int} (hl : len ≤ cap) (hz : zs.length = cap) (hc : ∀ i, i < cap → W.cell? (a.add i) = some (.int .i64 (zs.getD i 0))) : Row W (some a) len ((zs.take len).map Iv) := by
  refine ⟨by simp; omega, fun hp => ?_⟩
  have hs0 : a.spot = none := by simpa [Addr.add] using World.cell?_spot (hc 0 (by omega))
  obtain ⟨b, off, spot⟩ := a
  obtain rfl : spot = none := hs0
  refine ⟨b, off, rfl, fun j u hu => ?_⟩
  have hj : j < len := by
    have := (List.getElem?_eq_some_iff.1 hu).1
    simp at this
    omega
  have h2 := hc j (by omega)
  have e : (⟨b, off, none⟩ : Addr).add j = ⟨b, off + j, none⟩ := by
    unfold Addr.add
    by_cases h : j = 0 <;> simp [h]
  rw [e] at h2
  simp [hj, show j < zs.length by omega, Iv] at hu
  rw [h2, ← hu]
  simp [show j < zs.length by omega]

set_option maxRecDepth 100000 in
/-- A list of numbers, opened. -/
theorem open_list {H : Type} {enc : TypeId × Value → H} {W : World} {b : Nat} {v : Value} {d : DataW H} {p : List MemPlace} (hv : Value.okWide Tryz.prog W .any b 22 v) (h : DataW.Trod enc Tryz.prog W 0 (fun _ => true) true 22 v d p) :
    ∃ (A : Option Addr) (m c : Nat) (l : List Int), v = .slice A m c ∧ Row W A m (l.map Iv) ∧ (∀ x ∈ l, -9223372036854775808 ≤ x ∧ x ≤ 9223372036854775807) ∧ m ≤ c := by
  obtain ⟨A, m, c, rfl⟩ : ∃ A m c, v = .slice A m c := okWide_slice Tryz.underlying22 hv
  obtain ⟨fuel, h1⟩ := h
  rcases open_ints Tryz.underlying22 Tryz.underlying3 (by kernel_rfl) h1 with ⟨hs, _⟩ | ⟨a, len, cap, zs, hs, _, hl, _, hz, _, hc, hw⟩
  · obtain ⟨rfl, rfl, rfl⟩ : A = none ∧ m = 0 ∧ c = 0 := by simpa [Value.cells] using hs
    exact ⟨none, 0, 0, [], rfl, Row.none_, by simp, Nat.le_refl _⟩
  · obtain ⟨rfl, rfl, rfl⟩ : some a = A ∧ len = m ∧ cap = c := by simpa [Value.cells, eq_comm] using hs
    rw [if_pos rfl] at hz
    refine ⟨some a, len, cap, zs.take len, rfl, ⟨by simp; omega, fun hp => ?_⟩, fun x hx => bounds_i64 (hw x (List.mem_of_mem_take hx)), hl⟩
    have hs0 : a.spot = none := by simpa [Addr.add] using World.cell?_spot (hc 0 (by omega))
    obtain ⟨b, off, spot⟩ := a
    obtain rfl : spot = none := hs0
    refine ⟨b, off, rfl, fun j u hu => ?_⟩
    have hj : j < len := by
      have := (List.getElem?_eq_some_iff.1 hu).1
      simp at this
      omega
    have hjz : j < zs.length := by omega
    have h2 := hc j hjz
    simp [hj, hjz] at hu
    rw [addr_add] at h2
    simp [hjz] at h2
    rw [h2, ← hu, Iv]

set_option maxRecDepth 100000 in
/-- A pool, opened. -/
theorem open_pool {H : Type} {enc : TypeId × Value → H} {W : World} {b : Nat} {v : Value} {d : DataW H} {p : List MemPlace} (hv : Value.okWide Tryz.prog W .any b 25 v) (h : DataW.Trod enc Tryz.prog W 0 (fun _ => true) true 25 v d p) :
    ∃ (S : Option Addr) (m c : Nat) (T : Option Addr) (k d : Nat) (l : List Int) (ts : List (List Int)), v = .agg #[.slice S m c, .slice T k d] ∧ Row W S m (l.map Iv) ∧ TabsU W T k ts ∧ m ≤ c ∧ k ≤ 9223372036854775807 := by
  obtain ⟨v0, v1, y0, y1, q, rfl, _, _, h0, h1⟩ := Joins.open_agg2 Tryz.underlying25 (by kernel_rfl) (by kernel_rfl) hv h
  have hs0 : ∃ (S : Option Addr) (m c : Nat) (l : List Int), v0 = .slice S m c ∧ Row W S m (l.map Iv) ∧ m ≤ c := by
    rcases open_ints Tryz.underlying22 Tryz.underlying3 (by kernel_rfl) h0 with ⟨hs, _⟩ | ⟨a, len, cap, zs, hs, _, hl, _, hz, _, hc, hw⟩
    · obtain rfl : v0 = .slice none 0 0 := by simpa using hs
      exact ⟨none, 0, 0, [], rfl, Row.none_, Nat.le_refl _⟩
    · obtain rfl : v0 = .slice (some a) len cap := by simpa using hs
      rw [if_pos rfl] at hz
      exact ⟨some a, len, cap, zs.take len, rfl, row_of_cells hl hz (fun i hi => hc i (by omega)), hl⟩
  obtain ⟨S, m, c, l, rfl, hR, hmc⟩ := hs0
  rcases Deep.open_int_rows Tryz.underlying23 Tryz.underlying22 Tryz.underlying3 (by kernel_rfl) (by kernel_rfl) h1 with ⟨hs, _⟩ | ⟨a, len, cap, A, L, C, Z, hs, _, hl, hcm, _, hr⟩
  · obtain rfl : v1 = .slice none 0 0 := by simpa using hs
    exact ⟨S, m, c, none, 0, 0, l, [], rfl, hR, ⟨rfl, fun h => absurd h (by omega)⟩, hmc, by omega⟩
  · obtain rfl : v1 = .slice (some a) len cap := by simpa using hs
    refine ⟨S, m, c, some a, len, cap, l, (List.range len).map fun r => (Z r).take (L r), rfl, hR, ⟨by simp, fun hp => ?_⟩, hmc, by unfold maxLen at hcm; omega⟩
    have hs0 : a.spot = none := by simpa [Addr.add] using World.cell?_spot (hr 0 (by omega)).1
    obtain ⟨b, off, spot⟩ := a
    obtain rfl : spot = none := hs0
    refine ⟨b, off, rfl, fun j t ht => ?_⟩
    rw [List.getElem?_map] at ht
    have hj : j < len := by
      rcases Nat.lt_or_ge j len with h | h
      · exact h
      · rw [List.getElem?_eq_none (by simpa using h)] at ht; cases ht
    rw [List.getElem?_eq_getElem (by simpa using hj)] at ht
    simp at ht
    subst ht
    obtain ⟨e1, e2, e3, e4, _, e6, e7⟩ := hr j (by omega)
    have e : (⟨b, off, none⟩ : Addr).add j = ⟨b, off + j, none⟩ := by
      unfold Addr.add
      by_cases h : j = 0 <;> simp [h]
    rw [e] at e1
    refine ⟨A j, L j, C j, e1, e2, ?_⟩
    cases hA : A j with
    | none =>
      have := e6 hA
      have hL0 : L j = 0 := by omega
      rw [hL0]
      simpa using Row.none_
    | some a' => exact row_of_cells e2 e4 (e7 a' hA).2

/-- THE DOOR's OWN HEAP MEETS THE CONDITION. -/
theorem door_met (os : Os) (args : Array Value) : laidMetH Tryz.prog row0.laid ((World.doorLaid Tryz.prog 200 os).forCall (fun _ _ => 0) ⟨#[], args, []⟩).memory :=
  laidMetH_of_parts3 (fuel := 8) (laidMet_of_run' 8 (by kernel_rfl) (by kernel_rfl)) (by kernel_rfl) (by kernel_rfl)

end Go.Proofs.YtllanbggjfmfhaaGreatDoor
namespace Go.Proofs.YtllanbggjfmfhaaGreatDoor.PoolGives
open Go.ChangeShapes Go.WideShapes Go.ChangeAt Go.RowKit

set_option maxRecDepth 100000 in
theorem contract (H : Type) (enc : TypeId × Value → H) (W : World) (base : Nat) (args : Array Value) (ds gs : List (DataW H)) (before : List MemPlace)
    (hval : ∀ (j : Nat) t v, Tryz.f4.params[j]? = some t → args[j]? = some v → Value.okWide Tryz.prog W .any base t v)
    (hW : DataW.Whole enc Tryz.prog Tryz.f4.params.toList Rows.poolGivesSpec.vars false W args.toList ds gs before) (hL : laidMetH Tryz.prog Rows.poolGivesRow.laid W) :
    Calls Tryz.prog 4 args W fun e W' => ∃ v, e = .returned v ∧ Rows.poolGivesSpec.post enc Tryz.prog Tryz.f4 false true false false W args v W' := by
  have hW' := hW
  obtain ⟨p, q, hA0, hV, rfl, hfz, hnd⟩ := hW
  have hA : DataW.TrodAll enc Tryz.prog W 0 (fun _ => true) true Tryz.f4.params.toList args.toList ds p := hA0
  rw [Tryz.params4] at hA hval
  obtain ⟨v0, vs0, d0, ds0, p0, q0, hargs, rfl, rfl, h0, r0⟩ := trodAll_cons hA
  obtain ⟨v1, vs1, d1, ds1, p1, q1, rfl, rfl, rfl, h1, r1⟩ := trodAll_cons r0
  obtain ⟨v2, vs2, d2, ds2, p2, q2, rfl, rfl, rfl, h2, r2⟩ := trodAll_cons r1
  obtain ⟨rfl, rfl, rfl⟩ := trodAll_nil r2
  obtain rfl : args = #[v0, v1, v2] := by cases args; simp_all
  obtain ⟨rfl, rfl⟩ := trodVars_none hV
  obtain ⟨S0, m0, c0, T0, k0, e0, l0, t0, rfl, hS0, hT0, hc0, hk0⟩ := open_pool (hval 0 _ v0 rfl rfl) h0
  obtain ⟨i1, rfl, rfl, rfl, b1⟩ := open_int Tryz.underlying3 (hval 1 _ v1 rfl rfl) h1
  obtain ⟨A2, m2, c2, l2, rfl, hR2, hF2, hc2⟩ := open_list (hval 2 _ v2 rfl rfl) h2
  obtain ⟨aS, aR, hRS, hE⟩ := sents hL
  refine (poolGives_any S0 m0 c0 T0 k0 e0 l0 t0 i1 A2 m2 c2 l2 aS aR W hRS hE hc0 hS0 hT0 hk0 hR2 hc2).mono fun e W' ⟨he, hb⟩ => ?_
  subst he
  exact ⟨_, rfl, post_true laidOut0 Tryz.underlying4 (by kernel_rfl) rfl (by kernel_rfl) hW' rfl hb⟩

noncomputable def wArgs : Array Value := #[.agg #[.slice none 0 0, .slice none 0 0], .int .i64 0, .slice none 0 0]

theorem reads (os : Os) {H : Type} (enc : TypeId × Value → H) : ∃ places, DataW.whole enc Tryz.prog ((World.doorLaid Tryz.prog 200 os).forCall (fun _ _ => 0) ⟨#[], wArgs, []⟩).memory Tryz.f4.params.toList Rows.poolGivesSpec.vars false wArgs.toList 8 = some ([.agg [.nil, .nil], .lit (.int .i64 0), .nil], [], places) :=
  ⟨[], by kernel_rfl⟩

set_option maxRecDepth 100000 in
theorem lifted (os : Os) (started : os.Started) (H : Type) (enc : TypeId × Value → H) (F : Stop.Interp) :
    ReturnsInHanded {} Tryz.checked os 4 .any ((OpenSpec.ofChange Rows.poolGivesSpec).preRow enc Tryz.prog Tryz.f4 Rows.poolGivesRow.domain false Rows.poolGivesRow.laid) (((OpenSpec.ofChange Rows.poolGivesSpec).at F).post enc Tryz.prog Tryz.f4 false true false false) := by
  obtain ⟨places, hx⟩ := reads os enc
  refine returnsInHanded_of_row (C := Tryz.checked) (s := OpenSpec.ofChange Rows.poolGivesSpec) own0 started (by kernel_rfl) Tryz.func4
    (witness_row_atRef (enc := enc) (C := Tryz.checked) false (World.doorLaid Tryz.prog 200 os) wArgs rfl (by kernel_rfl) (by kernel_rfl) (by kernel_rfl)
      (OpenSpec.preRow_of_cond 8 hx (by kernel_rfl) (fun k hk => by cases hk) (by kernel_rfl) (door_met os _))) ?_
  intro W base args ds gs before hval hW _ _ _ hL _ _
  exact contract H enc W base args ds gs before hval hW hL

theorem said : Rows.PoolGivesSaid :=
  OpenClaim.holds_of_cond 4 Tryz.f4 rfl rfl rfl rfl rfl rfl rfl ⟨rfl, rfl, rfl, rfl, rfl⟩ rfl rfl rfl rfl rfl (by kernel_rfl) Tryz.func4 (by kernel_rfl)
    (of_decide_eq_true (by kernel_rfl)) (by unfold Func.isWrapper; first | (rw [if_pos (by decide +kernel)]; kernel_rfl) | (rw [if_neg (by decide +kernel)]; exact ⟨rfl, rfl⟩))
    (fun os started H enc _ F => by rw [OpenClaim.pre_eq_preRow]; exact lifted os started H enc F)

theorem plain (f : FuncId) (fn : Func) (hf : Tryz.pinned.checked.prog.funcNamed "selion/selionlaw10.PoolGives" = some f) (hfn : Tryz.pinned.checked.prog.funcs[f]? = some fn) :
    true = Tryz.pinned.checked.prog.looks [] ∧ ∀ (j : Nat) t, fn.params[j]? = some t → Tryz.pinned.checked.prog.wantsStandIn t = false := by
  obtain rfl : f = 4 := Option.some.inj ((show Tryz.prog.funcNamed "selion/selionlaw10.PoolGives" = some 4 by kernel_rfl).symm.trans hf) |>.symm
  obtain rfl : fn = Tryz.f4 := (Option.some.inj (Tryz.func4.symm.trans hfn)).symm
  refine ⟨by kernel_rfl, fun j t ht => ?_⟩
  have h : (Tryz.f4.params.toList.all fun t => !Tryz.prog.wantsStandIn t) = true := by kernel_rfl
  have := List.all_eq_true.1 h t (by simpa using Array.mem_of_getElem? ht)
  show Tryz.prog.wantsStandIn t = false
  simpa using this

/-- THE CARD. -/
theorem card : Rows.PoolGivesCardSaid :=
  Claim7.holds_tied_plain_at .later [] _ _ _ _ said (fun _ h => by cases h) (by kernel_rfl) (fun _ h => by cases h) poolGives_row_tie rfl ⟨rfl, rfl⟩ (by kernel_rfl) rfl plain (by kernel_rfl)
end Go.Proofs.YtllanbggjfmfhaaGreatDoor.PoolGives
