/-
  What is proved: the contract of pointers of package desc, as an iterator. No condition beyond those stated.
-/
import Derived.Test.YtepnamlcofmccaaGreatDoorCg
namespace Go.Proofs.YtepnamlcofmccaaGreatDoor
open Go.RowKit Go.Shelf
attribute [local go_sem] Oper.semAt_some

theorem slots_low {z e : Int} {ps es : List Int} {i : Nat} (h : i < ps.length) : ∀ k, (slotsTo z ps e es k).getD i 0 = ps.getD i 0
  | 0 => rfl
  | k + 1 => by
    have hl := slots_len z ps e es k
    rw [slotsTo, List.getD_eq_getElem?_getD, List.getElem?_append_left (by omega), ← List.getD_eq_getElem?_getD]
    exact slots_low h k
theorem slots_high {z e : Int} {ps es : List Int} {i j : Nat} (hj : j < es.length) : ∀ k, i < k → (slotsTo z ps e es k).getD (ps.length + i * es.length + j) 0 = z + (i : Int) * e + es.getD j 0
  | 0, h => by omega
  | k + 1, h => by
    have hl := slots_len z ps e es k
    rw [slotsTo, List.getD_eq_getElem?_getD]
    by_cases hi : i = k
    · subst hi
      rw [List.getElem?_append_right (by omega), hl, show ps.length + i * es.length + j - (ps.length + i * es.length) = j by omega, List.getElem?_map, List.getElem?_eq_getElem hj]
      simp [hj]
    · have h1 : (i + 1) * es.length ≤ k * es.length := Nat.mul_le_mul_right _ (by omega)
      rw [Nat.add_mul] at h1
      rw [List.getElem?_append_left (by omega), ← List.getD_eq_getElem?_getD]
      exact slots_high hj k (by omega)

/-- A number, as an iterator yields it. -/
def numV (L : List Int) (i : Nat) : Array Value := #[.int .i64 (L.getD i 0)]
abbrev StopsN (n f : Nat) (lb : Array Value) (S : List Nat) (L : List Int) (w : World) : Prop :=
  SeqStopsK Fence.wide n Tryz.prog f lb (fun x : Fin L.length => numV L x.1) (KeepB S) (fun ys => ys = List.finRange L.length) (fun pre => ∃ k, k ≤ L.length ∧ pre = (List.finRange L.length).take k) L.length w

set_option maxRecDepth 100000 in
set_option maxHeartbeats 4000000 in
theorem ptrs1_in (n : Nat) (z e : Int) (N : Nat) (P Q : Option Addr) (m c q f : Nat) (ps es : List Int) (L : List Int) (hL : L = slotsTo z ps e es N) (h y : Nat) (S : List Nat) (hS : h ∈ S) (hA : ∀ b ∈ blkR P m, b ∈ S) (hB : ∀ b ∈ blkR Q q, b ∈ S) (hm : m ≤ 1000) (hq : q ≤ 1000) (hz : 0 ≤ z ∧ z ≤ 1024) (he : 0 ≤ e ∧ e ≤ 256) (hN : N ≤ 131072) (hne : (N : Int) * e ≤ 131072) (hes : ∀ p ∈ es, 0 ≤ p ∧ p ≤ 1000)
    (J Jx : List (Fin L.length) → World → Prop) (W : World)
    (hY : ∀ pre x W, J pre W → pre.length < L.length → YieldAt Fence.wide (n - 1) Tryz.prog y (numV L x.1) W fun e W' =>
      (e = .returned (.bool true) ∧ J (pre ++ [x]) W' ∧ KeepB S W W') ∨ (e = .returned (.bool false) ∧ Jx (pre ++ [x]) W'))
    (hc : Blk W h 53 #[.int .i64 z, .slice P m c, .int .i64 e, .slice Q q f, .int .i64 N]) (hP : Row W P m (ps.map Iv)) (hQ : Row W Q q (es.map Iv)) (h0 : J [] W) :
    CallsIn Fence.wide n Tryz.prog 47 #[.func (.yield y) #[] #[], .pointer (some ⟨h, 0, none⟩)] W (SeqEnd (fun ys => ys = List.finRange L.length) (fun pre => ∃ k, k ≤ L.length ∧ pre = (List.finRange L.length).take k) J Jx) := by
  have hlm := hP.1
  have hlq := hQ.1
  simp at hlm hlq
  have hlen := slots_len z ps e es N
  rw [← hL, hlm, hlq] at hlen
  have hlow : ∀ i, i < m → L.getD i 0 = ps.getD i 0 := fun i hi => by rw [hL]; exact slots_low (by omega) N
  have hhigh : ∀ i j, i < N → j < q → L.getD (m + i * q + j) 0 = z + (i : Int) * e + es.getD j 0 := fun i j hi hj => by
    rw [hL]
    have := slots_high (z := z) (e := e) (ps := ps) (es := es) (i := i) (j := j) (by omega) N hi
    rwa [hlm, hlq] at this
  have hmul : ∀ i, i < N → 0 ≤ (i : Int) * e ∧ (i : Int) * e ≤ 131072 := fun i hi => by
    have h1 := Int.mul_le_mul_of_nonneg_right (show (i : Int) ≤ (N : Int) by omega) he.1
    exact ⟨Int.mul_nonneg (by omega) he.1, by omega⟩
  obtain ⟨hz1, hz2⟩ := hz
  have HP := Lib.hid hP
  have HQ := Lib.hid hQ
  have HL := Lib.hid hlen
  have HLO := Lib.hid hlow
  have HHI := Lib.hid hhigh
  have HMU := Lib.hid hmul
  have HC := Lib.hid hc
  have HA := Lib.hid hA
  have HBQ := Lib.hid hB
  have HES := Lib.hid hes
  have HLQ := Lib.hid hlq
  have HMS := Lib.hid hS
  have d1 := hc.at_ (i := 1) rfl
  clear hP hQ hlen hlow hhigh hmul hc hA hB hes hL hlm hlq he hne hS
  refine callsIn_of_wp Tryz.func47 rfl trivial ?_ rfl
  simp only [Tryz.ntmps47, List.size_toArray, List.length_cons, List.length_nil, Nat.reduceAdd, Nat.reduceSub, Array.replicate_succ, Array.replicate_zero, List.push_toArray, List.append_toArray, List.nil_append, List.cons_append]
  gi_wp2
  gi_loopw [12] (fun i wr => ∃ k : Nat, k ≤ m ∧ i = .int .i64 k ∧ J ((List.finRange L.length).take k) wr ∧ KeepB S W wr)
    (fun i _ => m - (intOf i).toNat)
  case atStart => exact ⟨0, Nat.zero_le _, rfl, h0, KeepB.refl _ _⟩
  case round =>
    obtain ⟨k, hk, rfl, hJs, hkp⟩ := hrel
    have HK := Lib.hid hkp
    have HJs := Lib.hid hJs
    by_cases hlt : k < m
    · have hkN : k < L.length := by have := HL.out; omega
      obtain ⟨b, off, x, rfl, hx, hxe, -⟩ := num_at (hkp.rowR HP.out HA.out) hlt
      obtain ⟨fn, tmps, assign, body, hy, hRy⟩ := hY _ ⟨k, hkN⟩ _ hJs (by simp; omega)
      dsimp only [numV] at hy hRy
      rw [HLO.out k hlt, hxe] at hy
      have HRy := Lib.hid hRy
      clear hRy hkp hJs hxe d1
      gi_wp2
      refine ⟨fun h => by simp [Fence.wide] at h, HRy.out.mono ?_⟩
      rintro e W3 (⟨rfl, hJ4, hk4⟩ | ⟨rfl, hJx4⟩)
      · have HJ4 := Lib.hid hJ4
        have HK4 := Lib.hid hk4
        clear hJ4 hk4
        gi_wp2
        go_roundw
        case rel => exact ⟨k + 1, by omega, by go_num, by rw [fin_take_succ _ _ hkN]; exact HJ4.out, HK.out.t HK4.out⟩
        case measure => simp [intOf]; omega
      · have HJx4 := Lib.hid hJx4
        clear hJx4
        gi_wp2
        refine bodyPost_ret (results_none rfl _ _ _) rfl ?_
        exact ⟨⟨_, rfl⟩, .inr ⟨_, ⟨k + 1, by omega, rfl⟩, by rw [fin_take_succ _ _ hkN]; exact HJx4.out⟩⟩
    · obtain rfl : k = m := by omega
      have d4 := (hkp.blk HMS.out HC.out).at_ (i := 4) rfl
      clear hkp hJs d1
      gi_wp2
      gi_loopw [23] (fun i wr => ∃ r : Nat, r ≤ N ∧ i = .int .i64 r ∧ J ((List.finRange L.length).take (k + r * q)) wr ∧ KeepB S W wr)
        (fun i _ => N - (intOf i).toNat)
      case atStart => exact ⟨0, Nat.zero_le _, rfl, by rw [Nat.zero_mul]; exact HJs.out, HK.out⟩
      case round =>
        obtain ⟨r, hr, rfl, hJs, hkp⟩ := hrel
        have HK2 := Lib.hid hkp
        have HJ2 := Lib.hid hJs
        by_cases hlt2 : r < N
        · have hrq : (r + 1) * q ≤ N * q := Nat.mul_le_mul_right _ (by omega)
          rw [Nat.add_mul, Nat.one_mul] at hrq
          have HRQ := Lib.hid hrq
          have d3 := (hkp.blk HMS.out HC.out).at_ (i := 3) rfl
          have hmu := HMU.out r hlt2
          obtain ⟨hmu1, hmu2⟩ := hmu
          have hhr := fun j hj => HHI.out r j hlt2 hj
          obtain ⟨re, hre⟩ : ∃ re, (r : Int) * e = re := ⟨_, rfl⟩
          rw [hre] at hmu1 hmu2 hhr
          have HHR := Lib.hid hhr
          clear hkp hJs hrq hhr
          gi_wp2
          gi_loopw [30] (fun i wr => ∃ j : Nat, j ≤ q ∧ i = .int .i64 j ∧ J ((List.finRange L.length).take (k + r * q + j)) wr ∧ KeepB S W wr)
            (fun i _ => q - (intOf i).toNat)
          case atStart => exact ⟨0, Nat.zero_le _, rfl, HJ2.out, HK2.out⟩
          case round =>
            obtain ⟨j, hj, rfl, hJs, hkp⟩ := hrel
            have HK3 := Lib.hid hkp
            have HJ3 := Lib.hid hJs
            by_cases hlt3 : j < q
            · have hkN : k + r * q + j < L.length := by have h1 := HL.out; have h2 := HRQ.out; omega
              obtain ⟨b, off, x, rfl, hx, hxe, hxm⟩ := num_at (hkp.rowR HQ.out HBQ.out) hlt3
              have hxb := HES.out x (List.mem_of_getElem? hxm)
              obtain ⟨hx1, hx2⟩ := hxb
              have hg := hkp.blk HMS.out HC.out
              have g0 := hg.at_ (i := 0) rfl
              have g2 := hg.at_ (i := 2) rfl
              obtain ⟨fn, tmps, assign, body, hy, hRy⟩ := hY _ ⟨k + r * q + j, hkN⟩ _ hJs (by simp; omega)
              dsimp only [numV] at hy hRy
              rw [HHR.out j hlt3, hxe] at hy
              have HRy := Lib.hid hRy
              clear hRy hkp hJs hxe hxm hg
              gi_wp2
              refine ⟨fun h => by simp [Fence.wide] at h, HRy.out.mono ?_⟩
              rintro e W3 (⟨rfl, hJ4, hk4⟩ | ⟨rfl, hJx4⟩)
              · have HJ4 := Lib.hid hJ4
                have HK4 := Lib.hid hk4
                clear hJ4 hk4
                gi_wp2
                go_roundw
                case rel => exact ⟨j + 1, by omega, by go_num, by rw [← Nat.add_assoc, fin_take_succ _ _ hkN]; exact HJ4.out, HK3.out.t HK4.out⟩
                case measure => simp [intOf]; omega
              · have HJx4 := Lib.hid hJx4
                clear hJx4
                gi_wp2
                refine bodyPost_ret (results_none rfl _ _ _) rfl ?_
                exact ⟨⟨_, rfl⟩, .inr ⟨_, ⟨k + r * q + j + 1, by omega, rfl⟩, by rw [fin_take_succ _ _ hkN]; exact HJx4.out⟩⟩
            · obtain rfl : j = q := by omega
              clear hkp hJs
              gi_wp2
              go_roundw
              case rel => exact ⟨r + 1, by omega, by go_num, by rw [Nat.add_mul, Nat.one_mul, ← Nat.add_assoc]; exact HJ3.out, HK3.out⟩
              case measure => simp [intOf]; omega
        · obtain rfl : r = N := by omega
          clear hkp hJs
          gi_wp2
          go_end0
          refine ⟨⟨_, rfl⟩, .inl ⟨_, rfl, ?_⟩⟩
          have := HJ2.out
          rwa [← HL.out, fin_take_all] at this

end Go.Proofs.YtepnamlcofmccaaGreatDoor
