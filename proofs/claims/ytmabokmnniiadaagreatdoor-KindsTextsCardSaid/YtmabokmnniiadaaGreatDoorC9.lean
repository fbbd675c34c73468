/-
  What is proved: the contract of numbers of the reference of descriptors. No condition beyond those stated.
-/
import Derived.Test.YtmabokmnniiadaaGreatDoorC8
namespace Go.Proofs.YtmabokmnniiadaaGreatDoor
open Go.RowKit

theorem nums_next {l : List UInt8} {k : Nat} {c : UInt8} (h : l[k]? = some c) : (isDig c = false → (numsK l (k + 1)).1 = (numsK l k).1) ∧ (isDig c = true → (numsK l k).2 = false → (numsK l (k + 1)).1 = (numsK l k).1 ++ [(c.toNat : Int) - 48]) ∧
    (isDig c = true → (numsK l k).2 = true → (numsK l (k + 1)).1 = (numsK l k).1.set ((numsK l k).1.length - 1) (min (10 * (numsK l k).1.getD ((numsK l k).1.length - 1) 0 + ((c.toNat : Int) - 48)) 10000)) := by
  rw [numsK_succ h]
  refine ⟨fun h1 => ?_, fun h1 h2 => ?_, fun h1 h2 => ?_⟩
  · unfold numStep
    rw [h1]
    rfl
  · unfold numStep
    rw [h1, h2]
    rfl
  · unfold numStep
    rw [h1, h2]
    rfl
theorem dig_of (c : UInt8) : isDig c = (decide (48 ≤ c.toNat) && decide (c.toNat ≤ 57)) := rfl

theorem min_if (a b : Int) : min a b = if b < a then b else a := by
  split <;> omega

set_option maxRecDepth 100000 in
set_option maxHeartbeats 4000000 in
/-- numbers. -/
theorem rnumbers_any (s : ByteArray) (w : World) (hs : s.size ≤ 1000) :
    Calls Tryz.prog 60 #[.string s] w (GivesL8 w (numsOf s.data.toList)) := by
  obtain ⟨i, hi, hi0, hi1, hi2⟩ := info_parts num_info8
  go_enter Tryz.func60, Tryz.ntmps60
  go_wp2
  go_loopw [3, 4] (fun v iv wr => ∃ k : Nat, k ≤ s.size ∧ iv = .int .i64 k ∧ wr.ownsRow w.heap.size 3 1 v (numsK s.data.toList k).1.length ((numsK s.data.toList k).1.map Iv) ∧ Below w.heap.size w wr) (fun _ iv _ => s.size - (intOf iv).toNat)
  case atStart => exact ⟨0, Nat.zero_le _, rfl, ⟨rfl, .inl ⟨rfl, rfl⟩⟩, Below.refl _ _⟩
  case round =>
    obtain ⟨k, hk, rfl, hown, hb⟩ := hrel
    have HO := Lib.hid hown
    have HB := Lib.hid hb
    have hszB := hb.size
    clear hown hb
    by_cases hlt : k < s.size
    · obtain ⟨hck, hI⟩ := index_str s k hlt
      obtain ⟨hn1, hn2, hn3⟩ := nums_next hck
      obtain ⟨iv1, iv2, iv3⟩ := numsK_inv (l := s.data.toList) k (by simpa using hk)
      have hdg := dig_of s[k]
      have hf : 0 < k → ∃ j, k = j + 1 := fun h => ⟨k - 1, by omega⟩
      have hfl : ∀ j, k = j + 1 → ∃ hj : j < s.size, (numsK s.data.toList k).2 = isDig s[j] := fun j e => by
        have hj : j < s.size := by omega
        refine ⟨hj, ?_⟩
        rw [e, numsK_succ (index_str s j hj).1, step_flag]
      have hf0 : k = 0 → (numsK s.data.toList k).2 = false := fun e => by rw [e]; rfl
      generalize (numsK s.data.toList k).1 = L at *
      generalize (numsK s.data.toList k).2 = b at *
      have HN1 := Lib.hid hn1
      have HN2 := Lib.hid hn2
      have HN3 := Lib.hid hn3
      have HV1 := Lib.hid iv1
      have HV2 := Lib.hid iv2
      have HV3 := Lib.hid iv3
      have HFL := Lib.hid hfl
      have HF0 := Lib.hid hf0
      clear hn1 hn2 hn3 iv1 iv2 iv3 hfl hf0 hck
      generalize isDig s[k] = dg at *
      generalize hcc : (s[k]).toNat = c at *
      by_cases h1 : c < 48
      · have hN := HN1.out (by rw [hdg, decide_eq_false (by omega)]; rfl)
        have HN := Lib.hid hN
        have h1' : decide ((c : Int) < 48) = true := decide_eq_true (by omega)
        clear hN hdg
        go_wp2
        go_roundw
        case rel => exact ⟨k + 1, by omega, by go_num, by rw [HN.out]; exact HO.out, HB.out⟩
        case measure => simp [intOf]; omega
      · have h1' : decide ((c : Int) < 48) = false := decide_eq_false (by omega)
        by_cases h2 : 57 < c
        · have hN := HN1.out (by rw [hdg, decide_eq_false (show ¬ c ≤ 57 by omega), Bool.and_false])
          have HN := Lib.hid hN
          have h2' : decide (57 < (c : Int)) = true := decide_eq_true (by omega)
          clear hN hdg
          go_wp2
          go_roundw
          case rel => exact ⟨k + 1, by omega, by go_num, by rw [HN.out]; exact HO.out, HB.out⟩
          case measure => simp [intOf]; omega
        · have h2' : decide (57 < (c : Int)) = false := decide_eq_false (by omega)
          have hdt : dg = true := by rw [hdg, decide_eq_true (by omega), decide_eq_true (by omega)]; rfl
          have wu : IntKind.u8.wrap ((c : Int) - 48) = (c : Int) - 48 := by rw [IntKind.wrap_u8]; omega
          have wi : IntKind.i64.wrap ((c : Int) - 48) = (c : Int) - 48 := by rw [IntKind.wrap_i64]; omega
          have HM2 := Lib.hid (HN2.out hdt)
          have HM3 := Lib.hid (HN3.out hdt)
          clear hdg hdt HN1 HN2 HN3
          have hgo : (b = false ∧ (k = 0 ∨ ∃ hk0 : 0 < k, ((s[k - 1]'(by omega)).toNat < 48 ∨ 57 < (s[k - 1]'(by omega)).toNat))) ∨ (b = true ∧ ∃ hk0 : 0 < k, 48 ≤ (s[k - 1]'(by omega)).toNat ∧ (s[k - 1]'(by omega)).toNat ≤ 57) := by
            by_cases h0 : k = 0
            · exact .inl ⟨HF0.out h0, .inl h0⟩
            · obtain ⟨hj2, hb⟩ := HFL.out (k - 1) (by omega)
              rw [dig_of] at hb
              by_cases h3 : (s[k - 1]).toNat < 48
              · exact .inl ⟨by rw [hb, decide_eq_false (by omega)]; rfl, .inr ⟨by omega, .inl h3⟩⟩
              · by_cases h4 : 57 < (s[k - 1]).toNat
                · exact .inl ⟨by rw [hb, decide_eq_false (show ¬ (s[k - 1]).toNat ≤ 57 by omega), Bool.and_false], .inr ⟨by omega, .inr h4⟩⟩
                · exact .inr ⟨by rw [hb, decide_eq_true (by omega), decide_eq_true (by omega)]; rfl, by omega, by omega, by omega⟩
          clear HFL HF0 hf
          rcases hgo with ⟨hbf, hgo⟩ | ⟨hbt, hk0, h3, h4⟩
          · have hN := HM2.out hbf
            have HN := Lib.hid hN
            have HLN := Lib.hid HV3.out
            clear hN hbf HM2 HM3 HV1 HV2 HV3
            rcases hgo with hk0 | ⟨hk0, h3⟩
            case' inl =>
              have h0' : decide (0 < (k : Int)) = false := decide_eq_false (by omega)
              have h0'' : decide (0 < k) = false := decide_eq_false (by omega)
              have HK0 := Lib.hid hk0
              clear hk0
            case' inr =>
              have h0' : decide (0 < (k : Int)) = true := decide_eq_true (by omega)
              have h0'' : decide (0 < k) = true := decide_eq_true (by omega)
              have hkl : k - 1 < s.size := by omega
              have HK0 := Lib.hid hk0
              have hIj := (index_str s (k - 1) hkl).2
              rw [show ((k - 1 : Nat) : Int) = (k : Int) - 1 by omega] at hIj
              generalize (s[k - 1]).toNat = cj at *
              rcases h3 with h3 | h3
              case' inl =>
                have h3' : decide (48 ≤ (cj : Int)) = false := decide_eq_false (by omega)
              case' inr =>
                have h3' : decide (48 ≤ (cj : Int)) = true := decide_eq_true (by omega)
                have h4' : decide ((cj : Int) ≤ 57) = false := decide_eq_false (by omega)
            all_goals
              go_wp2_with (at_builtin; refine stop_here8 ?_)
              intro _
              refine wpList_push (w0 := w) wr rfl _ _ 33 rfl w.heap.size 3 i (.int .i64 0) 8 Tryz.underlying33 hi hi0 hi1 hi2 rfl u3 L.length (L.map Iv) rfl HO.out (.int .i64 ((c : Int) - 48)) rfl rfl ?b1 ?b2 (Nat.le_refl _) hszB HB.out ?_
              case b1 => have := HLN.out; unfold maxLen; omega
              case b2 => have := HLN.out; omega
              intro v' w3 hown3 hb3
              have HO3 := Lib.hid hown3
              have HB3 := Lib.hid hb3
              clear hown3 hb3 HO HB
              go_wp2
              go_roundw
              case rel => exact ⟨k + 1, by omega, by go_num, by rw [HN.out]; simpa [Iv] using HO3.out, HB3.out⟩
              case measure => simp [intOf]; omega
          · have hN := HM3.out hbt
            have hL1 := HV1.out hbt
            obtain ⟨l1, hl1⟩ : ∃ l1, L.length = l1 + 1 := ⟨L.length - 1, by omega⟩
            obtain ⟨g, cap, u, rfl, hg, cg, hu, fg, hset⟩ := owns_at (k := l1) HO.out (by omega)
            have hl2 : l1 ≤ 1000 := by have := HV3.out; omega
            rw [hl1, Nat.add_sub_cancel] at hN
            rw [List.getElem?_map, List.getElem?_eq_getElem (by omega), Option.map_some] at hu
            have hx := HV2.out (L[l1]'(by omega)) (List.getElem_mem _)
            have hgx : L.getD l1 0 = L[l1]'(by omega) := by rw [List.getD_eq_getElem?_getD, List.getElem?_eq_getElem (by omega)]; rfl
            rw [hgx] at hN
            generalize L[l1]'(by omega) = x at *
            obtain rfl : .int .i64 x = u := by simpa [Iv] using hu
            have hown : (wr.setCell ⟨g, l1, none⟩ (.int .i64 (min (10 * x + ((c : Int) - 48)) 10000))).ownsRow w.heap.size 3 1 (.slice (some ⟨g, 0, none⟩) L.length cap) (numsK s.data.toList (k + 1)).1.length ((numsK s.data.toList (k + 1)).1.map Iv) := by
              have h := hset (Iv (min (10 * x + ((c : Int) - 48)) 10000))
              rw [hN, List.length_set, List.map_set]
              exact h
            have hbw : Below w.heap.size w (wr.setCell ⟨g, l1, none⟩ (.int .i64 (min (10 * x + ((c : Int) - 48)) 10000))) := HB.out.setCell (p := ⟨g, l1, none⟩) hg _
            rw [hl1] at hown
            rw [min_if] at hown hbw
            have HOW := Lib.hid hown
            have HBW := Lib.hid hbw
            have hx0 := hx.1
            have hx1 := hx.2
            have w1 : IntKind.i64.wrap (l1 : Int) = l1 := by rw [IntKind.wrap_i64]; omega
            have wm : IntKind.i64.wrap (10 * x) = 10 * x := by rw [IntKind.wrap_i64]; omega
            have wa : IntKind.i64.wrap (10 * x + ((c : Int) - 48)) = 10 * x + ((c : Int) - 48) := by rw [IntKind.wrap_i64]; omega
            have h0' : decide (0 < (k : Int)) = true := decide_eq_true (by omega)
            have h0'' : decide (0 < k) = true := decide_eq_true (by omega)
            have hkl : k - 1 < s.size := by omega
            have HK0 := Lib.hid hk0
            have hIj := (index_str s (k - 1) hkl).2
            rw [show ((k - 1 : Nat) : Int) = (k : Int) - 1 by omega] at hIj
            generalize (s[k - 1]).toNat = cj at *
            have h3' : decide (48 ≤ (cj : Int)) = true := decide_eq_true (by omega)
            have h4' : decide ((cj : Int) ≤ 57) = true := decide_eq_true (by omega)
            rw [hl1]
            clear hN hown hbw hset hu hx hgx HO HB HM2 HM3 HV1 HV2 HV3 hbt
            go_wp2
            go_roundw
            case rel => exact ⟨k + 1, by omega, by go_num, HOW.out, HBW.out⟩
            case measure => simp [intOf]; omega
    · have HE := Lib.hid (numsK_all (l := s.data.toList) (k := k) (by simp; omega))
      go_wp2
      go_ret
      have h := GivesL8.mk HO.out HB.out
      rw [HE.out] at h
      exact h
end Go.Proofs.YtmabokmnniiadaaGreatDoor
