/-
  What is proved: the contract of what teller of package desc hands back. No condition beyond those stated.
-/
import Derived.Test.YtepnamlcofmccaaGreatDoorCe
namespace Go.Proofs.YtepnamlcofmccaaGreatDoor
open Go.RowKit

theorem kind_none {z e n a en : Int} {ps es : List Int} (hen : z + n * e = en) (h : a < 0 ∨ en ≤ a ∨ a.tmod 4 ≠ 0) : kindAt z ps e es n a = 0 := by
  unfold kindAt
  rw [hen, if_pos h]
theorem kind_low {z e n a en : Int} {ps es : List Int} (hen : z + n * e = en) (h0 : ¬ a < 0) (h1 : ¬ en ≤ a) (h2 : a.tmod 4 = 0) (h3 : a < z) : kindAt z ps e es n a = if hasB ps a then 2 else 1 := by
  unfold kindAt hasB
  rw [hen, if_neg (by omega), if_pos h3]
  by_cases h : a ∈ ps <;> simp [h]
theorem kind_high {z e n a en : Int} {ps es : List Int} (hen : z + n * e = en) (h0 : ¬ a < 0) (h1 : ¬ en ≤ a) (h2 : a.tmod 4 = 0) (h3 : ¬ a < z) : kindAt z ps e es n a = if hasB es ((a - z) % e) then 2 else 1 := by
  unfold kindAt hasB
  rw [hen, if_neg (by omega), if_neg h3, Int.tmod_eq_emod_of_nonneg (by omega)]
  by_cases h : (a - z) % e ∈ es <;> simp [h]

set_option maxHeartbeats 4000000 in
theorem tell_any (z e n a : Int) (P Q : Option Addr) (m c q f : Nat) (ps es : List Int) (g h : Nat) (w : World) (hP : Row w P m (ps.map Iv)) (hQ : Row w Q q (es.map Iv)) (hm : m ≤ 1000) (hq : q ≤ 1000)
    (hg : w.cell? ⟨g, 0, none⟩ = some (.int .i64 (z + n * e))) (hh : Blk w h 53 #[.int .i64 z, .slice P m c, .int .i64 e, .slice Q q f, .int .i64 n]) (hz : 0 ≤ z ∧ z ≤ 1024) (he : 0 ≤ e ∧ e ≤ 256) (hne : 0 ≤ n * e ∧ n * e ≤ 131072) :
    Calls Tryz.prog 48 #[.int .i64 a, .pointer (some ⟨g, 0, none⟩), .pointer (some ⟨h, 0, none⟩)] w fun x w' => x = .returned (.int .i64 (kindAt z ps e es n a)) ∧ Below w.heap.size w w' := by
  obtain ⟨hz1, hz2⟩ := hz
  obtain ⟨he1, he2⟩ := he
  obtain ⟨hne1, hne2⟩ := hne
  obtain ⟨en, hen⟩ : ∃ en, z + n * e = en := ⟨_, rfl⟩
  have he0 : ¬ a < 0 → ¬ en ≤ a → ¬ a < z → 0 < e := fun h0 h1 h2 => by
    rcases Int.lt_or_eq_of_le he1 with h | h
    · exact h
    · rw [← h] at hen; simp at hen; omega
  have hen2 : en ≤ 140000 := by omega
  rw [hen] at hg
  have KN : Hid _ := Lib.hid (fun h => kind_none (ps := ps) (es := es) (a := a) hen h)
  have KL : Hid _ := Lib.hid (kind_low (ps := ps) (es := es) (a := a) hen)
  have KH : Hid _ := Lib.hid (kind_high (ps := ps) (es := es) (a := a) hen)
  generalize kindAt z ps e es n a = k at *
  have HP := Lib.hid hP
  have HQ := Lib.hid hQ
  have HE := Lib.hid he0
  have T0 := fun x : Ext w => ext_cell (hh.at_ (i := 0) rfl) x
  have T1 := fun x : Ext w => ext_cell (hh.at_ (i := 1) rfl) x
  have T2 := fun x : Ext w => ext_cell (hh.at_ (i := 2) rfl) x
  have T3 := fun x : Ext w => ext_cell (hh.at_ (i := 3) rfl) x
  have T4 := hh.at_ (i := 0) rfl
  clear hP hQ he0 hen hne1 hne2
  by_cases h0 : a < 0
  · have hk := KN.out (.inl h0)
    have HK := Lib.hid hk
    clear hk hh T0 T1 T2 T3 T4
    go_enter Tryz.func48, Tryz.ntmps48
    go_wp2
    go_ret
    exact ⟨ret_int HK.out.symm, Below.refl _ _⟩
  · by_cases h1 : en ≤ a
    · have hk := KN.out (.inr (.inl h1))
      have HK := Lib.hid hk
      clear hk hh T0 T1 T2 T3 T4
      go_enter Tryz.func48, Tryz.ntmps48
      go_wp2
      go_ret
      exact ⟨ret_int HK.out.symm, Below.refl _ _⟩
    · by_cases h2 : a.tmod 4 = 0
      · have g3 : (a % 4 != 0) = false := by rw [← Int.tmod_eq_emod_of_nonneg (by omega), h2]; rfl
        by_cases h3 : a < z
        · have hk := KL.out h0 h1 h2 h3
          have h3' : ¬ z ≤ a := by omega
          have HK := Lib.hid hk
          clear hk h2 hh
          generalize hb : hasB ps a = b at *
          go_enter Tryz.func48, Tryz.ntmps48
          go_wp2
          refine wp_region_plan [(0, true), (1, true), (2, true), (3, true), (4, true), (5, true)] (by kernel_rfl) (by kernel_rfl) ?_
          repeat (first | (refine plan_skip rfl rfl ?_; go_frame) | (refine plan_soft rfl rfl (fun K hK => ?_); go_simp; first | (refine hK _ ?_; clear hK K) | (apply Exists.intro; refine ⟨fun x => ?_, hK _ ?_⟩; (· (fail)); clear hK K; try go_frame)))
          refine plan_nil ?_; intro w1 h0b; have HB1 := Lib.hid h0b; clear h0b
          have c4 := cell_ext HB1.out T4
          have hcall := contains_any P m c ps a w1 (HP.out.ext HB1.out) (by omega)
          rw [hb] at hcall
          have HC := Lib.hid hcall
          clear T0 T1 T2 T3 T4 hcall hb
          go_wp2_with fail
          refine HC.out.mono ?_
          rintro x w' ⟨rfl, rfl⟩
          cases b
          · go_wp2
            go_ret
            exact ⟨ret_int HK.out.symm, HB1.out⟩
          · go_wp2
            go_ret
            exact ⟨ret_int HK.out.symm, HB1.out⟩
        · have hk := KH.out h0 h1 h2 h3
          have h3' : z ≤ a := by omega
          have he3 := HE.out h0 h1 h3
          have HK := Lib.hid hk
          clear hk h2 hh
          generalize hb : hasB es ((a - z) % e) = b at *
          go_enter Tryz.func48, Tryz.ntmps48
          go_wp2
          refine wp_region_plan [(0, true), (1, true), (2, true), (3, true), (4, true), (5, true)] (by kernel_rfl) (by kernel_rfl) ?_
          repeat (first | (refine plan_skip rfl rfl ?_; go_frame) | (refine plan_soft rfl rfl (fun K hK => ?_); go_simp; first | (refine hK _ ?_; clear hK K) | (apply Exists.intro; refine ⟨fun x => ?_, hK _ ?_⟩; (· (fail)); clear hK K; try go_frame)))
          refine plan_nil ?_; intro w1 h0b; have HB1 := Lib.hid h0b; clear h0b
          have c4 := cell_ext HB1.out T4
          have U0 := fun x : Ext w1 => T0 ⟨x.val, below_le HB1.out x.below⟩
          have U2 := fun x : Ext w1 => T2 ⟨x.val, below_le HB1.out x.below⟩
          have U3 := fun x : Ext w1 => T3 ⟨x.val, below_le HB1.out x.below⟩
          dsimp only at U0 U2 U3
          clear T0 T1 T2 T3 T4
          go_wp2
          have hw1 : IntKind.i64.wrap (a - z) = a - z := IntWalk.i64_in _ (by omega)
          have hw2 : (a - z).tmod e = (a - z) % e := Int.tmod_eq_emod_of_nonneg (by omega)
          have hw4 := Int.emod_lt_of_pos (a - z) he3
          have hw5 := Int.emod_nonneg (a - z) (by omega : e ≠ 0)
          have hw3 : IntKind.i64.wrap ((a - z) % e) = (a - z) % e := IntWalk.i64_in _ (by omega)
          have hw6 : (e == 0) = false := beq_eq_false_iff_ne.2 (by omega)
          have hw7 : ¬ e = 0 := by omega
          generalize (a - z) % e = r at *
          refine wp_region_plan [(0, true), (1, true), (2, true), (3, true), (4, true), (5, true), (6, true), (7, true), (8, true), (9, true), (10, true), (11, true), (12, true), (13, true)] (by kernel_rfl) (by kernel_rfl) ?_
          repeat (first | (refine plan_skip rfl rfl ?_; go_frame) | (refine plan_soft rfl rfl (fun K hK => ?_); go_simp; first | (refine hK _ ?_; clear hK K) | (apply Exists.intro; refine ⟨fun x => ?_, hK _ ?_⟩; (· (fail)); clear hK K; try go_frame)))
          refine plan_nil ?_; intro w2 h0b; have HB2 := Lib.hid h0b; clear h0b
          have hcall := contains_any Q q f es r w2 (HQ.out.ext (below_le HB1.out HB2.out)) (by omega)
          rw [hb] at hcall
          have HC := Lib.hid hcall
          clear hcall hb U0 U2 U3 hw1 hw2 hw3 hw4 hw5 hw6 hw7
          go_wp2_with fail
          refine HC.out.mono ?_
          rintro x w' ⟨rfl, rfl⟩
          cases b
          · go_wp2
            go_ret
            exact ⟨ret_int HK.out.symm, below_le HB1.out HB2.out⟩
          · go_wp2
            go_ret
            exact ⟨ret_int HK.out.symm, below_le HB1.out HB2.out⟩
      · have hk := KN.out (.inr (.inr h2))
        have g3 : (a % 4 != 0) = true := by rw [← Int.tmod_eq_emod_of_nonneg (by omega)]; exact bne_iff_ne.2 h2
        have HK := Lib.hid hk
        clear hk hh T0 T1 T2 T3 T4 h2
        go_enter Tryz.func48, Tryz.ntmps48
        go_wp2
        go_ret
        exact ⟨ret_int HK.out.symm, Below.refl _ _⟩

end Go.Proofs.YtepnamlcofmccaaGreatDoor
