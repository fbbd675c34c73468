/-
  What is proved: the contract of Right of package pool. No condition beyond those stated.
-/
import Derived.Test.YtllanbggjfmfhaaGreatDoorHa
namespace Go.Proofs.YtllanbggjfmfhaaGreatDoor
open Go.RowKit Go.Shelf

def blkOk (s : Int) (t : List Int) : Bool := tabB t && asksOf s t
/-- A right pool. -/
def pRight (l : List Int) (ts : List (List Int)) : Bool := wholeL l && decide (ts.length = l.length) && (List.range l.length).all fun i => blkOk (l.getD i 0) (ts.getD i [])

def poolV (S : Option Addr) (m c : Nat) (T : Option Addr) (k d : Nat) : Value := .agg #[.slice S m c, .slice T k d]

theorem ask_some {s : Int} (h : askH s = true) : (askV s = fn1 ∧ ∀ t, asksOf s t = emptyB t) ∨ (askV s = fn2 ∧ ∀ t, asksOf s t = holeyB t) := by
  simp only [askH, decide_eq_true_eq] at h
  by_cases h1 : s = 0 ∨ s = 3 ∨ s = 4
  · exact .inl ⟨by rw [askV, if_pos h1], fun t => by rw [asksOf, if_pos h1]⟩
  · have h2 : s = 1 := by omega
    exact .inr ⟨by rw [askV, if_neg h1, if_pos h2], fun t => by rw [asksOf, if_neg h1, if_pos h2]⟩
theorem ask_none {s : Int} (h : askH s = false) : askV s = .nilFunc ∧ ∀ t, asksOf s t = true := by
  simp only [askH, decide_eq_false_iff_not] at h
  have h1 : ¬ (s = 0 ∨ s = 3 ∨ s = 4) := by omega
  have h2 : ¬ s = 1 := by omega
  exact ⟨by rw [askV, if_neg h1, if_neg h2], fun t => by rw [asksOf, if_neg h1, if_neg h2]⟩

set_option maxRecDepth 100000 in
set_option maxHeartbeats 2000000 in
/-- pool.Right. -/
theorem pright_any (S : Option Addr) (m c : Nat) (T : Option Addr) (k d : Nat) (l : List Int) (ts : List (List Int)) (w : World) (hS : Row w S m (l.map Iv)) (hT : Tabs w T k ts) (hm : m ≤ 1000) (hk : k ≤ 1000) :
    Calls Tryz.prog 47 #[.agg #[.slice S m c, .slice T k d]] w fun e w' => e = .returned (.bool (pRight l ts)) ∧ Below w.heap.size w w' := by
  have hl := hS.1
  have htl := hT.1
  simp at hl
  have hb0 := below_box w (.cells #[.slice S m c, .slice T k d] 25)
  have k0 : (w.alloc (.cells #[.slice S m c, .slice T k d] 25)).cell? ⟨w.heap.size, 0, none⟩ = some (.slice S m c) := by simp [go_sem]
  have k1 : (w.alloc (.cells #[.slice S m c, .slice T k d] 25)).cell? ⟨w.heap.size, 1, none⟩ = some (.slice T k d) := by simp [go_sem]
  have hcall := whole_any S m c l _ (hS.ext hb0) hm
  have HS := Lib.hid (hS.ext hb0)
  have HT := Lib.hid (hT.ext hb0)
  have HB := Lib.hid hb0
  have HL := Lib.hid hl
  have HTL := Lib.hid htl
  have HC := Lib.hid hcall
  clear hS hT hb0 hl htl hcall
  go_enter Tryz.func47, Tryz.ntmps47
  go_wp2_with fail
  generalize w.alloc (.cells #[.slice S m c, .slice T k d] 25) = W0 at *
  refine HC.out.mono ?_
  rintro e w1 ⟨rfl, hb1⟩
  replace k0 := cell_ext hb1 k0
  replace k1 := cell_ext hb1 k1
  have HB1 := Lib.hid (below_le HB.out hb1)
  have HS1 := Lib.hid (HS.out.ext hb1)
  have HT1 := Lib.hid (HT.out.ext hb1)
  clear hb1 HC HB HS HT
  cases hw : wholeL l
  · have HP := Lib.hid (show pRight l ts = false by unfold pRight; rw [hw]; rfl)
    clear hw
    go_wp2
    go_ret
    exact ⟨ret_bool HP.out.symm, HB1.out⟩
  · have hr := (whole_iff.1 hw).1
    have hmem : ∀ i, i < m → 0 ≤ l.getD i 0 ∧ l.getD i 0 ≤ 5 := fun i hi => ((right_iff.1 hr).2.2 i (by have := HL.out; omega))
    have HM := Lib.hid hmem
    clear hmem hr
    by_cases hkm : k = m
    · subst hkm
      have HP := Lib.hid (show pRight l ts = (List.range l.length).all fun i => blkOk (l.getD i 0) (ts.getD i []) by
        unfold pRight; rw [hw, decide_eq_true (by rw [HTL.out, HL.out])]; rfl)
      have hq : ((k : Int) != (k : Int)) = false := by simp
      clear hw
      go_wp2_with fail
      refine (asks_any w1).mono ?_
      rintro e w' ⟨rfl, rfl⟩
      have hb2 := below_box w1 (.map mE3 4)
      have hmap : (w1.alloc (.map mE3 4)).heap[w1.heap.size]? = some (.map mE3 4) := heap_alloc_new w1 _
      replace k0 := cell_ext hb2 k0
      replace k1 := cell_ext hb2 k1
      have HB2 := Lib.hid (below_le HB1.out hb2)
      have HS2 := Lib.hid (HS1.out.ext hb2)
      have HT2 := Lib.hid (HT1.out.ext hb2)
      have hgl : w1.heap.size < (w1.alloc (.map mE3 4)).heap.size := by simp
      have HMAP := Lib.hid hmap
      clear hb2 HB1 HS1 HT1 hmap
      generalize w1.alloc (.map mE3 4) = W2 at *
      generalize w1.heap.size = g at *
      go_wp2
      clear k1
      go_loopw [25] (fun i wr => ∃ j : Nat, j ≤ k ∧ i = .int .i64 j ∧ (∀ i, i < j → blkOk (l.getD i 0) (ts.getD i []) = true) ∧ Below W2.heap.size W2 wr) (fun i _ => k - (intOf i).toNat)
      case atStart => exact ⟨0, Nat.zero_le _, rfl, fun _ h => absurd h (by omega), Below.refl _ _⟩
      case round =>
        obtain ⟨j, hj, rfl, hall, hbr⟩ := hrel
        have HALL := Lib.hid hall
        have HBR := Lib.hid hbr
        have p0 := cell_ext hbr k0
        clear hall hbr
        by_cases hlt : j < k
        · obtain ⟨tb, toff, A, n, cc, t, rfl, hct, -, hn, hRt, -, htd⟩ := (HT2.out.ext HBR.out).at_ hlt
          obtain ⟨sb, soff, x, rfl, hcx, hx, -⟩ := num_at (HS2.out.ext HBR.out) hlt
          have hx05 := HM.out j hlt
          rw [hx] at hx05
          obtain ⟨hx0, hx5⟩ := hx05
          have hcall := mright_any A n cc t wr hRt (by omega)
          have hnext : blkOk x t = true → ∀ i, i < j + 1 → blkOk (l.getD i 0) (ts.getD i []) = true := fun h i hi => by
            by_cases e : i = j
            · rw [e, hx, htd]; exact h
            · exact HALL.out i (by omega)
          have hbad : blkOk x t = false → pRight l ts = false := fun h => by
            rw [HP.out, List.all_eq_false]
            exact ⟨j, by simp; have := HL.out; omega, by rw [hx, htd, h]; exact Bool.false_ne_true⟩
          have HX := Lib.hid hx
          have HNX := Lib.hid hnext
          have HBAD := Lib.hid hbad
          have HRT := Lib.hid hRt
          clear hx htd hnext hbad hRt
          cases htb : tabB t
          · rw [htb] at hcall
            have HK := Lib.hid (show blkOk x t = false by unfold blkOk; rw [htb]; rfl)
            clear htb
            go_wp2_with fail
            refine hcall.mono ?_
            clear hcall
            rintro e w3 ⟨rfl, hb3⟩
            have HB3 := Lib.hid (below_le HB2.out (below_le HBR.out hb3))
            clear hb3
            go_wp2
            go_ret
            exact ⟨ret_bool (HBAD.out HK.out).symm, HB3.out⟩
          · rw [htb] at hcall
            have HTB := Lib.hid htb
            clear htb
            go_wp2_with fail
            refine hcall.mono ?_
            clear hcall
            rintro e w3 ⟨rfl, hb3⟩
            replace p0 := cell_ext hb3 p0
            have q0 := cell_ext hb3 hcx
            have hb23 := below_le HBR.out hb3
            have hmp : w3.heap[g]? = some (.map mE3 4) := (hb23.block g hgl).trans HMAP.out
            have hlk := run_ask w3 g hmp x hx0 hx5
            have HRT3 := Lib.hid (HRT.out.ext hb3)
            have HB3 := Lib.hid hb23
            clear hb3 hb23 hmp hct hcx
            cases hah : askH x
            · obtain ⟨hav, hao⟩ := ask_none hah
              rw [hah, hav] at hlk
              have HK := Lib.hid (show blkOk x t = true by unfold blkOk; rw [HTB.out, hao]; rfl)
              clear hah hav hao
              go_wp2
              go_roundw
              case rel => exact ⟨j + 1, by omega, by go_num, HNX.out HK.out, HB3.out⟩
              case measure => simp [intOf]; omega
            · obtain ⟨v, hv, hcall2⟩ : ∃ v, (askV x = v) ∧ ∃ f, v = .func (.func f) #[] #[] ∧ (∀ args W, (callFunc f args).run Tryz.prog W = .ok (.enter f args) W) ∧ Calls Tryz.prog f #[.slice A n cc] w3 fun e w' => e = .returned (.bool (asksOf x t)) ∧ Below w3.heap.size w3 w' := by
                rcases ask_some hah with ⟨h1, h2⟩ | ⟨h1, h2⟩
                · exact ⟨fn1, h1, _, rfl, fun args W => by simp [go_sem], by rw [h2]; exact asks1_any A n cc t w3 HRT3.out hn⟩
                · exact ⟨fn2, h1, _, rfl, fun args W => by simp [go_sem], by rw [h2]; exact asks2_any A n cc t w3 HRT3.out hn⟩
              obtain ⟨f, rfl, hent, hcall2⟩ := hcall2
              rw [hah, hv] at hlk
              have HENT := Lib.hid hent
              clear hah hv
              cases hao : asksOf x t
              · rw [hao] at hcall2
                have HK := Lib.hid (show blkOk x t = false by unfold blkOk; rw [HTB.out, hao]; rfl)
                clear hao
                go_wp2_with fail
                refine hcall2.mono ?_
                clear hcall2
                rintro e w4 ⟨rfl, hb4⟩
                have HB4 := Lib.hid (below_le HB2.out (below_le HB3.out hb4))
                clear hb4
                go_wp2
                go_ret
                exact ⟨ret_bool (HBAD.out HK.out).symm, HB4.out⟩
              · rw [hao] at hcall2
                have HK := Lib.hid (show blkOk x t = true by unfold blkOk; rw [HTB.out, hao]; rfl)
                clear hao
                go_wp2_with fail
                refine hcall2.mono ?_
                clear hcall2
                rintro e w4 ⟨rfl, hb4⟩
                have HB4 := Lib.hid (below_le HB3.out hb4)
                clear hb4
                go_wp2
                go_roundw
                case rel => exact ⟨j + 1, by omega, by go_num, HNX.out HK.out, HB4.out⟩
                case measure => simp [intOf]; omega
        · have HK := Lib.hid (show pRight l ts = true by
            rw [HP.out, List.all_eq_true]
            intro i hi
            exact HALL.out i (by have := HL.out; simp at hi; omega))
          go_wp2
          go_ret
          exact ⟨ret_bool HK.out.symm, below_le HB2.out HBR.out⟩
    · have HP := Lib.hid (show pRight l ts = false by unfold pRight; rw [decide_eq_false (by rw [HTL.out, HL.out]; exact hkm)]; simp)
      have hq : ((k : Int) != (m : Int)) = true := by simp; omega
      clear hw hkm
      go_wp2
      go_ret
      exact ⟨ret_bool HP.out.symm, HB1.out⟩

end Go.Proofs.YtllanbggjfmfhaaGreatDoor
