/-
  What is proved: RunSums returns true. No condition beyond those stated.
-/
import Derived.Test.YtncopnknjohplaaDoorOs
namespace Go.Proofs.YtncopnknjohplaaDoor
open Go.RowKit Go.Shelf

theorem hole_at {A : Option Addr} {n : Nat} {rs : List (Nat × Nat)} {w : World} {k : Nat} (hR : HRow w A n rs) (hk : k < n) :
    ∃ b off p q, A = some ⟨b, off, none⟩ ∧ w.cell? ⟨b, off + k * 2, none⟩ = some (.int .i64 ((p : Nat) : Int)) ∧ w.cell? ⟨b, off + k * 2 + 1, none⟩ = some (.int .i64 ((q : Nat) : Int)) ∧ rs[k]? = some (p, q) := by
  obtain ⟨b, off, e, hc⟩ := hR.2 (by omega)
  have hl := hR.1
  have h1 : rs[k]? = some rs[k] := List.getElem?_eq_getElem (by omega)
  have := hc k _ h1
  rw [Nat.mul_comm 2 k] at this
  exact ⟨b, off, _, _, e, this.1, this.2, h1⟩

set_option maxRecDepth 100000 in
set_option maxHeartbeats 4000000 in
theorem runsums_any (A : Option Addr) (m c : Nat) (l : List Int) (a : Int) (aS aR : Addr) (w : World) (hS : RSent w aS aR) (hR : Row w A m (l.map Iv)) (hc : m ≤ c) :
    Calls Tryd.prog 8 #[.slice A m c, .int .i64 a] w (Holds w) := by
  have HS := Lib.hid hS
  have HR := Lib.hid (row_few hR)
  have hmm : min m 34 ≤ 34 := Nat.min_le_right _ _
  have hmc : min m 34 ≤ c := Nat.le_trans (Nat.min_le_left _ _) hc
  clear hS hR
  go_enter Tryd.func8, Tryd.ntmps8
  go_wp2_with fail
  refine (shown_any aS aR w HS.out).mono ?_
  rintro e w1 ⟨rfl, hb1⟩
  have HB := Lib.hid hb1
  clear hb1
  go_wp2_with fail
  refine (few_any A m c w1 hc).mono ?_
  rintro e w' ⟨rfl, rfl⟩
  generalize min m 34 = m' at *
  generalize l.take 34 = l' at HR
  clear hc
  go_wp2_with fail
  have hl := HR.out.1
  simp at hl
  have h := all_any A m' c l' aS aR w1 (HS.out.ext HB.out) (HR.out.ext HB.out) (by omega)
  cases hr : rightL l'
  · rw [show codeA l' = 90 by simp [codeA, hr], show resA l' = [] by simp [resA, hr]] at h
    refine h.mono ?_
    clear h
    rintro e w2 ⟨A1, m1, c1, rfl, hR1, hb2⟩
    have hm1 : m1 = 0 := by have := hR1.1; simpa using this.symm
    subst hm1
    replace HB := Lib.hid (below_le HB.out hb2)
    have Hr := Lib.hid hr
    clear hb2 hR1 hr
    go_wp2_with fail
    have h := right_any A m' c l' w2 (HR.out.ext HB.out) (by omega)
    rw [Hr.out] at h
    refine h.mono ?_
    clear h
    rintro e w3 ⟨rfl, hb3⟩
    replace HB := Lib.hid (below_le HB.out hb3)
    clear hb3
    go_wp2
    go_ret
    exact ⟨rfl, HB.out⟩
  · rw [show codeA l' = 0 by simp [codeA, hr], show resA l' = runsL l' by simp [resA, hr]] at h
    refine h.mono ?_
    clear h
    rintro e w2 ⟨A1, m1, c1, rfl, hR1, hb2⟩
    have hlen := right_len hr
    have hwf := right_wf hr
    have hall5 : ∀ x ∈ l', 0 ≤ x ∧ x ≤ 5 := fun x hx => right_mem hr hx
    have hsum := sum_runs l'
    have hin := in_runs l' a
    have hmem : ∀ r ∈ runsL l', r.1 < r.2 ∧ r.2 ≤ 32 := fun r hm => by
      have := runs_mem hm
      omega
    have hcl := count_len l' 0
    have hm1 : m1 ≤ 1000 := by
      have h1 := hR1.1
      have h2 : (runsL l').length ≤ l'.length := by
        unfold runsL runsFrom
        have := List.length_filterMap_le (startAt l') (List.range' 0 (l'.length - 0))
        simpa using this
      omega
    have hlr := hR1.1
    generalize runsL l' = rs at *
    have HH := Lib.hid hR1
    replace HB := Lib.hid (below_le HB.out hb2)
    have HSUM := Lib.hid hsum
    have HIN := Lib.hid hin
    have HMEM := Lib.hid hmem
    have HWF := Lib.hid hwf
    have H5 := Lib.hid hall5
    have HLR := Lib.hid hlr
    have HLN := Lib.hid hlen
    have HML := Lib.hid hl
    have HCL := Lib.hid hcl
    clear hb2 hR1 hr hsum hin hmem hwf hall5 hlr hlen hl hcl
    go_wp2
    go_loopw [8, 9, 10] (fun s t i wr => ∃ k : Nat, k ≤ m1 ∧ i = .int .i64 k ∧ t = .int .i64 (sumR (rs.take k) : Nat) ∧ s = .int .i64 (inR (rs.take k) a : Nat) ∧ Below w2.heap.size w2 wr) (fun _ _ i _ => m1 - (intOf i).toNat)
    case atStart => exact ⟨0, Nat.zero_le _, rfl, rfl, rfl, Below.refl _ _⟩
    case round =>
      obtain ⟨k, hk, rfl, rfl, rfl, hbr⟩ := hrel
      have HBr := Lib.hid hbr
      clear hbr
      by_cases hlt : k < m1
      · obtain ⟨b, off, p, q, rfl, hcp, hcq, hpq⟩ := hole_at (HH.out.ext HBr.out) hlt
        have hss := sum_snoc rs k (p, q) hpq
        have his := in_snoc rs k (p, q) a hpq
        obtain ⟨hpq1, hpq2⟩ := HMEM.out (p, q) (List.mem_of_getElem? hpq)
        have hsl := sum_take_le rs k
        have hil := in_take_le rs k a
        rw [HSUM.out] at hsl
        have hc0 := HCL.out
        have hn0 := HLN.out
        generalize sumR (rs.take k) = sg at *
        generalize inR (rs.take k) a = ig at *
        have hsg : sg ≤ 1000 := by omega
        have hig : ig ≤ 1000 := by omega
        dsimp only at hpq1 hpq2 hss
        have HSS := Lib.hid hss
        have HIS := Lib.hid his
        clear hss his hsl hil hc0 hn0 hpq
        have tp := ext_cell hcp
        have tq := ext_cell hcq
        have hq1 : IntKind.i64.wrap ((sg : Int) + (q : Int)) = (sg : Int) + (q : Int) := by rw [IntKind.wrap_i64]; omega
        have hq2 : IntKind.i64.wrap ((sg : Int) + (q : Int) - (p : Int)) = (sg : Int) + (q : Int) - (p : Int) := by rw [IntKind.wrap_i64]; omega
        go_wp2
        refine wp_region_plan [(0, true), (1, true), (2, true), (3, true), (4, true), (5, true), (6, true), (7, true), (8, true), (9, true), (10, true), (11, true), (12, true), (13, true)] (by kernel_rfl) (by kernel_rfl) ?_
        repeat (first | (refine plan_skip rfl rfl ?_; go_frame) | (refine plan_soft rfl rfl (fun K hK => ?_); go_simp; first | (refine hK _ ?_; clear hK K) | (apply Exists.intro; refine ⟨fun x => ?_, hK _ ?_⟩; (· (fail)); clear hK K; try go_frame)))
        refine plan_nil ?_; intro w4 h0b; have HB4 := Lib.hid h0b; clear h0b
        have dp := cell_ext HB4.out hcp
        have dq := cell_ext HB4.out hcq
        have HQ2 : Hid (.int .i64 ((sg : Int) + (q : Int) - (p : Int)) = Value.int .i64 ((sg + (q - p) : Nat) : Int)) := Lib.hid (by congr 1; omega)
        clear tp tq hq1 hq2 hcp hcq
        by_cases h1 : (p : Int) ≤ a
        · by_cases h2 : a < (q : Int)
          · have HI : Hid (insB a (p, q) = true) := Lib.hid (by simp [insB, h1, h2])
            go_wp2
            go_roundw
            case rel => exact ⟨k + 1, by omega, by go_num, by rw [HSS.out]; exact HQ2.out, by rw [HIS.out, HI.out, if_pos rfl]; go_num, below_le HBr.out HB4.out⟩
            case measure => simp [intOf]; omega
          · have HI : Hid (insB a (p, q) = false) := Lib.hid (by simp [insB]; omega)
            go_wp2
            go_roundw
            case rel => exact ⟨k + 1, by omega, by go_num, by rw [HSS.out]; exact HQ2.out, by rw [HIS.out, HI.out]; rfl, below_le HBr.out HB4.out⟩
            case measure => simp [intOf]; omega
        · have HI : Hid (insB a (p, q) = false) := Lib.hid (by simp [insB]; omega)
          go_wp2
          go_roundw
          case rel => exact ⟨k + 1, by omega, by go_num, by rw [HSS.out]; exact HQ2.out, by rw [HIS.out, HI.out]; rfl, below_le HBr.out HB4.out⟩
          case measure => simp [intOf]; omega
      · have hkk : rs.take k = rs := List.take_of_length_le (by have := HLR.out; omega)
        rw [hkk]
        clear hkk
        replace HB := Lib.hid (below_le HB.out HBr.out)
        have hsb : sumR rs ≤ 1000 := by have := HSUM.out; have := HCL.out; have := HLN.out; omega
        obtain ⟨sg, hsg⟩ : ∃ sg, sumR rs = sg := ⟨_, rfl⟩
        obtain ⟨ig, hig⟩ : ∃ ig, inR rs a = ig := ⟨_, rfl⟩
        rw [hsg, hig]
        rw [hsg] at hsb
        have HSG := Lib.hid hsg
        have HIG := Lib.hid hig
        clear hsg hig
        obtain ⟨wq, hwq⟩ : ∃ wq, wq = wr := ⟨_, rfl⟩
        subst hwq
        go_wp2
        go_loopw [11, 12] (fun t i w5 => ∃ s : Nat, s ≤ 6 ∧ i = .int .i64 s ∧ t = .int .i64 (allC l' s : Nat) ∧ Below wq.heap.size wq w5) (fun _ i _ => 6 - (intOf i).toNat)
        case atStart => exact ⟨0, by omega, rfl, rfl, Below.refl _ _⟩
        case round =>
          obtain ⟨s, hs, rfl, rfl, hb5⟩ := hrel
          have HB5 := Lib.hid hb5
          clear hb5
          have hal := all_le l' H5.out s hs
          have hln := HLN.out
          have hml := HML.out
          by_cases hs6 : s < 6
          · have hsu := all_succ l' s
            have hcc := count_len l' (s : Int)
            have hcn := count_any A m' c l' (s : Int) wr ((HR.out.ext HB.out).ext HB5.out) (by omega) HWF.out (wf_small (by omega) (by omega))
            generalize allC l' s = ag at *
            generalize countL l' (s : Int) = cg at *
            have hag : ag ≤ 1000 := by omega
            have hcg : cg ≤ 1000 := by omega
            have HSU := Lib.hid hsu
            have HCN := Lib.hid hcn
            clear hsu hcn hcc hal hln hml
            go_wp2_with fail
            refine HCN.out.mono ?_
            rintro e w6 ⟨rfl, hb6⟩
            have HB6 := Lib.hid (below_le HB5.out hb6)
            clear hb6
            go_wp2
            go_roundw
            case rel => exact ⟨s + 1, by omega, by go_num, by rw [HSU.out]; go_num, HB6.out⟩
            case measure => simp [intOf]; omega
          · obtain rfl : s = 6 := by omega
            have h6 := all_six l' H5.out
            have hcn := count_any A m' c l' 0 wr ((HR.out.ext HB.out).ext HB5.out) (by omega) HWF.out (wf_small (by omega) (by omega))
            rw [h6, HML.out]
            have hsg := HSG.out.symm.trans HSUM.out
            rw [← hsg] at hcn
            have hig := HIG.out.symm.trans HIN.out
            have HCN := Lib.hid hcn
            have hm34 : 1 ≤ m' := by omega
            clear hcn h6 hsg hal hln
            have HRw := Lib.hid ((HR.out.ext HB.out).ext HB5.out)
            by_cases ha0 : 0 ≤ a
            · by_cases ha1 : a < (m' : Int)
              · obtain ⟨b, off, x, rfl, hcx, hx, -⟩ := num_at (k := a.toNat) HRw.out (by omega)
                rw [hx] at hig
                have hmx : ¬ (m' : Int) - 1 < a := by omega
                have hmx2 : a ≤ (m' : Int) - 1 := by omega
                by_cases hx0 : x = 0
                · subst hx0
                  rw [if_pos ⟨ha0, by omega, rfl⟩] at hig
                  subst hig
                  clear hx hml
                  go_wp2_with fail
                  refine HCN.out.mono ?_
                  rintro e w6 ⟨rfl, hb6⟩
                  have HB6 := Lib.hid (below_le HB.out (below_le HB5.out hb6))
                  clear hb6
                  go_wp2
                  go_ret
                  exact ⟨ret_bool (by simp), HB6.out⟩
                · rw [if_neg (fun h => hx0 h.2.2)] at hig
                  subst hig
                  have hxd : (x == 0) = false := by simpa using hx0
                  clear hx hml
                  go_wp2_with fail
                  refine HCN.out.mono ?_
                  rintro e w6 ⟨rfl, hb6⟩
                  have HB6 := Lib.hid (below_le HB.out (below_le HB5.out hb6))
                  clear hb6
                  go_wp2
                  go_ret
                  exact ⟨ret_bool (by simp), HB6.out⟩
              · rw [if_neg (by have := HML.out; omega)] at hig
                subst hig
                clear hml
                go_wp2_with fail
                refine HCN.out.mono ?_
                rintro e w6 ⟨rfl, hb6⟩
                have HB6 := Lib.hid (below_le HB.out (below_le HB5.out hb6))
                clear hb6
                go_wp2
                go_ret
                exact ⟨ret_bool (by simp), HB6.out⟩
            · rw [if_neg (by omega)] at hig
              subst hig
              clear hml
              go_wp2_with fail
              refine HCN.out.mono ?_
              rintro e w6 ⟨rfl, hb6⟩
              have HB6 := Lib.hid (below_le HB.out (below_le HB5.out hb6))
              clear hb6
              go_wp2
              go_ret
              exact ⟨ret_bool (by simp), HB6.out⟩

end Go.Proofs.YtncopnknjohplaaDoor
