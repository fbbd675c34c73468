/-
  What is proved: the contract of Set of package pool. No condition beyond those stated.
-/
import Derived.Test.YtllanbggjfmfhaaGreatDoorHh
namespace Go.Proofs.YtllanbggjfmfhaaGreatDoor
open Go.RowKit Go.Shelf

/-- The state that goes with a table. -/
def stateOf (t : List Int) : Int := if cntN t = 0 then 0 else if 0 < roomN t then 1 else 2
def setOk (l : List Int) (ts : List (List Int)) (b : Int) (t : List Int) : Bool := pRight l ts && (hasN l b [1, 2, 5] && tabB t)
def setC (l : List Int) (ts : List (List Int)) (b : Int) (t : List Int) : Nat := if pRight l ts then (if hasN l b [1, 2, 5] && tabB t then 0 else 90) else 100
def setL (l : List Int) (ts : List (List Int)) (b : Int) (t : List Int) : List Int := if setOk l ts b t then l.set b.toNat (stateOf t) else []
def setT (l : List Int) (ts : List (List Int)) (b : Int) (t : List Int) : List (List Int) := if setOk l ts b t then ts.set b.toNat t else []

theorem run_three (x y z : Int) (W : World) : (Instr.buildSlice 22 3 #[(0, .int .i64 x), (1, .int .i64 y), (2, .int .i64 z)]).run Tryz.prog W = .ok (.slice (some ⟨W.heap.size, 0, none⟩) 3 3) (W.alloc (.cells #[.int .i64 x, .int .i64 y, .int .i64 z] 3)) := by go_simp

set_option maxRecDepth 100000 in
set_option maxHeartbeats 1000000 in
theorem set_wrong (S : Option Addr) (m c : Nat) (T : Option Addr) (k d : Nat) (l : List Int) (ts : List (List Int)) (b : Int) (A : Option Addr) (q cq : Nat) (w : World) (hE : EType w) (hS : Row w S m (l.map Iv)) (hT : Tabs w T k ts) (hm : m ≤ 1000) (hk : k ≤ 1000) (hp : pRight l ts = false) :
    Calls Tryz.prog 19 #[.agg #[.slice S m c, .slice T k d], .int .i64 b, .slice A q cq] w (GivesErr w [] [] 100) := by
  have hb0 : Below w.heap.size w ((w.alloc (.cells #[.slice S m c, .slice T k d] 25)).alloc (.cells #[.slice none 0 0, .slice none 0 0] 25)) := below_le (below_box _ _) (below_box _ _)
  have h2 : Blk ((w.alloc (.cells #[.slice S m c, .slice T k d] 25)).alloc (.cells #[.slice none 0 0, .slice none 0 0] 25)) (w.heap.size + 1) 25 #[.slice none 0 0, .slice none 0 0] := heap_new (by simp) _
  have HB := Lib.hid hb0
  have H2 := Lib.hid h2
  have HE := Lib.hid (hE.ext hb0)
  have HC := Lib.hid (keep_no S m c T k d l ts _ (hS.ext hb0) (hT.ext hb0) hm hk hp)
  clear hS hT hb0 h2 hE hp
  go_enter Tryz.func19, Tryz.ntmps19
  go_wp2_with fail
  generalize (w.alloc (.cells #[.slice S m c, .slice T k d] 25)).alloc (.cells #[.slice none 0 0, .slice none 0 0] 25) = W0 at *
  refine HC.out.mono ?_
  rintro e w1 ⟨v, rfl, hv, hb1⟩
  have hnum := number_pool 100 v w1 hv (HE.out.ext hb1)
  obtain ⟨t, u, rfl⟩ : ∃ t u : Nat, v = .iface 82 (.pointer (some ⟨t, u, none⟩)) := by
    rcases hv with ⟨h, _⟩ | ⟨_, t, u, h, _⟩
    · cases h
    · exact ⟨t, 0, h⟩
  have HB1 := Lib.hid hb1
  clear hv hb1 HC
  go_wp2_with fail
  refine hnum.mono ?_
  clear hnum
  rintro e w2 ⟨rfl, hb2⟩
  obtain ⟨⟨c0, c1, f0, f1⟩, q0, q1, hB⟩ := res_two (a' := .slice none 0 0) (b' := .slice none 0 0) (H2.out.ext (below_le HB1.out hb2)) (below_le HB.out (below_le HB1.out hb2)) (by omega)
  have HB2 := Lib.hid hB
  clear hb2 hB
  go_wp2
  exact bodyPost_ret (v := .tuple #[.agg #[.slice none 0 0, .slice none 0 0], .int .i64 100]) (by simp [results, Tryz.results19, go_sem, q0, q1]) rfl ⟨_, rfl, PoolF.none_, HB2.out⟩

set_option maxRecDepth 100000 in
set_option maxHeartbeats 2000000 in
theorem set_right (S : Option Addr) (m c : Nat) (T : Option Addr) (k d : Nat) (l : List Int) (ts : List (List Int)) (b : Int) (A : Option Addr) (q cq : Nat) (t : List Int) (w : World) (hE : EType w) (hS : Row w S m (l.map Iv)) (hT : Tabs w T k ts) (hm : m ≤ 1000) (hk : k ≤ 1000) (hA : Row w A q (t.map Iv)) (hq : q ≤ 1000) (hp : pRight l ts = true) :
    Calls Tryz.prog 19 #[.agg #[.slice S m c, .slice T k d], .int .i64 b, .slice A q cq] w (GivesErr w (setL l ts b t) (setT l ts b t) (setC l ts b t)) := by
  have hb0 : Below w.heap.size w ((w.alloc (.cells #[.slice S m c, .slice T k d] 25)).alloc (.cells #[.slice none 0 0, .slice none 0 0] 25)) := below_le (below_box _ _) (below_box _ _)
  have h2 : Blk ((w.alloc (.cells #[.slice S m c, .slice T k d] 25)).alloc (.cells #[.slice none 0 0, .slice none 0 0] 25)) (w.heap.size + 1) 25 #[.slice none 0 0, .slice none 0 0] := heap_new (by simp) _
  have HB := Lib.hid hb0
  have H2 := Lib.hid h2
  have HE := Lib.hid (hE.ext hb0)
  have HA := Lib.hid (hA.ext hb0)
  have HC := Lib.hid (keep_ok S m c T k d l ts _ (hS.ext hb0) (hT.ext hb0) hm hk hp)
  have HP := Lib.hid hp
  have hql := hA.1
  simp at hql
  have HQL := Lib.hid hql
  have h90 : (hasN l b [1, 2, 5] && tabB t) = false → ∀ X : World, Below w.heap.size w X → GivesErr w (setL l ts b t) (setT l ts b t) (setC l ts b t) (.returned (.tuple #[.agg #[.slice none 0 0, .slice none 0 0], .int .i64 90])) X := fun h X hX => by
    have hok : setOk l ts b t = false := by unfold setOk; rw [h]; simp
    unfold setL setT setC
    rw [hok, h, hp]
    exact ⟨_, rfl, PoolF.none_, hX⟩
  have H90 := Lib.hid h90
  have hro := run_three 1 2 5
  clear hS hT hb0 h2 hE hp hA h90 hql
  go_enter Tryz.func19, Tryz.ntmps19
  go_wp2_with fail
  generalize (w.alloc (.cells #[.slice S m c, .slice T k d] 25)).alloc (.cells #[.slice none 0 0, .slice none 0 0] 25) = W0 at *
  refine HC.out.mono ?_
  rintro e w1 ⟨KB, SB, TB, rfl, hkp, hb1⟩
  have hW0 := H2.out.lt
  have hx1 := below_box w1 (.cells #[.int .i64 1, .int .i64 2, .int .i64 5] 3)
  have hrow : Row (w1.alloc (.cells #[.int .i64 1, .int .i64 2, .int .i64 5] 3)) (some ⟨w1.heap.size, 0, none⟩) 3 (([1, 2, 5] : List Int).map Iv) := row_new w1 [1, 2, 5] _ rfl
  have hkp2 := hkp.ext hx1
  have hcall := has_any_k KB SB l _ b _ 3 3 [1, 2, 5] _ hkp2.k hkp2.s hrow (by omega)
  have HKP := Lib.hid hkp2
  have HB1 := Lib.hid (below_le hb1 hx1)
  have HCL := Lib.hid hcall
  clear hkp hb1 HC hx1 hrow hkp2 hcall
  go_wp2_with fail
  generalize w1.alloc (.cells #[.int .i64 1, .int .i64 2, .int .i64 5] 3) = W1 at *
  clear hro
  cases hh : hasN l b [1, 2, 5]
  · have hcall := HCL.out
    rw [hh] at hcall
    have H90' := Lib.hid (H90.out (by rw [hh]; rfl))
    clear hh H90
    refine hcall.mono ?_
    clear hcall
    rintro e w' ⟨rfl, rfl⟩
    go_wp2_with fail
    refine (refuse_pool _ 90 (by omega) W1).mono ?_
    rintro e w3 ⟨v, rfl, hv, hb3⟩
    have hnum := number_pool 90 v w3 hv (HE.out.ext (below_le HB1.out hb3))
    have HB3 := Lib.hid (below_le HB1.out hb3)
    clear hv hb3
    go_wp2_with fail
    refine hnum.mono ?_
    clear hnum
    rintro e w4 ⟨rfl, hb4⟩
    obtain ⟨⟨c0, c1, f0, f1⟩, q0, q1, hB⟩ := res_two (a' := .slice none 0 0) (b' := .slice none 0 0) (H2.out.ext (below_le HB3.out hb4)) (below_le HB.out (below_le HB3.out hb4)) (by omega)
    have HB4 := Lib.hid hB
    clear hb4 hB
    go_wp2
    exact bodyPost_ret (v := .tuple #[.agg #[.slice none 0 0, .slice none 0 0], .int .i64 90]) (by simp [results, Tryz.results19, go_sem, q0, q1]) rfl (H90'.out _ HB4.out)
  · have hcall := HCL.out
    rw [hh] at hcall
    have HH := Lib.hid hh
    clear hh
    refine hcall.mono ?_
    clear hcall
    rintro e w' ⟨rfl, rfl⟩
    have hmr := mright_any A q cq t W1 (HA.out.ext HB1.out) (by omega)
    go_wp2_with fail
    cases htb : tabB t
    · rw [htb] at hmr
      have H90' := Lib.hid (H90.out (by rw [htb]; simp))
      clear htb H90
      refine hmr.mono ?_
      clear hmr
      rintro e w2 ⟨rfl, hb2⟩
      have HB2 := Lib.hid (below_le HB1.out hb2)
      clear hb2
      go_wp2_with fail
      refine (refuse_pool _ 90 (by omega) w2).mono ?_
      rintro e w3 ⟨v, rfl, hv, hb3⟩
      have hnum := number_pool 90 v w3 hv (HE.out.ext (below_le HB2.out hb3))
      have HB3 := Lib.hid (below_le HB2.out hb3)
      clear hv hb3
      go_wp2_with fail
      refine hnum.mono ?_
      clear hnum
      rintro e w4 ⟨rfl, hb4⟩
      obtain ⟨⟨c0, c1, f0, f1⟩, q0, q1, hB⟩ := res_two (a' := .slice none 0 0) (b' := .slice none 0 0) (H2.out.ext (below_le HB3.out hb4)) (below_le HB.out (below_le HB3.out hb4)) (by omega)
      have HB4 := Lib.hid hB
      clear hb4 hB
      go_wp2
      exact bodyPost_ret (v := .tuple #[.agg #[.slice none 0 0, .slice none 0 0], .int .i64 90]) (by simp [results, Tryz.results19, go_sem, q0, q1]) rfl (H90'.out _ HB4.out)
    · rw [htb] at hmr
      refine hmr.mono ?_
      clear hmr
      rintro e w2 ⟨rfl, hb2⟩
      obtain ⟨i, hib, hil, -⟩ := hasN_lt HH.out
      subst hib
      have hok : setOk l ts i t = true := by unfold setOk; rw [HP.out, HH.out, htb]; rfl
      have hq1 : setC l ts i t = 0 := by unfold setC; rw [HP.out, HH.out, htb]; rfl
      have hq2 : setL l ts i t = l.set i (stateOf t) := by unfold setL; rw [hok]; rfl
      have hq3 : setT l ts i t = ts.set i t := by unfold setT; rw [hok]; rfl
      have HQ := Lib.hid (⟨hq1, hq2, hq3⟩ : _ ∧ _ ∧ _)
      have hAlt := HA.out.block_lt (by have := HQL.out; rw [tab_len htb] at this; omega)
      have HALT := Lib.hid hAlt
      clear hAlt
      have htl := (pright_whole HP.out).2
      have hit : i < ts.length := by omega
      have hkp := HKP.out.ext hb2
      have hA2 := (HA.out.ext HB1.out).ext hb2
      have hk1 := ext_cell (by have := hkp.k.cell 1; simpa using this : w2.cell? ⟨KB, 1, none⟩ = some (.slice (some ⟨TB, 0, none⟩) ts.length ts.length))
      have HKP2 := Lib.hid hkp
      have HA2 := Lib.hid hA2
      have HB2 := Lib.hid (below_le HB1.out hb2)
      clear htb hok hq1 hq2 hq3 hb2 hkp hA2 HKP HCL H90 HH htl
      go_wp2
      refine wp_region_mixs 9 (by kernel_rfl) (by kernel_rfl) ?_
      first | (refine mixs_skip 0 rfl (by kernel_rfl) rfl ?_; go_frame) | (refine mixs_soft 0 rfl (by kernel_rfl) rfl (fun K hK => ?_); go_simp; first | (refine hK _ ?_; clear hK K) | (apply Exists.intro; refine ⟨fun x => ?_, hK _ ?_⟩; (· (fail)); clear hK K; try go_frame))
      first | (refine mixs_skip 1 rfl (by kernel_rfl) rfl ?_; go_frame) | (refine mixs_soft 1 rfl (by kernel_rfl) rfl (fun K hK => ?_); go_simp; first | (refine hK _ ?_; clear hK K) | (apply Exists.intro; refine ⟨fun x => ?_, hK _ ?_⟩; (· (fail)); clear hK K; try go_frame))
      first | (refine mixs_skip 2 rfl (by kernel_rfl) rfl ?_; go_frame) | (refine mixs_soft 2 rfl (by kernel_rfl) rfl (fun K hK => ?_); go_simp; first | (refine hK _ ?_; clear hK K) | (apply Exists.intro; refine ⟨fun x => ?_, hK _ ?_⟩; (· (fail)); clear hK K; try go_frame))
      first | (refine mixs_skip 3 rfl (by kernel_rfl) rfl ?_; go_frame) | (refine mixs_soft 3 rfl (by kernel_rfl) rfl (fun K hK => ?_); go_simp; first | (refine hK _ ?_; clear hK K) | (apply Exists.intro; refine ⟨fun x => ?_, hK _ ?_⟩; (· (fail)); clear hK K; try go_frame))
      first | (refine mixs_skip 4 rfl (by kernel_rfl) rfl ?_; go_frame) | (refine mixs_soft 4 rfl (by kernel_rfl) rfl (fun K hK => ?_); go_simp; first | (refine hK _ ?_; clear hK K) | (apply Exists.intro; refine ⟨fun x => ?_, hK _ ?_⟩; (· (fail)); clear hK K; try go_frame))
      first | (refine mixs_skip 5 rfl (by kernel_rfl) rfl ?_; go_frame) | (refine mixs_soft 5 rfl (by kernel_rfl) rfl (fun K hK => ?_); go_simp; first | (refine hK _ ?_; clear hK K) | (apply Exists.intro; refine ⟨fun x => ?_, hK _ ?_⟩; (· (fail)); clear hK K; try go_frame))
      first | (refine mixs_skip 6 rfl (by kernel_rfl) rfl ?_; go_frame) | (refine mixs_soft 6 rfl (by kernel_rfl) rfl (fun K hK => ?_); go_simp; first | (refine hK _ ?_; clear hK K) | (apply Exists.intro; refine ⟨fun x => ?_, hK _ ?_⟩; (· (fail)); clear hK K; try go_frame))
      clear hk1
      refine mixs_one 7 (by decide) (by kernel_rfl) rfl rfl ?_; intro w5 hb5 hB5 K hK; go_simp
      refine (copied_pool A q cq t w5 (HA2.out.ext hb5) hq).mono ?_
      rintro e w6 ⟨B, rfl, hB1, hB2, hb6⟩
      have hlt5 : KB < w5.heap.size ∧ SB < w5.heap.size ∧ TB < w5.heap.size := by
        have h := HKP2.out.ext hb5
        refine ⟨h.k.lt, h.s.lt, ?_⟩
        obtain ⟨_, _, h, _⟩ := h.t
        exact h.lt
      obtain ⟨hl1, hl2, hl3⟩ := hlt5
      have hs5 := (below_le HB2.out hb5).size
      have HBB := Lib.hid hB2
      refine hK _ _ (below_le hB5 hb6) ?_
      replace HKP2 := Lib.hid (HKP2.out.ext (below_le hb5 hb6))
      have hBX : B ∉ [KB, SB, TB] := by simp; omega
      have hBW : W0.heap.size ≤ B := by omega
      clear hK K hb5 hb6 hB5 hB2 hl1 hl2 hl3 hs5
      try go_frame
      first | (refine mixs_skip 8 rfl (by kernel_rfl) rfl ?_; go_frame) | (refine mixs_soft 8 rfl (by kernel_rfl) rfl (fun K hK => ?_); go_simp; first | (refine hK _ ?_; clear hK K) | (apply Exists.intro; refine ⟨fun x => ?_, hK _ ?_⟩; (· (fail)); clear hK K; try go_frame))
      refine mixs_last 9 (by kernel_rfl) (by kernel_rfl) rfl rfl ?_
      intro w7 hb7 hB7 K hK
      have hkp7 := HKP2.out.ext hb7
      have htc : ∃ ov, w7.cell? ⟨TB, i, none⟩ = some ov := by
        obtain ⟨vs, h1, h2, -⟩ := hkp7.t
        rw [h2.cell i]
        exact ⟨vs[i], by simp⟩
      obtain ⟨ov, hov⟩ := htc
      have hfz : w7.frozen? ⟨TB, i, none⟩ = false := by
        obtain ⟨vs, h1, h2, -⟩ := hkp7.t
        exact h2.frozen i
      have hnT := hkp7.bt
      have hkp8 := hkp7.table i hit t (by have := HQL.out; omega) B (HBB.out.ext hb7) hBW hBX
      have HKP8 := Lib.hid hkp8
      have HA8 := Lib.hid ((HA2.out.ext hB7).far (p := ⟨TB, i, none⟩) (fun a e => ?far) (.slice (some ⟨B, 0, none⟩) t.length t.length))
      case far => have := HALT.out a e; show a.block ≠ TB; omega
      have H28 := Lib.hid ((H2.out.ext (below_le HB2.out hB7)).far (p := ⟨TB, i, none⟩) (by show w.heap.size + 1 ≠ TB; omega) (.slice (some ⟨B, 0, none⟩) t.length t.length))
      have HB8 := Lib.hid ((below_le HB.out (below_le HB2.out hB7)).setCell (p := ⟨TB, i, none⟩) (by show w.heap.size ≤ TB; omega) (.slice (some ⟨B, 0, none⟩) t.length t.length))
      clear hb7 hB7 hkp7 hkp8
      go_simp
      refine hK _ _ fun w8 hb8 => ?_
      clear hK K hov hfz
      replace HKP8 := Lib.hid (HKP8.out.ext hb8)
      replace HA8 := Lib.hid (HA8.out.ext hb8)
      replace H28 := Lib.hid (H28.out.ext hb8)
      replace HB8 := Lib.hid (below_le HB8.out hb8)
      clear hb8
      try go_frame
      have hfin : ∀ (X : World) (st : Int), Below w8.heap.size w8 X → stateOf t = st →
          (X.cell? ⟨KB, 0, none⟩ = some (.slice (some ⟨SB, 0, none⟩) l.length l.length) ∧ (∃ sv, X.cell? ⟨SB, i, none⟩ = some (.int .i64 sv)) ∧ X.frozen? ⟨SB, i, none⟩ = false) ∧
          ((X.setCell ⟨SB, i, none⟩ (.int .i64 st)).cell? ⟨KB, 0, none⟩ = some (.slice (some ⟨SB, 0, none⟩) l.length l.length) ∧ (X.setCell ⟨SB, i, none⟩ (.int .i64 st)).cell? ⟨KB, 1, none⟩ = some (.slice (some ⟨TB, 0, none⟩) ts.length ts.length)) ∧
          ((X.setCell ⟨SB, i, none⟩ (.int .i64 st)).cell? ⟨w.heap.size + 1, 0, none⟩ = some (.slice none 0 0) ∧ (X.setCell ⟨SB, i, none⟩ (.int .i64 st)).cell? ⟨w.heap.size + 1, 1, none⟩ = some (.slice none 0 0) ∧ (X.setCell ⟨SB, i, none⟩ (.int .i64 st)).frozen? ⟨w.heap.size + 1, 0, none⟩ = false ∧ (X.setCell ⟨SB, i, none⟩ (.int .i64 st)).frozen? ⟨w.heap.size + 1, 1, none⟩ = false) ∧
          ((((X.setCell ⟨SB, i, none⟩ (.int .i64 st)).setCell ⟨w.heap.size + 1, 0, none⟩ (.slice (some ⟨SB, 0, none⟩) l.length l.length)).setCell ⟨w.heap.size + 1, 1, none⟩ (.slice (some ⟨TB, 0, none⟩) ts.length ts.length)).cell? ⟨w.heap.size + 1, 0, none⟩ = some (.slice (some ⟨SB, 0, none⟩) l.length l.length) ∧
          (((X.setCell ⟨SB, i, none⟩ (.int .i64 st)).setCell ⟨w.heap.size + 1, 0, none⟩ (.slice (some ⟨SB, 0, none⟩) l.length l.length)).setCell ⟨w.heap.size + 1, 1, none⟩ (.slice (some ⟨TB, 0, none⟩) ts.length ts.length)).cell? ⟨w.heap.size + 1, 1, none⟩ = some (.slice (some ⟨TB, 0, none⟩) ts.length ts.length)) ∧
          GivesErr w (setL l ts i t) (setT l ts i t) (setC l ts i t) (.returned (.tuple #[.agg #[.slice (some ⟨SB, 0, none⟩) l.length l.length, .slice (some ⟨TB, 0, none⟩) ts.length ts.length], .int .i64 0])) (((X.setCell ⟨SB, i, none⟩ (.int .i64 st)).setCell ⟨w.heap.size + 1, 0, none⟩ (.slice (some ⟨SB, 0, none⟩) l.length l.length)).setCell ⟨w.heap.size + 1, 1, none⟩ (.slice (some ⟨TB, 0, none⟩) ts.length ts.length)) := fun X st hX hst => by
        have hkx := HKP8.out.ext hX
        have k0 := hkx.k.cell 0
        have sc : X.cell? ⟨SB, i, none⟩ = some (.int .i64 l[i]) := by rw [hkx.s.cell i]; simp [hil, Iv]
        have hn := hkx.bs
        have hkp := hkx.state i st
        have g0 := hkp.k.cell 0
        have g1 := hkp.k.cell 1
        simp at k0 g0 g1
        have h3 := (H28.out.ext hX).far (p := ⟨SB, i, none⟩) (by show w.heap.size + 1 ≠ SB; omega) (.int .i64 st)
        obtain ⟨hc, q0, q1, hB⟩ := res_two (a' := .slice (some ⟨SB, 0, none⟩) l.length l.length) (b' := .slice (some ⟨TB, 0, none⟩) ts.length ts.length) h3 ((below_le HB8.out hX).setCell (p := ⟨SB, i, none⟩) (by show w.heap.size ≤ SB; omega) (.int .i64 st)) (by omega)
        have hpf := hkp.poolF
        rw [List.length_set, List.length_set] at hpf
        have hpf2 := ((hpf.far (p := ⟨w.heap.size + 1, 0, none⟩) hW0 (.slice (some ⟨SB, 0, none⟩) l.length l.length)).far (p := ⟨w.heap.size + 1, 1, none⟩) hW0 (.slice (some ⟨TB, 0, none⟩) ts.length ts.length)).mono (base' := w.heap.size) (by omega)
        refine ⟨⟨k0, ⟨_, sc⟩, hkx.s.frozen i⟩, ⟨g0, g1⟩, hc, ⟨q0, q1⟩, ?_⟩
        rw [HQ.out.1, HQ.out.2.1, HQ.out.2.2, hst]
        exact ⟨_, rfl, hpf2, hB⟩
      have HFIN := Lib.hid hfin
      have hcall := mcount_any A q cq t w8 HA8.out (by omega)
      have hcall2 := fun X (h : Row X A q (t.map Iv)) => room_any A q cq t X h (by omega)
      have HC2 := Lib.hid hcall2
      clear hfin hcall2 HKP8 H28 HB8 HQ
      have HST : Hid (stateOf t = if cntN t = 0 then 0 else if 0 < roomN t then 1 else 2) := Lib.hid rfl
      generalize cntN t = cn at *
      generalize roomN t = rn at *
      go_wp2_with fail
      refine hcall.mono ?_
      clear hcall
      rintro e w9 ⟨rfl, hb9⟩
      by_cases hc0 : cn = 0
      · have hst : stateOf t = 0 := by rw [HST.out, if_pos hc0]
        obtain ⟨⟨k0, ⟨sv, sc⟩, sf⟩, ⟨g0, g1⟩, ⟨c0, c1, f0, f1⟩, ⟨q0, q1⟩, hend⟩ := HFIN.out w9 0 hb9 hst
        have HEND := Lib.hid hend
        have hd : ((cn : Int) == 0) = true := by simp; omega
        clear hend hst hb9 hc0
        go_wp2
        exact bodyPost_ret (v := .tuple #[.agg #[.slice (some ⟨SB, 0, none⟩) l.length l.length, .slice (some ⟨TB, 0, none⟩) ts.length ts.length], .int .i64 0]) (by simp [results, Tryz.results19, go_sem, q0, q1]) rfl HEND.out
      · have hd : ((cn : Int) == 0) = false := by simp; omega
        have hcall := HC2.out w9 (HA8.out.ext hb9)
        have HB9 := Lib.hid hb9
        clear hb9
        go_wp2_with fail
        refine hcall.mono ?_
        clear hcall
        rintro e w10 ⟨rfl, hb10⟩
        by_cases hr0 : 0 < rn
        · have hst : stateOf t = 1 := by rw [HST.out, if_neg hc0, if_pos hr0]
          obtain ⟨⟨k0, ⟨sv, sc⟩, sf⟩, ⟨g0, g1⟩, ⟨c0, c1, f0, f1⟩, ⟨q0, q1⟩, hend⟩ := HFIN.out w10 1 (below_le HB9.out hb10) hst
          have HEND := Lib.hid hend
          have hd2 : decide ((rn : Int) > 0) = true := by simp; omega
          clear hend hst hb10 hc0
          go_wp2
          exact bodyPost_ret (v := .tuple #[.agg #[.slice (some ⟨SB, 0, none⟩) l.length l.length, .slice (some ⟨TB, 0, none⟩) ts.length ts.length], .int .i64 0]) (by simp [results, Tryz.results19, go_sem, q0, q1]) rfl HEND.out
        · have hst : stateOf t = 2 := by rw [HST.out, if_neg hc0, if_neg hr0]
          obtain ⟨⟨k0, ⟨sv, sc⟩, sf⟩, ⟨g0, g1⟩, ⟨c0, c1, f0, f1⟩, ⟨q0, q1⟩, hend⟩ := HFIN.out w10 2 (below_le HB9.out hb10) hst
          have HEND := Lib.hid hend
          have hd2 : decide ((rn : Int) > 0) = false := by simp; omega
          clear hend hst hb10 hc0
          go_wp2
          exact bodyPost_ret (v := .tuple #[.agg #[.slice (some ⟨SB, 0, none⟩) l.length l.length, .slice (some ⟨TB, 0, none⟩) ts.length ts.length], .int .i64 0]) (by simp [results, Tryz.results19, go_sem, q0, q1]) rfl HEND.out

/-- pool.Set. -/
theorem set_any (S : Option Addr) (m c : Nat) (T : Option Addr) (k d : Nat) (l : List Int) (ts : List (List Int)) (b : Int) (A : Option Addr) (q cq : Nat) (t : List Int) (w : World) (hE : EType w) (hS : Row w S m (l.map Iv)) (hT : Tabs w T k ts) (hm : m ≤ 1000) (hk : k ≤ 1000) (hA : Row w A q (t.map Iv)) (hq : q ≤ 1000) :
    Calls Tryz.prog 19 #[.agg #[.slice S m c, .slice T k d], .int .i64 b, .slice A q cq] w (GivesErr w (setL l ts b t) (setT l ts b t) (setC l ts b t)) := by
  cases hp : pRight l ts
  · have h := set_wrong S m c T k d l ts b A q cq w hE hS hT hm hk hp
    have hok : setOk l ts b t = false := by unfold setOk; rw [hp]; rfl
    unfold setL setT setC
    rw [hok, hp]
    exact h
  · exact set_right S m c T k d l ts b A q cq t w hE hS hT hm hk hA hq hp

end Go.Proofs.YtllanbggjfmfhaaGreatDoor
