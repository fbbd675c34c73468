/-
  What is proved: contracts of Close and Drop of package pool. No condition beyond those stated.
-/
import Derived.Test.YtllanbggjfmfhaaGreatDoorHg
namespace Go.Proofs.YtllanbggjfmfhaaGreatDoor
open Go.RowKit Go.Shelf

/-- A pool, and a number. -/
def GivesErr (w : World) (l : List Int) (ts : List (List Int)) (code : Nat) (e : Ending) (w' : World) : Prop := ∃ v, e = .returned (.tuple #[v, .int .i64 code]) ∧ PoolF w' w.heap.size v l ts ∧ Below w.heap.size w w'
def EType (w : World) : Prop := w.cell? ⟨2, 0, none⟩ = some (rty 47)
theorem EType.ext {w w' : World} (hb : Below w.heap.size w w') (h : EType w) : EType w' := cell_ext hb h

/-- What is set into the result's two cells. -/
theorem res_two {w X : World} {g : Nat} {a b a' b' : Value} (h : Blk X g 25 #[a, b]) (hB : Below w.heap.size w X) (hg : w.heap.size ≤ g) :
    (X.cell? ⟨g, 0, none⟩ = some a ∧ X.cell? ⟨g, 1, none⟩ = some b ∧ X.frozen? ⟨g, 0, none⟩ = false ∧ X.frozen? ⟨g, 1, none⟩ = false) ∧
    ((X.setCell ⟨g, 0, none⟩ a').setCell ⟨g, 1, none⟩ b').cell? ⟨g, 0, none⟩ = some a' ∧ ((X.setCell ⟨g, 0, none⟩ a').setCell ⟨g, 1, none⟩ b').cell? ⟨g, 1, none⟩ = some b' ∧ Below w.heap.size w ((X.setCell ⟨g, 0, none⟩ a').setCell ⟨g, 1, none⟩ b') := by
  have h4 := (h.set_ 0 a').set_ 1 b'
  have c0 := h.cell 0
  have c1 := h.cell 1
  have q0 := h4.cell 0
  have q1 := h4.cell 1
  simp at c0 c1 q0 q1
  exact ⟨⟨c0, c1, h.frozen 0, h.frozen 1⟩, q0, q1, (hB.setCell (p := ⟨g, 0, none⟩) hg _).setCell (p := ⟨g, 1, none⟩) hg _⟩

def closeC (l : List Int) (ts : List (List Int)) (b : Int) : Nat := if pRight l ts then (if hasN l b [5] then 0 else 90) else 100
def closeL (l : List Int) (ts : List (List Int)) (b : Int) : List Int := if pRight l ts && hasN l b [5] then l.set b.toNat 2 else []
def closeT (l : List Int) (ts : List (List Int)) (b : Int) : List (List Int) := if pRight l ts && hasN l b [5] then ts else []

theorem hasN_lt {l : List Int} {b : Int} {ws : List Int} (h : hasN l b ws = true) : ∃ i : Nat, b = i ∧ i < l.length ∧ hasB ws (l.getD i 0) = true := by
  simp only [hasN, Bool.and_eq_true, decide_eq_true_eq] at h
  exact ⟨b.toNat, by omega, by omega, h.2⟩

set_option maxRecDepth 100000 in
set_option maxHeartbeats 2000000 in
/-- pool.Close. -/
theorem close_any (S : Option Addr) (m c : Nat) (T : Option Addr) (k d : Nat) (l : List Int) (ts : List (List Int)) (b : Int) (w : World) (hE : EType w) (hS : Row w S m (l.map Iv)) (hT : Tabs w T k ts) (hm : m ≤ 1000) (hk : k ≤ 1000) :
    Calls Tryz.prog 15 #[.agg #[.slice S m c, .slice T k d], .int .i64 b] w (GivesErr w (closeL l ts b) (closeT l ts b) (closeC l ts b)) := by
  have hb0 : Below w.heap.size w ((w.alloc (.cells #[.slice S m c, .slice T k d] 25)).alloc (.cells #[.slice none 0 0, .slice none 0 0] 25)) := below_le (below_box _ _) (below_box _ _)
  have h2 : Blk ((w.alloc (.cells #[.slice S m c, .slice T k d] 25)).alloc (.cells #[.slice none 0 0, .slice none 0 0] 25)) (w.heap.size + 1) 25 #[.slice none 0 0, .slice none 0 0] := heap_new (by simp) _
  have HB := Lib.hid hb0
  have H2 := Lib.hid h2
  have HS := Lib.hid (hS.ext hb0)
  have HT := Lib.hid (hT.ext hb0)
  have HE := Lib.hid (hE.ext hb0)
  clear hS hT hb0 h2 hE
  have hemp : ∀ code, (pRight l ts && hasN l b [5]) = false → closeC l ts b = code → ∀ X : World, Below w.heap.size w X → GivesErr w (closeL l ts b) (closeT l ts b) (closeC l ts b) (.returned (.tuple #[.agg #[.slice none 0 0, .slice none 0 0], .int .i64 (code : Int)])) X := fun code h1 h2 X hX => by
    unfold closeL closeT
    rw [h1, h2]
    exact ⟨_, rfl, PoolF.none_, hX⟩
  have HEM := Lib.hid hemp
  clear hemp
  cases hp : pRight l ts
  · have h100 := HEM.out 100 (by rw [hp]; rfl) (by unfold closeC; rw [hp]; rfl)
    have H100 := Lib.hid h100
    have HC := Lib.hid (keep_no S m c T k d l ts _ HS.out HT.out hm hk hp)
    clear hp h100
    go_enter Tryz.func15, Tryz.ntmps15
    go_wp2_with fail
    generalize (w.alloc (.cells #[.slice S m c, .slice T k d] 25)).alloc (.cells #[.slice none 0 0, .slice none 0 0] 25) = W0 at *
    refine HC.out.mono ?_
    rintro e w1 ⟨v, rfl, hv, hb1⟩
    have hnum := number_pool 100 v w1 hv (HE.out.ext hb1)
    obtain ⟨t, u, rfl⟩ : ∃ t u : Nat, v = .iface 82 (.pointer (some ⟨t, u, none⟩)) := by
      rcases hv with ⟨h, _⟩ | ⟨_, t, u, h, _⟩
      · cases h
      · exact ⟨t, 0, h⟩
    have HB1 := Lib.hid hb1
    clear hv hb1 HC
    go_wp2_with fail
    refine hnum.mono ?_
    clear hnum
    rintro e w2 ⟨rfl, hb2⟩
    obtain ⟨⟨c0, c1, f0, f1⟩, q0, q1, hB⟩ := res_two (a' := .slice none 0 0) (b' := .slice none 0 0) (H2.out.ext (below_le HB1.out hb2)) (below_le HB.out (below_le HB1.out hb2)) (by omega)
    have HB2 := Lib.hid hB
    clear hb2 hB
    go_wp2
    exact bodyPost_ret (v := .tuple #[.agg #[.slice none 0 0, .slice none 0 0], .int .i64 100]) (by simp [results, Tryz.results15, go_sem, q0, q1]) rfl (H100.out _ HB2.out)
  · have HP := Lib.hid hp
    have HC := Lib.hid (keep_ok S m c T k d l ts _ HS.out HT.out hm hk hp)
    have hro := run_one 5
    clear hp
    go_enter Tryz.func15, Tryz.ntmps15
    go_wp2_with fail
    generalize (w.alloc (.cells #[.slice S m c, .slice T k d] 25)).alloc (.cells #[.slice none 0 0, .slice none 0 0] 25) = W0 at *
    refine HC.out.mono ?_
    rintro e w1 ⟨K, SB, TB, rfl, hkp, hb1⟩
    have hW0 := H2.out.lt
    have hx1 := below_box w1 (.cells #[.int .i64 5] 3)
    have hrow := row_one (x := 5) (cell_one (w := w1) (t := 3) (v := .int .i64 5))
    have hkp2 := hkp.ext hx1
    have hcall := has_any_k K SB l _ b _ 1 1 [5] _ hkp2.k hkp2.s hrow (by omega)
    have HKP := Lib.hid hkp2
    have HB1 := Lib.hid (below_le hb1 hx1)
    have HCL := Lib.hid hcall
    clear hkp hb1 HC hx1 hrow hkp2 hcall
    go_wp2_with fail
    generalize w1.alloc (.cells #[.int .i64 5] 3) = W1 at *
    clear hro
    cases hh : hasN l b [5]
    · have hcall := HCL.out
      rw [hh] at hcall
      have h90 := HEM.out 90 (by rw [hh]; simp) (by unfold closeC; rw [HP.out, hh]; rfl)
      have H90 := Lib.hid h90
      clear hh h90
      refine hcall.mono ?_
      clear hcall
      rintro e w' ⟨rfl, rfl⟩
      go_wp2_with fail
      refine (refuse_pool _ 90 (by omega) W1).mono ?_
      rintro e w3 ⟨v, rfl, hv, hb3⟩
      have hnum := number_pool 90 v w3 hv (HE.out.ext (below_le HB1.out hb3))
      have HB3 := Lib.hid (below_le HB1.out hb3)
      clear hv hb3
      go_wp2_with fail
      refine hnum.mono ?_
      clear hnum
      rintro e w4 ⟨rfl, hb4⟩
      obtain ⟨⟨c0, c1, f0, f1⟩, q0, q1, hB⟩ := res_two (a' := .slice none 0 0) (b' := .slice none 0 0) (H2.out.ext (below_le HB3.out hb4)) (below_le HB.out (below_le HB3.out hb4)) (by omega)
      have HB4 := Lib.hid hB
      clear hb4 hB
      go_wp2
      exact bodyPost_ret (v := .tuple #[.agg #[.slice none 0 0, .slice none 0 0], .int .i64 90]) (by simp [results, Tryz.results15, go_sem, q0, q1]) rfl (H90.out _ HB4.out)
    · have hcall := HCL.out
      rw [hh] at hcall
      obtain ⟨i, rfl, hil, -⟩ := hasN_lt hh
      have hcode : closeC l ts i = 0 := by unfold closeC; rw [HP.out, hh]; rfl
      have hL : closeL l ts i = l.set i 2 := by unfold closeL; rw [HP.out, hh]; rfl
      have hT : closeT l ts i = ts := by unfold closeT; rw [HP.out, hh]; rfl
      have HQ := Lib.hid (⟨hcode, hL, hT⟩ : _ ∧ _ ∧ _)
      clear hh hcode hL hT HEM
      have k0 := HKP.out.k.cell 0
      simp at k0
      have sc : W1.cell? ⟨SB, i, none⟩ = some (.int .i64 l[i]) := by rw [HKP.out.s.cell i]; simp [hil, Iv]
      have sf := HKP.out.s.frozen i
      have hkp := HKP.out.state i 2
      have hn := HKP.out.bs
      have g0 := hkp.k.cell 0
      have g1 := hkp.k.cell 1
      simp at g0 g1
      have h3 := (H2.out.ext HB1.out).far (p := ⟨SB, i, none⟩) (by show w.heap.size + 1 ≠ SB; omega) (.int .i64 2)
      obtain ⟨⟨c0, c1, f0, f1⟩, q0, q1, hB⟩ := res_two (a' := .slice (some ⟨SB, 0, none⟩) l.length l.length) (b' := .slice (some ⟨TB, 0, none⟩) ts.length ts.length) h3 ((below_le HB.out HB1.out).setCell (p := ⟨SB, i, none⟩) (by show w.heap.size ≤ SB; omega) (.int .i64 2)) (by omega)
      have hpf := hkp.poolF
      rw [List.length_set] at hpf
      have HPF := Lib.hid (((hpf.far (p := ⟨w.heap.size + 1, 0, none⟩) hW0 (.slice (some ⟨SB, 0, none⟩) l.length l.length)).far (p := ⟨w.heap.size + 1, 1, none⟩) hW0 (.slice (some ⟨TB, 0, none⟩) ts.length ts.length)).mono (base' := w.heap.size) (by omega))
      have HB4 := Lib.hid hB
      clear hkp h3 hB hpf
      refine hcall.mono ?_
      clear hcall
      rintro e w' ⟨rfl, rfl⟩
      go_wp2
      exact bodyPost_ret (v := .tuple #[.agg #[.slice (some ⟨SB, 0, none⟩) l.length l.length, .slice (some ⟨TB, 0, none⟩) ts.length ts.length], .int .i64 0]) (by simp [results, Tryz.results15, go_sem, q0, q1]) rfl (by rw [HQ.out.1, HQ.out.2.1, HQ.out.2.2]; exact ⟨_, rfl, HPF.out, HB4.out⟩)

/-- A pool, and two numbers. -/
def GivesDrop (w : World) (l : List Int) (ts : List (List Int)) (n code : Nat) (e : Ending) (w' : World) : Prop := ∃ v, e = .returned (.tuple #[v, .int .i64 n, .int .i64 code]) ∧ PoolF w' w.heap.size v l ts ∧ Below w.heap.size w w'
def dropC (l : List Int) (ts : List (List Int)) (b : Int) : Nat := if pRight l ts then (if cutOk l b then 0 else 91) else 100
def dropL (l : List Int) (ts : List (List Int)) (b : Int) : List Int := if pRight l ts && cutOk l b then cutL l b.toNat (endC l b) else []
def dropT (l : List Int) (ts : List (List Int)) (b : Int) : List (List Int) := if pRight l ts && cutOk l b then ts else []
def dropN (l : List Int) (ts : List (List Int)) (b : Int) : Nat := if pRight l ts && cutOk l b then endC l b - b.toNat else 0

set_option maxRecDepth 100000 in
set_option maxHeartbeats 2000000 in
/-- pool.Drop. -/
theorem drop_any (S : Option Addr) (m c : Nat) (T : Option Addr) (k d : Nat) (l : List Int) (ts : List (List Int)) (b : Int) (aS aR : Addr) (w : World) (hRS : RSent w aS aR) (hE : EType w) (hS : Row w S m (l.map Iv)) (hT : Tabs w T k ts) (hm : m ≤ 1000) (hk : k ≤ 1000) :
    Calls Tryz.prog 17 #[.agg #[.slice S m c, .slice T k d], .int .i64 b] w (GivesDrop w (dropL l ts b) (dropT l ts b) (dropN l ts b) (dropC l ts b)) := by
  have hl := hS.1
  simp at hl
  have hlm : l.length ≤ 1000 := by omega
  have hb0 : Below w.heap.size w ((w.alloc (.cells #[.slice S m c, .slice T k d] 25)).alloc (.cells #[.slice none 0 0, .slice none 0 0] 25)) := below_le (below_box _ _) (below_box _ _)
  have h2 : Blk ((w.alloc (.cells #[.slice S m c, .slice T k d] 25)).alloc (.cells #[.slice none 0 0, .slice none 0 0] 25)) (w.heap.size + 1) 25 #[.slice none 0 0, .slice none 0 0] := heap_new (by simp) _
  have HB := Lib.hid hb0
  have H2 := Lib.hid h2
  have HS := Lib.hid (hS.ext hb0)
  have HT := Lib.hid (hT.ext hb0)
  have HE := Lib.hid (hE.ext hb0)
  have HRS := Lib.hid (hRS.ext hb0)
  clear hS hT hb0 h2 hE hl hRS
  have hemp : ∀ code, (pRight l ts && cutOk l b) = false → dropC l ts b = code → ∀ X : World, Below w.heap.size w X → GivesDrop w (dropL l ts b) (dropT l ts b) (dropN l ts b) (dropC l ts b) (.returned (.tuple #[.agg #[.slice none 0 0, .slice none 0 0], .int .i64 0, .int .i64 (code : Int)])) X := fun code h1 h2 X hX => by
    unfold dropL dropT dropN
    rw [h1, h2]
    exact ⟨_, rfl, PoolF.none_, hX⟩
  have HEM := Lib.hid hemp
  clear hemp
  cases hp : pRight l ts
  · have h100 := HEM.out 100 (by rw [hp]; rfl) (by unfold dropC; rw [hp]; rfl)
    have H100 := Lib.hid h100
    have HC := Lib.hid (keep_no S m c T k d l ts _ HS.out HT.out hm hk hp)
    clear hp h100
    go_enter Tryz.func17, Tryz.ntmps17
    go_wp2_with fail
    generalize (w.alloc (.cells #[.slice S m c, .slice T k d] 25)).alloc (.cells #[.slice none 0 0, .slice none 0 0] 25) = W0 at *
    refine HC.out.mono ?_
    rintro e w1 ⟨v, rfl, hv, hb1⟩
    have hnum := number_pool 100 v w1 hv (HE.out.ext hb1)
    obtain ⟨t, u, rfl⟩ : ∃ t u : Nat, v = .iface 82 (.pointer (some ⟨t, u, none⟩)) := by
      rcases hv with ⟨h, _⟩ | ⟨_, t, u, h, _⟩
      · cases h
      · exact ⟨t, 0, h⟩
    have HB1 := Lib.hid hb1
    clear hv hb1 HC
    go_wp2_with fail
    refine hnum.mono ?_
    clear hnum
    rintro e w2 ⟨rfl, hb2⟩
    obtain ⟨⟨c0, c1, f0, f1⟩, q0, q1, hB⟩ := res_two (a' := .slice none 0 0) (b' := .slice none 0 0) (H2.out.ext (below_le HB1.out hb2)) (below_le HB.out (below_le HB1.out hb2)) (by omega)
    have HB2 := Lib.hid hB
    clear hb2 hB
    go_wp2
    exact bodyPost_ret (v := .tuple #[.agg #[.slice none 0 0, .slice none 0 0], .int .i64 0, .int .i64 100]) (by simp [results, Tryz.results17, go_sem, q0, q1]) rfl (H100.out _ HB2.out)
  · have HP := Lib.hid hp
    have HC := Lib.hid (keep_ok S m c T k d l ts _ HS.out HT.out hm hk hp)
    clear hp
    go_enter Tryz.func17, Tryz.ntmps17
    go_wp2_with fail
    generalize (w.alloc (.cells #[.slice S m c, .slice T k d] 25)).alloc (.cells #[.slice none 0 0, .slice none 0 0] 25) = W0 at *
    refine HC.out.mono ?_
    rintro e w1 ⟨K, SB, TB, rfl, hkp, hb1⟩
    have hW0 := H2.out.lt
    have k0 := hkp.k.cell 0
    simp at k0
    have hcall := cut_any _ l.length l.length l b aS aR w1 (HRS.out.ext hb1) hkp.len.1 hlm
    have HKP := Lib.hid hkp
    have HB1 := Lib.hid hb1
    have HCL := Lib.hid hcall
    have hw := (pright_whole HP.out).1
    clear hkp hb1 HC hcall
    go_wp2_with fail
    cases hh : cutOk l b
    · have hcall := HCL.out
      rw [show codeC l b = 91 by unfold codeC; rw [hw, hh]; rfl, show numC l b = 0 by unfold numC; rw [hh]; simp] at hcall
      have h91 := HEM.out 91 (by rw [hh]; simp) (by unfold dropC; rw [HP.out, hh]; rfl)
      have H91 := Lib.hid h91
      clear hh h91 hw
      refine hcall.mono ?_
      clear hcall
      rintro e w2 ⟨A1, m1, c1, rfl, -, -, hb2⟩
      have HB2 := Lib.hid (below_le HB1.out hb2)
      clear hb2
      go_wp2_with fail
      refine (refuse_pool _ 91 (by omega) w2).mono ?_
      rintro e w3 ⟨v, rfl, hv, hb3⟩
      have hnum := number_pool 91 v w3 hv (HE.out.ext (below_le HB2.out hb3))
      have HB3 := Lib.hid (below_le HB2.out hb3)
      clear hv hb3
      go_wp2_with fail
      refine hnum.mono ?_
      clear hnum
      rintro e w4 ⟨rfl, hb4⟩
      obtain ⟨⟨c0, c1, f0, f1⟩, q0, q1, hB⟩ := res_two (a' := .slice none 0 0) (b' := .slice none 0 0) (H2.out.ext (below_le HB3.out hb4)) (below_le HB.out (below_le HB3.out hb4)) (by omega)
      have HB4 := Lib.hid hB
      clear hb4 hB
      go_wp2
      exact bodyPost_ret (v := .tuple #[.agg #[.slice none 0 0, .slice none 0 0], .int .i64 0, .int .i64 91]) (by simp [results, Tryz.results17, go_sem, q0, q1]) rfl (H91.out _ HB4.out)
    · have hcall := HCL.out
      rw [show codeC l b = 0 by unfold codeC; rw [hw, hh]; rfl, show numC l b = endC l b - b.toNat by unfold numC; rw [hw, hh]; rfl, show resC l b = cutL l b.toNat (endC l b) by unfold resC; rw [hw, hh]; rfl] at hcall
      have hcode : dropC l ts b = 0 := by unfold dropC; rw [HP.out, hh]; rfl
      have hN : dropN l ts b = endC l b - b.toNat := by unfold dropN; rw [HP.out, hh]; rfl
      have hL : dropL l ts b = cutL l b.toNat (endC l b) := by unfold dropL; rw [HP.out, hh]; rfl
      have hT : dropT l ts b = ts := by unfold dropT; rw [HP.out, hh]; rfl
      generalize endC l b - b.toNat = n at *
      generalize cutL l b.toNat (endC l b) = l' at *
      have HQ := Lib.hid (⟨hcode, hN, hL, hT⟩ : _ ∧ _ ∧ _ ∧ _)
      clear hh hcode hN hL hT HEM hw
      refine hcall.mono ?_
      clear hcall HCL
      rintro e w3 ⟨A1, m1, c1, rfl, hR1, ⟨hmc1, hfr1⟩, hb3⟩
      have hKl := HKP.out.k.lt
      have hkp := HKP.out.ext hb3
      have h3 := H2.out.ext (below_le HB1.out hb3)
      have kf := hkp.k.frozen 0
      replace k0 := cell_ext hb3 k0
      have hkK := hkp.bk
      have hTB := hkp.bt
      have hkb := hkp.k.set_ 0 (.slice A1 m1 c1)
      have hR1' := hR1.far (p := ⟨K, 0, none⟩) (fun a e => by have := hfr1 a e; show a.block ≠ K; omega) (.slice A1 m1 c1)
      have hL1 := hkp.t.far (p := ⟨K, 0, none⟩) (by show TB ≠ K; exact Ne.symm hkp.ne.2.2) (.inl (by simp)) (.slice A1 m1 c1)
      have h3' := h3.far (p := ⟨K, 0, none⟩) (by show w.heap.size + 1 ≠ K; omega) (.slice A1 m1 c1)
      have hB3 := (below_le HB.out (below_le HB1.out hb3)).setCell (p := ⟨K, 0, none⟩) (by show w.heap.size ≤ K; omega) (.slice A1 m1 c1)
      have g0 := hkb.cell 0
      have g1 := hkb.cell 1
      simp at g0 g1
      have hs1 := HB1.out.size
      have hpf := poolF_mk hR1' (fun a e => by have := hfr1 a e; omega) hmc1 hL1 (by omega : W0.heap.size ≤ TB)
      have HPF := Lib.hid (((hpf.far (p := ⟨w.heap.size + 1, 0, none⟩) hW0 (.slice A1 m1 c1)).far (p := ⟨w.heap.size + 1, 1, none⟩) hW0 (.slice (some ⟨TB, 0, none⟩) ts.length ts.length)).mono (base' := w.heap.size) (by omega))
      obtain ⟨⟨c0, cc1, f0, f1⟩, q0, q1, hB⟩ := res_two (a' := .slice A1 m1 c1) (b' := .slice (some ⟨TB, 0, none⟩) ts.length ts.length) h3' hB3 (by omega)
      have HB4 := Lib.hid hB
      clear hkp h3 hkb hR1' hL1 h3' hB3 hpf hB hR1 hfr1
      go_wp2
      exact bodyPost_ret (v := .tuple #[.agg #[.slice A1 m1 c1, .slice (some ⟨TB, 0, none⟩) ts.length ts.length], .int .i64 (n : Int), .int .i64 0]) (by simp [results, Tryz.results17, go_sem, q0, q1]) rfl (by rw [HQ.out.1, HQ.out.2.1, HQ.out.2.2.1, HQ.out.2.2.2]; exact ⟨_, rfl, HPF.out, HB4.out⟩)

end Go.Proofs.YtllanbggjfmfhaaGreatDoor
