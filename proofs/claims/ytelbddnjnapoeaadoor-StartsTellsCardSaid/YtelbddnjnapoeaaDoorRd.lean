/-
  What is proved: contracts of Fill and Set of the reference. No condition beyond those stated.
-/
import Derived.Test.YtelbddnjnapoeaaDoorRc
import Derived.Test.YtelbddnjnapoeaaDoorRe
import Derived.Test.YtelbddnjnapoeaaDoorApp
import Derived.Test.YtelbddnjnapoeaaDoorXa
namespace Go.Proofs.YtelbddnjnapoeaaDoor
open Go.RowKit Go.Shelf

set_option maxRecDepth 100000 in
theorem run_make_room (z : Int) (h0 : 0 ≤ z) (h1 : z ≤ 100000) (W : World) :
    (Instr.makeSlice 22 (.int .i64 0) (.int .i64 z)).run Tryd.prog W = .ok (.slice (some ⟨W.heap.size, 0, none⟩) 0 z.toNat) (W.alloc (.cells (zeros z.toNat) 48)) := by
  obtain ⟨i, hi, hz0, hz1, hz2⟩ := info_parts u32_info
  have hr := run_make (P := Tryd.prog) W 22 48 i _ Tryd.underlying22 hi hz0 .i64 .i64 0 z (by omega) (by omega) (by rw [hz2]; omega) (by omega)
  rw [hr]
  congr 3
  rw [hz1]
  apply Array.ext
  · simp [zeros, madeCells]
  · intro j h1 h2
    simp [zeros, madeCells, Value.cells, Nat.mod_one]
theorem own_room {W : World} {g base k : Nat} (hg : W.heap.size = g) (hb : base ≤ g) (hk : k ≤ 100000) : (W.alloc (.cells (zeros k) 48)).ownsRow base 48 1 (.slice (some ⟨g, 0, none⟩) 0 k) 0 [] :=
  ⟨rfl, .inr ⟨g, k, zeros k, rfl, hb, heap_new hg _, Nat.zero_le _, by unfold maxLen; omega, by simp [zeros], rfl⟩⟩

def fillR0 (w : World) (n : Int) (A : Option Addr) (m c : Nat) : World := (w.alloc (.cells #[.int .i64 n, .slice A m c] 24)).alloc (.cells #[.int .i64 0, .slice none 0 0] 24)

theorem fill_cases {n lo hi : Int} (h : fillOk n lo hi = false) : lo < 0 ∨ (0 ≤ lo ∧ hi < lo) ∨ (0 ≤ lo ∧ lo ≤ hi ∧ n < hi) := by
  simp [fillOk] at h
  omega

set_option maxRecDepth 100000 in
set_option maxHeartbeats 2000000 in
/-- The reference's Fill, of what it refuses. -/
theorem reffill_bad (A : Option Addr) (m c : Nat) (n : Int) (ws : List Nat) (lo hi : Int) (on : Bool) (w : World) (hR : Row w A m (ws.map U32)) (hF : Fits ws)
    (code : Nat) (hcode : code = first2 (chk (rightB n ws) 20) (chk (fillOk n lo hi) 21)) (hne : code ≠ 0) :
    Calls Tryd.prog 62 #[.agg #[.int .i64 n, .slice A m c], .int .i64 lo, .int .i64 hi, .bool on] w (GivesIf w code n (fillW ws (placesN lo hi) on)) := by
  have hb0 : Below w.heap.size w (fillR0 w n A m c) := below_le (below_box _ _) (below_box _ _)
  have k0 : (fillR0 w n A m c).cell? ⟨w.heap.size, 0, none⟩ = some (.int .i64 n) := by simp [go_sem, fillR0]
  have k1 : (fillR0 w n A m c).cell? ⟨w.heap.size, 1, none⟩ = some (.slice A m c) := by simp [go_sem, fillR0]
  have hrb : Blk (fillR0 w n A m c) (w.heap.size + 1) 24 #[.int .i64 0, .slice none 0 0] := heap_new (by simp) _
  have HR := Lib.hid (hR.ext hb0)
  have HB := Lib.hid hb0
  have HRB := Lib.hid hrb
  have HC := Lib.hid hcode
  have HN := Lib.hid hne
  clear hR hb0 hrb hcode hne
  go_enter Tryd.func62, Tryd.ntmps62
  go_wp2_with fail
  change Calls _ _ _ (fillR0 w n A m c) _
  generalize fillR0 w n A m c = W0 at *
  refine (refright_any A m c n ws W0 HR.out hF).mono ?_
  rintro e w1 ⟨rfl, hb1⟩
  have e0 := cell_ext hb1 k0
  have e1 := cell_ext hb1 k1
  have hr1 := HRB.out.ext hb1
  have f0 := hr1.frozen 0
  have f1 := hr1.frozen 1
  have d0 := hr1.cell 0
  have d1 := hr1.cell 1
  have hr2 := (hr1.set_ 0 (.int .i64 0)).set_ 1 (.slice none 0 0)
  have HB1 := Lib.hid (below_le HB.out hb1)
  have HR2 := Lib.hid hr2
  clear hb1 k0 k1 hr1 hr2
  have fin : ∀ (cd : Nat), code = cd → cd ≠ 0 → GivesIf w code n (fillW ws (placesN lo hi) on) (.returned (.tuple #[.agg #[.int .i64 0, .slice none 0 0], .int .i64 cd])) ((w1.setCell ⟨w.heap.size + 1, 0, none⟩ (.int .i64 0)).setCell ⟨w.heap.size + 1, 1, none⟩ (.slice none 0 0)) := by
    intro cd hcd hz
    subst hcd
    exact GivesIf.no hz ⟨_, _, _, rfl, Row.none_, (HB1.out.setCell (p := ⟨w.heap.size + 1, 0, none⟩) (by show w.heap.size ≤ w.heap.size + 1; omega) _).setCell (p := ⟨w.heap.size + 1, 1, none⟩) (by show w.heap.size ≤ w.heap.size + 1; omega) _⟩
  have FIN := Lib.hid fin
  clear fin
  cases hr : rightB n ws
  · have hcd : code = 20 := by rw [HC.out, hr, chk_false, first2_nz _ _ (by omega)]
    have HCD := Lib.hid hcd
    clear hr hcd
    go_wp2
    have q0 := HR2.out.cell 0
    have q1 := HR2.out.cell 1
    simp at q0 q1
    exact bodyPost_ret (v := .tuple #[.agg #[.int .i64 0, .slice none 0 0], .int .i64 20]) (by simp [results, Tryd.results62, go_sem, q0, q1]) rfl (FIN.out 20 HCD.out (by omega))
  · cases hf : fillOk n lo hi
    · have hcd : code = 21 := by rw [HC.out, hr, hf, chk_true, chk_false, first2_z]
      have HCD := Lib.hid hcd
      have hcs := fill_cases hf
      clear hr hcd hf
      rcases hcs with h | ⟨h, h'⟩ | ⟨h, h', h''⟩
      all_goals
        go_wp2
        have q0 := HR2.out.cell 0
        have q1 := HR2.out.cell 1
        simp at q0 q1
        exact bodyPost_ret (v := .tuple #[.agg #[.int .i64 0, .slice none 0 0], .int .i64 21]) (by simp [results, Tryd.results62, go_sem, q0, q1]) rfl (FIN.out 21 HCD.out (by omega))
    · exfalso
      exact HN.out (by rw [HC.out, hr, hf, chk_true, chk_true, first2_z])

/-- What holds from round to round. -/
def FillI (w1 : World) (nb : Nat) (n : Int) (C : Option Addr) (m cp : Nat) (us : List Nat) (wr : World) : Prop :=
  Blk wr nb 24 #[.int .i64 n, .slice C m cp] ∧ Own 48 wr w1.heap.size C m (us.map U32) ∧ Below w1.heap.size w1 wr

theorem map_set_U32 (us : List Nat) (j y : Nat) : (us.map U32).set j (.int .u32 (y : Int)) = (us.set j y).map U32 := by rw [List.map_set]; rfl

theorem blk_ne {W : World} {g g' : Nat} {t t' : TypeId} {cs cs' : Array Value} (h : Blk W g t cs) (h' : Blk W g' t' cs') (hne : t ≠ t') : g ≠ g' := by
  rintro rfl
  unfold Blk at h h'
  rw [h] at h'
  injection h' with h'
  injection h'
  contradiction
theorem own_word {W : World} {base m j : Nat} {C : Option Addr} {us : List Nat} (h : Own 48 W base C m (us.map U32)) (hj : j < m) :
    ∃ g cur, C = some ⟨g, 0, none⟩ ∧ base ≤ g ∧ Blk W g 48 cur ∧ W.cell? ⟨g, j, none⟩ = some (.int .u32 ((us.getD j 0 : Nat) : Int)) := by
  obtain ⟨g, cur, e, h1, h2, h3⟩ := h.at_ hj
  have hl := h.1
  simp at hl
  refine ⟨g, cur, e, h1, h2, ?_⟩
  rw [h3]
  simp [U32, show j < us.length by omega]
theorem worth_nat (k d : Nat) (hk : k ≤ 20000) (hd : 2 ^ (k % 32) = d) (w : World) : Calls Tryd.prog 64 #[.int .i64 (k : Int)] w fun e w' => e = .returned (.int .u32 (d : Int)) ∧ w = w' := by
  have h := worth_any (k : Int) w (by omega) (by omega)
  rwa [Int.toNat_natCast, hd] at h

set_option maxRecDepth 100000 in
set_option maxHeartbeats 4000000 in
/-- The reference's Fill. -/
theorem reffill_ok (A : Option Addr) (m c : Nat) (n : Int) (ws : List Nat) (lo hi : Int) (on : Bool) (w : World) (hR : Row w A m (ws.map U32)) (hF : Fits ws) (hr : rightB n ws = true) (hf : fillOk n lo hi = true) :
    Calls Tryd.prog 62 #[.agg #[.int .i64 n, .slice A m c], .int .i64 lo, .int .i64 hi, .bool on] w (GivesBits w 0 n (fillW ws (placesN lo hi) on)) := by
  obtain ⟨hn0, hn1, hn2, _⟩ := rightB_elim hr
  obtain ⟨hl0, hl1, hl2⟩ := fill_in hf
  have hl := hR.1
  simp at hl
  have hm : m ≤ 700 := by omega
  have hnm : n ≤ 32 * m := by omega
  have hb0 : Below w.heap.size w (fillR0 w n A m c) := below_le (below_box _ _) (below_box _ _)
  have k0 : (fillR0 w n A m c).cell? ⟨w.heap.size, 0, none⟩ = some (.int .i64 n) := by simp [go_sem, fillR0]
  have k1 : (fillR0 w n A m c).cell? ⟨w.heap.size, 1, none⟩ = some (.slice A m c) := by simp [go_sem, fillR0]
  have hrb : Blk (fillR0 w n A m c) (w.heap.size + 1) 24 #[.int .i64 0, .slice none 0 0] := heap_new (by simp) _
  have hz0 : w.heap.size + 2 ≤ (fillR0 w n A m c).heap.size := by simp [fillR0]
  have hone : ∀ u ∈ ws.map U32, u.oneCell' = true := by intro u hu; obtain ⟨x, _, rfl⟩ := List.mem_map.1 hu; rfl
  obtain ⟨inf, hinf, hi0, hi1, hi2⟩ := info_parts u32_info
  have hmk := run_make_room (m : Int) (by omega) (by omega)
  simp only [Int.toNat_natCast] at hmk
  have HMK := Lib.hid hmk
  have HONE := Lib.hid hone
  have HR := Lib.hid (hR.ext hb0)
  have HB := Lib.hid hb0
  have HRB := Lib.hid hrb
  have Hr := Lib.hid hr
  have HL := Lib.hid hl
  have HF := Lib.hid hF
  have q1 : decide (lo < 0) = false := by simp; omega
  have q2 : decide (hi < lo) = false := by simp; omega
  have q3 : decide (n < hi) = false := by simp; omega
  clear hR hb0 hrb hr hf hl hn2 hmk hone hF
  go_enter Tryd.func62, Tryd.ntmps62
  go_wp2_with fail
  change Calls _ _ _ (fillR0 w n A m c) _
  generalize fillR0 w n A m c = W0 at *
  have h := refright_any A m c n ws W0 HR.out HF.out
  rw [Hr.out] at h
  refine h.mono ?_
  clear h
  rintro e w1 ⟨rfl, hb1⟩
  have e0 := cell_ext hb1 k0
  have e1 := cell_ext hb1 k1
  have HR1 := Lib.hid (HR.out.ext hb1)
  have HRB1 := Lib.hid (HRB.out.ext hb1)
  have HB1 := Lib.hid (below_le HB.out hb1)
  have hz1 := hb1.size
  clear hb1 k0 k1 HR HRB HB
  go_wp2
  have t0 := ext_cell e0
  have t1 := ext_cell e1
  have hmk := HMK.out
  refine wp_region_mix (by kernel_rfl) ?_
  first | (refine mix_skip 0 rfl (by kernel_rfl) rfl ?_; go_frame) | (refine mix_soft 0 rfl (by kernel_rfl) rfl (fun K hK => ?_); go_simp; first | (refine hK _ ?_; clear hK K) | (apply Exists.intro; refine ⟨fun x => ?_, hK _ ?_⟩; (· (fail)); clear hK K; try go_frame))
  first | (refine mix_skip 1 rfl (by kernel_rfl) rfl ?_; go_frame) | (refine mix_soft 1 rfl (by kernel_rfl) rfl (fun K hK => ?_); go_simp; first | (refine hK _ ?_; clear hK K) | (apply Exists.intro; refine ⟨fun x => ?_, hK _ ?_⟩; (· (fail)); clear hK K; try go_frame))
  first | (refine mix_skip 2 rfl (by kernel_rfl) rfl ?_; go_frame) | (refine mix_soft 2 rfl (by kernel_rfl) rfl (fun K hK => ?_); go_simp; first | (refine hK _ ?_; clear hK K) | (apply Exists.intro; refine ⟨fun x => ?_, hK _ ?_⟩; (· (fail)); clear hK K; try go_frame))
  first | (refine mix_skip 3 rfl (by kernel_rfl) rfl ?_; go_frame) | (refine mix_soft 3 rfl (by kernel_rfl) rfl (fun K hK => ?_); go_simp; first | (refine hK _ ?_; clear hK K) | (apply Exists.intro; refine ⟨fun x => ?_, hK _ ?_⟩; (· (fail)); clear hK K; try go_frame))
  first | (refine mix_skip 4 rfl (by kernel_rfl) rfl ?_; go_frame) | (refine mix_soft 4 rfl (by kernel_rfl) rfl (fun K hK => ?_); go_simp; first | (refine hK _ ?_; clear hK K) | (apply Exists.intro; refine ⟨fun x => ?_, hK _ ?_⟩; (· (fail)); clear hK K; try go_frame))
  first | (refine mix_skip 6 rfl (by kernel_rfl) rfl ?_; go_frame) | (refine mix_soft 6 rfl (by kernel_rfl) rfl (fun K hK => ?_); go_simp; first | (refine hK _ ?_; clear hK K) | (apply Exists.intro; refine ⟨fun x => ?_, hK _ ?_⟩; (· (fail)); clear hK K; try go_frame))
  first | (refine mix_skip 7 rfl (by kernel_rfl) rfl ?_; go_frame) | (refine mix_soft 7 rfl (by kernel_rfl) rfl (fun K hK => ?_); go_simp; first | (refine hK _ ?_; clear hK K) | (apply Exists.intro; refine ⟨fun x => ?_, hK _ ?_⟩; (· (fail)); clear hK K; try go_frame))
  refine mix_two 5 10 (by kernel_rfl) ?brA ?brB
  case' brA =>
    refine mix_now rfl rfl ?_; intro w2 hb2 hB2 K hK; go_simp
    refine hK _ _ (below_le hB2 (below_box _ _)) ?_
    clear hK K
    try go_frame
    have hown := own_room (W := w2) (base := w1.heap.size) (k := m) rfl hB2.size (by omega)
    have hRw := HR1.out.ext (below_le hB2 (below_box w2 (.cells (zeros m) 48)))
    have hsz : w1.heap.size ≤ (w2.alloc (.cells (zeros m) 48)).heap.size := (below_le hB2 (below_box w2 (.cells (zeros m) 48))).size
    clear hb2 hB2
    generalize w2.alloc (.cells (zeros m) 48) = w3 at *
    generalize w2.heap.size = g0 at *
    refine mix_two 8 10 (by kernel_rfl) ?brAA ?brAB
    case' brAA =>
      refine mix_append rfl rfl (.tmp 35) (.tmp 37) 22 rfl w1.heap.size 48 inf (.int .u32 0) 4 Tryd.underlying22 hinf hi0 hi1 hi2 rfl _ 0 [] rfl hown A m c (ws.map U32) rfl hRw HONE.out (by unfold maxLen; omega) (by omega) hsz (Nat.le_refl _) ?_
      intro v' w4 w5 hb4 hB5 hown5 hgr
      simp only [List.nil_append, Nat.zero_add] at hown5
      obtain ⟨C, cp, rfl, hOw⟩ := Own.of_row hown5
      try go_frame
      first | (refine mix_skip 9 rfl (by kernel_rfl) rfl ?_; go_frame) | (refine mix_soft 9 rfl (by kernel_rfl) rfl (fun K hK => ?_); go_simp; first | (refine hK _ ?_; clear hK K) | (apply Exists.intro; refine ⟨fun x => ?_, hK _ ?_⟩; (· (fail)); clear hK K; try go_frame))
      refine mix_one 10 (by kernel_rfl) ?_
      refine mix_now rfl rfl ?_; intro w6 hb6 hB6 K hK; go_simp
      refine hK _ _ (below_le hB6 (below_box _ _)) ?_
      clear hK K
      try go_frame
      have hnb : Blk (w6.alloc (.cells #[.int .i64 0, .slice none 0 0] 24)) w6.heap.size 24 #[.int .i64 0, .slice none 0 0] := heap_new rfl _
      have hnz := hB6.size
      have hOw := hOw.ext (below_le hb6 (below_box w6 (.cells #[.int .i64 0, .slice none 0 0] 24)))
      clear hb6 hB6 hb4 hB5 hown5 hgr hRw hown
      generalize w6.alloc (.cells #[.int .i64 0, .slice none 0 0] 24) = wz at *
      generalize w6.heap.size = nb at *
    case' brAB =>
      refine mix_now rfl rfl ?_; intro w6 hb6 hB6 K hK; go_simp
      refine hK _ _ (below_le hB6 (below_box _ _)) ?_
      clear hK K
      try go_frame
      have hnb : Blk (w6.alloc (.cells #[.int .i64 0, .slice none 0 0] 24)) w6.heap.size 24 #[.int .i64 0, .slice none 0 0] := heap_new rfl _
      have hnz := hB6.size
      have hown := own_ext (below_le hb6 (below_box w6 (.cells #[.int .i64 0, .slice none 0 0] 24))) hown
      have hRw := HR1.out.ext (below_le hB6 (below_box w6 (.cells #[.int .i64 0, .slice none 0 0] 24)))
      have hsz := (below_le hB6 (below_box w6 (.cells #[.int .i64 0, .slice none 0 0] 24))).size
      clear hb6 hB6
      generalize w6.alloc (.cells #[.int .i64 0, .slice none 0 0] 24) = w7 at *
      generalize w6.heap.size = nb at *
      refine mix_one 8 (by kernel_rfl) ?_
      refine mix_append rfl rfl (.tmp 35) (.tmp 37) 22 rfl w1.heap.size 48 inf (.int .u32 0) 4 Tryd.underlying22 hinf hi0 hi1 hi2 rfl _ 0 [] rfl hown A m c (ws.map U32) rfl hRw HONE.out (by unfold maxLen; omega) (by omega) hsz (Nat.le_refl _) ?_
      intro v' w4 wz hb4 hB5 hown5 hgr
      simp only [List.nil_append, Nat.zero_add] at hown5
      have hnb := (hnb.ext hb4).grown hgr (own_ne (own_ext hb4 hown) (hnb.ext hb4) (by decide))
      obtain ⟨C, cp, rfl, hOw⟩ := Own.of_row hown5
      try go_frame
      clear hown5 hgr hb4 hB5 hRw hown
      first | (refine mix_skip 9 rfl (by kernel_rfl) rfl ?_; go_frame) | (refine mix_soft 9 rfl (by kernel_rfl) rfl (fun K hK => ?_); go_simp; first | (refine hK _ ?_; clear hK K) | (apply Exists.intro; refine ⟨fun x => ?_, hK _ ?_⟩; (· (fail)); clear hK K; try go_frame))
  case' brB =>
    refine mix_now rfl rfl ?_; intro w2 hb2 hB2 K hK; go_simp
    refine hK _ _ (below_le hB2 (below_box _ _)) ?_
    clear hK K
    try go_frame
    have hnb : Blk (w2.alloc (.cells #[.int .i64 0, .slice none 0 0] 24)) w2.heap.size 24 #[.int .i64 0, .slice none 0 0] := heap_new rfl _
    have hnz := hB2.size
    clear hb2 hB2
    generalize w2.alloc (.cells #[.int .i64 0, .slice none 0 0] 24) = w3 at *
    generalize w2.heap.size = nb at *
    refine mix_one 5 (by kernel_rfl) ?_
    refine mix_now rfl rfl ?_; intro w6 hb6 hB6 K hK; go_simp
    refine hK _ _ (below_le hB6 (below_box _ _)) ?_
    clear hK K
    try go_frame
    have hown := own_room (W := w6) (base := w1.heap.size) (k := m) rfl hB6.size (by omega)
    have hRw := HR1.out.ext (below_le hB6 (below_box w6 (.cells (zeros m) 48)))
    have hsz : w1.heap.size ≤ (w6.alloc (.cells (zeros m) 48)).heap.size := (below_le hB6 (below_box w6 (.cells (zeros m) 48))).size
    have hnb := (hnb.ext hb6).ext (below_box w6 (.cells (zeros m) 48))
    clear hb6 hB6
    generalize w6.alloc (.cells (zeros m) 48) = w7 at *
    generalize w6.heap.size = g0 at *
    refine mix_one 8 (by kernel_rfl) ?_
    refine mix_append rfl rfl (.tmp 35) (.tmp 37) 22 rfl w1.heap.size 48 inf (.int .u32 0) 4 Tryd.underlying22 hinf hi0 hi1 hi2 rfl _ 0 [] rfl hown A m c (ws.map U32) rfl hRw HONE.out (by unfold maxLen; omega) (by omega) hsz (Nat.le_refl _) ?_
    intro v' w4 wz hb4 hB5 hown5 hgr
    simp only [List.nil_append, Nat.zero_add] at hown5
    have hnb := (hnb.ext hb4).grown hgr (own_ne (own_ext hb4 hown) (hnb.ext hb4) (by decide))
    obtain ⟨C, cp, rfl, hOw⟩ := Own.of_row hown5
    try go_frame
    clear hown5 hgr hb4 hB5 hRw hown
    first | (refine mix_skip 9 rfl (by kernel_rfl) rfl ?_; go_frame) | (refine mix_soft 9 rfl (by kernel_rfl) rfl (fun K hK => ?_); go_simp; first | (refine hK _ ?_; clear hK K) | (apply Exists.intro; refine ⟨fun x => ?_, hK _ ?_⟩; (· (fail)); clear hK K; try go_frame))
  all_goals
    refine mix_one 11 (by kernel_rfl) ?_
    refine mix_now rfl rfl ?_; intro wa hba hBa K hK
    have hOwn := hOw.ext hba
    have hna := hnb.ext hba
    have f0 := hna.frozen 0
    have f1 := hna.frozen 1
    have d0 := hna.cell 0
    have d1 := hna.cell 1
    go_simp
    refine hK _ _ ((hBa.setCell (p := ⟨nb, 0, none⟩) hnz _).setCell (p := ⟨nb, 1, none⟩) hnz _) ?_
    clear hK K
    try go_frame
    have hn3 := (hna.set_ 0 (.int .i64 n)).set_ 1 (.slice C m cp)
    have hO3 := (hOwn.far hna (by decide) 0 (.int .i64 n)).far (hna.set_ 0 (.int .i64 n)) (by decide) 1 (.slice C m cp)
    generalize (wa.setCell ⟨nb, 0, none⟩ (.int .i64 n)).setCell ⟨nb, 1, none⟩ (.slice C m cp) = wb at *
    clear f0 f1 d0 d1 hna hOwn hOw hnb hba hBa hmk t0 t1
    refine mix_nil (by kernel_rfl) fun wc hbc hBc => ?_
    have hI0 : FillI w1 nb n C m cp (fillW ws (placesN lo lo) on) wc := ⟨hn3.ext hbc, by rw [places_none]; exact hO3.ext hbc, hBc⟩
    have HI0 := Lib.hid hI0
    clear hn3 hO3 hbc hBc hI0
    go_wp2
    go_loopw [11] (fun i wr => ∃ k : Nat, lo ≤ (k : Int) ∧ (k : Int) ≤ hi ∧ i = .int .i64 k ∧ FillI w1 nb n C m cp (fillW ws (placesN lo k) on) wr) (fun i _ => (hi - intOf i).toNat)
    case atStart => exact ⟨lo.toNat, by omega, by omega, by rw [Int.toNat_of_nonneg hl0], by rw [Int.toNat_of_nonneg hl0]; exact HI0.out⟩
    case round =>
      obtain ⟨k, hk0, hk1, rfl, hP, hO, hBr⟩ := hrel
      have hstep := fill_succ ws (k := k) on hk0
      have hfu := fits_fillW HF.out (placesN lo k) on
      have hlu : (fillW ws (placesN lo k) on).length = m := by rw [length_fillW]; exact HL.out
      generalize hus : fillW ws (placesN lo k) on = us at *
      have c0 := hP.cell 0
      have c1 := hP.cell 1
      simp at c0 c1
      have PB := Lib.hid hP
      have OW := Lib.hid hO
      have HBr := Lib.hid hBr
      have HST := Lib.hid hstep
      have HFU := Lib.hid hfu
      have HLU := Lib.hid hlu
      have HUS := Lib.hid hus
      clear hP hO hBr hstep hfu hlu hus
      by_cases hlt : (k : Int) < hi
      · have hkm : k / 32 < m := by omega
        have hon := fun (us : List Nat) (hf : Fits us) (W : World) (hO : Own 48 W w1.heap.size C m (us.map U32)) => on_any C m cp n us (k : Int) W hO.row hf (by omega) (by omega) (by omega)
        simp only [Int.toNat_natCast] at hon
        have HON := Lib.hid hon
        clear hon
        go_wp2_with fail
        have h := HON.out us HFU.out wr OW.out
        cases ht : tb us k
        · cases on
          · have HS := Lib.hid (set_same HFU.out k false (by rw [HLU.out]; exact hkm) ht)
            rw [ht] at h
            refine h.mono ?_
            clear h
            rintro e w3 ⟨rfl, hb3⟩
            have v0 := cell_ext hb3 c0
            have v1 := cell_ext hb3 c1
            have HB3 := Lib.hid hb3
            have HT := Lib.hid ht
            clear hb3 ht
            go_wp2_with fail
            have h := HON.out us HFU.out w3 (OW.out.ext HB3.out)
            rw [HT.out] at h
            refine h.mono ?_
            clear h
            rintro e w4 ⟨rfl, hb4⟩
            have HB4 := Lib.hid (below_le HB3.out hb4)
            clear hb4
            go_wp2
            go_roundw
            case rel =>
              refine ⟨k + 1, by omega, by omega, by go_num, ?_⟩
              rw [show ((k + 1 : Nat) : Int) = (k : Int) + 1 by omega, HST.out, HS.out]
              exact ⟨PB.out.ext HB4.out, OW.out.ext HB4.out, HBr.out.trans (HB4.out.mono HBr.out.size)⟩
            case measure => simp [intOf]; omega
          · obtain ⟨g, cur, rfl, hgb, hbk, hcx⟩ := own_word OW.out hkm
            have hws := set_add k ht
            have hxl := getD_lt HFU.out (k / 32)
            obtain ⟨hd0, hd1⟩ := pow_bound (k % 32) (by omega)
            have hsl := add_lt HFU.out k (by rw [HLU.out]; exact hkm) ht
            obtain ⟨j, hj⟩ : ∃ j, k / 32 = j := ⟨_, rfl⟩
            obtain ⟨d, hd⟩ : ∃ d, 2 ^ (k % 32) = d := ⟨_, rfl⟩
            rw [hj] at hcx hws hxl hkm
            rw [hd] at hws hd0 hd1
            rw [hj, hd] at hsl
            generalize us.getD j 0 = x at hcx hws hxl hsl
            obtain ⟨y, hy⟩ : ∃ y, x + d = y := ⟨_, rfl⟩
            have AW := Lib.hid (worth_nat k d (by omega) hd)
            have HWS : Hid (us.set j y = setW us k true) := Lib.hid (by rw [← hy]; exact hws)
            have hq1 : IntKind.i64.wrap ((k : Int).tdiv 32) = (j : Int) := by rw [IntKind.wrap_i64, Int.tdiv_eq_ediv_of_nonneg (by omega)]; omega
            have hq3 : IntKind.i64.wrap ((k : Int) / 32) = (j : Int) := by rw [IntKind.wrap_i64]; omega
            have hq2 : IntKind.u32.wrap ((x : Int) + (d : Int)) = (y : Int) := by simp [IntKind.wrap, IntKind.bits, IntKind.signed]; omega
            have BK := Lib.hid hbk
            clear hbk hws hj hd hy
            rw [ht] at h
            refine h.mono ?_
            clear h
            rintro e w2 ⟨rfl, hb2⟩
            have v0 := cell_ext hb2 c0
            have v1 := cell_ext hb2 c1
            have HB2 := Lib.hid hb2
            have HT := Lib.hid ht
            clear hb2 ht
            go_wp2_with fail
            have h := HON.out us HFU.out w2 (OW.out.ext HB2.out)
            rw [HT.out] at h
            refine h.mono ?_
            clear h
            rintro e w3 ⟨rfl, hb3⟩
            have w1_ := cell_ext hb3 v1
            have wx_ := cell_ext (below_le HB2.out hb3) hcx
            have HB3 := Lib.hid (below_le HB2.out hb3)
            clear hb3 c0 c1 hcx v0 v1
            go_wp2
            have u1 := ext_cell w1_
            have ux := ext_cell wx_
            refine wp_region_tail 14 (by kernel_rfl) (by kernel_rfl) ?_; simp only [List.take_succ_cons, List.take_zero, List.drop_succ_cons, List.drop_zero]
            repeat (first | (refine head_skip rfl ?_; go_frame) | (refine head_soft rfl (fun K hK => ?_); go_simp; first | (refine hK _ ?_; clear hK K) | (apply Exists.intro; refine ⟨fun x => ?_, hK _ ?_⟩; (· (exact Calls.still (AW.out _))); clear hK K; try go_frame)))
            refine head_nil fun w4 hb4 => ?_
            have hbk4 := (BK.out.ext HB3.out).ext hb4
            have z0 := hbk4.frozen j
            have cx4 := cell_ext hb4 wx_
            have hP4 := (PB.out.ext HB3.out).ext hb4
            have hO4 := ((OW.out.ext HB3.out).ext hb4).set_ (k := j) (.int .u32 (y : Int))
            rw [map_set_U32, HWS.out] at hO4
            have hP5 := hP4.far (p := ⟨g, j, none⟩) (blk_ne hP4 hbk4 (by decide)) (.int .u32 (y : Int))
            have hB5 := ((HBr.out.trans ((below_le HB3.out hb4).mono HBr.out.size))).setCell (p := ⟨g, j, none⟩) hgb (.int .u32 (y : Int))
            have O5 := Lib.hid hO4
            have P5 := Lib.hid hP5
            have H5 := Lib.hid hB5
            have s0 := hP5.cell 0
            have s1 := hP5.cell 1
            simp at s0 s1
            clear hbk4 hP4 hO4 hP5 hB5 hb4 u1 ux hq1 hq2 hq3 w1_ wx_
            go_wp2
            go_roundw
            case rel =>
              refine ⟨k + 1, by omega, by omega, by go_num, ?_⟩
              rw [show ((k + 1 : Nat) : Int) = (k : Int) + 1 by omega, HST.out]
              exact ⟨P5.out, O5.out, H5.out⟩
            case measure => simp [intOf]; omega
        · cases on
          · have HT2 : Hid (tb (setW us k false) k = false) := Lib.hid (by rw [tb_set k k false (by rw [HLU.out]; exact hkm), if_pos rfl])
            have HF2 := Lib.hid (fits_set HFU.out k false)
            obtain ⟨g, cur, rfl, hgb, hbk, hcx⟩ := own_word OW.out hkm
            have hws := set_sub HFU.out k ht
            have hxl := getD_lt HFU.out (k / 32)
            obtain ⟨hd0, hd1⟩ := pow_bound (k % 32) (by omega)
            have hdx := hws.2
            obtain ⟨j, hj⟩ : ∃ j, k / 32 = j := ⟨_, rfl⟩
            obtain ⟨d, hd⟩ : ∃ d, 2 ^ (k % 32) = d := ⟨_, rfl⟩
            rw [hj] at hcx hws hxl hkm
            rw [hd] at hws hd0 hd1
            rw [hj, hd] at hdx
            generalize us.getD j 0 = x at hcx hws hxl hdx
            obtain ⟨y, hy⟩ : ∃ y, x - d = y := ⟨_, rfl⟩
            have AW := Lib.hid (worth_nat k d (by omega) hd)
            have HWS : Hid (us.set j y = setW us k false) := Lib.hid (by rw [← hy]; exact hws.1)
            have hq1 : IntKind.i64.wrap ((k : Int).tdiv 32) = (j : Int) := by rw [IntKind.wrap_i64, Int.tdiv_eq_ediv_of_nonneg (by omega)]; omega
            have hq3 : IntKind.i64.wrap ((k : Int) / 32) = (j : Int) := by rw [IntKind.wrap_i64]; omega
            have hq2 : IntKind.u32.wrap ((x : Int) - (d : Int)) = (y : Int) := by simp [IntKind.wrap, IntKind.bits, IntKind.signed]; omega
            have BK := Lib.hid hbk
            clear hbk hws hj hd hy
            rw [ht] at h
            refine h.mono ?_
            clear h ht
            rintro e w3 ⟨rfl, hb3⟩
            have w1_ := cell_ext hb3 c1
            have wx_ := cell_ext hb3 hcx
            have HB3 := Lib.hid hb3
            clear hb3 c0 c1 hcx
            go_wp2
            have u1 := ext_cell w1_
            have ux := ext_cell wx_
            refine wp_region_tail 14 (by kernel_rfl) (by kernel_rfl) ?_; simp only [List.take_succ_cons, List.take_zero, List.drop_succ_cons, List.drop_zero]
            repeat (first | (refine head_skip rfl ?_; go_frame) | (refine head_soft rfl (fun K hK => ?_); go_simp; first | (refine hK _ ?_; clear hK K) | (apply Exists.intro; refine ⟨fun x => ?_, hK _ ?_⟩; (· (exact Calls.still (AW.out _))); clear hK K; try go_frame)))
            refine head_nil fun w4 hb4 => ?_
            have hbk4 := (BK.out.ext HB3.out).ext hb4
            have z0 := hbk4.frozen j
            have cx4 := cell_ext hb4 wx_
            have hP4 := (PB.out.ext HB3.out).ext hb4
            have hO4 := ((OW.out.ext HB3.out).ext hb4).set_ (k := j) (.int .u32 (y : Int))
            rw [map_set_U32, HWS.out] at hO4
            have hP5 := hP4.far (p := ⟨g, j, none⟩) (blk_ne hP4 hbk4 (by decide)) (.int .u32 (y : Int))
            have hB5 := ((HBr.out.trans ((below_le HB3.out hb4).mono HBr.out.size))).setCell (p := ⟨g, j, none⟩) hgb (.int .u32 (y : Int))
            have O5 := Lib.hid hO4
            have P5 := Lib.hid hP5
            have H5 := Lib.hid hB5
            have s0 := hP5.cell 0
            have s1 := hP5.cell 1
            simp at s0 s1
            clear hbk4 hP4 hO4 hP5 hB5 hb4 u1 ux hq1 hq2 hq3 w1_ wx_
            go_wp2_with fail
            generalize w4.setCell ⟨g, j, none⟩ (.int .u32 (y : Int)) = w5 at *
            have h := HON.out _ HF2.out w5 O5.out
            rw [HT2.out] at h
            refine h.mono ?_
            clear h z0 cx4
            rintro e w6 ⟨rfl, hb6⟩
            have HB6 := Lib.hid hb6
            clear hb6
            go_wp2
            go_roundw
            case rel =>
              refine ⟨k + 1, by omega, by omega, by go_num, ?_⟩
              rw [show ((k + 1 : Nat) : Int) = (k : Int) + 1 by omega, HST.out]
              exact ⟨P5.out.ext HB6.out, O5.out.ext HB6.out, H5.out.trans (HB6.out.mono H5.out.size)⟩
            case measure => simp [intOf]; omega
          · have HS := Lib.hid (set_same HFU.out k true (by rw [HLU.out]; exact hkm) ht)
            rw [ht] at h
            refine h.mono ?_
            clear h
            rintro e w3 ⟨rfl, hb3⟩
            have v0 := cell_ext hb3 c0
            have v1 := cell_ext hb3 c1
            have HB3 := Lib.hid hb3
            have HT := Lib.hid ht
            clear hb3 ht
            go_wp2_with fail
            have h := HON.out us HFU.out w3 (OW.out.ext HB3.out)
            rw [HT.out] at h
            refine h.mono ?_
            clear h
            rintro e w4 ⟨rfl, hb4⟩
            have HB4 := Lib.hid (below_le HB3.out hb4)
            clear hb4
            go_wp2
            go_roundw
            case rel =>
              refine ⟨k + 1, by omega, by omega, by go_num, ?_⟩
              rw [show ((k + 1 : Nat) : Int) = (k : Int) + 1 by omega, HST.out, HS.out]
              exact ⟨PB.out.ext HB4.out, OW.out.ext HB4.out, HBr.out.trans (HB4.out.mono HBr.out.size)⟩
            case measure => simp [intOf]; omega
      · have hke : (k : Int) = hi := by omega
        have hrb := (HRB1.out.below HBr.out (by omega))
        have f0 := hrb.frozen 0
        have f1 := hrb.frozen 1
        have d0 := hrb.cell 0
        have d1 := hrb.cell 1
        have hr2 := (hrb.set_ 0 (.int .i64 n)).set_ 1 (.slice C m cp)
        have hR2 := (OW.out.row.unbox (fun _ h => by cases h) hrb 0 (.int .i64 n)).unbox (fun _ h => by cases h) (hrb.set_ 0 (.int .i64 n)) 1 (.slice C m cp)
        have HR2 := Lib.hid hr2
        have HRo := Lib.hid hR2
        have HKE := Lib.hid hke
        clear hr2 hR2 hrb hke
        go_wp2
        have q0 := HR2.out.cell 0
        have q1 := HR2.out.cell 1
        simp at q0 q1
        refine bodyPost_ret (v := .tuple #[.agg #[.int .i64 n, .slice C m cp], .int .i64 0]) (by simp [results, Tryd.results62, go_sem, q0, q1]) rfl ⟨_, _, _, rfl, ?_, ?_⟩
        · rw [← HKE.out, HUS.out]; exact HRo.out
        · exact ((HB1.out.trans (HBr.out.mono (by omega))).setCell (p := ⟨w.heap.size + 1, 0, none⟩) (by show w.heap.size ≤ w.heap.size + 1; omega) _).setCell (p := ⟨w.heap.size + 1, 1, none⟩) (by show w.heap.size ≤ w.heap.size + 1; omega) _

end Go.Proofs.YtelbddnjnapoeaaDoor
