/-
  What is proved: the contract of Either of the reference. No condition beyond those stated.
-/
import Derived.Test.YtpoopkieoidhjaaDoorRf
import Derived.Test.YtpoopkieoidhjaaDoorBj
namespace Go.Proofs.YtpoopkieoidhjaaDoor
open Go.RowKit Go.Shelf

/-- What is on in the second alone is turned on, up to a place. -/
def eachW (xs ys : List Nat) (k : Nat) : List Nat := fillW xs ((List.range k).filter fun i => tb ys i && !tb xs i) true
theorem each_skip {xs ys : List Nat} {k : Nat} (h : (tb ys k && !tb xs k) = false) : eachW xs ys (k + 1) = eachW xs ys k := by
  unfold eachW
  rw [filter_range_succ, h]
  simp
theorem each_add {xs ys : List Nat} {k : Nat} (h : (tb ys k && !tb xs k) = true) : eachW xs ys (k + 1) = setW (eachW xs ys k) k true := by
  unfold eachW
  rw [filter_range_succ, h, if_pos rfl, fillW_snoc]
theorem each_tb {xs ys : List Nat} {m k : Nat} (hl : xs.length = m) (hk : k ≤ 32 * m) : tb (eachW xs ys k) k = tb xs k := by
  unfold eachW
  rw [tb_fill _ _ (fun i hi => by have := (List.mem_filter.1 hi).1; simp at this; omega), if_neg]
  intro h
  have := (List.mem_filter.1 h).1
  simp at this
theorem each_all {n : Int} {xs ys : List Nat} (hF : Fits xs) (hG : Fits ys) (hx : rightB n xs = true) (hy : rightB n ys = true) : eachW xs ys n.toNat = orW xs ys := by
  obtain ⟨h0, h1, h2, _⟩ := rightB_elim hx
  obtain ⟨_, _, g2, _⟩ := rightB_elim hy
  have hl : xs.length = ys.length := by omega
  refine tb_ext (by unfold eachW; rw [length_fillW, length_or hl]) (fits_fillW hF _ _) (fits_orW hF hG) fun k => ?_
  unfold eachW
  rw [tb_or hl, tb_fill _ _ (fun i hi => by have := (List.mem_filter.1 hi).1; simp at this; omega)]
  by_cases hk : (k : Int) < n
  · split
    · rename_i h
      have h3 := (List.mem_filter.1 h).2
      simp at h3
      simp [h3.1]
    · rename_i h
      cases e1 : tb xs k
      · cases e2 : tb ys k
        · rfl
        · exact absurd (List.mem_filter.2 ⟨by simp; omega, by simp [e1, e2]⟩) h
      · simp
  · rw [if_neg (fun h => by have := (List.mem_filter.1 h).1; simp at this; omega), right_high hx k (by omega), right_high hy k (by omega)]
    rfl

def eitherR0 (w : World) (n2 n : Int) (A B : Option Addr) (m c l d : Nat) : World := ((w.alloc (.cells #[.int .i64 n, .slice A m c] 24)).alloc (.cells #[.int .i64 n2, .slice B l d] 24)).alloc (.cells #[.int .i64 0, .slice none 0 0] 24)

set_option maxRecDepth 100000 in
set_option maxHeartbeats 2000000 in
/-- The reference's Either, of what it refuses. -/
theorem refeither_bad (A B : Option Addr) (n n2 : Int) (m c l d : Nat) (ws ys : List Nat) (w : World) (hA : Row w A m (ws.map U32)) (hB : Row w B l (ys.map U32)) (hF : Fits ws) (hG : Fits ys) (hne : eitherOk n ws n2 ys = false) :
    Calls Tryd.prog 22 #[.agg #[.int .i64 n, .slice A m c], .agg #[.int .i64 n2, .slice B l d]] w (GivesBits w 20 0 []) := by
  have hb0 : Below w.heap.size w (eitherR0 w n2 n A B m c l d) := below_le (below_le (below_box _ _) (below_box _ _)) (below_box _ _)
  have k0 : (eitherR0 w n2 n A B m c l d).cell? ⟨w.heap.size, 0, none⟩ = some (.int .i64 n) := by simp [go_sem, eitherR0]
  have k1 : (eitherR0 w n2 n A B m c l d).cell? ⟨w.heap.size, 1, none⟩ = some (.slice A m c) := by simp [go_sem, eitherR0]
  have j0 : (eitherR0 w n2 n A B m c l d).cell? ⟨w.heap.size + 1, 0, none⟩ = some (.int .i64 n2) := by simp [go_sem, eitherR0]
  have j1 : (eitherR0 w n2 n A B m c l d).cell? ⟨w.heap.size + 1, 1, none⟩ = some (.slice B l d) := by simp [go_sem, eitherR0]
  have hrb : Blk (eitherR0 w n2 n A B m c l d) (w.heap.size + 1 + 1) 24 #[.int .i64 0, .slice none 0 0] := heap_new (by simp) _
  have HA := Lib.hid (hA.ext hb0)
  have HBb := Lib.hid (hB.ext hb0)
  have HB := Lib.hid hb0
  have HRB := Lib.hid hrb
  have HN := Lib.hid hne
  have HF := Lib.hid hF
  have HG := Lib.hid hG
  clear hA hB hb0 hrb hne hF hG
  go_enter Tryd.func22, Tryd.ntmps22
  go_wp2_with fail
  change Calls _ _ _ (eitherR0 w n2 n A B m c l d) _
  generalize eitherR0 w n2 n A B m c l d = W0 at *
  refine (refright_any A m c n ws W0 HA.out HF.out).mono ?_
  rintro e w1 ⟨rfl, hb1⟩
  have e0 := cell_ext hb1 k0
  have e1 := cell_ext hb1 k1
  have g0 := cell_ext hb1 j0
  have g1 := cell_ext hb1 j1
  have HB1 := Lib.hid (below_le HB.out hb1)
  have HRB1 := Lib.hid (HRB.out.ext hb1)
  have HBb1 := Lib.hid (HBb.out.ext hb1)
  clear hb1 k0 k1 j0 j1 HRB HBb
  cases hr : rightB n ws
  · have f0 := HRB1.out.frozen 0
    have f1 := HRB1.out.frozen 1
    have d0 := HRB1.out.cell 0
    have d1 := HRB1.out.cell 1
    clear hr
    go_wp2
    have hr2 := (HRB1.out.set_ 0 (.int .i64 0)).set_ 1 (.slice none 0 0)
    have q0 := hr2.cell 0
    have q1 := hr2.cell 1
    simp at q0 q1
    exact bodyPost_ret (v := .tuple #[.agg #[.int .i64 0, .slice none 0 0], .int .i64 20]) (by simp [results, Tryd.results22, go_sem, q0, q1]) rfl
      ⟨_, _, _, rfl, Row.none_, (HB1.out.setCell (p := ⟨w.heap.size + 1 + 1, 0, none⟩) (by show w.heap.size ≤ w.heap.size + 1 + 1; omega) _).setCell (p := ⟨w.heap.size + 1 + 1, 1, none⟩) (by show w.heap.size ≤ w.heap.size + 1 + 1; omega) _⟩
  · have Hr := Lib.hid hr
    clear hr
    go_wp2_with fail
    refine (refright_any B l d n2 ys w1 HBb1.out HG.out).mono ?_
    rintro e w2 ⟨rfl, hb2⟩
    have k0 := cell_ext hb2 e0
    have j0 := cell_ext hb2 g0
    have HB2 := Lib.hid (below_le HB1.out hb2)
    have hrb := HRB1.out.ext hb2
    have f0 := hrb.frozen 0
    have f1 := hrb.frozen 1
    have d0 := hrb.cell 0
    have d1 := hrb.cell 1
    have hr2 := (hrb.set_ 0 (.int .i64 0)).set_ 1 (.slice none 0 0)
    have HR2 := Lib.hid hr2
    clear hb2 e0 e1 g0 g1 hrb hr2
    cases hr : rightB n2 ys
    · clear hr
      go_wp2
      have q0 := HR2.out.cell 0
      have q1 := HR2.out.cell 1
      simp at q0 q1
      exact bodyPost_ret (v := .tuple #[.agg #[.int .i64 0, .slice none 0 0], .int .i64 20]) (by simp [results, Tryd.results22, go_sem, q0, q1]) rfl
        ⟨_, _, _, rfl, Row.none_, (HB2.out.setCell (p := ⟨w.heap.size + 1 + 1, 0, none⟩) (by show w.heap.size ≤ w.heap.size + 1 + 1; omega) _).setCell (p := ⟨w.heap.size + 1 + 1, 1, none⟩) (by show w.heap.size ≤ w.heap.size + 1 + 1; omega) _⟩
    · have hd : (n != n2) = true := by
        have := HN.out
        simpa [eitherOk, Hr.out, hr] using this
      clear hr
      go_wp2
      have q0 := HR2.out.cell 0
      have q1 := HR2.out.cell 1
      simp at q0 q1
      exact bodyPost_ret (v := .tuple #[.agg #[.int .i64 0, .slice none 0 0], .int .i64 20]) (by simp [results, Tryd.results22, go_sem, q0, q1]) rfl
        ⟨_, _, _, rfl, Row.none_, (HB2.out.setCell (p := ⟨w.heap.size + 1 + 1, 0, none⟩) (by show w.heap.size ≤ w.heap.size + 1 + 1; omega) _).setCell (p := ⟨w.heap.size + 1 + 1, 1, none⟩) (by show w.heap.size ≤ w.heap.size + 1 + 1; omega) _⟩

set_option maxRecDepth 100000 in
set_option maxHeartbeats 4000000 in
/-- The reference's Either. -/
theorem refeither_ok (A B : Option Addr) (n : Int) (m c l d : Nat) (ws ys : List Nat) (w : World) (hA : Row w A m (ws.map U32)) (hB : Row w B l (ys.map U32)) (hF : Fits ws) (hG : Fits ys) (hr : rightB n ws = true) (hr' : rightB n ys = true) :
    Calls Tryd.prog 22 #[.agg #[.int .i64 n, .slice A m c], .agg #[.int .i64 n, .slice B l d]] w (GivesBits w 0 n (orW ws ys)) := by
  obtain ⟨n2, hnn⟩ : ∃ n2, n2 = n := ⟨_, rfl⟩
  rw [show (Value.agg #[.int .i64 n, .slice B l d]) = .agg #[.int .i64 n2, .slice B l d] by rw [hnn]]
  obtain ⟨hn0, hn1, hn2, _⟩ := rightB_elim hr
  obtain ⟨_, _, hn3, _⟩ := rightB_elim hr'
  have hl := hA.1
  have hl' := hB.1
  simp at hl hl'
  have hm : m ≤ 700 := by omega
  have hnm : n ≤ 32 * m := by omega
  have hlm : m = l := by omega
  subst hlm
  have hb0 : Below w.heap.size w (eitherR0 w n2 n A B m c m d) := below_le (below_le (below_box _ _) (below_box _ _)) (below_box _ _)
  have k0 : (eitherR0 w n2 n A B m c m d).cell? ⟨w.heap.size, 0, none⟩ = some (.int .i64 n) := by simp [go_sem, eitherR0]
  have k1 : (eitherR0 w n2 n A B m c m d).cell? ⟨w.heap.size, 1, none⟩ = some (.slice A m c) := by simp [go_sem, eitherR0]
  have j0 : (eitherR0 w n2 n A B m c m d).cell? ⟨w.heap.size + 1, 0, none⟩ = some (.int .i64 n2) := by simp [go_sem, eitherR0]
  have j1 : (eitherR0 w n2 n A B m c m d).cell? ⟨w.heap.size + 1, 1, none⟩ = some (.slice B m d) := by simp [go_sem, eitherR0]
  have hrb : Blk (eitherR0 w n2 n A B m c m d) (w.heap.size + 1 + 1) 24 #[.int .i64 0, .slice none 0 0] := heap_new (by simp) _
  have hz0 : w.heap.size + 3 ≤ (eitherR0 w n2 n A B m c m d).heap.size := by simp [eitherR0]
  have hone : ∀ u ∈ ws.map U32, u.oneCell' = true := by intro u hu; obtain ⟨x, _, rfl⟩ := List.mem_map.1 hu; rfl
  obtain ⟨inf, hinf, hi0, hi1, hi2⟩ := info_parts u32_info
  have hmk := run_make_room (m : Int) (by omega) (by omega)
  simp only [Int.toNat_natCast] at hmk
  have hall := each_all hF hG hr hr'
  have hq0 : (n != n2) = false := by simp [hnn]
  have hr2 : rightB n2 ys = true := by rw [hnn]; exact hr'
  have HALL := Lib.hid hall
  have HMK := Lib.hid hmk
  have HONE := Lib.hid hone
  have HR := Lib.hid (hA.ext hb0)
  have HRy := Lib.hid (hB.ext hb0)
  have HB := Lib.hid hb0
  have HRB := Lib.hid hrb
  have Hr := Lib.hid hr
  have Hr2 := Lib.hid hr2
  have HL := Lib.hid hl
  have HF := Lib.hid hF
  have HG := Lib.hid hG
  clear hA hB hb0 hrb hr hr' hr2 hl hl' hn2 hn3 hmk hone hF hG hall hnn
  go_enter Tryd.func22, Tryd.ntmps22
  go_wp2_with fail
  change Calls _ _ _ (eitherR0 w n2 n A B m c m d) _
  generalize eitherR0 w n2 n A B m c m d = W0 at *
  have h := refright_any A m c n ws W0 HR.out HF.out
  rw [Hr.out] at h
  refine h.mono ?_
  clear h
  rintro e w0 ⟨rfl, hb1⟩
  have e0 := cell_ext hb1 k0
  have e1 := cell_ext hb1 k1
  have g0 := cell_ext hb1 j0
  have g1 := cell_ext hb1 j1
  have HR0 := Lib.hid (HR.out.ext hb1)
  have HRy0 := Lib.hid (HRy.out.ext hb1)
  have HRB0 := Lib.hid (HRB.out.ext hb1)
  have HB0 := Lib.hid (below_le HB.out hb1)
  have hz2 := hb1.size
  clear hb1 k0 k1 j0 j1 HR HRB HB HRy
  go_wp2_with fail
  have h := refright_any B m d n2 ys w0 HRy0.out HG.out
  rw [Hr2.out] at h
  refine h.mono ?_
  clear h
  rintro e w1 ⟨rfl, hb1⟩
  have k0 := cell_ext hb1 e0
  have k1 := cell_ext hb1 e1
  have j0 := cell_ext hb1 g0
  have j1 := cell_ext hb1 g1
  have HR1 := Lib.hid (HR0.out.ext hb1)
  have HRy1 := Lib.hid (HRy0.out.ext hb1)
  have HRB1 := Lib.hid (HRB0.out.ext hb1)
  have HB1 := Lib.hid (below_le HB0.out hb1)
  have hz1 := hb1.size
  clear hb1 e0 e1 g0 g1 HR0 HRB0 HB0 HRy0
  go_wp2
  have t0 := ext_cell k0
  have t1 := ext_cell k1
  have hmk := HMK.out
  refine wp_region_mix (by kernel_rfl) ?_
  first | (refine mix_skip 0 rfl (by kernel_rfl) rfl ?_; go_frame) | (refine mix_soft 0 rfl (by kernel_rfl) rfl (fun K hK => ?_); go_simp; first | (refine hK _ ?_; clear hK K) | (apply Exists.intro; refine ⟨fun x => ?_, hK _ ?_⟩; (· (fail)); clear hK K; try go_frame))
  first | (refine mix_skip 1 rfl (by kernel_rfl) rfl ?_; go_frame) | (refine mix_soft 1 rfl (by kernel_rfl) rfl (fun K hK => ?_); go_simp; first | (refine hK _ ?_; clear hK K) | (apply Exists.intro; refine ⟨fun x => ?_, hK _ ?_⟩; (· (fail)); clear hK K; try go_frame))
  first | (refine mix_skip 2 rfl (by kernel_rfl) rfl ?_; go_frame) | (refine mix_soft 2 rfl (by kernel_rfl) rfl (fun K hK => ?_); go_simp; first | (refine hK _ ?_; clear hK K) | (apply Exists.intro; refine ⟨fun x => ?_, hK _ ?_⟩; (· (fail)); clear hK K; try go_frame))
  first | (refine mix_skip 3 rfl (by kernel_rfl) rfl ?_; go_frame) | (refine mix_soft 3 rfl (by kernel_rfl) rfl (fun K hK => ?_); go_simp; first | (refine hK _ ?_; clear hK K) | (apply Exists.intro; refine ⟨fun x => ?_, hK _ ?_⟩; (· (fail)); clear hK K; try go_frame))
  first | (refine mix_skip 4 rfl (by kernel_rfl) rfl ?_; go_frame) | (refine mix_soft 4 rfl (by kernel_rfl) rfl (fun K hK => ?_); go_simp; first | (refine hK _ ?_; clear hK K) | (apply Exists.intro; refine ⟨fun x => ?_, hK _ ?_⟩; (· (fail)); clear hK K; try go_frame))
  first | (refine mix_skip 6 rfl (by kernel_rfl) rfl ?_; go_frame) | (refine mix_soft 6 rfl (by kernel_rfl) rfl (fun K hK => ?_); go_simp; first | (refine hK _ ?_; clear hK K) | (apply Exists.intro; refine ⟨fun x => ?_, hK _ ?_⟩; (· (fail)); clear hK K; try go_frame))
  first | (refine mix_skip 7 rfl (by kernel_rfl) rfl ?_; go_frame) | (refine mix_soft 7 rfl (by kernel_rfl) rfl (fun K hK => ?_); go_simp; first | (refine hK _ ?_; clear hK K) | (apply Exists.intro; refine ⟨fun x => ?_, hK _ ?_⟩; (· (fail)); clear hK K; try go_frame))
  refine mix_two 5 10 (by kernel_rfl) ?brA ?brB
  case' brA =>
    refine mix_now rfl rfl ?_; intro w2 hb2 hB2 K hK; go_simp
    refine hK _ _ (below_le hB2 (below_box _ _)) ?_
    clear hK K
    try go_frame
    have hown := own_room (W := w2) (base := w1.heap.size) (k := m) rfl hB2.size (by omega)
    have hRw := HR1.out.ext (below_le hB2 (below_box w2 (.cells (zeros m) 47)))
    have hsz : w1.heap.size ≤ (w2.alloc (.cells (zeros m) 47)).heap.size := (below_le hB2 (below_box w2 (.cells (zeros m) 47))).size
    clear hb2 hB2
    generalize w2.alloc (.cells (zeros m) 47) = w3 at *
    generalize w2.heap.size = g0 at *
    refine mix_two 8 10 (by kernel_rfl) ?brAA ?brAB
    case' brAA =>
      refine mix_append rfl rfl (.tmp 29) (.tmp 31) 22 rfl w1.heap.size 47 inf (.int .u32 0) 4 Tryd.underlying22 hinf hi0 hi1 hi2 rfl _ 0 [] rfl hown A m c (ws.map U32) rfl hRw HONE.out (by unfold maxLen; omega) (by omega) hsz (Nat.le_refl _) ?_
      intro v' w4 w5 hb4 hB5 hown5 hgr
      simp only [List.nil_append, Nat.zero_add] at hown5
      obtain ⟨C, cp, rfl, hOw⟩ := Own.of_row hown5
      try go_frame
      first | (refine mix_skip 9 rfl (by kernel_rfl) rfl ?_; go_frame) | (refine mix_soft 9 rfl (by kernel_rfl) rfl (fun K hK => ?_); go_simp; first | (refine hK _ ?_; clear hK K) | (apply Exists.intro; refine ⟨fun x => ?_, hK _ ?_⟩; (· (fail)); clear hK K; try go_frame))
      refine mix_one 10 (by kernel_rfl) ?_
      refine mix_now rfl rfl ?_; intro w6 hb6 hB6 K hK; go_simp
      refine hK _ _ (below_le hB6 (below_box _ _)) ?_
      clear hK K
      try go_frame
      have hnb : Blk (w6.alloc (.cells #[.int .i64 0, .slice none 0 0] 24)) w6.heap.size 24 #[.int .i64 0, .slice none 0 0] := heap_new rfl _
      have hnz := hB6.size
      have hOw := hOw.ext (below_le hb6 (below_box w6 (.cells #[.int .i64 0, .slice none 0 0] 24)))
      clear hb6 hB6 hb4 hB5 hown5 hgr hRw hown
      generalize w6.alloc (.cells #[.int .i64 0, .slice none 0 0] 24) = wz at *
      generalize w6.heap.size = nb at *
    case' brAB =>
      refine mix_now rfl rfl ?_; intro w6 hb6 hB6 K hK; go_simp
      refine hK _ _ (below_le hB6 (below_box _ _)) ?_
      clear hK K
      try go_frame
      have hnb : Blk (w6.alloc (.cells #[.int .i64 0, .slice none 0 0] 24)) w6.heap.size 24 #[.int .i64 0, .slice none 0 0] := heap_new rfl _
      have hnz := hB6.size
      have hown := own_ext (below_le hb6 (below_box w6 (.cells #[.int .i64 0, .slice none 0 0] 24))) hown
      have hRw := HR1.out.ext (below_le hB6 (below_box w6 (.cells #[.int .i64 0, .slice none 0 0] 24)))
      have hsz := (below_le hB6 (below_box w6 (.cells #[.int .i64 0, .slice none 0 0] 24))).size
      clear hb6 hB6
      generalize w6.alloc (.cells #[.int .i64 0, .slice none 0 0] 24) = w7 at *
      generalize w6.heap.size = nb at *
      refine mix_one 8 (by kernel_rfl) ?_
      refine mix_append rfl rfl (.tmp 29) (.tmp 31) 22 rfl w1.heap.size 47 inf (.int .u32 0) 4 Tryd.underlying22 hinf hi0 hi1 hi2 rfl _ 0 [] rfl hown A m c (ws.map U32) rfl hRw HONE.out (by unfold maxLen; omega) (by omega) hsz (Nat.le_refl _) ?_
      intro v' w4 wz hb4 hB5 hown5 hgr
      simp only [List.nil_append, Nat.zero_add] at hown5
      have hnb := (hnb.ext hb4).grown hgr (own_ne (own_ext hb4 hown) (hnb.ext hb4) (by decide))
      obtain ⟨C, cp, rfl, hOw⟩ := Own.of_row hown5
      try go_frame
      clear hown5 hgr hb4 hB5 hRw hown
      first | (refine mix_skip 9 rfl (by kernel_rfl) rfl ?_; go_frame) | (refine mix_soft 9 rfl (by kernel_rfl) rfl (fun K hK => ?_); go_simp; first | (refine hK _ ?_; clear hK K) | (apply Exists.intro; refine ⟨fun x => ?_, hK _ ?_⟩; (· (fail)); clear hK K; try go_frame))
  case' brB =>
    refine mix_now rfl rfl ?_; intro w2 hb2 hB2 K hK; go_simp
    refine hK _ _ (below_le hB2 (below_box _ _)) ?_
    clear hK K
    try go_frame
    have hnb : Blk (w2.alloc (.cells #[.int .i64 0, .slice none 0 0] 24)) w2.heap.size 24 #[.int .i64 0, .slice none 0 0] := heap_new rfl _
    have hnz := hB2.size
    clear hb2 hB2
    generalize w2.alloc (.cells #[.int .i64 0, .slice none 0 0] 24) = w3 at *
    generalize w2.heap.size = nb at *
    refine mix_one 5 (by kernel_rfl) ?_
    refine mix_now rfl rfl ?_; intro w6 hb6 hB6 K hK; go_simp
    refine hK _ _ (below_le hB6 (below_box _ _)) ?_
    clear hK K
    try go_frame
    have hown := own_room (W := w6) (base := w1.heap.size) (k := m) rfl hB6.size (by omega)
    have hRw := HR1.out.ext (below_le hB6 (below_box w6 (.cells (zeros m) 47)))
    have hsz : w1.heap.size ≤ (w6.alloc (.cells (zeros m) 47)).heap.size := (below_le hB6 (below_box w6 (.cells (zeros m) 47))).size
    have hnb := (hnb.ext hb6).ext (below_box w6 (.cells (zeros m) 47))
    clear hb6 hB6
    generalize w6.alloc (.cells (zeros m) 47) = w7 at *
    generalize w6.heap.size = g0 at *
    refine mix_one 8 (by kernel_rfl) ?_
    refine mix_append rfl rfl (.tmp 29) (.tmp 31) 22 rfl w1.heap.size 47 inf (.int .u32 0) 4 Tryd.underlying22 hinf hi0 hi1 hi2 rfl _ 0 [] rfl hown A m c (ws.map U32) rfl hRw HONE.out (by unfold maxLen; omega) (by omega) hsz (Nat.le_refl _) ?_
    intro v' w4 wz hb4 hB5 hown5 hgr
    simp only [List.nil_append, Nat.zero_add] at hown5
    have hnb := (hnb.ext hb4).grown hgr (own_ne (own_ext hb4 hown) (hnb.ext hb4) (by decide))
    obtain ⟨C, cp, rfl, hOw⟩ := Own.of_row hown5
    try go_frame
    clear hown5 hgr hb4 hB5 hRw hown
    first | (refine mix_skip 9 rfl (by kernel_rfl) rfl ?_; go_frame) | (refine mix_soft 9 rfl (by kernel_rfl) rfl (fun K hK => ?_); go_simp; first | (refine hK _ ?_; clear hK K) | (apply Exists.intro; refine ⟨fun x => ?_, hK _ ?_⟩; (· (fail)); clear hK K; try go_frame))
  all_goals
    refine mix_one 11 (by kernel_rfl) ?_
    refine mix_now rfl rfl ?_; intro wa hba hBa K hK
    have hOwn := hOw.ext hba
    have hna := hnb.ext hba
    have f0 := hna.frozen 0
    have f1 := hna.frozen 1
    have d0 := hna.cell 0
    have d1 := hna.cell 1
    go_simp
    refine hK _ _ ((hBa.setCell (p := ⟨nb, 0, none⟩) hnz _).setCell (p := ⟨nb, 1, none⟩) hnz _) ?_
    clear hK K
    try go_frame
    have hn3 := (hna.set_ 0 (.int .i64 n)).set_ 1 (.slice C m cp)
    have hO3 := (hOwn.far hna (by decide) 0 (.int .i64 n)).far (hna.set_ 0 (.int .i64 n)) (by decide) 1 (.slice C m cp)
    generalize (wa.setCell ⟨nb, 0, none⟩ (.int .i64 n)).setCell ⟨nb, 1, none⟩ (.slice C m cp) = wb at *
    clear f0 f1 d0 d1 hna hOwn hOw hnb hba hBa hmk t0 t1
    refine mix_nil (by kernel_rfl) fun wc hbc hBc => ?_
    have hI0 : FillI w1 nb n C m cp (eachW ws ys 0) wc := ⟨hn3.ext hbc, hO3.ext hbc, hBc⟩
    have HI0 := Lib.hid hI0
    clear hn3 hO3 hbc hBc hI0
    go_wp2
    go_loopw [7] (fun i wr => ∃ k : Nat, (k : Int) ≤ n ∧ i = .int .i64 k ∧ FillI w1 nb n C m cp (eachW ws ys k) wr) (fun i _ => (n - intOf i).toNat)
    case atStart => exact ⟨0, by omega, rfl, HI0.out⟩
    case round =>
      obtain ⟨k, hk1, rfl, hP, hO, hBr⟩ := hrel
      have hfu : Fits (eachW ws ys k) := fits_fillW HF.out _ _
      have hlu : (eachW ws ys k).length = m := by unfold eachW; rw [length_fillW]; exact HL.out
      have htk := each_tb (ys := ys) (k := k) HL.out (by omega)
      have hsk : (tb ys k && !tb ws k) = false → eachW ws ys (k + 1) = eachW ws ys k := each_skip
      have had : (tb ys k && !tb ws k) = true → eachW ws ys (k + 1) = setW (eachW ws ys k) k true := each_add
      generalize hus : eachW ws ys k = us at *
      have a0 := cell_low k0 hBr (lt_of_cell k0)
      have a1 := cell_low k1 hBr (lt_of_cell k1)
      have b0 := cell_low j0 hBr (lt_of_cell j0)
      have b1 := cell_low j1 hBr (lt_of_cell j1)
      have c0 := hP.cell 0
      have c1 := hP.cell 1
      simp at c0 c1
      have PB := Lib.hid hP
      have OW := Lib.hid hO
      have HBr := Lib.hid hBr
      have HSK := Lib.hid hsk
      have HAD := Lib.hid had
      have HTK := Lib.hid htk
      have HFU := Lib.hid hfu
      have HLU := Lib.hid hlu
      have HUS := Lib.hid hus
      clear hP hO hBr hsk had htk hfu hlu hus
      by_cases hlt : (k : Int) < n
      · have hkm : k / 32 < m := by omega
        have honx := on_any A m c n ws (k : Int)
        have hony := on_any B m d n2 ys (k : Int)
        simp only [Int.toNat_natCast] at honx hony
        have HX := Lib.hid honx
        have HY := Lib.hid hony
        clear honx hony
        go_wp2_with fail
        have h := HY.out wr (HRy1.out.ext HBr.out) HG.out (by omega) (by omega) (by omega)
        cases hty : tb ys k
        · have HS := Lib.hid (HSK.out (by rw [hty]; rfl))
          rw [hty] at h
          refine h.mono ?_
          clear h hty
          rintro e w3 ⟨rfl, hb3⟩
          have HB3 := Lib.hid hb3
          clear hb3
          go_wp2
          go_roundw
          case rel =>
            refine ⟨k + 1, by omega, by go_num, ?_⟩
            rw [HS.out]
            exact ⟨PB.out.ext HB3.out, OW.out.ext HB3.out, HBr.out.trans (HB3.out.mono HBr.out.size)⟩
          case measure => simp [intOf]; omega
        · rw [hty] at h
          refine h.mono ?_
          clear h
          rintro e w2 ⟨rfl, hb2⟩
          have v0 := cell_ext hb2 a0
          have v1 := cell_ext hb2 a1
          have x0 := cell_ext hb2 c0
          have x1 := cell_ext hb2 c1
          have HB2 := Lib.hid hb2
          have HTY := Lib.hid hty
          clear hb2 hty
          go_wp2_with fail
          have h := HX.out w2 ((HR1.out.ext HBr.out).ext HB2.out) HF.out (by omega) (by omega) (by omega)
          cases ht : tb ws k
          · have HS := Lib.hid (HAD.out (by rw [HTY.out, ht]; rfl))
            have htw := ht
            have ht := HTK.out
            rw [htw] at ht h
            obtain ⟨g, cur, rfl, hgb, hbk, hcx⟩ := own_word OW.out hkm
            have hws := set_add k ht
            have hxl := getD_lt HFU.out (k / 32)
            obtain ⟨hd0, hd1⟩ := pow_bound (k % 32) (by omega)
            have hsl := add_lt HFU.out k (by rw [HLU.out]; exact hkm) ht
            obtain ⟨j, hj⟩ : ∃ j, k / 32 = j := ⟨_, rfl⟩
            obtain ⟨d, hd⟩ : ∃ d, 2 ^ (k % 32) = d := ⟨_, rfl⟩
            rw [hj] at hcx hws hxl hkm
            rw [hd] at hws hd0 hd1
            rw [hj, hd] at hsl
            generalize us.getD j 0 = x at hcx hws hxl hsl
            obtain ⟨y, hy⟩ : ∃ y, x + d = y := ⟨_, rfl⟩
            have AW := Lib.hid (worth_nat k d (by omega) hd)
            have HWS : Hid (us.set j y = setW us k true) := Lib.hid (by rw [← hy]; exact hws)
            have hq1 : IntKind.i64.wrap ((k : Int).tdiv 32) = (j : Int) := by rw [IntKind.wrap_i64, Int.tdiv_eq_ediv_of_nonneg (by omega)]; omega
            have hq3 : IntKind.i64.wrap ((k : Int) / 32) = (j : Int) := by rw [IntKind.wrap_i64]; omega
            have hq2 : IntKind.u32.wrap ((x : Int) + (d : Int)) = (y : Int) := by simp [IntKind.wrap, IntKind.bits, IntKind.signed]; omega
            have BK := Lib.hid hbk
            clear hbk hws hj hd hy
            refine h.mono ?_
            clear h htw ht
            rintro e w3 ⟨rfl, hb3⟩
            have w1_ := cell_ext hb3 x1
            have wx_ := cell_ext (below_le HB2.out hb3) hcx
            have HB3 := Lib.hid (below_le HB2.out hb3)
            clear hb3 c0 c1 hcx v0 v1 x0 x1 a0 a1 b0 b1
            go_wp2
            have u1 := ext_cell w1_
            have ux := ext_cell wx_
            refine wp_region_tail 14 (by kernel_rfl) (by kernel_rfl) ?_; simp only [List.take_succ_cons, List.take_zero, List.drop_succ_cons, List.drop_zero]
            repeat (first | (refine head_skip rfl ?_; go_frame) | (refine head_soft rfl (fun K hK => ?_); go_simp; first | (refine hK _ ?_; clear hK K) | (apply Exists.intro; refine ⟨fun x => ?_, hK _ ?_⟩; (· (exact Calls.still (AW.out _))); clear hK K; try go_frame)))
            refine head_nil fun w4 hb4 => ?_
            have hbk4 := (BK.out.ext HB3.out).ext hb4
            have z0 := hbk4.frozen j
            have cx4 := cell_ext hb4 wx_
            have hP4 := (PB.out.ext HB3.out).ext hb4
            have hO4 := ((OW.out.ext HB3.out).ext hb4).set_ (k := j) (.int .u32 (y : Int))
            rw [map_set_U32, HWS.out] at hO4
            have hP5 := hP4.far (p := ⟨g, j, none⟩) (blk_ne hP4 hbk4 (by decide)) (.int .u32 (y : Int))
            have hB5 := ((HBr.out.trans ((below_le HB3.out hb4).mono HBr.out.size))).setCell (p := ⟨g, j, none⟩) hgb (.int .u32 (y : Int))
            have O5 := Lib.hid hO4
            have P5 := Lib.hid hP5
            have H5 := Lib.hid hB5
            have s0 := hP5.cell 0
            have s1 := hP5.cell 1
            simp at s0 s1
            clear hbk4 hP4 hO4 hP5 hB5 hb4 u1 ux hq1 hq2 hq3 w1_ wx_
            go_wp2
            go_roundw
            case rel =>
              refine ⟨k + 1, by omega, by go_num, ?_⟩
              rw [HS.out]
              exact ⟨P5.out, O5.out, H5.out⟩
            case measure => simp [intOf]; omega
          · have HS := Lib.hid (HSK.out (by rw [HTY.out, ht]; rfl))
            rw [ht] at h
            refine h.mono ?_
            clear h ht
            rintro e w3 ⟨rfl, hb3⟩
            have HB3 := Lib.hid (below_le HB2.out hb3)
            clear hb3
            go_wp2
            go_roundw
            case rel =>
              refine ⟨k + 1, by omega, by go_num, ?_⟩
              rw [HS.out]
              exact ⟨PB.out.ext HB3.out, OW.out.ext HB3.out, HBr.out.trans (HB3.out.mono HBr.out.size)⟩
            case measure => simp [intOf]; omega
      · have hke : k = n.toNat := by omega
        have hrb := (HRB1.out.below HBr.out (by omega))
        have f0 := hrb.frozen 0
        have f1 := hrb.frozen 1
        have d0 := hrb.cell 0
        have d1 := hrb.cell 1
        have hr2 := (hrb.set_ 0 (.int .i64 n)).set_ 1 (.slice C m cp)
        have hR2 := (OW.out.row.unbox (fun _ h => by cases h) hrb 0 (.int .i64 n)).unbox (fun _ h => by cases h) (hrb.set_ 0 (.int .i64 n)) 1 (.slice C m cp)
        have HR2 := Lib.hid hr2
        have HRo := Lib.hid hR2
        have HKE := Lib.hid hke
        clear hr2 hR2 hrb hke
        go_wp2
        have q0 := HR2.out.cell 0
        have q1 := HR2.out.cell 1
        simp at q0 q1
        refine bodyPost_ret (v := .tuple #[.agg #[.int .i64 n, .slice C m cp], .int .i64 0]) (by simp [results, Tryd.results22, go_sem, q0, q1]) rfl ⟨_, _, _, rfl, ?_, ?_⟩
        · rw [← HALL.out, ← HKE.out, HUS.out]; exact HRo.out
        · exact ((HB1.out.trans (HBr.out.mono (by omega))).setCell (p := ⟨w.heap.size + 1 + 1, 0, none⟩) (by show w.heap.size ≤ w.heap.size + 1 + 1; omega) _).setCell (p := ⟨w.heap.size + 1 + 1, 1, none⟩) (by show w.heap.size ≤ w.heap.size + 1 + 1; omega) _

theorem refeither_any (A B : Option Addr) (n n2 : Int) (m c l d : Nat) (ws ys : List Nat) (w : World) (hA : Row w A m (ws.map U32)) (hB : Row w B l (ys.map U32)) (hF : Fits ws) (hG : Fits ys)
    (code : Nat) (hcode : code = chk (eitherOk n ws n2 ys) 20) :
    Calls Tryd.prog 22 #[.agg #[.int .i64 n, .slice A m c], .agg #[.int .i64 n2, .slice B l d]] w (GivesIf w code n (orW ws ys)) := by
  cases he : eitherOk n ws n2 ys
  · rw [he, chk_false] at hcode
    subst hcode
    exact (refeither_bad A B n n2 m c l d ws ys w hA hB hF hG he).mono fun _ _ h => GivesIf.no (by omega) h
  · rw [he, chk_true] at hcode
    subst hcode
    obtain ⟨⟨h1, h2⟩, rfl⟩ : (rightB n ws = true ∧ rightB n2 ys = true) ∧ n = n2 := by simpa [eitherOk] using he
    exact (refeither_ok A B n m c l d ws ys w hA hB hF hG h1 h2).mono fun _ _ h => GivesIf.yes rfl h

end Go.Proofs.YtpoopkieoidhjaaDoor
