/-
  What is proved: contracts of those functions that this program has, and plain facts beside them. No condition beyond those stated.
-/
import Derived.Test.YtelbddnjnapoeaaDoorRb
import Derived.Test.YtelbddnjnapoeaaDoorRi
import Derived.Test.YtelbddnjnapoeaaDoorBo
namespace Go.Proofs.YtelbddnjnapoeaaDoor
open Go.RowKit Go.Shelf

set_option maxHeartbeats 400000 in
/-- The reference's Has. -/
theorem refhas_any (A : Option Addr) (m c : Nat) (n : Int) (ws : List Nat) (i : Int) (w : World) (hR : Row w A m (ws.map U32)) (hF : Fits ws) :
    Calls Tryd.prog 40 #[.agg #[.int .i64 n, .slice A m c], .int .i64 i] w fun e w' => e = .returned (.bool (hasB n ws i)) ∧ Below w.heap.size w w' := by
  have hl := hR.1
  simp at hl
  have hb0 := below_box w (.cells #[.int .i64 n, .slice A m c] 24)
  have k0 := box0 (w := w) (t := 24) (v0 := .int .i64 n) (v1 := .slice A m c)
  have k1 := box1 (w := w) (t := 24) (v0 := .int .i64 n) (v1 := .slice A m c)
  have H0 := Lib.hid (hR.ext hb0)
  have HF := Lib.hid hF
  have HL := Lib.hid hl
  have HB := Lib.hid hb0
  clear hR hF hl hb0
  obtain ⟨d, hd⟩ : ∃ d, hasB n ws i = d := ⟨_, rfl⟩
  rw [hd]
  have HD := Lib.hid hd
  clear hd
  go_enter Tryd.func40, Tryd.ntmps40
  go_wp2_with fail
  generalize w.alloc (.cells #[.int .i64 n, .slice A m c] 24) = W0 at *
  refine (refright_any A m c n ws W0 H0.out HF.out).mono ?_
  rintro e w1 ⟨rfl, hb1⟩
  have e0 := cell_ext hb1 k0
  have e1 := cell_ext hb1 k1
  have HB1 := Lib.hid hb1
  clear hb1 k0 k1
  cases hr : rightB n ws
  · have Hr := Lib.hid hr
    clear hr
    go_wp2
    go_ret
    exact ⟨ret_bool (by rw [← HD.out]; simp [hasB, Hr.out]), below_le HB.out HB1.out⟩
  · obtain ⟨g0, g1, g2, _⟩ := rightB_elim hr
    have Hr := Lib.hid hr
    have G2 := Lib.hid g2
    clear hr g2
    by_cases h0 : 0 ≤ i
    · by_cases h1 : i < n
      · go_wp2_with fail
        have h := on_any A m c n ws i w1 (H0.out.ext HB1.out) HF.out h0 (by have := G2.out; have := HL.out; omega) (by omega)
        refine h.mono ?_
        clear h
        rintro e w2 ⟨rfl, hb2⟩
        have HB2 := Lib.hid hb2
        clear hb2
        go_wp2
        go_ret
        exact ⟨ret_bool (by rw [← HD.out]; simp [hasB, Hr.out, h0, h1]), below_le (below_le HB.out HB1.out) HB2.out⟩
      · go_wp2
        go_ret
        exact ⟨ret_bool (by rw [← HD.out]; unfold hasB; rw [show decide (i < n) = false by simp; omega]; simp), below_le HB.out HB1.out⟩
    · go_wp2
      go_ret
      exact ⟨ret_bool (by rw [← HD.out]; unfold hasB; rw [show decide (0 ≤ i) = false by simp; omega]; simp), below_le HB.out HB1.out⟩

theorem filter_range_succ (p : Nat → Bool) (k : Nat) : (List.range (k + 1)).filter p = (List.range k).filter p ++ if p k then [k] else [] := by
  rw [List.range_succ, List.filter_append]
  congr 1
  cases h : p k <;> simp [h]
theorem filter_range_le (p : Nat → Bool) (k : Nat) : ((List.range k).filter p).length ≤ k := by
  have := List.length_filter_le p (List.range k)
  simpa using this

set_option maxRecDepth 100000 in
set_option maxHeartbeats 1000000 in
/-- The reference's List. -/
theorem reflist_any (A : Option Addr) (m c : Nat) (n : Int) (ws : List Nat) (w : World) (hR : Row w A m (ws.map U32)) (hF : Fits ws) :
    Calls Tryd.prog 42 #[.agg #[.int .i64 n, .slice A m c]] w (GivesInts w (listN n ws)) := by
  have hl := hR.1
  simp at hl
  have hb0 := below_box w (.cells #[.int .i64 n, .slice A m c] 24)
  have k0 := box0 (w := w) (t := 24) (v0 := .int .i64 n) (v1 := .slice A m c)
  have k1 := box1 (w := w) (t := 24) (v0 := .int .i64 n) (v1 := .slice A m c)
  have H0 := Lib.hid (hR.ext hb0)
  have HF := Lib.hid hF
  have HL := Lib.hid hl
  have HB := Lib.hid hb0
  clear hR hF hl hb0
  go_enter Tryd.func42, Tryd.ntmps42
  go_wp2_with fail
  generalize w.alloc (.cells #[.int .i64 n, .slice A m c] 24) = W0 at *
  refine (refright_any A m c n ws W0 H0.out HF.out).mono ?_
  rintro e w1 ⟨rfl, hb1⟩
  have e0 := cell_ext hb1 k0
  have e1 := cell_ext hb1 k1
  have HB1 := Lib.hid hb1
  clear hb1 k0 k1
  cases hr : rightB n ws
  · have Hr := Lib.hid hr
    clear hr
    go_wp2
    go_ret
    exact ⟨none, 0, 0, rfl, by rw [show listN n ws = [] by simp [listN, Hr.out]]; exact Row.none_, (fun _ e => by cases e), below_le HB.out HB1.out⟩
  · obtain ⟨g0, g1, g2, _⟩ := rightB_elim hr
    have HQ : Hid (listN n ws = (List.range n.toNat).filter (tb ws)) := Lib.hid (by simp [listN, hr])
    have Hr := Lib.hid hr
    have G2 := Lib.hid g2
    obtain ⟨i, hi, hz0, hz1, hz2⟩ := info_parts int_info
    clear hr g2
    go_wp2
    go_loopw [3, 4] (fun s i wr => ∃ k : Nat, (k : Int) ≤ n ∧ i = .int .i64 k ∧ wr.ownsRow w1.heap.size 3 1 s ((List.range k).filter (tb ws)).length (((List.range k).filter (tb ws)).map I64) ∧ Below w1.heap.size w1 wr) (fun _ i _ => (n - intOf i).toNat)
    case atStart => exact ⟨0, by omega, rfl, ⟨rfl, .inl ⟨rfl, rfl⟩⟩, Below.refl _ _⟩
    case round =>
      obtain ⟨k, hk, rfl, hown, hb⟩ := hrel
      have k0 := cell_ext hb e0
      have k1 := cell_ext hb e1
      have HO := Lib.hid hown
      have Hb := Lib.hid hb
      have hle := filter_range_le (tb ws) k
      have hsz := hb.size
      clear hown hb
      by_cases hlt : (k : Int) < n
      · go_wp2_with fail
        have h := on_any A m c n ws (k : Int) wr ((H0.out.ext HB1.out).ext Hb.out) HF.out (by omega) (by have := G2.out; have := HL.out; omega) (by omega)
        rw [Int.toNat_natCast] at h
        have hsn := filter_range_succ (tb ws) k
        cases ht : tb ws k
        · rw [ht] at h hsn
          refine h.mono ?_
          clear h
          have HT := Lib.hid hsn
          clear ht hsn
          rintro e w2 ⟨rfl, hb2⟩
          have HB2 := Lib.hid hb2
          clear hb2
          go_wp2
          go_roundw
          case rel =>
            refine ⟨k + 1, by omega, by go_num, ?_, below_le Hb.out HB2.out⟩
            rw [HT.out]
            simp only [Bool.false_eq_true, if_false, List.append_nil]
            exact HO.out.kept (row := none) ⟨HB2.out.os, HB2.out.tape, HB2.out.output, HB2.out.size, fun i hi _ => HB2.out.block i hi⟩ (by cases u3.ownBlock <;> simp)
          case measure => simp [intOf]; omega
        · rw [ht] at h hsn
          refine h.mono ?_
          clear h
          have HT := Lib.hid hsn
          clear ht hsn
          rintro e w2 ⟨rfl, hb2⟩
          have hown2 := HO.out.kept (row := none) ⟨hb2.os, hb2.tape, hb2.output, hb2.size, fun i hi _ => hb2.block i hi⟩ (by cases u3.ownBlock <;> simp)
          have HO2 := Lib.hid hown2
          have HB2 := Lib.hid hb2
          have hsz2 := hb2.size
          clear hb2 hown2
          generalize hLL : (List.range k).filter (tb ws) = LL at *
          go_wp2_with (at_builtin; refine stop_here ?_)
          intro _
          refine (wpList_append_own_at _ rfl (.tmp 18) (.tmp 20) 37 rfl w1.heap.size 3 i (.int .i64 0) 1 8 Tryd.underlying37 hi hz0 hz1 hz2 rfl (by omega) u3 LL.length (LL.map I64) rfl ?own ⟨w2.heap.size, 0, none⟩ 1 1 [.int .i64 (k : Int)] rfl rfl ?news ?one ?b1 ?b2 ?b3 ?_)
          case own => exact HO2.out.alloc _
          case news =>
            intro k u hu
            match k with
            | 0 => simp [Addr.add, go_sem] at hu ⊢; exact hu
            | k + 1 => simp at hu
          case one => intro u hu; rw [List.mem_singleton.1 hu]; rfl
          case b1 => unfold maxLen; omega
          case b2 => omega
          case b3 => simp; omega
          intro v' w3 hown hgr _ hat
          have hbk := below_box w2 (.cells #[.int .i64 (k : Int)] 3)
          have hb3 : Below w1.heap.size w1 w3 := ((below_le Hb.out HB2.out).trans (hbk.mono (by omega))).trans ((Below.refl _ _).grown hgr (by simp; omega) (fun b e => by
            obtain ⟨A', c', rfl, _, hfr⟩ := row_of_owns HO.out
            cases A' with
            | none => simp [Value.ownBlock] at e
            | some a => simp [Value.ownBlock] at e; rw [← e]; exact hfr _ rfl))
          have HOW := Lib.hid hown
          have HB3 := Lib.hid hb3
          clear hown hgr hat hb3 hbk
          go_wp2
          go_roundw
          case rel => exact ⟨k + 1, by omega, by go_num, by rw [HT.out]; simpa [I64] using HOW.out, HB3.out⟩
          case measure => simp [intOf]; omega
      · have hke : n.toNat = k := by omega
        obtain ⟨A', c', rfl, hrow, hfr⟩ := row_of_owns HO.out
        have HW := Lib.hid hrow
        have HFr := Lib.hid hfr
        have HK := Lib.hid hke
        have hsz1 := HB1.out.size
        have hsz0 := HB.out.size
        clear hrow hfr hke
        go_wp2
        go_ret
        exact ⟨_, _, _, rfl, by rw [HQ.out, HK.out]; exact HW.out, (fun a e => by have := HFr.out a e; omega), below_le (below_le HB.out HB1.out) Hb.out⟩


set_option maxHeartbeats 400000 in
/-- The reference's Make. -/
theorem refmake_ok (n : Int) (w : World) (h0 : 0 ≤ n) (h1 : n ≤ 20000) :
    Calls Tryd.prog 34 #[.int .i64 n] w (GivesBits w 0 n (List.replicate ((n.toNat + 31) / 32) 0)) := by
  have hmk := run_make_words ((n + 31) / 32) (by omega) (by omega)
  have d0 : decide (n < 0) = false := by simp; omega
  have d1 : decide (20000 < n) = false := by simp; omega
  go_enter Tryd.func34, Tryd.ntmps34
  go_wp2
  refine bodyPost_ret (v := .tuple #[.agg #[.int .i64 n, .slice (some ⟨w.heap.size + 1, 0, none⟩) ((n + 31) / 32).toNat ((n + 31) / 32).toNat], .int .i64 0]) (by simp [results, Tryd.results34, go_sem]) rfl ⟨_, _, _, rfl, ?_, ?_⟩
  · have h := new_row (w := w.alloc (.cells #[.int .i64 n, .slice (some ⟨w.heap.size + 1, 0, none⟩) ((n + 31) / 32).toNat ((n + 31) / 32).toNat] 24)) (w.heap.size + 1) (by simp) 48 (zeros ((n + 31) / 32).toNat)
    rw [zeros_size, zeros_row] at h
    rw [show (n.toNat + 31) / 32 = ((n + 31) / 32).toNat by omega]
    exact h
  · exact below_le (below_box _ _) (below_box _ _)

set_option maxHeartbeats 400000 in
theorem refmake_bad (n : Int) (w : World) (h : n < 0 ∨ 20000 < n) :
    Calls Tryd.prog 34 #[.int .i64 n] w (GivesBits w 2 0 []) := by
  by_cases h0 : n < 0
  · go_enter Tryd.func34, Tryd.ntmps34
    go_wp2
    refine bodyPost_ret (v := .tuple #[.agg #[.int .i64 0, .slice none 0 0], .int .i64 2]) (by simp [results, Tryd.results34, go_sem]) rfl ⟨_, _, _, rfl, Row.none_, below_box _ _⟩
  · have h1 : 20000 < n := by omega
    go_enter Tryd.func34, Tryd.ntmps34
    go_wp2
    refine bodyPost_ret (v := .tuple #[.agg #[.int .i64 0, .slice none 0 0], .int .i64 2]) (by simp [results, Tryd.results34, go_sem]) rfl ⟨_, _, _, rfl, Row.none_, below_box _ _⟩

end Go.Proofs.YtelbddnjnapoeaaDoor
