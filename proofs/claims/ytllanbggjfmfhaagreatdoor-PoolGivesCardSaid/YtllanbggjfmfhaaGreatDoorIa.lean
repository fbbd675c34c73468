/-
  What is proved: contracts of Cut of the laws of layers 7 and 10. No condition beyond those stated.
-/
import Derived.Test.YtllanbggjfmfhaaGreatDoorHk
import Derived.Test.YtllanbggjfmfhaaGreatDoorMixc
import Derived.Test.YtllanbggjfmfhaaGreatDoorPush
namespace Go.Proofs.YtllanbggjfmfhaaGreatDoor
open Go.RowKit Go.Shelf

set_option maxHeartbeats 400000 in
theorem cut07_any (A : Option Addr) (m c : Nat) (w : World) (hc : m ≤ c) :
    Calls Tryz.prog 14 #[.slice A m c] w fun e w' => (e = .returned (.slice A (min m 34) c)) ∧ w = w' := by
  by_cases h : 34 < (m : Int)
  · have hmn : min m 34 = 34 := by omega
    rw [hmn]
    have hcc : (34 : Int) ≤ c := by omega
    have hlt : (34 : Int) < m := h
    clear hmn
    go_enter Tryz.func14, Tryz.ntmps14
    go_wp2
    go_ret
    exact ⟨rfl, rfl⟩
  · have hmn : min m 34 = m := by omega
    rw [hmn]
    clear hmn
    have hcc : (m : Int) ≤ c := by omega
    go_enter Tryz.func14, Tryz.ntmps14
    go_wp2
    go_ret
    exact ⟨rfl, rfl⟩

/-- The slice value '.slice T k _' holds slices that hold the lists ts, of any length. -/
def TabsU (w : World) (T : Option Addr) (k : Nat) (ts : List (List Int)) : Prop :=
  ts.length = k ∧ (0 < k → ∃ b off, T = some ⟨b, off, none⟩ ∧ ∀ j t, ts[j]? = some t → ∃ A n c, w.cell? ⟨b, off + j, none⟩ = some (.slice A n c) ∧ n ≤ c ∧ Row w A n (t.map Iv))
/-- What the law keeps of the tables: at most thirty-four, each cut. -/
def cutTs (ts : List (List Int)) : List (List Int) := (ts.take 34).map fun t => t.take 34
/-- The tables, wherever all blocks below lo and from hi on are what they are here. -/
def TabsC (w' : World) (lo hi : Nat) (T : Option Addr) (k : Nat) (ts : List (List Int)) : Prop := ∀ X : World, (∀ b, b < w'.heap.size → (b < lo ∨ hi ≤ b) → X.heap[b]? = w'.heap[b]?) → Tabs X T k ts
theorem TabsC.ext {w w' : World} {lo hi : Nat} {T : Option Addr} {k : Nat} {ts : List (List Int)} (hb : Below w.heap.size w w') (h : TabsC w lo hi T k ts) : TabsC w' lo hi T k ts :=
  fun X hX => h X fun b h1 h2 => (hX b (Nat.lt_of_lt_of_le h1 hb.size) h2).trans (hb.block b h1)
theorem TabsC.far {w : World} {lo hi : Nat} {T : Option Addr} {k : Nat} {ts : List (List Int)} (h : TabsC w lo hi T k ts) {p : Addr} (h1 : lo ≤ p.block) (h2 : p.block < hi) (u : Value) : TabsC (w.setCell p u) lo hi T k ts :=
  fun X hX => h X fun b h3 h4 => (hX b (by simpa [World.setCell] using h3) h4).trans (Below.heap_setCell _ _ _ b (by omega))
theorem TabsC.mono {w : World} {lo hi hi' : Nat} {T : Option Addr} {k : Nat} {ts : List (List Int)} (h : TabsC w lo hi T k ts) (hh : hi' ≤ hi) : TabsC w lo hi' T k ts :=
  fun X hX => h X fun b h1 h2 => hX b h1 (h2.imp id fun h => Nat.le_trans hh h)
theorem TabsC.tabs {w : World} {lo hi : Nat} {T : Option Addr} {k : Nat} {ts : List (List Int)} (h : TabsC w lo hi T k ts) : Tabs w T k ts := h w fun _ _ _ => rfl

/-- The tables that have been cut. -/
def CutVs (w0 : World) (ts : List (List Int)) (j : Nat) (vs : List Value) : Prop :=
  vs.length = j ∧ ∀ (i : Nat) (t : List Int), ts[i]? = some t → i < j → ∃ (A : Option Addr) (n c : Nat), vs[i]? = some (Value.slice A (min n 34) c) ∧ n ≤ c ∧ Row w0 A n (t.map Iv)
theorem CutVs.push {w0 : World} {ts : List (List Int)} {j : Nat} {vs : List Value} (h : CutVs w0 ts j vs) {t : List Int} {A : Option Addr} {n c : Nat} (ht : ts[j]? = some t) (hn : n ≤ c) (hR : Row w0 A n (t.map Iv)) : CutVs w0 ts (j + 1) (vs ++ [.slice A (min n 34) c]) := by
  refine ⟨by simp [h.1], fun i t' hi hij => ?_⟩
  by_cases e : i = j
  · subst e
    rw [ht] at hi
    cases hi
    exact ⟨A, n, c, by rw [List.getElem?_append_right (by rw [h.1]; exact Nat.le_refl _)]; simp [h.1], hn, hR⟩
  · obtain ⟨A', n', c', h1, h2, h3⟩ := h.2 i t' hi (by omega)
    exact ⟨A', n', c', by rw [List.getElem?_append_left (by rw [h.1]; omega)]; exact h1, h2, h3⟩
theorem row_take {w : World} {A : Option Addr} {n : Nat} {t : List Int} (h : Row w A n (t.map Iv)) : Row w A (min n 34) ((t.take 34).map Iv) := row_few h

/-- The tables that have been cut, as they are read. -/
theorem CutVs.tabsC {w0 w' : World} {hi base j d : Nat} {ts : List (List Int)} {vs : List Value} {T : Option Addr} (h : CutVs w0 ts j vs) (hj : j = min ts.length 34) (hown : w'.ownsRow base 22 1 (.slice T j d) j vs) (hbase : hi ≤ base) (hb : Below w0.heap.size w0 w') :
    TabsC w' w0.heap.size hi T j (cutTs ts) := by
  intro X hX
  refine ⟨by simp [cutTs]; omega, fun hk => ?_⟩
  rcases hown.2 with ⟨e, h0⟩ | ⟨g, cap, cur, e, hg, hcur, hk2, hcap, hsz, htk⟩
  · cases e; omega
  · cases e
    refine ⟨g, 0, rfl, fun i t' ht' => ?_⟩
    unfold cutTs at ht'
    rw [List.getElem?_map, List.getElem?_take] at ht'
    split at ht'
    · rename_i hi34
      cases hti : ts[i]? with
      | none => rw [hti] at ht'; cases ht'
      | some t =>
        rw [hti] at ht'
        simp at ht'
        subst ht'
        have hil := (List.getElem?_eq_some_iff.1 hti).1
        obtain ⟨A, n, c, h1, h2, h3⟩ := h.2 i t hti (by omega)
        refine ⟨A, min n 34, c, ?_, by omega, by omega, ?_⟩
        · rw [Nat.zero_add]
          have hgl : g < w'.heap.size := (Array.getElem?_eq_some_iff.1 hcur).1
          rw [World.cell?_of_block (w := w') (hX g hgl (.inr (by omega))), cell_of_row w' g i cur _ (0, 0) hcur]
          rw [← htk, List.getElem?_take] at h1
          split at h1
          · simpa using h1
          · cases h1
        · have h4 := row_take h3
          refine ⟨h4.1, fun hn => ?_⟩
          obtain ⟨b, off, e, hc⟩ := h4.2 hn
          refine ⟨b, off, e, fun q u hu => ?_⟩
          have h5 := hc q u hu
          have hbl : b < w0.heap.size := lt_of_cell h5
          rw [World.cell?_of_block (w := w') (hX b (Nat.lt_of_lt_of_le hbl hb.size) (.inl hbl))]
          exact cell_ext hb h5
    · cases ht'

set_option maxRecDepth 100000 in
set_option maxHeartbeats 2000000 in
/-- The laws' Cut of a pool. -/
theorem cut10_any (S : Option Addr) (m c : Nat) (T : Option Addr) (k d : Nat) (ts : List (List Int)) (w0 w : World) (hb : Below w0.heap.size w0 w) (hmc : m ≤ c) (hT : TabsU w0 T k ts) (hk : k ≤ 9223372036854775807) :
    Calls Tryz.prog 6 #[.agg #[.slice S m c, .slice T k d]] w fun e w' => ∃ T' k' d', e = .returned (.agg #[.slice S (min m 34) c, .slice T' k' d']) ∧ k' ≤ 34 ∧ TabsC w' w0.heap.size w.heap.size T' k' (cutTs ts) ∧ Below w.heap.size w w' := by
  obtain ⟨inf, hi, hz0, hz1, hz2⟩ := info_parts ints_info
  have htl := hT.1
  have HT := Lib.hid hT
  have HB0 := Lib.hid hb
  have HTL := Lib.hid htl
  clear hT hb htl
  have hb1 : Below w.heap.size w ((w.alloc (.cells #[.slice S m c, .slice T k d] 25)).alloc (.cells #[.slice none 0 0, .slice none 0 0] 25)) := below_le (below_box _ _) (below_box _ _)
  have h1 : Blk ((w.alloc (.cells #[.slice S m c, .slice T k d] 25)).alloc (.cells #[.slice none 0 0, .slice none 0 0] 25)) w.heap.size 25 #[.slice S m c, .slice T k d] := Blk.alloc (heap_new rfl _) _
  have h2 : Blk ((w.alloc (.cells #[.slice S m c, .slice T k d] 25)).alloc (.cells #[.slice none 0 0, .slice none 0 0] 25)) (w.heap.size + 1) 25 #[.slice none 0 0, .slice none 0 0] := heap_new (by simp) _
  have hz : ((w.alloc (.cells #[.slice S m c, .slice T k d] 25)).alloc (.cells #[.slice none 0 0, .slice none 0 0] 25)).heap.size = w.heap.size + 2 := by simp
  have HB1 := Lib.hid hb1
  have H1 := Lib.hid h1
  have H2 := Lib.hid h2
  clear hb1 h1 h2
  go_enter Tryz.func6, Tryz.ntmps6
  go_wp2_with fail
  generalize (w.alloc (.cells #[.slice S m c, .slice T k d] 25)).alloc (.cells #[.slice none 0 0, .slice none 0 0] 25) = W0 at *
  refine (few_any S m c W0 hmc).mono ?_
  rintro e w' ⟨rfl, rfl⟩
  generalize hm' : min m 34 = m' at *
  have HM' := Lib.hid hm'
  clear hm'
  have hx2 := below_box W0 (.cells #[.slice S m' c, .slice none 0 0] 25)
  have h3 : Blk (W0.alloc (.cells #[.slice S m' c, .slice none 0 0] 25)) (w.heap.size + 2) 25 #[.slice S m' c, .slice none 0 0] := heap_new hz _
  have hz3 : (W0.alloc (.cells #[.slice S m' c, .slice none 0 0] 25)).heap.size = w.heap.size + 3 := by simp; omega
  have H1' := Lib.hid (H1.out.ext hx2)
  have H2' := Lib.hid (H2.out.ext hx2)
  have HB2 := Lib.hid (below_le HB1.out hx2)
  have H3 := Lib.hid h3
  clear hx2 h3 H1 H2 HB1
  go_wp2
  generalize W0.alloc (.cells #[.slice S m' c, .slice none 0 0] 25) = W3 at *
  go_loopw [4] (fun i wr => ∃ j vs v, j ≤ min k 34 ∧ i = .int .i64 (j : Nat) ∧ CutVs w0 ts j vs ∧ wr.ownsRow W3.heap.size 22 1 v j vs ∧ Blk wr (w.heap.size + 2) 25 #[.slice S m' c, v] ∧ Blk wr w.heap.size 25 #[.slice S m c, .slice T k d] ∧ Blk wr (w.heap.size + 1) 25 #[.slice none 0 0, .slice none 0 0] ∧ Below w.heap.size w wr ∧ W3.heap.size ≤ wr.heap.size) (fun i _ => 34 - (intOf i).toNat)
  case atStart => exact ⟨0, [], .slice none 0 0, Nat.zero_le _, rfl, ⟨rfl, (fun _ _ _ h => by omega)⟩, ⟨rfl, .inl ⟨rfl, rfl⟩⟩, H3.out, H1'.out, H2'.out, HB2.out, Nat.le_refl _⟩
  case round =>
    obtain ⟨j, vs, v, hj, rfl, q1, q2, q3, q4, q5, q6, q7⟩ := hrel
    have Q1 := Lib.hid q1
    have Q2 := Lib.hid q2
    have Q3 := Lib.hid q3
    have Q4 := Lib.hid q4
    have Q5 := Lib.hid q5
    have Q6 := Lib.hid q6
    clear q1 q2 q3 q4 q5 q6
    have k1 : wr.cell? ⟨w.heap.size, 1, none⟩ = some (.slice T k d) := by have := Q4.out.cell 1; simpa using this
    have k3 : wr.cell? ⟨w.heap.size + 2, 1, none⟩ = some v := by have := Q3.out.cell 1; simpa using this
    by_cases hlt : j < min k 34
    · have hjk : j < k := by omega
      have hj34 : j < 34 := by omega
      obtain ⟨tb, toff, rfl, hct⟩ := HT.out.2 (by omega)
      have hjl : j < ts.length := by have := HTL.out; omega
      obtain ⟨A, n, cc, hcA, hnc, hRA⟩ := hct j ts[j] (List.getElem?_eq_getElem hjl)
      have hcA' := cell_ext Q6.out (cell_ext HB0.out hcA)
      have hpush := Q1.out.push (List.getElem?_eq_getElem hjl) hnc hRA
      have HPU := Lib.hid hpush
      have hCst := stays_below W3.heap.size wr q7
      have t1 := fun x : Of (fun x => Below W3.heap.size wr x) => (x.ok.cell (p := ⟨w.heap.size, 1, none⟩) (by show w.heap.size < _; omega)).trans k1
      have t3 := fun x : Of (fun x => Below W3.heap.size wr x) => (x.ok.cell (p := ⟨w.heap.size + 2, 1, none⟩) (by show w.heap.size + 2 < _; omega)).trans k3
      have tbl : tb < w.heap.size := Nat.lt_of_lt_of_le (lt_of_cell hcA) HB0.out.size
      have tA := fun x : Of (fun x => Below W3.heap.size wr x) => (x.ok.cell (p := ⟨tb, toff + j, none⟩) (by show tb < _; omega)).trans hcA'
      have hcall := fun x : World => cut07_any A n cc x hnc
      have HCA := Lib.hid hcall
      clear hct hcA hRA hpush hcA' hcall
      go_wp2
      refine wp_region_mixc (C := fun x => Below W3.heap.size wr x) 11 hCst (Below.refl _ _) (by kernel_rfl) (by kernel_rfl) ?_
      first | (refine mixc_skip 0 hCst rfl (by kernel_rfl) rfl ?_; go_frame) | (refine mixc_soft 0 hCst rfl (by kernel_rfl) rfl (fun K hK => ?_); go_simp; first | (refine hK _ ?_; clear hK K) | (apply Exists.intro; refine ⟨fun x => ?_, hK _ ?_⟩; (· (go_at_call 14; exact Calls.still (HCA.out x.val))); clear hK K; try go_frame))
      first | (refine mixc_skip 1 hCst rfl (by kernel_rfl) rfl ?_; go_frame) | (refine mixc_soft 1 hCst rfl (by kernel_rfl) rfl (fun K hK => ?_); go_simp; first | (refine hK _ ?_; clear hK K) | (apply Exists.intro; refine ⟨fun x => ?_, hK _ ?_⟩; (· (go_at_call 14; exact Calls.still (HCA.out x.val))); clear hK K; try go_frame))
      first | (refine mixc_skip 2 hCst rfl (by kernel_rfl) rfl ?_; go_frame) | (refine mixc_soft 2 hCst rfl (by kernel_rfl) rfl (fun K hK => ?_); go_simp; first | (refine hK _ ?_; clear hK K) | (apply Exists.intro; refine ⟨fun x => ?_, hK _ ?_⟩; (· (go_at_call 14; exact Calls.still (HCA.out x.val))); clear hK K; try go_frame))
      first | (refine mixc_skip 3 hCst rfl (by kernel_rfl) rfl ?_; go_frame) | (refine mixc_soft 3 hCst rfl (by kernel_rfl) rfl (fun K hK => ?_); go_simp; first | (refine hK _ ?_; clear hK K) | (apply Exists.intro; refine ⟨fun x => ?_, hK _ ?_⟩; (· (go_at_call 14; exact Calls.still (HCA.out x.val))); clear hK K; try go_frame))
      first | (refine mixc_skip 4 hCst rfl (by kernel_rfl) rfl ?_; go_frame) | (refine mixc_soft 4 hCst rfl (by kernel_rfl) rfl (fun K hK => ?_); go_simp; first | (refine hK _ ?_; clear hK K) | (apply Exists.intro; refine ⟨fun x => ?_, hK _ ?_⟩; (· (go_at_call 14; exact Calls.still (HCA.out x.val))); clear hK K; try go_frame))
      first | (refine mixc_skip 5 hCst rfl (by kernel_rfl) rfl ?_; go_frame) | (refine mixc_soft 5 hCst rfl (by kernel_rfl) rfl (fun K hK => ?_); go_simp; first | (refine hK _ ?_; clear hK K) | (apply Exists.intro; refine ⟨fun x => ?_, hK _ ?_⟩; (· (go_at_call 14; exact Calls.still (HCA.out x.val))); clear hK K; try go_frame))
      first | (refine mixc_skip 6 hCst rfl (by kernel_rfl) rfl ?_; go_frame) | (refine mixc_soft 6 hCst rfl (by kernel_rfl) rfl (fun K hK => ?_); go_simp; first | (refine hK _ ?_; clear hK K) | (apply Exists.intro; refine ⟨fun x => ?_, hK _ ?_⟩; (· (go_at_call 14; exact Calls.still (HCA.out x.val))); clear hK K; try go_frame))
      first | (refine mixc_skip 7 hCst rfl (by kernel_rfl) rfl ?_; go_frame) | (refine mixc_soft 7 hCst rfl (by kernel_rfl) rfl (fun K hK => ?_); go_simp; first | (refine hK _ ?_; clear hK K) | (apply Exists.intro; refine ⟨fun x => ?_, hK _ ?_⟩; (· (go_at_call 14; exact Calls.still (HCA.out x.val))); clear hK K; try go_frame))
      clear t1 t3 tA HCA
      refine mixc_one 8 (by decide) (by kernel_rfl) rfl rfl ?_
      intro w5 hb5 hC5 K hK
      go_simp
      have hx5 := below_box w5 (.cells #[.slice A (min n 34) cc] 22)
      have hn5 := row_new1 w5 22 (.slice A (min n 34) cc)
      have HN5 := Lib.hid hn5
      have HO5 := Lib.hid (own_ext (below_le hb5 hx5) Q2.out)
      have HC5 := Lib.hid (hCst _ _ hC5 hx5)
      have hs5 : W3.heap.size ≤ (w5.alloc (.cells #[.slice A (min n 34) cc] 22)).heap.size := Nat.le_trans q7 (below_le hb5 hx5).size
      refine hK _ _ HC5.out ?_
      clear hK K hb5 hC5 hx5 hn5
      try go_frame
      generalize w5.alloc (.cells #[.slice A (min n 34) cc] 22) = W5 at *
      refine mixc_one 9 (by decide) (by kernel_rfl) rfl rfl ?_
      intro w6 hb6 hC6 K hK
      refine wp_append_row w6 (.tmp 21) (.tmp 28) 23 rfl W3.heap.size 22 inf (.slice none 0 0) 24 Tryz.underlying23 hi hz0 hz1 hz2 rfl v j vs rfl (own_ext hb6 HO5.out) _ 1 1 [.slice A (min n 34) cc] rfl (HN5.out.ext hb6)
        (fun u hu => by rw [List.mem_singleton.1 hu]; rfl) (by unfold maxLen; omega) (by omega) (Nat.le_trans hs5 hb6.size) fun v' w7 hown hgr => ?_
      have hC7 : Below W3.heap.size wr w7 := hC6.trans ((Below.refl _ _).grown hgr (Nat.le_trans hs5 hb6.size) fun q e => own_base HO5.out e)
      obtain ⟨g', cap', rfl⟩ := ownsRow_succ hown
      refine hK _ _ hC7 ?_
      have HO7 := Lib.hid hown
      have HC7 := Lib.hid hC7
      clear hK K hb6 hC6 hgr hown hC7 HN5 HO5 HC5 hs5
      try go_frame
      first | (refine mixc_skip 10 hCst rfl (by kernel_rfl) rfl ?_; go_frame) | (refine mixc_soft 10 hCst rfl (by kernel_rfl) rfl (fun K hK => ?_); go_simp; first | (refine hK _ ?_; clear hK K) | (apply Exists.intro; refine ⟨fun x => ?_, hK _ ?_⟩; (· (fail)); clear hK K; try go_frame))
      refine mixc_last 11 (by kernel_rfl) (by kernel_rfl) rfl rfl ?_
      intro w8 hb8 hC8 K hK
      have b3 := Q3.out.below hC8 (by omega)
      have b4 := Q4.out.below hC8 (by omega)
      have b5 := Q5.out.below hC8 (by omega)
      have k31 := b3.cell 1
      have f31 := b3.frozen 1
      simp at k31
      have hown8 := own_ext hb8 HO7.out
      have B3 := Lib.hid (b3.set_ 1 (.slice (some ⟨g', 0, none⟩) (j + 1) cap'))
      have B4 := Lib.hid (b4.far (p := ⟨w.heap.size + 2, 1, none⟩) (by show w.heap.size ≠ _; simp) (.slice (some ⟨g', 0, none⟩) (j + 1) cap'))
      have B5 := Lib.hid (b5.far (p := ⟨w.heap.size + 2, 1, none⟩) (by show w.heap.size + 1 ≠ _; simp) (.slice (some ⟨g', 0, none⟩) (j + 1) cap'))
      have B6 := Lib.hid ((Q6.out.trans (hC8.mono (by omega))).setCell (p := ⟨w.heap.size + 2, 1, none⟩) (by show w.heap.size ≤ w.heap.size + 2; omega) (.slice (some ⟨g', 0, none⟩) (j + 1) cap'))
      have B7 := Lib.hid (hown8.kept (grown_set w8 (w.heap.size + 2) 1 (.slice (some ⟨g', 0, none⟩) (j + 1) cap')) (.inr fun e => by have := own_base hown8 e; omega))
      have hs8 : W3.heap.size ≤ w8.heap.size := Nat.le_trans q7 hC8.size
      clear b3 b4 b5 hown8 hb8 hC8
      go_simp
      refine hK _ _ fun w9 hb9 => ?_
      clear hK K k31 f31
      replace B3 := Lib.hid (B3.out.ext hb9)
      replace B4 := Lib.hid (B4.out.ext hb9)
      replace B5 := Lib.hid (B5.out.ext hb9)
      replace B6 := Lib.hid (below_le B6.out hb9)
      replace B7 := Lib.hid (own_ext hb9 B7.out)
      have hs9 : W3.heap.size ≤ w9.heap.size := Nat.le_trans hs8 (by have := hb9.size; simpa [World.setCell] using this)
      clear hb9 hs8
      try go_frame
      simp at B3
      go_wp2
      go_roundw
      case rel => exact ⟨j + 1, _, _, by omega, by go_num, HPU.out, B7.out, B3.out, B4.out, B5.out, B6.out, hs9⟩
      case measure => simp [intOf]; omega
    · have hjm : j = min ts.length 34 := by have := HTL.out; omega
      obtain ⟨A', c', hv, -, -⟩ := row_of_owns Q2.out
      subst hv
      have hw0 : w0.heap.size ≤ w.heap.size := HB0.out.size
      have htc := Q1.out.tabsC hjm Q2.out (Nat.le_refl W3.heap.size) (below_le HB0.out Q6.out)
      have htc2 := ((htc.far (p := ⟨w.heap.size + 1, 0, none⟩) (by show w0.heap.size ≤ w.heap.size + 1; omega) (by show w.heap.size + 1 < _; omega) (.slice S m' c)).far (p := ⟨w.heap.size + 1, 1, none⟩) (by show w0.heap.size ≤ w.heap.size + 1; omega) (by show w.heap.size + 1 < _; omega) (.slice A' j c')).mono (hi' := w.heap.size) (by omega)
      have k30 : wr.cell? ⟨w.heap.size + 2, 0, none⟩ = some (.slice S m' c) := by have := Q3.out.cell 0; simpa using this
      obtain ⟨⟨c0, c1, f0, f1⟩, q0, q1, hB⟩ := res_two (a' := .slice S m' c) (b' := .slice A' j c') Q5.out Q6.out (by omega)
      have HTC := Lib.hid htc2
      have HBF := Lib.hid hB
      have hj34 : j ≤ 34 := by omega
      clear htc htc2 hB hjm hw0
      by_cases hjk : j < k
      · have h34 : ¬ j < 34 := by omega
        go_wp2
        exact bodyPost_ret (v := .agg #[.slice S m' c, .slice A' j c']) (by simp [results, Tryz.results6, go_sem, q0, q1]) rfl ⟨_, _, _, by rw [HM'.out], hj34, HTC.out, HBF.out⟩
      · go_wp2
        exact bodyPost_ret (v := .agg #[.slice S m' c, .slice A' j c']) (by simp [results, Tryz.results6, go_sem, q0, q1]) rfl ⟨_, _, _, by rw [HM'.out], hj34, HTC.out, HBF.out⟩

end Go.Proofs.YtllanbggjfmfhaaGreatDoor
