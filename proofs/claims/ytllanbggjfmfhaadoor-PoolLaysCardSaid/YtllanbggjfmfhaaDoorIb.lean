/-
  What is proved: contracts of others of the laws of layer 10. No condition beyond those stated.
-/
import Derived.Test.YtllanbggjfmfhaaDoorIa
namespace Go.Proofs.YtllanbggjfmfhaaDoor
open Go.RowKit Go.Shelf

/-- Two pools are the same but for some blocks. -/
structure Others (l l' : List Int) (ts ts' : List (List Int)) (f n : Nat) : Prop where
  hl : l'.length = l.length
  ht : ts.length = l.length
  ht' : ts'.length = l.length
  same : ∀ i, i < l.length → (i < f ∨ f + n ≤ i) → l.getD i 0 = l'.getD i 0 ∧ ts.getD i [] = ts'.getD i []

set_option maxRecDepth 100000 in
set_option maxHeartbeats 2000000 in
theorem others_any (S : Option Addr) (m c : Nat) (T : Option Addr) (k d : Nat) (S' : Option Addr) (m' c' : Nat) (T' : Option Addr) (k' d' : Nat) (l l' : List Int) (ts ts' : List (List Int)) (f n : Nat) (w : World) (hS : Row w S m (l.map Iv)) (hT : Tabs w T k ts) (hS' : Row w S' m' (l'.map Iv)) (hT' : Tabs w T' k' ts')
    (hm : m ≤ 1000) (hf : f ≤ 1000) (hn : n ≤ 1000) (ho : Others l l' ts ts' f n) :
    Calls Tryd.prog 14 #[.agg #[.slice S m c, .slice T k d], .agg #[.slice S' m' c', .slice T' k' d'], .int .i64 (f : Int), .int .i64 (n : Int)] w fun e w' => e = .returned (.bool true) ∧ Below w.heap.size w w' := by
  obtain ⟨o1, o2, o3, o4⟩ := ho
  have hl := hS.1
  have hl' := hS'.1
  have ht := hT.1
  have ht' := hT'.1
  simp at hl hl'
  obtain rfl : m' = m := by omega
  obtain rfl : k = m' := by omega
  obtain rfl : k' = k := by omega
  have hb0 : Below w.heap.size w ((w.alloc (.cells #[.slice S k' c, .slice T k' d] 25)).alloc (.cells #[.slice S' k' c', .slice T' k' d'] 25)) := below_le (below_box _ _) (below_box _ _)
  have h1 : Blk ((w.alloc (.cells #[.slice S k' c, .slice T k' d] 25)).alloc (.cells #[.slice S' k' c', .slice T' k' d'] 25)) w.heap.size 25 #[.slice S k' c, .slice T k' d] := Blk.alloc (heap_new rfl _) _
  have h2 : Blk ((w.alloc (.cells #[.slice S k' c, .slice T k' d] 25)).alloc (.cells #[.slice S' k' c', .slice T' k' d'] 25)) (w.heap.size + 1) 25 #[.slice S' k' c', .slice T' k' d'] := heap_new (by simp) _
  have HS := Lib.hid (hS.ext hb0)
  have HS' := Lib.hid (hS'.ext hb0)
  have HT := Lib.hid (hT.ext hb0)
  have HT' := Lib.hid (hT'.ext hb0)
  have HB := Lib.hid hb0
  have H1 := Lib.hid h1
  have H2 := Lib.hid h2
  have HSA := Lib.hid o4
  have HL := Lib.hid hl
  have hq : ((k' : Int) != (k' : Int)) = false := by simp
  clear hS hS' hT hT' hb0 h1 h2 hl hl' ht ht' o1 o2 o3 o4
  go_enter Tryd.func14, Tryd.ntmps14
  go_wp2
  generalize (w.alloc (.cells #[.slice S k' c, .slice T k' d] 25)).alloc (.cells #[.slice S' k' c', .slice T' k' d'] 25) = W0 at *
  go_loopw [9] (fun i wr => ∃ j : Nat, j ≤ k' ∧ i = .int .i64 (j : Int) ∧ Below W0.heap.size W0 wr) (fun i _ => k' - (intOf i).toNat)
  case atStart => exact ⟨0, Nat.zero_le _, rfl, Below.refl _ _⟩
  case round =>
    obtain ⟨j, hj, rfl, hb⟩ := hrel
    have p0 := (H1.out.ext hb).cell 0
    have p1 := (H1.out.ext hb).cell 1
    have q0 := (H2.out.ext hb).cell 0
    have q1 := (H2.out.ext hb).cell 1
    simp at p0 p1 q0 q1
    have Hb := Lib.hid hb
    clear hb
    by_cases hlt : j < k'
    · have t0 := ext_cell p0
      have t1 := ext_cell p1
      have u0 := ext_cell q0
      have u1 := ext_cell q1
      have hadd : IntKind.i64.wrap ((f : Int) + (n : Int)) = (f : Int) + (n : Int) := IntWalk.i64_in _ (by omega)
      have hfin : ∀ (x : World), Below wr.heap.size wr x → Below W0.heap.size W0 x := fun x h => below_le Hb.out h
      have HFIN := Lib.hid hfin
      clear hfin
      by_cases hin : j < f ∨ f + n ≤ j
      · obtain ⟨s1, s2⟩ := HSA.out j (by have := HL.out; omega) hin
        obtain ⟨b1, o1, x, rfl, c1, e1, -⟩ := num_at (HS.out.ext Hb.out) hlt
        obtain ⟨b2, o2, y, rfl, c2, e2, -⟩ := num_at (HS'.out.ext Hb.out) hlt
        obtain ⟨b3, o3, A1, n1, d1, t, rfl, c3, -, hn1, r3, -, e3⟩ := (HT.out.ext Hb.out).at_ hlt
        obtain ⟨b4, o4, A2, n2, d2, u, rfl, c4, -, hn2, r4, -, e4⟩ := (HT'.out.ext Hb.out).at_ hlt
        rw [e1, e2] at s1
        rw [e3, e4] at s2
        subst s1
        subst s2
        replace c1 := ext_cell c1
        replace c2 := ext_cell c2
        replace c3 := ext_cell c3
        replace c4 := ext_cell c4
        have hd : (x != x) = false := by simp
        have R3 := Lib.hid r3
        have R4 := Lib.hid r4
        have hcall : ∀ z : Ext wr, Calls Tryd.prog 18 #[.slice A1 n1 d1, .slice A2 n2 d2] z.val fun e w' => e = .returned (.bool true) ∧ Below z.val.heap.size z.val w' := fun z => by
          have h := ints_any A1 A2 n1 d1 n2 d2 t t z.val (R3.out.ext z.below) (R4.out.ext z.below) (by omega) (by omega)
          rw [decide_eq_true rfl] at h
          exact h
        have HCL := Lib.hid hcall
        clear r3 r4 hcall e1 e2 e3 e4 p1 q0 q1
        rcases Nat.lt_or_ge j f with hjf | hjf
        · go_wp2
          refine wp_region_plan [(0, true), (1, true), (2, true), (3, true), (4, true), (5, true), (6, true), (7, true), (8, true), (9, true), (10, true), (11, true), (12, true), (13, true), (14, true), (15, true), (16, true), (17, true), (18, true), (19, true), (20, true), (21, true), (22, true), (23, true), (24, true), (25, true), (26, true), (27, true), (28, true), (29, true), (30, true), (31, true), (32, true), (33, true), (34, true), (35, true), (36, true)] (by kernel_rfl) (by kernel_rfl) ?_
          repeat (first | (refine plan_skip rfl rfl ?_; go_frame) | (refine plan_soft rfl rfl (fun K hK => ?_); go_simp; first | (refine hK _ ?_; clear hK K) | (apply Exists.intro; refine ⟨fun x => ?_, hK _ ?_⟩; (· (go_at_call 18; exact HCL.out x)); clear hK K; try go_frame)))
          refine plan_nil ?_; intro w1 h0b; have Hb1 := Lib.hid h0b; clear h0b
          clear t0 t1 u0 u1 c1 c2 c3 c4 hadd
          go_wp2
          go_roundw
          case rel => exact ⟨j + 1, by omega, by go_num, HFIN.out _ Hb1.out⟩
          case measure => simp [intOf]; omega
        · have hge : f + n ≤ j := by omega
          have hjf3 : ¬ j < f := by omega
          have hg2 : decide ((j : Int) ≥ (f : Int) + (n : Int)) = true := by simp; omega
          have hjf2 : decide ((j : Int) < (f : Int)) = false := by simp; omega
          go_wp2
          refine wp_region_plan [(0, true), (1, true), (2, true), (3, true), (4, true), (5, true), (6, true), (7, true), (8, true), (9, true), (10, true), (11, true), (12, true), (13, true), (14, true), (15, true), (16, true), (17, true), (18, true), (19, true), (20, true), (21, true), (22, true), (23, true), (24, true), (25, true), (26, true), (27, true), (28, true), (29, true), (30, true), (31, true), (32, true), (33, true), (34, true), (35, true), (36, true)] (by kernel_rfl) (by kernel_rfl) ?_
          repeat (first | (refine plan_skip rfl rfl ?_; go_frame) | (refine plan_soft rfl rfl (fun K hK => ?_); go_simp; first | (refine hK _ ?_; clear hK K) | (apply Exists.intro; refine ⟨fun x => ?_, hK _ ?_⟩; (· (go_at_call 18; exact HCL.out x)); clear hK K; try go_frame)))
          refine plan_nil ?_; intro w1 h0b; have Hb1 := Lib.hid h0b; clear h0b
          clear t0 t1 u0 u1 c1 c2 c3 c4 hadd
          go_wp2
          go_roundw
          case rel => exact ⟨j + 1, by omega, by go_num, HFIN.out _ Hb1.out⟩
          case measure => simp [intOf]; omega
      · have hg2 : decide ((j : Int) ≥ (f : Int) + (n : Int)) = false := by simp; omega
        have hjf2 : decide ((j : Int) < (f : Int)) = false := by simp; omega
        have hjf : ¬ j < f := by omega
        clear p1 q0 q1
        go_wp2
        refine wp_region_plan [(0, true), (1, true), (2, true), (3, true), (4, true), (5, true), (6, true), (7, true), (8, true), (9, true), (10, true), (11, true), (12, true), (13, true), (14, true), (15, true), (16, true), (17, true), (18, true), (19, true), (20, true), (21, true), (22, true), (23, true), (24, true), (25, true), (26, true), (27, true), (28, true), (29, true), (30, true), (31, true), (32, true), (33, true), (34, true), (35, true), (36, true)] (by kernel_rfl) (by kernel_rfl) ?_
        repeat (first | (refine plan_skip rfl rfl ?_; go_frame) | (refine plan_soft rfl rfl (fun K hK => ?_); go_simp; first | (refine hK _ ?_; clear hK K) | (apply Exists.intro; refine ⟨fun x => ?_, hK _ ?_⟩; (· (fail)); clear hK K; try go_frame)))
        refine plan_nil ?_; intro w1 h0b; have Hb1 := Lib.hid h0b; clear h0b
        clear t0 t1 u0 u1 hadd
        go_wp2
        go_roundw
        case rel => exact ⟨j + 1, by omega, by go_num, HFIN.out _ Hb1.out⟩
        case measure => simp [intOf]; omega
    · go_wp2
      go_ret
      exact ⟨rfl, below_le HB.out Hb.out⟩

end Go.Proofs.YtllanbggjfmfhaaDoor
