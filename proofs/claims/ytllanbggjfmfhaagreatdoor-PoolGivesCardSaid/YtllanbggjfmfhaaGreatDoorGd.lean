/-
  What is proved: contracts of Lines and Count of package marks. No condition beyond those stated.
-/
import Derived.Test.YtllanbggjfmfhaaGreatDoorGc
import Derived.Test.YtllanbggjfmfhaaGreatDoorNj
namespace Go.Proofs.YtllanbggjfmfhaaGreatDoor
open Go.RowKit Go.Shelf
attribute [local go_sem] Oper.semAt_some

/-- A list of numbers. -/
def GivesI (w : World) (l : List Int) (e : Ending) (w' : World) : Prop := ∃ A m c, e = .returned (.slice A m c) ∧ Row w' A m (l.map Iv) ∧ m ≤ c ∧ (∀ a, A = some a → w.heap.size ≤ a.block) ∧ Below w.heap.size w w'

set_option maxRecDepth 100000 in
theorem run_make_cap (z : Int) (h0 : 0 ≤ z) (h1 : z ≤ 100000) (W : World) :
    (Instr.makeSlice 22 (.int .i64 0) (.int .i64 z)).run Tryz.prog W = .ok (.slice (some ⟨W.heap.size, 0, none⟩) 0 z.toNat) (W.alloc (.cells (zerosI z.toNat) 3)) := by
  obtain ⟨i, hi, hz0, hz1, hz2⟩ := info_parts int_info
  have hr := run_make (P := Tryz.prog) W 22 3 i _ Tryz.underlying22 hi hz0 .i64 .i64 0 z (by omega) (by omega) (by rw [hz2]; omega) (by omega)
  rw [hr]
  congr 3
  rw [hz1]
  apply Array.ext
  · simp [zerosI, madeCells]
  · intro j h1 h2
    simp [zerosI, madeCells, Value.cells, Nat.mod_one]
theorem owns_cap {W : World} {g k : Nat} (hb : Blk W g 3 (zerosI k)) (hk : k ≤ 100000) : W.ownsRow g 3 1 (.slice (some ⟨g, 0, none⟩) 0 k) 0 [] :=
  ⟨rfl, .inr ⟨g, k, zerosI k, rfl, Nat.le_refl _, hb, Nat.zero_le _, by unfold maxLen; omega, by simp [zerosI], rfl⟩⟩

def mlW (w : World) (A : Option Addr) (m c : Nat) : World := ((w.alloc (.cells #[.slice A m c] 116)).alloc (.cells (zerosI 32) 3)).alloc (.cells #[.slice (some ⟨w.heap.size + 1, 0, none⟩) 0 32] 22)

def mlF (B : Nat) (A : Option Addr) (c : Nat) (x : Int) : Act :=
  { tmps := #[.slice A 32 c, undef, .slice none 0 0, .pointer (some ⟨B, 0, none⟩), .pointer (some ⟨B + 1 + 1, 0, none⟩), .int .i64 x, .slice A 32 c, .bool true, .bool false, .slice A 32 c, .agg #[.slice A 32 c], .slice (some ⟨B + 1, 0, none⟩) 0 32, .pointer (some ⟨B, 0, none⟩), .slice A 32 c,
      .func (.func 91) #[] #[.pointer (some ⟨B + 3, 0, none⟩)], .int .i64 x, undef, undef, undef, undef, undef], defers := [] }

set_option maxRecDepth 100000 in
set_option maxHeartbeats 2000000 in
theorem mlines_right (A : Option Addr) (c : Nat) (t : List Int) (w : World) (hR : Row w A 32 (t.map Iv)) (hT : tabB t = true) :
    Calls Tryz.prog 64 #[.slice A 32 c] w (GivesI w (linesL t)) := by
  obtain ⟨i, hi, hz0, hz1, hz2⟩ := info_parts int_info
  have hA : ∀ a, A = some a → a.block < w.heap.size := hR.block_lt (by omega)
  have hcall := mright_any A 32 c t w hR (by omega)
  rw [hT] at hcall
  have hmk := run_make_cap 32 (by omega) (by omega)
  have HR := Lib.hid hR
  have HA := Lib.hid hA
  clear hR hT hA
  refine (callsIn_wide (n := 3)).1 ?_
  refine callsIn_of_wp_marks Tryz.func64 rfl trivial ?_ rfl
  simp only [Tryz.ntmps64, List.size_toArray, List.length_cons, List.length_nil, Nat.reduceAdd, Nat.reduceSub, Array.replicate_succ, Array.replicate_zero, List.push_toArray, List.append_toArray, List.nil_append, List.cons_append]
  gi_wp2_with fail
  refine ⟨trivial, (callsIn_wide.2 hcall).mono ?_⟩
  clear hcall
  rintro e w1 ⟨rfl, hb1⟩
  have HB1 := Lib.hid hb1
  clear hb1
  gi_wp2_with fail
  change _ ∧ CallsIn _ _ _ _ _ (mlW w1 A 32 c) _
  refine ⟨trivial, (callsIn_wide.2 (all_any_marks A 32 c (mlW w1 A 32 c))).mono ?_⟩
  rintro e w' ⟨rfl, rfl⟩
  have hzm : (mlW w1 A 32 c).heap.size = w1.heap.size + 3 := by simp [mlW]
  rw [hzm]
  have hb2 : Below w1.heap.size w1 ((mlW w1 A 32 c).alloc (.cells #[.slice A 32 c] 114)) := below_le (below_le (below_le (below_box _ _) (below_box _ _)) (below_box _ _)) (below_box _ _)
  have hz : ((mlW w1 A 32 c).alloc (.cells #[.slice A 32 c] 114)).heap.size = w1.heap.size + 4 := by simp [mlW]
  have hg : Blk ((mlW w1 A 32 c).alloc (.cells #[.slice A 32 c] 114)) (w1.heap.size + 1) 3 (zerosI 32) := Blk.alloc (Blk.alloc (heap_new (by simp) _) _) _
  have hs : Blk ((mlW w1 A 32 c).alloc (.cells #[.slice A 32 c] 114)) (w1.heap.size + 1 + 1) 22 #[.slice (some ⟨w1.heap.size + 1, 0, none⟩) 0 32] := Blk.alloc (heap_new (by simp) _) _
  have hcb : ((mlW w1 A 32 c).alloc (.cells #[.slice A 32 c] 114)).cell? ⟨w1.heap.size + 3, 0, none⟩ = some (.slice A 32 c) := by rw [← hzm]; exact cell_one
  generalize (mlW w1 A 32 c).alloc (.cells #[.slice A 32 c] 114) = W1 at *
  have hs1 := HB1.out.size
  have hA1 : ∀ a, A = some a → a.block < w1.heap.size := fun a e => Nat.lt_of_lt_of_le (HA.out a e) hs1
  obtain ⟨S, hS0, hbS, hAS⟩ : ∃ S : List Nat, (∀ b ∈ S, b < W1.heap.size ∧ b ≠ w1.heap.size + 1 ∧ b ≠ w1.heap.size + 1 + 1) ∧ w1.heap.size + 3 ∈ S ∧ ∀ a, A = some a → a.block ∈ S := by
    cases A with
    | none => exact ⟨[w1.heap.size + 3], by simp; omega, by simp, (fun _ e => by cases e)⟩
    | some a => exact ⟨[w1.heap.size + 3, a.block], by have := hA1 a rfl; simp; omega, by simp, (fun _ e => by cases e; simp)⟩
  have hst := all1_stops (3 - 1) A c t (w1.heap.size + 3) S hbS hAS W1 hcb ((HR.out.ext HB1.out).ext hb2)
  have hlen := lines_len t
  generalize linesL t = L at *
  have HI0 : CollI w W1 (w1.heap.size + 1) (w1.heap.size + 1 + 1) (cameI L []) W1 := ⟨Nat.le_refl _, below_le HB1.out hb2, _, owns_cap hg (by omega), hs, .inr (.inl rfl)⟩
  have HS := Lib.hid hS0
  clear hg hs hcb hS0 hbS hAS hb2
  gi_wp2_with fail
  refine wpIn_rangeFunc_ownG (F := Fence.wide) (n := 3) rfl (by omega) (gf := 91) (lb := #[.pointer (some ⟨w1.heap.size + 3, 0, none⟩)]) rfl trivial (enters_of Tryz.func91 (by kernel_rfl) rfl)
    hst (fun h k => h.t k) (KeepB.b (fun b hb => (HS.out b hb).1)) (Below.refl _ _) (fun _ => rfl)
    (fun pre => CollI w W1 (w1.heap.size + 1) (w1.heap.size + 1 + 1) (cameI L pre)) (fun _ _ _ => False)
    (CollI.own w W1 _ _ (cameI L) (by omega) (by omega))
    (fun _ _ _ _ _ hs _ _ => hs)
    HI0
    (fun x' => mlF w1.heap.size A c L[x'.1]) ?assign ?body ?done ?stop
  case assign =>
    intro l x1 W' K hK
    gi_wp2
    exact hK
  case body =>
    rintro l pre x W' ⟨s1, s2, v, s4, s5, s6⟩ hpre
    have hcl : (cameI L pre).length ≤ 32 := by have := cameI_len L pre; omega
    have hsn := cameI_snoc L pre x
    generalize L[x.1] = y at *
    generalize cameI L pre = xs at *
    have HSN := Lib.hid hsn
    have c5 := s5.cell 0
    have f5 := s5.frozen 0
    simp at c5
    have S2 := Lib.hid s2
    have S4 := Lib.hid s4
    have S5 := Lib.hid s5
    clear s2 s4 s5 hst hsn HI0
    simp only [mlF]
    gi_wp2_with (gi_at_builtin; refine stop_here ?_)
    intro _
    refine (wpListIn_append_own_at _ rfl (.tmp 16) (.tmp 18) 22 rfl (w1.heap.size + 1) 3 i (.int .i64 0) 1 8 Tryz.underlying22 hi hz0 hz1 hz2 rfl (by omega) v xs.length (xs.map Iv) rfl ?own ⟨W'.heap.size, 0, none⟩ 1 1 [.int .i64 y] rfl rfl ?news ?one ?b1 ?b2 ?b3 ?_)
    case own => exact S4.out.alloc _
    case news =>
      intro k u hu
      match k with
      | 0 => simp [Addr.add, go_sem] at hu ⊢; exact hu
      | k + 1 => simp at hu
    case one => intro u hu; rw [List.mem_singleton.1 hu]; rfl
    case b1 => unfold maxLen; omega
    case b2 => omega
    case b3 => simp; omega
    intro v' W3 hown hgr _ hat
    obtain ⟨g', cap', rfl⟩ := ownsRow_succ hown
    obtain ⟨q5, hfin⟩ := coll_step (S := S) s1 S2.out S4.out S5.out s6 (by omega) (by omega) (by omega) (by omega) (by omega) HS.out hown hgr hat
    have c6 := q5.cell 0
    have f6 := q5.frozen 0
    simp at c6
    have HF := Lib.hid hfin
    clear hown hgr hat c5 f5 q5 hfin
    gi_wp2
    refine ⟨HF.out.1, HF.out.2.1, ?_⟩
    show CollI _ _ _ _ (cameI L (pre ++ [x])) _
    rw [HSN.out]
    exact HF.out.2.2
  case done =>
    rintro D ys W' hD rfl ⟨s1, s2, v, s4, s5, s6⟩ hK
    rw [cameI_all] at s4
    obtain ⟨A', c', rfl, hrow, hle, hfr⟩ := coll_end s4 hK rfl
    have HFR := Lib.hid hfr
    have c5 := s5.cell 0
    simp at c5
    have S2 := Lib.hid s2
    have HROW := Lib.hid (hrow (.deferred none))
    clear s2 s4 s5 s6 hrow HI0 hst hfr
    gi_wp2
    refine ⟨by simp, .inl ⟨_, _, rfl, run_takeDeferred hK, ?_⟩⟩
    refine ⟨.slice A' L.length c', by simp [results, Tryz.results64, go_sem], _, _, _, rfl, HROW.out, hle, fun a e => by have := HFR.out a e; omega, ?_⟩
    exact S2.out.trans (belowK_b (w := W1) (by omega) W' D _ _ hD hK rfl rfl)
  case stop =>
    rintro D c pre W' _ _ h _
    exact h.elim

set_option maxHeartbeats 1000000 in
/-- marks.Lines. -/
theorem mlines_any (A : Option Addr) (m c : Nat) (t : List Int) (w : World) (hR : Row w A m (t.map Iv)) (hm : m ≤ 100000) :
    Calls Tryz.prog 64 #[.slice A m c] w (GivesI w (linesR t)) := by
  unfold linesR
  cases hT : tabB t
  · have hcall := mright_any A m c t w hR hm
    rw [hT] at hcall
    clear hR hT
    go_enter Tryz.func64, Tryz.ntmps64
    go_wp2_with fail
    refine hcall.mono ?_
    clear hcall
    rintro e w1 ⟨rfl, hb⟩
    have HB := Lib.hid hb
    clear hb
    go_wp2
    go_ret
    exact ⟨none, 0, 0, rfl, Row.none_, Nat.le_refl _, (fun _ e => by cases e), HB.out⟩
  · have hl := hR.1
    simp at hl
    obtain rfl : m = 32 := by rw [← hl, tab_len hT]
    exact mlines_right A c t w hR hT

def cntN (t : List Int) : Nat := (linesR t).length
set_option maxHeartbeats 400000 in
/-- marks.Count. -/
theorem mcount_any (A : Option Addr) (m c : Nat) (t : List Int) (w : World) (hR : Row w A m (t.map Iv)) (hm : m ≤ 100000) :
    Calls Tryz.prog 41 #[.slice A m c] w fun e w' => e = .returned (.int .i64 (cntN t : Nat)) ∧ Below w.heap.size w w' := by
  have hcall := mlines_any A m c t w hR hm
  unfold cntN
  generalize linesR t = L at *
  clear hR
  go_enter Tryz.func41, Tryz.ntmps41
  go_wp2_with fail
  refine hcall.mono ?_
  clear hcall
  rintro e w1 ⟨B, k, d, rfl, hr, -, -, hb⟩
  have hl := hr.1
  simp at hl
  subst hl
  have HB := Lib.hid hb
  clear hb hr
  go_wp2
  go_ret
  exact ⟨rfl, HB.out⟩

end Go.Proofs.YtllanbggjfmfhaaGreatDoor
