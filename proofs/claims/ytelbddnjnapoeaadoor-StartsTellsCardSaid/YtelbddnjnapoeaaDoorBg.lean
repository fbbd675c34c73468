/-
  What is proved: the contract of change of package bits. No condition beyond those stated.
-/
import Derived.Test.YtelbddnjnapoeaaDoorBf
import Derived.Laws.CopyOwn
namespace Go.Proofs.YtelbddnjnapoeaaDoor
open Go.RowKit

theorem lt_of_heap {w : World} {k : Nat} {o : Obj} (h : w.heap[k]? = some o) : k < w.heap.size := (Array.getElem?_eq_some_iff.1 h).1
theorem cell_grown {w w1 : World} {B : Nat} (hg : w.grownBy w1 (some B)) {p : Addr} {v : Value} (h : w.cell? p = some v) (hne : p.block ≠ B) : w1.cell? p = some v :=
  (World.cell?_of_block (w := w) (hg.block p.block (lt_of_cell h) (fun e => hne (by injection e)))).trans h
theorem blk_grown {w w1 : World} {B g : Nat} {t : TypeId} {cs : Array Value} (hg : w.grownBy w1 (some B)) (h : Blk w g t cs) (hne : g ≠ B) : Blk w1 g t cs :=
  h.grown hg (fun e => hne (by injection e))
theorem below_grown {w w1 : World} {B n : Nat} (hg : w.grownBy w1 (some B)) (hB : n ≤ B) (hn : n ≤ w.heap.size) : Below n w w1 :=
  (Below.refl _ _).grown hg hn (fun k e => by injection e with e; omega)

theorem heap_new {w : World} {g : Nat} (hg : w.heap.size = g) (o : Obj) : (w.alloc o).heap[g]? = some o := by
  subst hg
  exact heap_alloc_new w o

theorem Row.far {w : World} {B off n : Nat} {xs : List Value} (h : Row w (some ⟨B, off, none⟩) n xs) {p : Addr} (hne : B ≠ p.block) (u : Value) : Row (w.setCell p u) (some ⟨B, off, none⟩) n xs :=
  ⟨h.1, fun hn => by
    obtain ⟨b, o, e, hc⟩ := h.2 hn
    refine ⟨b, o, e, fun j v hv => ?_⟩
    cases e
    rw [World.cell?_setCell_other w p _ u (fun e => hne (by rw [e]))]
    exact hc j v hv⟩

/-- What a change does with words in a block of the call's own. -/
def Changes (f : Nat) (cap : Array Value) (m : Nat) (ws ws' : List Nat) (w : World) : Prop :=
  ∀ W B, Below w.heap.size w W → w.heap.size ≤ B → Blk W B 48 (ws.map U32).toArray →
    Calls Tryd.prog f (#[.slice (some ⟨B, 0, none⟩) m m] ++ cap) W fun e W' => e = .returned (.tuple #[]) ∧ Blk W' B 48 (ws'.map U32).toArray ∧ W.grownBy W' (some B)

theorem splice_all (z cs : List Value) (h : z.length = cs.length) : splice z 0 cs = cs := by
  simp [splice, h]

set_option maxHeartbeats 1000000 in
theorem change_any (f : Nat) (cap : Array Value) (hf : ∀ args W, (callFunc f args).run Tryd.prog W = .ok (.enter f args) W) (A : Option Addr) (m c : Nat) (n : Int) (ws ws' : List Nat) (fb : Nat) (w : World)
    (hR : Row w A m (ws.map U32)) (hm : m ≤ 100000) (hfb : w.cell? ⟨fb, 0, none⟩ = some (.func (.func f) #[] cap)) (hcl : Changes f cap m ws ws' w) (hlen : ws'.length = m) :
    Calls Tryd.prog 59 #[.agg #[.int .i64 n, .slice A m c], .slice (some ⟨fb, 0, none⟩) 1 1] w fun e w' => ∃ B, e = .returned (.agg #[.int .i64 n, .slice (some ⟨B, 0, none⟩) m m]) ∧ w.heap.size ≤ B ∧ Row w' (some ⟨B, 0, none⟩) m (ws'.map U32) ∧ Below w.heap.size w w' := by
  have hl := hR.1
  simp at hl
  have hmk := run_make_words (m : Int) (by omega) (by omega)
  simp only [Int.toNat_natCast] at hmk
  have HR := Lib.hid hR
  have HC := Lib.hid hcl
  have HL := Lib.hid hl
  have HN := Lib.hid hlen
  clear hR hcl hl hlen
  go_enter Tryd.func59, Tryd.ntmps59
  go_wp2_with (with_reducible refine wpList_copy_splice rfl (.tmp 12) (.tmp 14) 22 22 rfl 48 Tryd.underlying22 ?hsz (some ⟨w.heap.size + 1 + 1, 0, none⟩) A m m m c rfl rfl (w.heap.size + 1 + 1) 0 (zeros m).toList 48 ?hg (ws.map U32) ?hn ?hpos ?hfit ?h1 (w.heap.size + 1 + 1) _ (Below.refl _ _) (Nat.le_refl _) ?hrest)
  case hsz => kernel_rfl
  case hg => exact heap_new (by simp) _
  case hn => have := HL.out; simp; omega
  case hpos =>
    intro hp
    obtain ⟨b, off, e, hc⟩ := HR.out.2 (by have := HL.out; omega)
    refine ⟨_, e, fun j u hu => ?_⟩
    have h1 := hc j (U32 u) (by simp [hu])
    have h2 : (⟨b, off, none⟩ : Addr).add j = ⟨b, off + j, none⟩ := by unfold Addr.add; split <;> simp_all
    rw [h2]
    exact cell_ext (below_le (below_le (below_box _ _) (below_box _ _)) (below_box _ _)) h1
  case hfit => have := HL.out; simp [zeros]; omega
  case h1 => intro v hv; obtain ⟨x, _, rfl⟩ := List.mem_map.1 hv; rfl
  case hrest =>
    intro w1 hG hB
    have hG1 : Blk w1 (w.heap.size + 1 + 1) 48 (ws.map U32).toArray := by
      have h := hG.out
      rwa [splice_all _ _ (by have := HL.out; simp [zeros]; omega)] at h
    have hbw : Below w.heap.size w w1 := (below_le (below_le (below_box _ _) (below_box _ _)) (below_box _ _) : Below w.heap.size w _).trans (hB.mono (by omega))
    have c0 : w1.cell? ⟨w.heap.size, 0, none⟩ = some (.int .i64 n) := by rw [hB.cell (by show w.heap.size < _; omega)]; simp [go_sem]
    have hbr : Blk w1 (w.heap.size + 1) 24 #[.int .i64 0, .slice none 0 0] := by
      have h : Blk ((w.alloc (.cells #[.int .i64 n, .slice A m c] 24)).alloc (.cells #[.int .i64 0, .slice none 0 0] 24)) (w.heap.size + 1) 24 #[.int .i64 0, .slice none 0 0] := heap_new (by simp) _
      exact (h.alloc _).below hB (by omega)
    have f0 := cell_ext hbw hfb
    have HW := Lib.hid hbw
    have HG := Lib.hid hG1
    have HBR := Lib.hid hbr
    have Hfb := Lib.hid (lt_of_cell hfb)
    clear hG hG1 hB hbr hmk hbw hfb
    go_wp2
    refine wp_loop_rounds 2 ?_
    rw [rounds_succ]
    go_wp2_with fail
    refine (HC.out w1 _ HW.out (by omega) HG.out).mono ?_
    rintro e w2 ⟨rfl, hB2, hg2⟩
    have c2 := cell_grown hg2 c0 (by show w.heap.size ≠ _; omega)
    have hbr2 := blk_grown hg2 HBR.out (by omega)
    have r0 := hbr2.cell 0
    have r1 := hbr2.cell 1
    have z0 := hbr2.frozen 0
    have z1 := hbr2.frozen 1
    have HB2 := Lib.hid hB2
    have Hg2 := Lib.hid hg2
    have HBR2 := Lib.hid hbr2
    clear hB2 hg2 hbr2 c0 f0
    go_wp2
    rw [rounds_succ]
    go_wp2
    have hB3 := (HBR2.out.set_ 0 (.int .i64 n)).set_ 1 (.slice (some ⟨w.heap.size + 1 + 1, 0, none⟩) m m)
    have q0 := hB3.cell 0
    have q1 := hB3.cell 1
    simp at q0 q1
    have hW3 := ((HB2.out.far (p := ⟨w.heap.size + 1, 0, none⟩) (by show w.heap.size + 1 + 1 ≠ _; simp) (.int .i64 n)).far (p := ⟨w.heap.size + 1, 1, none⟩) (by show w.heap.size + 1 + 1 ≠ _; simp) (.slice (some ⟨w.heap.size + 1 + 1, 0, none⟩) m m)).row
    simp only [List.size_toArray, List.length_map, HN.out] at hW3
    refine bodyPost_ret (v := .agg #[.int .i64 n, .slice (some ⟨w.heap.size + 1 + 1, 0, none⟩) m m]) (by simp [results, Tryd.results59, go_sem, q0, q1]) rfl ⟨_, rfl, by omega, hW3, ?_⟩
    have hb2 : Below w.heap.size w w2 := HW.out.trans (below_grown Hg2.out (by omega) HW.out.size)
    exact (hb2.setCell (p := ⟨w.heap.size + 1, 0, none⟩) (by show w.heap.size ≤ w.heap.size + 1; omega) _).setCell (p := ⟨w.heap.size + 1, 1, none⟩) (by show w.heap.size ≤ w.heap.size + 1; omega) _

theorem fits_set {ws : List Nat} (h : Fits ws) (i : Nat) (on : Bool) : Fits (setW ws i on) := by
  intro x hx
  rcases List.mem_or_eq_of_mem_set hx with h1 | rfl
  · exact h x h1
  · have h2 := getD_lt h (i / 32)
    have h3 : 2 ^ (i % 32) < 2 ^ 32 := Nat.pow_lt_pow_right (by decide) (by omega)
    split
    · exact Nat.or_lt_two_pow (n := 32) h2 h3
    · exact Nat.lt_of_le_of_lt Nat.and_le_left h2
theorem length_setW (ws : List Nat) (i : Nat) (on : Bool) : (setW ws i on).length = ws.length := by simp [setW]

/-- A block of words with one word turned. -/
theorem blk_turn {W : World} {B : Nat} {t : TypeId} {ws : List Nat} (h : Blk W B t (ws.map U32).toArray) (i : Nat) (on : Bool) (hi : i / 32 < ws.length) :
    Blk (W.setCell ⟨B, 0 + i / 32, none⟩ (U32 ((setW ws i on).getD (i / 32) 0))) B t ((setW ws i on).map U32).toArray := by
  have h1 := h.set_ (0 + i / 32) (U32 ((setW ws i on).getD (i / 32) 0))
  have e : (ws.map U32).toArray.setIfInBounds (0 + i / 32) (U32 ((setW ws i on).getD (i / 32) 0)) = ((setW ws i on).map U32).toArray := by
    rw [Nat.zero_add, setW, getD_set _ _ _ hi]
    simp [List.map_set]
  rwa [e] at h1

theorem turn_at (B n c : Nat) (ws : List Nat) (i : Int) (on : Bool) (W : World) (hK : Blk W B 48 (ws.map U32).toArray) (hl : ws.length = n) (hF : Fits ws) (h0 : 0 ≤ i) (h1 : i / 32 < n) (hi : i ≤ 100000) :
    Calls Tryd.prog 61 #[.slice (some ⟨B, 0, none⟩) n c, .int .i64 i, .bool on] W fun e W' => e = .returned (.tuple #[]) ∧ Blk W' B 48 ((setW ws i.toNat on).map U32).toArray ∧ W.grownBy W' (some B) := by
  have hrow := hK.row
  simp only [List.size_toArray, List.length_map, hl] at hrow
  refine (turn_any _ n c ws i on W hrow hF h0 h1 hi (fun b off e => by cases e; exact hK.frozen _)).mono ?_
  rintro e W' ⟨rfl, b, off, hA, rfl⟩
  cases hA
  exact ⟨rfl, blk_turn hK _ _ (by omega), ⟨rfl, rfl, rfl, by simp [World.setCell], fun k _ hk => Below.heap_setCell _ _ _ k (fun e => hk (by rw [e]))⟩⟩

theorem enters37 : ∀ args W, (callFunc 60 args).run Tryd.prog W = .ok (.enter 60 args) W := fun args W => by simp [go_sem]

set_option maxHeartbeats 400000 in
theorem set1_changes (m : Nat) (ws : List Nat) (i : Int) (on : Bool) (b1 b2 : Nat) (w : World) (hF : Fits ws) (hm : ws.length = m) (h0 : 0 ≤ i) (h1 : i / 32 < m) (hi : i ≤ 100000)
    (c1 : w.cell? ⟨b1, 0, none⟩ = some (.int .i64 i)) (c2 : w.cell? ⟨b2, 0, none⟩ = some (.bool on)) :
    Changes 60 #[.pointer (some ⟨b1, 0, none⟩), .pointer (some ⟨b2, 0, none⟩)] m ws (setW ws i.toNat on) w := by
  intro W B hb hB hK
  have k1 := cell_ext hb c1
  have k2 := cell_ext hb c2
  have HK := Lib.hid hK
  clear c1 c2 hb hK
  simp only [List.append_toArray, List.cons_append, List.nil_append]
  go_enter Tryd.func60, Tryd.ntmps60
  go_wp2_with fail
  refine (turn_at B m m ws i on _ HK.out hm hF h0 h1 hi).mono ?_
  rintro e W' ⟨rfl, hK', hg⟩
  have HK' := Lib.hid hK'
  have Hg := Lib.hid hg
  clear hK' hg
  go_wp2
  go_end0
  exact ⟨rfl, HK'.out, Hg.out⟩

end Go.Proofs.YtelbddnjnapoeaaDoor
