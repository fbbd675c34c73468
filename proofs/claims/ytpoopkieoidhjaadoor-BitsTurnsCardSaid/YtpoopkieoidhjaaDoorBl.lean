/-
  What is proved: the contract of Fill of package bits. No condition beyond those stated.
-/
import Derived.Test.YtpoopkieoidhjaaDoorBk
namespace Go.Proofs.YtpoopkieoidhjaaDoor
open Go.RowKit Go.Shelf
attribute [local go_sem] Oper.semAt_some

/-- The places that have come. -/
def came (lo : Int) {m : Nat} (pre : List (Fin m)) : List Nat := pre.map fun x => (lo + x.1).toNat
theorem came_snoc (lo : Int) {m : Nat} (pre : List (Fin m)) (x : Fin m) : came lo (pre ++ [x]) = came lo pre ++ [(lo + x.1).toNat] := by simp [came]
theorem came_all (lo hi : Int) (h : 0 ≤ lo) : came lo (List.finRange (hi - lo).toNat) = placesN lo hi := by
  unfold came placesN
  apply List.ext_getElem
  · simp; omega
  · intro i h1 h2
    simp
    omega
theorem fillW_snoc (ws l : List Nat) (i : Nat) (on : Bool) : fillW ws (l ++ [i]) on = setW (fillW ws l on) i on := by simp [fillW]
theorem length_fillW (ws l : List Nat) (on : Bool) : (fillW ws l on).length = ws.length := by
  induction l generalizing ws with
  | nil => rfl
  | cons i l ih => show (fillW (setW ws i on) l on).length = _; rw [ih, length_setW]
theorem fits_fillW {ws : List Nat} (h : Fits ws) (l : List Nat) (on : Bool) : Fits (fillW ws l on) := by
  induction l generalizing ws with
  | nil => exact h
  | cons i l ih => exact ih (fits_set h i on)

theorem enters41 : ∀ args W, (callFunc 41 args).run Tryd.prog W = .ok (.enter 41 args) W := fun args W => by simp [go_sem]

set_option maxRecDepth 100000 in
set_option maxHeartbeats 2000000 in
theorem fill1_changes (m : Nat) (ws : List Nat) (lo hi : Int) (on : Bool) (bf bt bo : Nat) (w : World) (hF : Fits ws) (hm : ws.length = m) (hlo : 0 ≤ lo) (hhi : hi ≤ 20000) (hfit : hi ≤ 32 * m)
    (c1 : w.cell? ⟨bf, 0, none⟩ = some (.int .i64 lo)) (c2 : w.cell? ⟨bt, 0, none⟩ = some (.int .i64 hi)) (c3 : w.cell? ⟨bo, 0, none⟩ = some (.bool on)) :
    Changes 41 #[.pointer (some ⟨bf, 0, none⟩), .pointer (some ⟨bt, 0, none⟩), .pointer (some ⟨bo, 0, none⟩)] m ws (fillW ws (placesN lo hi) on) w := by
  intro W B hb hB hK
  have k1 := fun o => cell_ext (below_box W o) (cell_ext hb c1)
  have k2 := fun o => cell_ext (below_box W o) (cell_ext hb c2)
  have k3 := cell_ext hb c3
  have HB := Lib.hid hb
  have HK := Lib.hid hK
  have HM := Lib.hid hm
  have l3 : Hid (bo < w.heap.size) := Lib.hid (lt_of_cell c3)
  clear c1 c2 c3 hb hK hm
  simp only [List.append_toArray, List.cons_append, List.nil_append]
  refine (callsIn_wide (n := 3)).1 ?_
  refine callsIn_of_wp_marks Tryd.func41 rfl trivial ?_ rfl
  simp only [Tryd.ntmps41, List.size_toArray, List.length_cons, List.length_nil, Nat.reduceAdd, Nat.reduceSub, Array.replicate_succ, Array.replicate_zero, List.push_toArray, List.append_toArray, List.nil_append, List.cons_append]
  gi_wp2_with fail
  refine ⟨trivial, (callsIn_wide.2 (places_any _ _ _)).mono ?_⟩
  rintro e w' ⟨rfl, rfl⟩
  simp only [World.size_alloc]
  have hW1 : Below W.heap.size W (((W.alloc (.cells #[.slice (some ⟨B, 0, none⟩) m m] 22)).alloc (.cells #[.int .i64 lo] 3)).alloc (.cells #[.int .i64 hi] 3)) := below_le (below_le (below_box _ _) (below_box _ _)) (below_box _ _)
  have hz : (((W.alloc (.cells #[.slice (some ⟨B, 0, none⟩) m m] 22)).alloc (.cells #[.int .i64 lo] 3)).alloc (.cells #[.int .i64 hi] 3)).heap.size = W.heap.size + 1 + 1 + 1 := by simp
  have e0 : (((W.alloc (.cells #[.slice (some ⟨B, 0, none⟩) m m] 22)).alloc (.cells #[.int .i64 lo] 3)).alloc (.cells #[.int .i64 hi] 3)).cell? ⟨W.heap.size, 0, none⟩ = some (.slice (some ⟨B, 0, none⟩) m m) := by simp [go_sem]
  have e1 : (((W.alloc (.cells #[.slice (some ⟨B, 0, none⟩) m m] 22)).alloc (.cells #[.int .i64 lo] 3)).alloc (.cells #[.int .i64 hi] 3)).cell? ⟨W.heap.size + 1, 0, none⟩ = some (.int .i64 lo) := by simp [go_sem]
  have e2 : (((W.alloc (.cells #[.slice (some ⟨B, 0, none⟩) m m] 22)).alloc (.cells #[.int .i64 lo] 3)).alloc (.cells #[.int .i64 hi] 3)).cell? ⟨W.heap.size + 1 + 1, 0, none⟩ = some (.int .i64 hi) := by simp [go_sem]
  generalize ((W.alloc (.cells #[.slice (some ⟨B, 0, none⟩) m m] 22)).alloc (.cells #[.int .i64 lo] 3)).alloc (.cells #[.int .i64 hi] 3) = W1 at *
  have hBW : B < W.heap.size := HK.out.lt
  have hwW := HB.out.size
  have hl3 := l3.out
  have I0 := (⟨by omega, HK.out.ext hW1, World.grownBy.trans (World.grownBy.refl W (some B)) ⟨hW1.os, hW1.tape, hW1.output, hW1.size, fun i hi _ => hW1.block i hi⟩, e0, cell_ext hW1 k3⟩ :
    W1.heap.size ≤ W1.heap.size ∧ Blk W1 B 47 ((fillW ws (came lo ([] : List (Fin (hi - lo).toNat))) on).map U32).toArray ∧ W.grownBy W1 (some B) ∧ W1.cell? ⟨W.heap.size, 0, none⟩ = some (.slice (some ⟨B, 0, none⟩) m m) ∧ W1.cell? ⟨bo, 0, none⟩ = some (.bool on))
  gi_wp2_with fail
  refine wpIn_rangeFunc_ownG (F := Fence.wide) (n := 3) rfl (by omega) (gf := 49) (lb := #[.pointer (some ⟨W.heap.size + 1, 0, none⟩), .pointer (some ⟨W.heap.size + 1 + 1, 0, none⟩)]) rfl trivial (enters_of Tryd.func49 (by kernel_rfl) rfl)
    (places1_stops (3 - 1) lo hi (W.heap.size + 1) (W.heap.size + 1 + 1) W1 hlo (by omega) e1 e2) (fun h k => h.t k) (KeepB.b (by omega)) (Below.refl _ _) (fun _ => rfl)
    (fun pre W' => W1.heap.size ≤ W'.heap.size ∧ Blk W' B 47 ((fillW ws (came lo pre) on).map U32).toArray ∧ W.grownBy W' (some B) ∧ W'.cell? ⟨W.heap.size, 0, none⟩ = some (.slice (some ⟨B, 0, none⟩) m m) ∧ W'.cell? ⟨bo, 0, none⟩ = some (.bool on))
    (fun _ _ _ => False)
    (ownFrom_low _ _ (fun _ _ h => h.1) (fun _ X Y h hb => ⟨Nat.le_trans h.1 hb.size, h.2.1.below hb (by omega), grown_low h.2.2.1 hb (by omega), cell_low h.2.2.2.1 hb (by show W.heap.size < _; omega), cell_low h.2.2.2.2 hb (by show bo < _; omega)⟩))
    (fun _ _ _ _ _ hs _ _ => hs)
    I0
    (fun x => { tmps := #[.slice (some ⟨B, 0, none⟩) m m, .pointer (some ⟨bf, 0, none⟩), .pointer (some ⟨bt, 0, none⟩), .pointer (some ⟨bo, 0, none⟩), .pointer (some ⟨W.heap.size, 0, none⟩), .int .i64 (lo + x.1), .int .i64 lo, .int .i64 hi,
      .func (.func 49) #[] #[.pointer (some ⟨W.heap.size + 1, 0, none⟩), .pointer (some ⟨W.heap.size + 1 + 1, 0, none⟩)], .int .i64 (lo + x.1), undef, undef, undef, undef], defers := [] }) ?assign ?body ?done ?stop
  case assign =>
    intro l x W' K hK
    gi_wp2
    exact hK
  case body =>
    rintro l pre x W' ⟨j1, j2, j3, j4, j5⟩ _
    have hxb := x.2
    have J1 := Lib.hid j1
    have J2 := Lib.hid j2
    have J3 := Lib.hid j3
    clear j1 j2 j3 I0 e0 e1 e2 hW1
    gi_wp2_with fail
    have hlen : (fillW ws (came lo pre) on).length = m := by rw [length_fillW]; exact HM.out
    refine ⟨trivial, (CallsIn.inRound l (callsIn_wide.2 (turn_at B m m (fillW ws (came lo pre) on) (lo + x.1) on W' J2.out hlen (fits_fillW hF _ _) (by omega) (by omega) (by omega)))).mono ?_⟩
    rintro e W2 ⟨rfl, hK2, hg2⟩
    have HK2 := Lib.hid hK2
    have Hg2 := Lib.hid hg2
    clear hK2 hg2 hlen
    gi_wp2
    have hsz := J1.out
    refine ⟨KeepsFrom.of_grownBy Hg2.out (fun j e => by cases e; omega), KeepB.of_grown Hg2.out (by omega) (fun e => by cases e; omega), Nat.le_trans J1.out Hg2.out.size, ?_, J3.out.trans Hg2.out, cell_grown Hg2.out j4 (by show W.heap.size ≠ B; omega), cell_grown Hg2.out j5 (by show bo ≠ B; omega)⟩
    rw [came_snoc, fillW_snoc]
    exact HK2.out
  case done =>
    rintro D ys W' hD rfl ⟨j1, j2, j3, j4, j5⟩ hK
    have J2 := Lib.hid j2
    have J3 := Lib.hid j3
    clear j2 j3 I0
    gi_wp2
    refine ⟨by simp, .inl ⟨_, _, rfl, run_takeDeferred hK, ?_⟩⟩
    refine ⟨_, results_none rfl _ _ _, rfl, ?_, ?_⟩
    · rw [← came_all lo hi hlo]
      exact J2.out.below (belowK_b (w := W1) (Nat.le_refl _) W' D _ _ hD hK rfl rfl) (by omega)
    · exact grown_low J3.out (belowK_b (w := W1) (Nat.le_refl _) W' D _ _ hD hK rfl rfl) (by omega)
  case stop =>
    rintro D c pre W' _ _ h _
    exact h.elim

end Go.Proofs.YtpoopkieoidhjaaDoor
