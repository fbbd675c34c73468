/-
  What is proved: the contract of String of strings.Builder; what is no cells stays. No condition beyond those stated.
-/
import Derived.Test.YtmabokmnniiadaaGreatDoorBw
import Derived.Test.YtmabokmnniiadaaGreatDoorMix
import Derived.Test.YtmabokmnniiadaaGreatDoorTail
import Derived.Lib.UnsafeStr
namespace Go.Proofs.YtmabokmnniiadaaGreatDoor
open Go.RowKit

theorem keepsO_drew (w : World) : KeepsOthers w w.drew := ⟨Nat.le_refl _, fun _ _ h _ => h⟩
theorem keepsO_freeze (w : World) (p : Addr) (n : Nat) : KeepsOthers w (w.freeze p n) := by
  unfold World.freeze
  split
  · exact KeepsOthers.refl w
  · refine ⟨by simp, fun k o hk hc => ?_⟩
    simp only [Array.getElem?_modify]
    split
    · rw [hk]
      cases o <;> simp [Obj.isCells] at hc ⊢
    · exact hk
theorem byte_cells : Tryz.prog.cellsOf 5 = 1 := by kernel_rfl
theorem str_none (W : World) (q : Option Addr) : (Builtin.unsafeString_ #[88, 3] 9 #[.pointer q, .int .i64 0]).run Tryz.prog W = .ok (.string .empty) W := Lib.run_unsafeString_none W _ _ _ q

/-- What String hands back. -/
def StrIs (B : Nat) (l : List UInt8) (w : World) (e : Ending) (w' : World) : Prop := e = .returned (.string ⟨l.toArray⟩) ∧ Below B w w' ∧ KeepsOthers w w'

set_option maxRecDepth 100000 in
set_option maxHeartbeats 2000000 in
theorem bString_at (B b : Nat) (l : List UInt8) (A : Option Addr) (n c : Nat) (q : Option Addr) (w : World) (Z : World → World) (c1 : w.cell? ⟨b, 1, none⟩ = some (.slice A n c))
    (hSD : ∀ W : World, (Builtin.unsafeSliceData_ #[53] 88 #[.slice A n c]).run Tryz.prog W = .ok (.pointer q) W)
    (hUS : ∀ W : World, Below w.heap.size w W → (Builtin.unsafeString_ #[88, 3] 9 #[.pointer q, .int .i64 n]).run Tryz.prog W = .ok (.string ⟨l.toArray⟩) (Z W))
    (hE : ∀ W : World, Below w.heap.size w W → StrIs B l w (.returned (.string ⟨l.toArray⟩)) (Z W)) :
    Calls Tryz.prog 36 #[.pointer (some ⟨b, 0, none⟩)] w (StrIs B l w) := by
  have HU := Lib.hid hUS
  have HE := Lib.hid hE
  have t1 := ext_cell c1
  clear hUS hE
  go_enter Tryz.func36, Tryz.ntmps36
  go_wp2
  refine wp_region_tail 10 (by kernel_rfl) (by kernel_rfl) ?_; simp only [List.take_succ_cons, List.take_zero, List.drop_succ_cons, List.drop_zero]
  repeat (first | (refine head_skip rfl ?_; go_frame) | (refine head_soft rfl (fun K hK => ?_); go_simp; first | (refine hK _ ?_; clear hK K) | (apply Exists.intro; refine ⟨fun x => ?_, hK _ ?_⟩; (· (fail)); clear hK K; try go_frame)))
  refine head_nil fun w1 hb1 => ?_
  have hu := HU.out w1 hb1
  have HE1 := Lib.hid (HE.out w1 hb1)
  clear t1 c1 hSD HU HE hb1
  generalize Z w1 = W9 at *
  go_wp2
  go_ret
  exact HE1.out

set_option maxRecDepth 100000 in
set_option maxHeartbeats 2000000 in
/-- Of a buffer without room. -/
theorem bString_noroom (B b g : Nat) (w : World) (c1 : w.cell? ⟨b, 1, none⟩ = some (.slice (some ⟨g, 0, none⟩) 0 0)) (hg : ∃ cur, w.heap[g]? = some (.cells cur 5 (0, 0))) (hBw : B ≤ w.heap.size) :
    Calls Tryz.prog 36 #[.pointer (some ⟨b, 0, none⟩)] w (StrIs B [] w) := by
  have hSD : ∀ W : World, Below w.heap.size w W → (Builtin.unsafeSliceData_ #[53] 88 #[.slice (some ⟨g, 0, none⟩) 0 0]).run Tryz.prog W = .ok (.pointer (some ⟨W.heap.size, 0, none⟩)) (W.alloc (.view ⟨g, 0, none⟩ 5)) := fun W hb => by
    obtain ⟨cur, hg⟩ := hg
    have hg' : W.heap[g]? = some (.cells cur 5 (0, 0)) := (hb.block g (Array.getElem?_eq_some_iff.1 hg).1).trans hg
    exact Lib.run_unsafeSliceData_zero W _ _ 5 Tryz.underlying88 ⟨g, 0, none⟩ 0 (5, cur.size) (by simp [World.shape?, hg'])
  have HS := Lib.hid hSD
  have hUS := str_none
  have hend : ∀ W W' : World, Below w.heap.size w W → Below W.heap.size W W' → StrIs B [] w (.returned (.string ⟨#[]⟩)) W' := fun W W' h h' => ⟨rfl, (below_le h h').mono hBw, keepsO_below (below_le h h')⟩
  have HE := Lib.hid hend
  have t1 := ext_cell c1
  clear hend hSD hg
  go_enter Tryz.func36, Tryz.ntmps36
  go_wp2
  refine wp_region_mix (by kernel_rfl) ?_
  first | (refine mix_skip 0 rfl (by kernel_rfl) rfl ?_; go_frame) | (refine mix_soft 0 rfl (by kernel_rfl) rfl (fun K hK => ?_); go_simp; first | (refine hK _ ?_; clear hK K) | (apply Exists.intro; refine ⟨fun x => ?_, hK _ ?_⟩; (· (fail)); clear hK K; try go_frame))
  first | (refine mix_skip 1 rfl (by kernel_rfl) rfl ?_; go_frame) | (refine mix_soft 1 rfl (by kernel_rfl) rfl (fun K hK => ?_); go_simp; first | (refine hK _ ?_; clear hK K) | (apply Exists.intro; refine ⟨fun x => ?_, hK _ ?_⟩; (· (fail)); clear hK K; try go_frame))
  first | (refine mix_skip 2 rfl (by kernel_rfl) rfl ?_; go_frame) | (refine mix_soft 2 rfl (by kernel_rfl) rfl (fun K hK => ?_); go_simp; first | (refine hK _ ?_; clear hK K) | (apply Exists.intro; refine ⟨fun x => ?_, hK _ ?_⟩; (· (fail)); clear hK K; try go_frame))
  first | (refine mix_skip 3 rfl (by kernel_rfl) rfl ?_; go_frame) | (refine mix_soft 3 rfl (by kernel_rfl) rfl (fun K hK => ?_); go_simp; first | (refine hK _ ?_; clear hK K) | (apply Exists.intro; refine ⟨fun x => ?_, hK _ ?_⟩; (· (fail)); clear hK K; try go_frame))
  first | (refine mix_skip 5 rfl (by kernel_rfl) rfl ?_; go_frame) | (refine mix_soft 5 rfl (by kernel_rfl) rfl (fun K hK => ?_); go_simp; first | (refine hK _ ?_; clear hK K) | (apply Exists.intro; refine ⟨fun x => ?_, hK _ ?_⟩; (· (fail)); clear hK K; try go_frame))
  first | (refine mix_skip 6 rfl (by kernel_rfl) rfl ?_; go_frame) | (refine mix_soft 6 rfl (by kernel_rfl) rfl (fun K hK => ?_); go_simp; first | (refine hK _ ?_; clear hK K) | (apply Exists.intro; refine ⟨fun x => ?_, hK _ ?_⟩; (· (fail)); clear hK K; try go_frame))
  first | (refine mix_skip 7 rfl (by kernel_rfl) rfl ?_; go_frame) | (refine mix_soft 7 rfl (by kernel_rfl) rfl (fun K hK => ?_); go_simp; first | (refine hK _ ?_; clear hK K) | (apply Exists.intro; refine ⟨fun x => ?_, hK _ ?_⟩; (· (fail)); clear hK K; try go_frame))
  first | (refine mix_skip 8 rfl (by kernel_rfl) rfl ?_; go_frame) | (refine mix_soft 8 rfl (by kernel_rfl) rfl (fun K hK => ?_); go_simp; first | (refine hK _ ?_; clear hK K) | (apply Exists.intro; refine ⟨fun x => ?_, hK _ ?_⟩; (· (fail)); clear hK K; try go_frame))
  first | (refine mix_skip 9 rfl (by kernel_rfl) rfl ?_; go_frame) | (refine mix_soft 9 rfl (by kernel_rfl) rfl (fun K hK => ?_); go_simp; first | (refine hK _ ?_; clear hK K) | (apply Exists.intro; refine ⟨fun x => ?_, hK _ ?_⟩; (· (fail)); clear hK K; try go_frame))
  clear t1 c1
  refine mix_one 4 (by kernel_rfl) ?_
  refine mix_now rfl rfl ?_; intro w1 hb_ hB_ K hK
  have hs := HS.out w1 hB_
  go_simp
  refine hK _ _ (below_le hB_ (below_box w1 (.view ⟨g, 0, none⟩ 5))) ?_
  clear hK K hb_ hB_ hs HS
  refine mix_one 10 (by kernel_rfl) ?_
  refine mix_now rfl rfl ?_; intro w2 hb_ hB_ K hK
  have hs := hUS w2 (some ⟨w1.heap.size, 0, none⟩)
  go_simp
  refine hK _ _ hB_ ?_
  clear hK K hb_ hB_ hs hUS
  refine mix_one 11 (by kernel_rfl) ?_
  refine mix_now rfl rfl ?_; intro w3 hb_ hB_ K hK; go_simp
  refine hK _ _ hB_ ?_
  clear hK K hb_ hB_
  refine mix_nil (by kernel_rfl) fun w4 hb4 hB4 => ?_
  have HE1 := Lib.hid (HE.out w w4 (Below.refl _ _) hB4)
  clear HE hb4 hB4
  go_wp2
  go_ret
  exact HE1.out

/-- String. -/
theorem bString_all (B b : Nat) (l : List UInt8) (w : World) (h : IsB B b (Lib.byteCells l) w) (hBw : B ≤ w.heap.size) :
    Calls Tryz.prog 36 #[.pointer (some ⟨b, 0, none⟩)] w (StrIs B l w) := by
  cases l with
  | cons x r =>
    have h0 : x :: r ≠ [] := by simp
    generalize x :: r = l at *
    obtain ⟨p, hB, v, hbk, hown, hne⟩ : ∃ p, IsBAt B b p (Lib.byteCells l) w := by
      rcases h with h | h
      · exact ⟨_, h⟩
      · exact ⟨_, h⟩
    have hl0 : l.length ≠ 0 := by simpa using h0
    rw [Lib.byteCells_length] at hown
    obtain ⟨g, cap, cur, rfl, hbg, hg, hnc, hcm, hcs, htake⟩ : ∃ g cap cur, v = .slice (some ⟨g, 0, none⟩) l.length cap ∧ B ≤ g ∧ w.heap[g]? = some (.cells cur 5 (0, 0)) ∧ l.length ≤ cap ∧ cap ≤ maxLen ∧ cur.size = cap * 1 ∧ cur.toList.take (l.length * 1) = Lib.byteCells l := by
      rcases hown.2 with ⟨_, hz⟩ | ⟨g, cap, cur, hv, r⟩
      · exact absurd hz hl0
      · exact ⟨g, cap, cur, hv, r⟩
    have c1 : w.cell? ⟨b, 1, none⟩ = some (.slice (some ⟨g, 0, none⟩) l.length cap) := by rw [Lib.cell_of_heap hbk]; rfl
    refine bString_at B b l (some ⟨g, 0, none⟩) l.length cap (some ⟨g, 0, none⟩) w (fun W => W.freeze ⟨g, 0, none⟩ l.length) c1 (fun W => Lib.run_unsafeSliceData_row _ _ _ _ _ _ (by omega)) (fun W hb => ?_) (fun W hb => ?_)
    · have hg' : W.heap[g]? = some (.cells cur 5 (0, 0)) := (hb.block g (Array.getElem?_eq_some_iff.1 hg).1).trans hg
      refine Lib.run_unsafeString_row W 88 3 9 5 Tryz.underlying88 byte_cells g cur.size (by simp [World.shape?, hg']) l h0 (by omega) (by unfold maxLen at hcm; omega) ?_
      intro j x hx
      exact cell_ext hb (hown.cells (g := g) rfl j (.int .u8 x.toNat) (by simp [Lib.byteCells, hx]))
    · exact ⟨rfl, Lib.below_freeze (hb.mono hBw) (p := ⟨g, 0, none⟩) hbg _, (keepsO_below hb).trans (keepsO_freeze _ _ _)⟩
  | nil =>
    obtain ⟨p, hB, v, hbk, hown, hne⟩ : ∃ p, IsBAt B b p [] w := by
      rcases h with h | h
      · exact ⟨_, h⟩
      · exact ⟨_, h⟩
    have hlt : b < w.heap.size := by
      rcases Nat.lt_or_ge b w.heap.size with h' | h'
      · exact h'
      · simp [Array.getElem?_eq_none h'] at hbk
    have hend : ∀ W : World, Below w.heap.size w W → StrIs B [] w (.returned (.string ⟨#[]⟩)) W := fun W h => ⟨rfl, h.mono hBw, keepsO_below h⟩
    rcases hown.2 with ⟨rfl, _⟩ | ⟨g, cap, cur, rfl, hbg, hg, _, _, _, _⟩
    · have c1 : w.cell? ⟨b, 1, none⟩ = some (.slice none 0 0) := by rw [Lib.cell_of_heap hbk]; rfl
      exact bString_at B b [] none 0 0 none w id c1 (fun W => rfl) (fun W _ => str_none W none) hend
    · by_cases hc0 : cap = 0
      · subst hc0
        have c1 : w.cell? ⟨b, 1, none⟩ = some (.slice (some ⟨g, 0, none⟩) 0 0) := by rw [Lib.cell_of_heap hbk]; rfl
        exact bString_noroom B b g w c1 ⟨_, hg⟩ hBw
      · have c1 : w.cell? ⟨b, 1, none⟩ = some (.slice (some ⟨g, 0, none⟩) 0 cap) := by rw [Lib.cell_of_heap hbk]; rfl
        exact bString_at B b [] (some ⟨g, 0, none⟩) 0 cap (some ⟨g, 0, none⟩) w id c1 (fun W => Lib.run_unsafeSliceData_row _ _ _ _ _ _ hc0) (fun W _ => str_none W _) hend
end Go.Proofs.YtmabokmnniiadaaGreatDoor
