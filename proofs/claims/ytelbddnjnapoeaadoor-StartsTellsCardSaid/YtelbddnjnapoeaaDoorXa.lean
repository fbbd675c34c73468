/-
  What is proved: contracts of those functions that this program has, and plain facts beside them. No condition beyond those stated.
-/
import Derived.Test.YtelbddnjnapoeaaDoorWa
import Derived.Test.YtelbddnjnapoeaaDoorMix
namespace Go.Proofs.YtelbddnjnapoeaaDoor
open Go.RowKit Go.Shelf

def noneW (n : Int) : List Nat := List.replicate ((n.toNat + 31) / 32) 0
theorem tb_none (n : Int) (k : Nat) : tb (noneW n) k = false := by
  unfold tb noneW
  rw [List.getD_eq_getElem?_getD, List.getElem?_replicate]
  split <;> simp
theorem fits_none (n : Int) : Fits (noneW n) := fun x hx => by
  rw [(List.mem_replicate.1 hx).2]; omega
theorem right_none {n : Int} (h0 : 0 ≤ n) (h1 : n ≤ 20000) : rightB n (noneW n) = true := by
  refine rightB_intro h0 h1 (by simp [noneW]) ?_
  right
  have : (noneW n).getD ((noneW n).length - 1) 0 = 0 := by
    unfold noneW
    rw [List.getD_eq_getElem?_getD, List.getElem?_replicate]
    split <;> simp
  rw [this]
  exact Nat.two_pow_pos _
theorem back_right {n : Int} {ws : List Nat} (hr : rightB n ws = true) (k : Nat) : rightB n (fillW (noneW n) ((listN n ws).take k) true) = true := by
  obtain ⟨h0, h1, _, _⟩ := rightB_elim hr
  exact right_fill _ _ (right_none h0 h1) fun i hi => ((mem_list hr i).1 (List.mem_of_mem_take hi)).1
theorem back_law {n : Int} {ws : List Nat} (hr : rightB n ws = true) (hF : Fits ws) : fillW (noneW n) (listN n ws) true = ws := by
  obtain ⟨h0, h1, h2, _⟩ := rightB_elim hr
  refine tb_ext (by rw [length_fillW, h2]; simp [noneW]) (fits_fillW (fits_none n) _ _) hF fun k => ?_
  rw [tb_fill _ _ (fun i hi => by have := ((mem_list hr i).1 hi).1; simp [noneW]; omega), tb_none]
  split
  · rename_i h; exact ((mem_list hr k).1 h).2.symm
  · rename_i h
    rcases Int.lt_or_le (k : Int) n with hk | hk
    · cases e : tb ws k
      · rfl
      · exact absurd ((mem_list hr k).2 ⟨hk, e⟩) h
    · exact (right_high hr k hk).symm
theorem back_step {n : Int} {ws : List Nat} {k x : Nat} (hx : (listN n ws)[k]? = some x) : setW (fillW (noneW n) ((listN n ws).take k) true) x true = fillW (noneW n) ((listN n ws).take (k + 1)) true := by
  obtain ⟨hk, rfl⟩ := List.getElem?_eq_some_iff.1 hx
  rw [List.take_succ_eq_append_getElem hk, fillW_snoc]

/-- Words lie in no box of bits. -/
theorem Row.unbox {w : World} {A : Option Addr} {m : Nat} {ws : List Nat} (h : Row w A m (ws.map U32)) {g : Nat} {t : TypeId} {n : Int} {v : Value} (hv : ∀ x, v ≠ U32 x) (hg : Blk w g t #[.int .i64 n, v]) (i : Nat) (u : Value) : Row (w.setCell ⟨g, i, none⟩ u) A m (ws.map U32) := by
  refine ⟨h.1, fun hm => ?_⟩
  obtain ⟨b, off, rfl, hc⟩ := h.2 hm
  have hl := h.1
  simp at hl
  have hne : b ≠ g := by
    rintro rfl
    have h0 := hc 0 (U32 (ws.getD 0 0)) (by simp; exact ⟨_, by rw [List.getElem?_eq_getElem (by omega)]; rfl, rfl⟩)
    rw [hg.cell] at h0
    match hoff : off + 0 with
    | 0 => rw [hoff] at h0; simp [U32] at h0
    | 1 => rw [hoff] at h0; simp at h0; exact hv _ h0
    | k + 2 => rw [hoff] at h0; simp at h0
  exact ⟨b, off, rfl, fun j v hv => by
    rw [World.cell?_setCell_other w _ _ u (fun e => hne (by cases e; rfl))]
    exact hc j v hv⟩

/-- Some bits, some number. -/
def GivesSome (w : World) (e : Ending) (w' : World) : Prop := ∃ code n us, GivesBits w code n us e w'
theorem make_some (n : Int) (aA aB aP : Addr) (w : World) (hS : BSent w aA aB aP) : Calls Tryd.prog 33 #[.int .i64 n] w (GivesSome w) := by
  by_cases h0 : 0 ≤ n
  · by_cases h1 : n ≤ 20000
    · exact (make_ok n aA aB aP w hS h0 h1).mono fun _ _ h => ⟨_, _, _, h⟩
    · exact (make_bad n aA aB aP w hS (by omega)).mono fun _ _ h => ⟨_, _, _, h⟩
  · exact (make_bad n aA aB aP w hS (by omega)).mono fun _ _ h => ⟨_, _, _, h⟩

/-- What holds from round to round. -/
def BackI (w w7 : World) (cb : Nat) (n : Int) (us : List Nat) (wr : World) : Prop :=
  ∃ C q f, Blk wr cb 24 #[.int .i64 n, .slice C q f] ∧ Row wr C q (us.map U32) ∧ Below w.heap.size w wr ∧ w7.grownBy wr (some cb)

theorem Row.grown {w w1 : World} {B : Nat} (hg : w.grownBy w1 (some B)) {A : Option Addr} {m : Nat} {xs : List Value} (h : Row w A m xs) (hA : ∀ a, A = some a → a.block ≠ B) : Row w1 A m xs :=
  ⟨h.1, fun hm => by
    obtain ⟨b, off, e, hc⟩ := h.2 hm
    exact ⟨b, off, e, fun j u hu => cell_grown hg (hc j u hu) (hA ⟨b, off, none⟩ e)⟩⟩


end Go.Proofs.YtelbddnjnapoeaaDoor
