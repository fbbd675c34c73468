/-
  What is proved: what a loop over an iterator keeps, named by its blocks; small facts of new blocks. No condition beyond those stated.
-/
import Derived.Test.YtmabokmnniiadaaGreatDoorRi
import Derived.Test.YtmabokmnniiadaaGreatDoorApp
import Derived.RangeFuncNested
import Derived.RangeFuncBound
import Derived.RangeFuncCalls
import Derived.RangeFuncLeaves
import Derived.Shelf.Abstract
import Derived.OwnWalkIn
import Derived.TacticsInMore
import Derived.LoopNIn
import Derived.LoopIn
namespace Go.Proofs.YtmabokmnniiadaaGreatDoor
open Go.RowKit Go.Shelf
attribute [local go_sem] Oper.semAt_some

theorem heap_new {w : World} {g : Nat} (hg : w.heap.size = g) (o : Obj) : (w.alloc o).heap[g]? = some o := by
  subst hg
  exact heap_alloc_new w o
theorem below_box (w : World) (o : Obj) : Below w.heap.size w (w.alloc o) := (Below.refl _ _).alloc (Nat.le_refl _) _
theorem cell_one {w : World} {t : TypeId} {v : Value} : (w.alloc (.cells #[v] t)).cell? ⟨w.heap.size, 0, none⟩ = some v := by simp [go_sem]
theorem grown_set (w : World) (B k : Nat) (u : Value) : w.grownBy (w.setCell ⟨B, k, none⟩ u) (some B) :=
  ⟨rfl, rfl, rfl, by simp [World.setCell], fun i _ hi => Below.heap_setCell _ _ _ i (fun e => hi (by rw [e]))⟩

/-- Some blocks are what they were. -/
def KeepB (S : List Nat) (W W' : World) : Prop := ∀ b ∈ S, W'.heap[b]? = W.heap[b]?
section
variable {S : List Nat} {X Y Z : World}
theorem KeepB.refl (S : List Nat) (W : World) : KeepB S W W := fun _ _ => rfl
theorem KeepB.t (h : KeepB S X Y) (k : KeepB S Y Z) : KeepB S X Z := fun b hb => (k b hb).trans (h b hb)
theorem KeepB.cell (h : KeepB S X Y) {b o : Nat} {v : Value} (hb : b ∈ S) (hc : X.cell? ⟨b, o, none⟩ = some v) : Y.cell? ⟨b, o, none⟩ = some v := (World.cell?_of_block (w := X) (h b hb)).trans hc
theorem KeepB.blk (h : KeepB S X Y) {b : Nat} {t : TypeId} {cs : Array Value} (hb : b ∈ S) (hc : Blk X b t cs) : Blk Y b t cs := (h b hb).trans hc
theorem KeepB.row (h : KeepB S X Y) {A : Option Addr} {n : Nat} {xs : List Value} (hR : Row X A n xs) (hA : ∀ a, A = some a → a.block ∈ S) : Row Y A n xs :=
  ⟨hR.1, fun hn => by
    obtain ⟨b, off, e, hc⟩ := hR.2 hn
    exact ⟨b, off, e, fun j u hu => h.cell (hA _ e) (hc j u hu)⟩⟩
theorem KeepB.b {w : World} (hS : ∀ b ∈ S, b < w.heap.size) (W : World) (l : Nat) (o o' : Obj) (hl : w.heap.size ≤ l) (_ : W.heap[l]? = some o) (_ : o.isCells = false) (_ : o.isWalk = false) : KeepB S W (W.putObj l o') :=
  fun b hb => World.putObj_heap_other (by have := hS b hb; omega)
theorem KeepB.of_below {n : Nat} (h : Below n X Y) (hS : ∀ b ∈ S, b < n) : KeepB S X Y := fun b hb => h.block b (hS b hb)
theorem KeepB.of_grown {row : Option Nat} (h : X.grownBy Y row) (hS : ∀ b ∈ S, b < X.heap.size ∧ some b ≠ row) : KeepB S X Y := fun b hb => h.block b (hS b hb).1 (hS b hb).2
theorem KeepB.less {T : List Nat} (h : KeepB S X Y) (hT : ∀ b ∈ T, b ∈ S) : KeepB T X Y := fun b hb => h b (hT b hb)
end

/-- The blocks of a slice's cells. -/
def blkA (A : Option Addr) : List Nat := match A with | some a => [a.block] | none => []
theorem mem_blkA {A : Option Addr} : ∀ a, A = some a → a.block ∈ blkA A := fun a e => by subst e; simp [blkA]
theorem blkA_lt {w : World} {A : Option Addr} {n : Nat} {xs : List Value} (hR : Row w A n xs) (hn : 0 < n) : ∀ b ∈ blkA A, b < w.heap.size := by
  obtain ⟨b, off, e, hc⟩ := hR.at_ hn
  subst e
  intro x hx
  simp [blkA] at hx
  subst hx
  exact lt_of_cell hc
/-- A slice's cells, where there are some. -/
def blkR (A : Option Addr) (n : Nat) : List Nat := if 0 < n then blkA A else []
theorem blkR_lt {w : World} {A : Option Addr} {n : Nat} {xs : List Value} (hR : Row w A n xs) : ∀ b ∈ blkR A n, b < w.heap.size := by
  unfold blkR
  split
  · rename_i h; exact blkA_lt hR h
  · simp
theorem KeepB.rowR {S : List Nat} {X Y : World} (h : KeepB S X Y) {A : Option Addr} {n : Nat} {xs : List Value} (hR : Row X A n xs) (hA : ∀ b ∈ blkR A n, b ∈ S) : Row Y A n xs :=
  ⟨hR.1, fun hn => by
    obtain ⟨b, off, e, hc⟩ := hR.2 hn
    subst e
    exact ⟨b, off, rfl, fun j u hu => h.cell (hA b (by simp [blkR, hn, blkA])) (hc j u hu)⟩⟩

/-- How an iterator ends. -/
def SeqEnd {α : Type} (S Sp : List α → Prop) (J Jx : List α → World → Prop) (e : Ending) (W' : World) : Prop :=
  (∃ v, e = .returned v) ∧ ((∃ xs, S xs ∧ J xs W') ∨ (∃ pre, Sp pre ∧ Jx pre W'))
theorem fin_take_succ (m k : Nat) (hk : k < m) : (List.finRange m).take (k + 1) = (List.finRange m).take k ++ [⟨k, hk⟩] := by
  rw [List.take_succ_eq_append_getElem (by simpa using hk)]
  simp
theorem fin_take_all (m : Nat) : (List.finRange m).take m = List.finRange m := List.take_of_length_le (by simp)
/-- What has come by, as a prefix of all. -/
theorem fin_take_mem (m k : Nat) (x : Fin m) : x ∈ (List.finRange m).take k ↔ x.1 < k := by
  rw [List.mem_take_iff_getElem]
  constructor
  · rintro ⟨i, hi, rfl⟩
    simp at hi ⊢
    omega
  · intro h
    exact ⟨x.1, by have := x.2; simp; omega, by simp⟩

/-- What only speaks of blocks below n abides what the loop itself does. -/
theorem ownFrom_low {β : Type} (n : Nat) (I : β → World → Prop) (hsz : ∀ s X, I s X → n ≤ X.heap.size) (hlow : ∀ s X Y, I s X → Below n X Y → I s Y) : OwnFrom n I := fun s X Y _ hs hg hr =>
  hlow s X Y hs ((Below.refl n X).grown hg (hsz s X hs) (fun k e => (hr k e).1))
theorem keepsFrom_below {B : Nat} {W W' : World} (h : Below W.heap.size W W') : KeepsFrom B W W' := KeepsFrom.of_grownBy (row := none) ⟨h.os, h.tape, h.output, h.size, fun i hi _ => h.block i hi⟩ (fun _ e => by cases e)
/-- A block of cells stays where only what is no cells is changed. -/
theorem Blk.own {W W' : World} {g : Nat} {t : TypeId} {cs : Array Value} {row : Option Nat} {B : Nat} (h : Blk W g t cs) (hg : W.grownBy W' row) (hr : ∀ r, row = some r → B ≤ r ∧ ∃ o : Obj, W.heap[r]? = some o ∧ o.isCells = false) : Blk W' g t cs := by
  refine (hg.block g h.lt fun e => ?_).trans h
  obtain ⟨_, o, ho, hc⟩ := hr g e.symm
  unfold Blk at h
  rw [h] at ho
  cases ho
  simp [Obj.isCells] at hc
theorem Row.own {W W' : World} {A : Option Addr} {n : Nat} {xs : List Value} {row : Option Nat} {B : Nat} (h : Row W A n xs) (hg : W.grownBy W' row) (hr : ∀ r, row = some r → B ≤ r ∧ ∃ o : Obj, W.heap[r]? = some o ∧ o.isCells = false) : Row W' A n xs :=
  ⟨h.1, fun hn => by
    obtain ⟨b, off, e, hc⟩ := h.2 hn
    refine ⟨b, off, e, fun j u hu => ?_⟩
    have h1 := hc j u hu
    refine (World.cell?_of_block (w := W) (hg.block b (lt_of_cell h1) fun e2 => ?_)).trans h1
    obtain ⟨_, o, ho, hcs⟩ := hr b e2.symm
    cases o <;> simp [World.cell?, ho, Obj.isCells] at h1 hcs⟩
theorem below_set {n : Nat} {X Y : World} (h : Below n X Y) (p : Addr) (v : Value) : Below n (X.setCell p v) (Y.setCell p v) :=
  ⟨h.os, h.tape, h.output, by simpa [World.setCell] using h.size, fun i hi => by simp [World.setCell, Array.getElem?_modify, h.block i hi]⟩
theorem Blk.at_ {w : World} {g : Nat} {t : TypeId} {cs : Array Value} {i : Nat} {v : Value} (h : Blk w g t cs) (hv : cs[i]? = some v) : w.cell? ⟨g, i, none⟩ = some v := (h.cell i).trans hv
/-- Four and five cells, set one by one. -/
theorem Blk.set4 {w : World} {g : Nat} {t : TypeId} {a b c d : Value} (h : Blk w g t #[a, b, c, d]) (v0 v1 v2 v3 : Value) : Blk ((((w.setCell ⟨g, 0, none⟩ v0).setCell ⟨g, 1, none⟩ v1).setCell ⟨g, 2, none⟩ v2).setCell ⟨g, 3, none⟩ v3) g t #[v0, v1, v2, v3] := by
  simpa using (((h.set_ 0 v0).set_ 1 v1).set_ 2 v2).set_ 3 v3
theorem Blk.set5 {w : World} {g : Nat} {t : TypeId} {a b c d e : Value} (h : Blk w g t #[a, b, c, d, e]) (v0 v1 v2 v3 v4 : Value) : Blk (((((w.setCell ⟨g, 0, none⟩ v0).setCell ⟨g, 1, none⟩ v1).setCell ⟨g, 2, none⟩ v2).setCell ⟨g, 3, none⟩ v3).setCell ⟨g, 4, none⟩ v4) g t #[v0, v1, v2, v3, v4] := by
  simpa using ((((h.set_ 0 v0).set_ 1 v1).set_ 2 v2).set_ 3 v3).set_ 4 v4
theorem below_set4 {B g : Nat} {a w : World} (h : Below B a w) (hg : B ≤ g) (v0 v1 v2 v3 : Value) : Below B a ((((w.setCell ⟨g, 0, none⟩ v0).setCell ⟨g, 1, none⟩ v1).setCell ⟨g, 2, none⟩ v2).setCell ⟨g, 3, none⟩ v3) :=
  (((h.setCell (p := ⟨g, 0, none⟩) hg v0).setCell (p := ⟨g, 1, none⟩) hg v1).setCell (p := ⟨g, 2, none⟩) hg v2).setCell (p := ⟨g, 3, none⟩) hg v3
theorem below_set5 {B g : Nat} {a w : World} (h : Below B a w) (hg : B ≤ g) (v0 v1 v2 v3 v4 : Value) : Below B a (((((w.setCell ⟨g, 0, none⟩ v0).setCell ⟨g, 1, none⟩ v1).setCell ⟨g, 2, none⟩ v2).setCell ⟨g, 3, none⟩ v3).setCell ⟨g, 4, none⟩ v4) :=
  (below_set4 h hg v0 v1 v2 v3).setCell (p := ⟨g, 4, none⟩) hg v4
theorem far_set4 {w : World} {g b : Nat} {t : TypeId} {cs : Array Value} (h : Blk w b t cs) (hg : b ≠ g) (v0 v1 v2 v3 : Value) : Blk ((((w.setCell ⟨g, 0, none⟩ v0).setCell ⟨g, 1, none⟩ v1).setCell ⟨g, 2, none⟩ v2).setCell ⟨g, 3, none⟩ v3) b t cs :=
  (((h.far (p := ⟨g, 0, none⟩) hg v0).far (p := ⟨g, 1, none⟩) hg v1).far (p := ⟨g, 2, none⟩) hg v2).far (p := ⟨g, 3, none⟩) hg v3
theorem far_set5 {w : World} {g b : Nat} {t : TypeId} {cs : Array Value} (h : Blk w b t cs) (hg : b ≠ g) (v0 v1 v2 v3 v4 : Value) : Blk (((((w.setCell ⟨g, 0, none⟩ v0).setCell ⟨g, 1, none⟩ v1).setCell ⟨g, 2, none⟩ v2).setCell ⟨g, 3, none⟩ v3).setCell ⟨g, 4, none⟩ v4) b t cs :=
  (far_set4 h hg v0 v1 v2 v3).far (p := ⟨g, 4, none⟩) hg v4
theorem heap_set4 (w : World) {g b : Nat} (hg : b ≠ g) (v0 v1 v2 v3 : Value) : ((((w.setCell ⟨g, 0, none⟩ v0).setCell ⟨g, 1, none⟩ v1).setCell ⟨g, 2, none⟩ v2).setCell ⟨g, 3, none⟩ v3).heap[b]? = w.heap[b]? :=
  (Below.heap_setCell _ ⟨g, 3, none⟩ _ b hg).trans ((Below.heap_setCell _ ⟨g, 2, none⟩ _ b hg).trans ((Below.heap_setCell _ ⟨g, 1, none⟩ _ b hg).trans (Below.heap_setCell _ ⟨g, 0, none⟩ _ b hg)))
theorem heap_set5 (w : World) {g b : Nat} (hg : b ≠ g) (v0 v1 v2 v3 v4 : Value) : (((((w.setCell ⟨g, 0, none⟩ v0).setCell ⟨g, 1, none⟩ v1).setCell ⟨g, 2, none⟩ v2).setCell ⟨g, 3, none⟩ v3).setCell ⟨g, 4, none⟩ v4).heap[b]? = w.heap[b]? :=
  (Below.heap_setCell _ ⟨g, 4, none⟩ _ b hg).trans (heap_set4 w hg v0 v1 v2 v3)
theorem below_drew {n : Nat} (X : World) : Below n X X.drew := ⟨rfl, rfl, rfl, Nat.le_refl _, fun _ _ => rfl⟩

end Go.Proofs.YtmabokmnniiadaaGreatDoor
