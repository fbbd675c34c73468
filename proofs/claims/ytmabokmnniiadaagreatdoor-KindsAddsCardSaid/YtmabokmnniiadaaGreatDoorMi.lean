/-
  What is proved: lists of descriptors in memory, with what their cells hold, as a loop over an iterator keeps them. No condition beyond those stated.
-/
import Derived.Test.YtmabokmnniiadaaGreatDoorMf
namespace Go.Proofs.YtmabokmnniiadaaGreatDoor
open Go.RowKit

/-- A list of descriptors in memory, and what its cells hold. -/
def RowM (w : World) (A : Option Addr) (n : Nat) (ms : List MD) (ds : List DscK) : Prop :=
  ds.length = n ∧ ms.length = n ∧ (∀ (k : Nat) (d : MD) (x : DscK), ms[k]? = some d → ds[k]? = some x → Fits w d x) ∧
  (0 < n → ∃ g off, A = some ⟨g, off, none⟩ ∧ ∀ (k : Nat) (d : MD), ms[k]? = some d → ∀ (j : Nat) (u : Value), (cells4 d)[j]? = some u → w.cell? ⟨g, off + 4 * k + j, none⟩ = some u)

theorem RowD.ms {w : World} {A : Option Addr} {n : Nat} {ds : List DscK} (h : RowD w A n ds) : ∃ ms, RowM w A n ms ds := by
  rcases Nat.eq_zero_or_pos n with hn | hn
  · subst hn
    have hd : ds = [] := List.length_eq_zero_iff.1 h.1
    subst hd
    exact ⟨[], rfl, rfl, fun k d x h => by simp at h, fun h => absurd h (by omega)⟩
  · obtain ⟨g, off, hA, hc⟩ := h.2 hn
    have hl := h.1
    have hex : ∀ k : Fin n, ∃ d : MD, (∀ x, ds[k.1]? = some x → Fits w d x) ∧ ∀ (j : Nat) (u : Value), (cells4 d)[j]? = some u → w.cell? ⟨g, off + 4 * k.1 + j, none⟩ = some u := fun k => by
      have hk : ds[k.1]? = some (ds[k.1]'(by omega)) := List.getElem?_eq_getElem (by omega)
      obtain ⟨P, m, c, Q, q, f, h1, h2, h3, h4, h5, h6⟩ := hc k.1 _ hk
      refine ⟨((ds[k.1]'(by omega)).1, (P, m, c), (ds[k.1]'(by omega)).2.2.1, (Q, q, f)), fun x hx => ?_, fun j u hu => ?_⟩
      · rw [hk] at hx
        cases hx
        exact ⟨rfl, rfl, h5, h6⟩
      · match j, hu with
        | 0, hu => cases hu; exact h1
        | 1, hu => cases hu; exact h2
        | 2, hu => cases hu; exact h3
        | 3, hu => cases hu; exact h4
        | j + 4, hu => simp [cells4] at hu
    obtain ⟨f, hf⟩ := Classical.axiomOfChoice hex
    have hget : ∀ (k : Nat) (d : MD), (List.ofFn f)[k]? = some d → ∃ hk : k < n, f ⟨k, hk⟩ = d := fun k d h => by
      obtain ⟨hk, e⟩ := List.getElem?_eq_some_iff.1 h
      rw [List.length_ofFn] at hk
      exact ⟨hk, by simpa using e⟩
    refine ⟨List.ofFn f, hl, by simp, fun k d x h1 h2 => ?_, fun _ => ⟨g, off, hA, fun k d h1 => ?_⟩⟩
    · obtain ⟨hk, rfl⟩ := hget k d h1
      exact (hf ⟨k, hk⟩).1 x h2
    · obtain ⟨hk, rfl⟩ := hget k d h1
      exact (hf ⟨k, hk⟩).2

section
variable {w w' X Y : World} {A : Option Addr} {n : Nat} {ms : List MD} {ds : List DscK} {S : List Nat}
theorem RowM.rowD (h : RowM w A n ms ds) : RowD w A n ds := by
  obtain ⟨h1, h2, h3, h4⟩ := h
  refine ⟨h1, fun hn => ?_⟩
  obtain ⟨g, off, e, hc⟩ := h4 hn
  refine ⟨g, off, e, fun k x hx => ?_⟩
  have hk := (List.getElem?_eq_some_iff.1 hx).1
  have hd : ms[k]? = some (ms[k]'(by omega)) := List.getElem?_eq_getElem (by omega)
  have hf := h3 k _ x hd hx
  have hcell := hc k _ hd
  obtain ⟨e1, e2, r1, r2⟩ := hf
  exact ⟨_, _, _, _, _, _, by rw [← e1]; exact hcell 0 _ rfl, hcell 1 _ rfl, by rw [← e2]; exact hcell 2 _ rfl, hcell 3 _ rfl, r1, r2⟩
theorem RowM.ext (hb : Below w.heap.size w w') (h : RowM w A n ms ds) : RowM w' A n ms ds := by
  obtain ⟨h1, h2, h3, h4⟩ := h
  refine ⟨h1, h2, fun k d x a b => (h3 k d x a b).ext hb, fun hn => ?_⟩
  obtain ⟨g, off, e, hc⟩ := h4 hn
  exact ⟨g, off, e, fun k d hd j u hu => cell_ext hb (hc k d hd j u hu)⟩

/-- The blocks of a descriptor's lists. -/
def blkM (d : MD) : List Nat := blkR d.2.1.1 d.2.1.2.1 ++ blkR d.2.2.2.1 d.2.2.2.2.1
def blksD (A : Option Addr) (n : Nat) (ms : List MD) : List Nat := blkR A n ++ ms.flatMap blkM
theorem Fits.lt {d : MD} {x : DscK} (h : Fits w d x) : ∀ b ∈ blkM d, b < w.heap.size := by
  intro b hb
  rcases List.mem_append.1 hb with hb | hb
  · exact blkR_lt h.2.2.1 b hb
  · exact blkR_lt h.2.2.2 b hb
theorem Fits.keep {d : MD} {x : DscK} (hk : KeepB S X Y) (h : Fits X d x) (hS : ∀ b ∈ blkM d, b ∈ S) : Fits Y d x :=
  ⟨h.1, h.2.1, hk.rowR h.2.2.1 (fun b hb => hS b (List.mem_append_left _ hb)), hk.rowR h.2.2.2 (fun b hb => hS b (List.mem_append_right _ hb))⟩
theorem RowM.lt (h : RowM w A n ms ds) : ∀ b ∈ blksD A n ms, b < w.heap.size := by
  obtain ⟨h1, h2, h3, h4⟩ := h
  intro b hb
  rcases List.mem_append.1 hb with hb | hb
  · unfold blkR at hb
    split at hb
    · rename_i hn
      obtain ⟨g, off, e, hc⟩ := h4 hn
      subst e
      simp [blkA] at hb
      subst hb
      have hd : ms[0]? = some (ms[0]'(by omega)) := List.getElem?_eq_getElem (by omega)
      exact lt_of_cell (hc 0 _ hd 0 _ rfl)
    · simp at hb
  · obtain ⟨d, hd, hb⟩ := List.mem_flatMap.1 hb
    obtain ⟨k, hk, e⟩ := List.getElem_of_mem hd
    have hx : ds[k]? = some (ds[k]'(by omega)) := List.getElem?_eq_getElem (by omega)
    exact (h3 k d _ (by rw [← e]; exact List.getElem?_eq_getElem hk) hx).lt b hb
theorem RowM.keep (hk : KeepB S X Y) (h : RowM X A n ms ds) (hS : ∀ b ∈ blksD A n ms, b ∈ S) : RowM Y A n ms ds := by
  obtain ⟨h1, h2, h3, h4⟩ := h
  refine ⟨h1, h2, fun k d x a b => (h3 k d x a b).keep hk fun c hc => hS c (List.mem_append_right _ (List.mem_flatMap.2 ⟨d, List.mem_of_getElem? a, hc⟩)), fun hn => ?_⟩
  obtain ⟨g, off, e, hc⟩ := h4 hn
  subst e
  exact ⟨g, off, rfl, fun k d hd j u hu => hk.cell (hS g (List.mem_append_left _ (by simp [blkR, hn, blkA]))) (hc k d hd j u hu)⟩
/-- The one at a place. -/
theorem RowM.at_ {k : Nat} (h : RowM w A n ms ds) (hk : k < n) : ∃ g off z P m c e Q q f ps es, A = some ⟨g, off, none⟩ ∧ ms[k]? = some (z, (P, m, c), e, (Q, q, f)) ∧ ds[k]? = some (z, ps, e, es) ∧ Row w P m (ps.map Iv) ∧ Row w Q q (es.map Iv) ∧
    w.cell? ⟨g, off + 4 * k, none⟩ = some (.int .i64 z) ∧ w.cell? ⟨g, off + 4 * k + 1, none⟩ = some (.slice P m c) ∧ w.cell? ⟨g, off + 4 * k + 2, none⟩ = some (.int .i64 e) ∧ w.cell? ⟨g, off + 4 * k + 3, none⟩ = some (.slice Q q f) := by
  obtain ⟨h1, h2, h3, h4⟩ := h
  obtain ⟨g, off, e, hc⟩ := h4 (by omega)
  have hd : ms[k]? = some (ms[k]'(by omega)) := List.getElem?_eq_getElem (by omega)
  have hx : ds[k]? = some (ds[k]'(by omega)) := List.getElem?_eq_getElem (by omega)
  have hf := h3 k _ _ hd hx
  have hcell := hc k _ hd
  generalize ms[k]'(by omega) = d at *
  generalize ds[k]'(by omega) = x at *
  obtain ⟨z, ⟨P, m, c⟩, y, Q, q, f⟩ := d
  obtain ⟨z', ps, y', es⟩ := x
  obtain ⟨e1, e2, r1, r2⟩ := hf
  dsimp only at e1 e2 r1 r2
  subst e1 e2
  exact ⟨g, off, z, P, m, c, y, Q, q, f, ps, es, e, hd, hx, r1, r2, hcell 0 _ rfl, hcell 1 _ rfl, hcell 2 _ rfl, hcell 3 _ rfl⟩
end
/-- A descriptor as a value. -/
def mdV (d : MD) : Value := .agg #[.int .i64 d.1, .slice d.2.1.1 d.2.1.2.1 d.2.1.2.2, .int .i64 d.2.2.1, .slice d.2.2.2.1 d.2.2.2.2.1 d.2.2.2.2.2]
def md0 : MD := (0, (none, 0, 0), 0, (none, 0, 0))
end Go.Proofs.YtmabokmnniiadaaGreatDoor
