/-
  What is proved: append of a list that reads as numbers onto a row of the call's own; a row of the call's own with one cell set. No condition beyond those stated.
-/
import Derived.Test.YtmabokmnniiadaaGreatDoorMix
import Derived.Maps.AppendAt
import Derived.Deep.AppendLies
import Derived.OwnWalk
namespace Go.Proofs.YtmabokmnniiadaaGreatDoor
open Go.RowKit

section
variable {P : Program}

theorem run_append_nil (w : World) (base : Nat) (t ty e : TypeId) (i : TypeInfo) (ht : P.underlying t = some (.slice e)) (hi : P.info? e = some i)
    (v : Value) (n : Nat) (xs : List Value) (hown : w.ownsRow base e 1 v n xs) (c : Nat) : (Builtin.append_ #[t, t] ty #[v, .slice none 0 c]).run P w = .ok v w := by
  rcases hown.2 with ⟨rfl, rfl⟩ | ⟨g, cap, cur, rfl, _, _, hnc, _⟩
  · simp [Builtin.append_, run_underlying ht, sizeOf, typeInfo, hi, Builtin.lenOf, Builtin.firstCells]
  · simp [Builtin.append_, run_underlying ht, sizeOf, typeInfo, hi, Builtin.lenOf, Builtin.firstCells, hnc, storeCells]

theorem addr_add (b off j : Nat) : (⟨b, off, none⟩ : Addr).add j = ⟨b, off + j, none⟩ := by
  unfold Addr.add
  by_cases h : j = 0 <;> simp [h]

/-- append of what a Row holds. -/
theorem run_append_row (w : World) (base : Nat) (t ty e : TypeId) (i : TypeInfo) (z : Value) (bytes : Nat) (ht : P.underlying t = some (.slice e)) (hi : P.info? e = some i) (hz : i.zero = some z)
    (hsize : i.size = 1) (hby : i.bytes = bytes) (hzs : z.cells.size = 1) (v : Value) (n : Nat) (xs : List Value) (hown : w.ownsRow base e 1 v n xs)
    (A : Option Addr) (m c : Nat) (news : List Value) (hr : Row w A m news) (h1 : ∀ u ∈ news, u.oneCell' = true)
    (h63 : n + m ≤ maxLen) (hbytes : (n + m) * bytes ≤ 140737488355328) (hbase : base ≤ w.heap.size) :
    ∃ v' w', (Builtin.append_ #[t, t] ty #[v, .slice A m c]).run P w = .ok v' w' ∧ w'.ownsRow base e 1 v' (n + m) (xs ++ news) ∧ w.grownBy w' v.ownBlock := by
  rcases Nat.eq_zero_or_pos m with h0 | h0
  · subst h0
    obtain rfl : news = [] := List.eq_nil_of_length_eq_zero hr.1
    rcases A with _ | ad
    · exact ⟨v, w, run_append_nil w base t ty e i ht hi v n xs hown c, by simpa using hown, World.grownBy.refl w _⟩
    · obtain ⟨v', w', hrun, h2, h3, _, _⟩ := run_append_own_at (P := P) w base t ty e i z 1 bytes ht hi hz hsize hby hzs (by omega) v n xs hown ad 0 c [] rfl (by simp) h1 h63 hbytes hbase
      exact ⟨v', w', hrun, h2, h3⟩
  · obtain ⟨b, off, rfl, hc⟩ := hr.2 h0
    obtain ⟨v', w', hrun, h2, h3, _, _⟩ := run_append_own_at (P := P) w base t ty e i z 1 bytes ht hi hz hsize hby hzs (by omega) v n xs hown ⟨b, off, none⟩ m c news (by have := hr.1; omega)
      (fun j u hu => by rw [addr_add]; exact hc j u hu) h1 h63 hbytes hbase
    exact ⟨v', w', hrun, h2, h3⟩

theorem wp_append_row {o : Oper} {a : Act} {K : Act → World → Prop} {Q : Exit → Act → World → Prop} (w : World) (s x : Operand) (t : TypeId)
    (ho : o.op = .call { callee := .builtin .append, args := #[s, x], argTypes := #[t, t] })
    (base : Nat) (e : TypeId) (i : TypeInfo) (z : Value) (bytes : Nat) (ht : P.underlying t = some (.slice e)) (hi : P.info? e = some i) (hz : i.zero = some z)
    (hsize : i.size = 1) (hby : i.bytes = bytes) (hzs : z.cells.size = 1) (v : Value) (n : Nat) (xs : List Value) (hs : a.eval s = v) (hown : w.ownsRow base e 1 v n xs)
    (A : Option Addr) (m c : Nat) (news : List Value) (hx : a.eval x = .slice A m c) (hr : Row w A m news) (h1 : ∀ u ∈ news, u.oneCell' = true)
    (h63 : n + m ≤ maxLen) (hbytes : (n + m) * bytes ≤ 140737488355328) (hbase : base ≤ w.heap.size)
    (h : ∀ v' w', w'.ownsRow base e 1 v' (n + m) (xs ++ news) → w.grownBy w' v.ownBlock → K (a.put o.dst v') w') : o.wp P a w K Q := by
  obtain ⟨v', w', hrun, h2, h3⟩ := run_append_row (P := P) w base t o.type e i z bytes ht hi hz hsize hby hzs v n xs hown A m c news hr h1 h63 hbytes hbase
  unfold Oper.wp execOp
  simp only [ho, resolve, invoke, builtin, Sem.run_bind, Sem.run_pure, Result.andThen_ok, List.map_toArray, List.map_cons, List.map_nil, hs, hx, hrun]
  exact h v' w' h2 h3

theorem wpList_append_row {ops : Array Oper} {rest : List Oper} {o : Oper} {a : Act} {Q : Exit → Act → World → Prop} (w : World) (hgd : o.guard = none) (s x : Operand) (t : TypeId)
    (ho : o.op = .call { callee := .builtin .append, args := #[s, x], argTypes := #[t, t] })
    (base : Nat) (e : TypeId) (i : TypeInfo) (z : Value) (bytes : Nat) (ht : P.underlying t = some (.slice e)) (hi : P.info? e = some i) (hz : i.zero = some z)
    (hsize : i.size = 1) (hby : i.bytes = bytes) (hzs : z.cells.size = 1) (v : Value) (n : Nat) (xs : List Value) (hs : a.eval s = v) (hown : w.ownsRow base e 1 v n xs)
    (A : Option Addr) (m c : Nat) (news : List Value) (hx : a.eval x = .slice A m c) (hr : Row w A m news) (h1 : ∀ u ∈ news, u.oneCell' = true)
    (h63 : n + m ≤ maxLen) (hbytes : (n + m) * bytes ≤ 140737488355328) (hbase : base ≤ w.heap.size)
    (h : ∀ v' w', w'.ownsRow base e 1 v' (n + m) (xs ++ news) → w.grownBy w' v.ownBlock → wpList P ops Q rest (a.put o.dst v') w') : wpList P ops Q (o :: rest) a w :=
  wpList_plain hgd fun _ hK => wp_append_row w s x t ho base e i z bytes ht hi hz hsize hby hzs v n xs hs hown A m c news hx hr h1 h63 hbytes hbase fun v' w' h2 h3 => hK _ _ (h v' w' h2 h3)
end

theorem own_ne {W : World} {base : Nat} {e t : TypeId} {v : Value} {n g : Nat} {xs : List Value} {cs : Array Value} (h : W.ownsRow base e 1 v n xs) (hg : Blk W g t cs) (hne : e ≠ t) : some g ≠ v.ownBlock := by
  intro hv
  rcases h.2 with ⟨rfl, _⟩ | ⟨g', cap, cur, rfl, _, h1, _⟩
  · cases hv
  · injection hv with hv
    simp at hv
    subst hv
    unfold Blk at hg
    rw [h1] at hg
    injection hg with hg
    injection hg
    contradiction
theorem own_base {W : World} {base : Nat} {e : TypeId} {v : Value} {n g : Nat} {xs : List Value} (h : W.ownsRow base e 1 v n xs) (hv : v.ownBlock = some g) : base ≤ g := by
  rcases h.2 with ⟨rfl, _⟩ | ⟨g', cap, cur, rfl, hb, _⟩
  · cases hv
  · injection hv with hv
    simp at hv
    omega

theorem own_ext {w w' : World} {base : Nat} {e : TypeId} {v : Value} {n : Nat} {xs : List Value} (hb : Below w.heap.size w w') (h : w.ownsRow base e 1 v n xs) : w'.ownsRow base e 1 v n xs :=
  h.kept (row := none) ⟨hb.os, hb.tape, hb.output, hb.size, fun i hi _ => hb.block i hi⟩ (by cases v.ownBlock <;> simp)

/-- append, in a region that is walked step by step. -/
theorem mix_append {P : Program} {md : Region.Mode} {l : List Oper} {Q : Exit → Act → World → Prop} {w0 : World} {f i : Nat} {done : List Nat} {a : Act} {w : World} {o : Oper} (ho : l[i]? = some o) (hw : Region.wanted o (yielded l.toArray a.tmps) = true)
    (s x : Operand) (t : TypeId) (hop : o.op = .call { callee := .builtin .append, args := #[s, x], argTypes := #[t, t] })
    (base : Nat) (e : TypeId) (inf : TypeInfo) (z : Value) (bytes : Nat) (ht : P.underlying t = some (.slice e)) (hi : P.info? e = some inf) (hz : inf.zero = some z)
    (hsize : inf.size = 1) (hby : inf.bytes = bytes) (hzs : z.cells.size = 1) (v : Value) (n : Nat) (xs : List Value) (hs : a.eval s = v) (hown : w.ownsRow base e 1 v n xs)
    (A : Option Addr) (m c : Nat) (news : List Value) (hx : a.eval x = .slice A m c) (hr : Row w A m news) (h1 : ∀ u ∈ news, u.oneCell' = true)
    (h63 : n + m ≤ maxLen) (hbytes : (n + m) * bytes ≤ 140737488355328) (hbase : base ≤ w.heap.size) (hwb : w0.heap.size ≤ base)
    (h : ∀ v' w1 w', Below w.heap.size w w1 → Below w0.heap.size w0 w' → w'.ownsRow base e 1 v' (n + m) (xs ++ news) → w1.grownBy w' v.ownBlock → wpMix P md l.toArray Q w0 f (mark l.toArray.size (i :: done)) (a.put o.dst v') w') :
    wpNow P md l Q w0 f i done a w := by
  refine mix_now ho hw fun w1 hb hB K hK => ?_
  have hown1 : w1.ownsRow base e 1 v n xs := hown.kept (row := none) ⟨hb.os, hb.tape, hb.output, hb.size, fun i hi _ => hb.block i hi⟩ (by cases v.ownBlock <;> simp)
  refine wp_append_row w1 s x t hop base e inf z bytes ht hi hz hsize hby hzs v n xs hs hown1 A m c news hx (hr.ext hb) h1 h63 hbytes (Nat.le_trans hbase hb.size) fun v' w' h2 h3 => ?_
  have hB' : Below w0.heap.size w0 w' := hB.trans ((Below.refl _ _).grown h3 hB.size fun k e => Nat.le_trans hwb (own_base hown e))
  exact hK _ _ hB' (h v' w1 w' hb hB' h2 h3)

/-- A list of the call's own, in a block of the element type t, from block base on. -/
def Own (t : TypeId) (w : World) (base : Nat) (C : Option Addr) (m : Nat) (xs : List Value) : Prop :=
  xs.length = m ∧ (0 < m → ∃ g cur, C = some ⟨g, 0, none⟩ ∧ base ≤ g ∧ Blk w g t cur ∧ m ≤ cur.size ∧ cur.toList.take m = xs)

section
variable {t : TypeId} {w w' : World} {base m : Nat} {C : Option Addr} {xs : List Value}
theorem Own.row (h : Own t w base C m xs) : Row w C m xs :=
  ⟨h.1, fun hm => by
    obtain ⟨g, cur, e, _, hb, _, ht⟩ := h.2 hm
    refine ⟨g, 0, e, fun j u hu => ?_⟩
    rw [Nat.zero_add, hb.cell]
    rw [← ht, List.getElem?_take] at hu
    split at hu
    · simpa using hu
    · cases hu⟩
theorem Own.ext (hb : Below w.heap.size w w') (h : Own t w base C m xs) : Own t w' base C m xs :=
  ⟨h.1, fun hm => by
    obtain ⟨g, cur, e, h1, h2, h3⟩ := h.2 hm
    exact ⟨g, cur, e, h1, h2.ext hb, h3⟩⟩
theorem Own.of_row {v : Value} {n : Nat} (h : w.ownsRow base t 1 v n xs) : ∃ C c, v = .slice C n c ∧ Own t w base C n xs := by
  have hlen := h.1
  rcases h.2 with ⟨rfl, rfl⟩ | ⟨b, cap, cur, rfl, hb, hcur, hk, hcap, hsz, htk⟩
  · exact ⟨none, 0, rfl, by simpa using hlen, fun h => absurd h (by omega)⟩
  · refine ⟨_, _, rfl, by simpa using hlen, fun _ => ⟨b, cur, rfl, hb, hcur, by omega, by simpa using htk⟩⟩
/-- Another block, of another type, is set. -/
theorem Own.far {g : Nat} {t' : TypeId} {cs : Array Value} (h : Own t w base C m xs) (hg : Blk w g t' cs) (hne : t ≠ t') (i : Nat) (u : Value) : Own t (w.setCell ⟨g, i, none⟩ u) base C m xs :=
  ⟨h.1, fun hm => by
    obtain ⟨g', cur, e, h1, h2, h3⟩ := h.2 hm
    refine ⟨g', cur, e, h1, h2.far (p := ⟨g, i, none⟩) (fun e => hne ?_) u, h3⟩
    simp at e
    subst e
    unfold Blk at h2 hg
    rw [h2] at hg
    injection hg with hg
    injection hg⟩
/-- One cell of it is set. -/
theorem Own.set_ {g : Nat} (h : Own t w base (some ⟨g, 0, none⟩) m xs) {k : Nat} (u : Value) : Own t (w.setCell ⟨g, k, none⟩ u) base (some ⟨g, 0, none⟩) m (xs.set k u) :=
  ⟨by simpa using h.1, fun hm => by
    obtain ⟨g', cur, e, h1, h2, h3, h4⟩ := h.2 hm
    cases e
    refine ⟨g, _, rfl, h1, h2.set_ k u, by simpa using h3, ?_⟩
    rw [← h4]
    simp [List.take_set]⟩
theorem Own.at_ (h : Own t w base C m xs) {k : Nat} (hk : k < m) : ∃ g cur, C = some ⟨g, 0, none⟩ ∧ base ≤ g ∧ Blk w g t cur ∧ w.cell? ⟨g, k, none⟩ = some (xs[k]'(by have := h.1; omega)) := by
  obtain ⟨g, cur, e, h1, h2, _⟩ := h.2 (by omega)
  subst e
  obtain ⟨b, off, e, hc⟩ := h.row.at_ hk
  cases e
  exact ⟨g, cur, rfl, h1, h2, by simpa using hc⟩
end

end Go.Proofs.YtmabokmnniiadaaGreatDoor
