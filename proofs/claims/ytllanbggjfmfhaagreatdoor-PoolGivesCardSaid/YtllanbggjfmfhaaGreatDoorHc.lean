/-
  What is proved: the contract of keep of package pool. No condition beyond those stated.
-/
import Derived.Test.YtllanbggjfmfhaaGreatDoorHb
import Derived.Test.YtllanbggjfmfhaaGreatDoorFa
import Derived.Test.YtllanbggjfmfhaaGreatDoorBoth
namespace Go.Proofs.YtllanbggjfmfhaaGreatDoor
open Go.RowKit Go.Shelf

set_option maxHeartbeats 1000000 in
theorem copied_pool (A : Option Addr) (m c : Nat) (l : List Int) (w : World) (hR : Row w A m (l.map Iv)) (hm : m ≤ 1000) :
    Calls Tryz.prog 40 #[.slice A m c] w (GivesBlk w l) := by
  have hl := hR.1
  simp at hl
  have hmk := run_make_ints (m : Int) (by omega) (by omega)
  simp only [Int.toNat_natCast] at hmk
  have HR := Lib.hid hR
  have HL := Lib.hid hl
  clear hR hl
  go_enter Tryz.func40, Tryz.ntmps40
  go_wp2_with (with_reducible refine wpList_copy_splice rfl (.tmp 7) (.tmp 8) 22 22 rfl 3 Tryz.underlying22 ?hsz (some ⟨w.heap.size, 0, none⟩) A m m m c rfl rfl w.heap.size 0 (zerosI m).toList 3 ?hg (l.map Iv) ?hn ?hpos ?hfit ?h1 w.heap.size _ (Below.refl _ _) (Nat.le_refl _) ?hrest)
  case hsz => kernel_rfl
  case hg => exact heap_new rfl _
  case hn => have := HL.out; simp; omega
  case hpos =>
    intro hp
    obtain ⟨b, off, e, hc⟩ := HR.out.2 (by have := HL.out; omega)
    refine ⟨_, e, fun j u hu => ?_⟩
    have h1 := hc j (Iv u) (by simp [hu])
    rw [addr_add]
    exact cell_ext (below_box _ _) h1
  case hfit => have := HL.out; simp [zerosI]; omega
  case h1 => intro v hv; obtain ⟨x, _, rfl⟩ := List.mem_map.1 hv; rfl
  case hrest =>
    intro w1 hG hB
    have hG1 : Blk w1 w.heap.size 3 (l.map Iv).toArray := by
      have h := hG.out
      rwa [splice_all _ _ (by have := HL.out; simp [zerosI]; omega)] at h
    have hb : Below w.heap.size w w1 := (below_box w (.cells (zerosI m) 3)).trans hB
    have HG := Lib.hid hG1
    have HB := Lib.hid hb
    clear hG hG1 hB hb hmk
    go_wp2
    go_ret
    exact ⟨w.heap.size, by rw [HL.out]; rfl, Nat.le_refl _, HG.out, HB.out⟩

def nilsT (k : Nat) : Array Value := Array.replicate k (.slice none 0 0)
theorem ints_info : (Tryz.prog.info? 22).map (fun i => (i.zero, i.size, i.bytes)) = some (some (.slice none 0 0), 1, 24) := by kernel_rfl
set_option maxRecDepth 100000 in
theorem run_make_tabs (z : Int) (h0 : 0 ≤ z) (h1 : z ≤ 100000) (W : World) :
    (Instr.makeSlice 23 (.int .i64 z) (.int .i64 z)).run Tryz.prog W = .ok (.slice (some ⟨W.heap.size, 0, none⟩) z.toNat z.toNat) (W.alloc (.cells (nilsT z.toNat) 22)) := by
  obtain ⟨i, hi, hz0, hz1, hz2⟩ := info_parts ints_info
  have hr := run_make (P := Tryz.prog) W 23 22 i _ Tryz.underlying23 hi hz0 .i64 .i64 z z h0 (by omega) (by rw [hz2]; omega) (by omega)
  rw [hr]
  congr 3
  rw [hz1]
  apply Array.ext
  · simp [nilsT, madeCells]
  · intro j h1 h2
    simp [nilsT, madeCells, Value.cells, Nat.mod_one]

/-- The first tables of ts are laid in block TB; none of them lies in a block of X. -/
def Laid (w : World) (base TB : Nat) (k : Nat) (ts : List (List Int)) (X : List Nat) : Prop :=
  ∃ vs : List Value, vs.length = k ∧ Blk w TB 22 vs.toArray ∧ ∀ (j : Nat) (t : List Int), ts[j]? = some t → ∃ (A : Option Addr) (n c : Nat), vs[j]? = some (Value.slice A n c) ∧ n ≤ c ∧ n ≤ 1000 ∧ Row w A n (t.map Iv) ∧ ∀ a, A = some a → base ≤ a.block ∧ a.block < w.heap.size ∧ a.block ∉ X
theorem Laid.ext {w w' : World} {base TB k : Nat} {ts : List (List Int)} {X : List Nat} (hb : Below w.heap.size w w') (h : Laid w base TB k ts X) : Laid w' base TB k ts X := by
  obtain ⟨vs, h1, h2, h3⟩ := h
  refine ⟨vs, h1, h2.ext hb, fun j t ht => ?_⟩
  obtain ⟨A, n, c, e1, e2, e3, e4, e5⟩ := h3 j t ht
  exact ⟨A, n, c, e1, e2, e3, e4.ext hb, fun a ea => ⟨(e5 a ea).1, Nat.lt_of_lt_of_le (e5 a ea).2.1 hb.size, (e5 a ea).2.2⟩⟩
theorem Laid.far {w : World} {base TB k : Nat} {ts : List (List Int)} {X : List Nat} (h : Laid w base TB k ts X) {p : Addr} (hT : TB ≠ p.block) (hX : p.block ∈ X ∨ p.block < base) (u : Value) : Laid (w.setCell p u) base TB k ts X := by
  obtain ⟨vs, h1, h2, h3⟩ := h
  refine ⟨vs, h1, h2.far hT u, fun j t ht => ?_⟩
  obtain ⟨A, n, c, e1, e2, e3, e4, e5⟩ := h3 j t ht
  refine ⟨A, n, c, e1, e2, e3, ⟨e4.1, fun hn => ?_⟩, fun a ea => ⟨(e5 a ea).1, by simpa [World.setCell] using (e5 a ea).2.1, (e5 a ea).2.2⟩⟩
  obtain ⟨b, off, e, hc⟩ := e4.2 hn
  refine ⟨b, off, e, fun i u' hu => (World.cell?_of_block (w := w) (Below.heap_setCell _ _ _ b (fun h => by
    have h5 := e5 _ e
    simp only at h h5
    rcases hX with hX | hX
    · rw [← h] at hX; exact h5.2.2 hX
    · omega))).trans (hc i u' hu)⟩
/-- One table more, or another one. -/
theorem Laid.set_ {w : World} {base TB k : Nat} {ts : List (List Int)} {X : List Nat} (h : Laid w base TB k ts X) (hTX : TB ∈ X) (i : Nat) (hi : i < k) (t : List Int) (hil : i ≤ ts.length) (B : Nat) (hbB : base ≤ B) (hB : Blk w B 3 (t.map Iv).toArray) (hBX : B ∉ X) (ht : t.length ≤ 1000) :
    Laid (w.setCell ⟨TB, i, none⟩ (.slice (some ⟨B, 0, none⟩) t.length t.length)) base TB k (ts.take i ++ [t] ++ ts.drop (i + 1)) X := by
  obtain ⟨vs, h1, h2, h3⟩ := h
  have hBT : B ≠ TB := fun e => hBX (e ▸ hTX)
  have hlt : TB < w.heap.size := h2.lt
  refine ⟨vs.set i (.slice (some ⟨B, 0, none⟩) t.length t.length), by simpa using h1, ?_, fun j t' ht' => ?_⟩
  · have := h2.set_ i (.slice (some ⟨B, 0, none⟩) t.length t.length)
    simpa using this
  · by_cases hj : j = i
    · subst hj
      have e : t' = t := by
        rw [List.append_assoc, List.getElem?_append_right (by simp; omega)] at ht'
        simp [show j - min j ts.length = 0 by omega] at ht'
        exact ht'.symm
      subst e
      refine ⟨some ⟨B, 0, none⟩, t'.length, t'.length, by simp [show j < vs.length by omega], Nat.le_refl _, ht, ?_, fun a ea => by cases ea; exact ⟨hbB, by simpa [World.setCell] using hB.lt, hBX⟩⟩
      have := (hB.far (p := ⟨TB, j, none⟩) hBT (.slice (some ⟨B, 0, none⟩) t'.length t'.length)).row
      simpa using this
    · have e : ts[j]? = some t' := by
        rw [List.append_assoc] at ht'
        by_cases hji : j < i
        · rw [List.getElem?_append_left (by simp; omega), List.getElem?_take] at ht'
          simpa [hji] using ht'
        · rw [List.getElem?_append_right (by simp; omega), List.getElem?_append_right (by simp; omega), List.getElem?_drop] at ht'
          rw [← ht']
          congr 1
          simp
          omega
      obtain ⟨A, n, c, e1, e2, e3, e4, e5⟩ := h3 j t' e
      refine ⟨A, n, c, by rw [List.getElem?_set_ne (Ne.symm hj)]; exact e1, e2, e3, ⟨e4.1, fun hn => ?_⟩, fun a ea => ⟨(e5 a ea).1, by simpa [World.setCell] using (e5 a ea).2.1, (e5 a ea).2.2⟩⟩
      obtain ⟨b, off, ea, hc⟩ := e4.2 hn
      refine ⟨b, off, ea, fun i' u' hu => (World.cell?_of_block (w := w) (Below.heap_setCell _ _ _ b (fun h => (e5 _ ea).2.2 (by simp only at h ⊢; rw [h]; exact hTX)))).trans (hc i' u' hu)⟩
theorem Laid.tabs {w : World} {base TB k : Nat} {ts : List (List Int)} {X : List Nat} (h : Laid w base TB k ts X) (hk : ts.length = k) : Tabs w (some ⟨TB, 0, none⟩) k ts := by
  obtain ⟨vs, h1, h2, h3⟩ := h
  refine ⟨hk, fun _ => ⟨TB, 0, rfl, fun j t ht => ?_⟩⟩
  obtain ⟨A, n, c, e1, e2, e3, e4, e5⟩ := h3 j t ht
  exact ⟨A, n, c, by rw [Nat.zero_add, h2.cell]; simpa using e1, e2, e3, e4⟩

/-- A keeper at block K: its states in block SB, its tables in block TB. -/
structure Keeps (w : World) (base K SB TB : Nat) (l : List Int) (ts : List (List Int)) : Prop where
  k : Blk w K 53 #[.slice (some ⟨SB, 0, none⟩) l.length l.length, .slice (some ⟨TB, 0, none⟩) ts.length ts.length]
  s : Blk w SB 3 (l.map Iv).toArray
  t : Laid w base TB ts.length ts [K, SB, TB]
  bk : base ≤ K
  bs : base ≤ SB
  bt : base ≤ TB
theorem Keeps.ext {w w' : World} {base K SB TB : Nat} {l : List Int} {ts : List (List Int)} (hb : Below w.heap.size w w') (h : Keeps w base K SB TB l ts) : Keeps w' base K SB TB l ts :=
  ⟨h.k.ext hb, h.s.ext hb, h.t.ext hb, h.bk, h.bs, h.bt⟩
theorem blk_ne {w : World} {g h : Nat} {t u : TypeId} {cs ds : Array Value} (hg : Blk w g t cs) (hh : Blk w h u ds) (hne : t ≠ u) : g ≠ h := by
  rintro rfl
  unfold Blk at hg hh
  rw [hg] at hh
  injection hh with hh
  injection hh
  contradiction

theorem Keeps.far {w : World} {base K SB TB : Nat} {l : List Int} {ts : List (List Int)} (h : Keeps w base K SB TB l ts) {p : Addr} (hp : p.block < base) (u : Value) : Keeps (w.setCell p u) base K SB TB l ts :=
  ⟨h.k.far (by have := h.bk; omega) u, h.s.far (by have := h.bs; omega) u, h.t.far (by have := h.bt; omega) (.inr hp) u, h.bk, h.bs, h.bt⟩
theorem Keeps.ne {w : World} {base K SB TB : Nat} {l : List Int} {ts : List (List Int)} (h : Keeps w base K SB TB l ts) : SB ≠ TB ∧ K ≠ SB ∧ K ≠ TB := by
  obtain ⟨vs, _, h2, _⟩ := h.t
  exact ⟨blk_ne h.s h2 (by decide), blk_ne h.k h.s (by decide), blk_ne h.k h2 (by decide)⟩
/-- One state is set. -/
theorem Keeps.state {w : World} {base K SB TB : Nat} {l : List Int} {ts : List (List Int)} (h : Keeps w base K SB TB l ts) (i : Nat) (x : Int) : Keeps (w.setCell ⟨SB, i, none⟩ (.int .i64 x)) base K SB TB (l.set i x) ts := by
  obtain ⟨n1, n2, n3⟩ := h.ne
  refine ⟨?_, ?_, h.t.far (p := ⟨SB, i, none⟩) (Ne.symm n1) (.inl (by simp)) _, h.bk, h.bs, h.bt⟩
  · have := h.k.far (p := ⟨SB, i, none⟩) n2 (.int .i64 x)
    simpa using this
  · have := h.s.set_ i (.int .i64 x)
    simpa [Iv, List.map_set] using this
/-- One table is set. -/
theorem Keeps.table {w : World} {base K SB TB : Nat} {l : List Int} {ts : List (List Int)} (h : Keeps w base K SB TB l ts) (i : Nat) (hi : i < ts.length) (t : List Int) (ht : t.length ≤ 1000) (B : Nat) (hB : Blk w B 3 (t.map Iv).toArray) (hbB : base ≤ B) (hBX : B ∉ [K, SB, TB]) :
    Keeps (w.setCell ⟨TB, i, none⟩ (.slice (some ⟨B, 0, none⟩) t.length t.length)) base K SB TB l (ts.set i t) := by
  obtain ⟨n1, n2, n3⟩ := h.ne
  refine ⟨?_, h.s.far (p := ⟨TB, i, none⟩) n1 _, ?_, h.bk, h.bs, h.bt⟩
  · have := h.k.far (p := ⟨TB, i, none⟩) n3 (.slice (some ⟨B, 0, none⟩) t.length t.length)
    simpa using this
  · have := h.t.set_ (by simp) i hi t (by omega) B hbB hB hBX ht
    rw [List.length_set, List.set_eq_take_append_cons_drop, if_pos hi]
    simpa using this
theorem Keeps.len {w : World} {base K SB TB : Nat} {l : List Int} {ts : List (List Int)} (h : Keeps w base K SB TB l ts) : Row w (some ⟨SB, 0, none⟩) l.length (l.map Iv) ∧ Tabs w (some ⟨TB, 0, none⟩) ts.length ts :=
  ⟨by simpa using h.s.row, h.t.tabs rfl⟩

/-- A pool in new memory: what it holds lies in the blocks from base on. -/
def PoolF (w : World) (base : Nat) (v : Value) (l : List Int) (ts : List (List Int)) : Prop :=
  ∃ S m c T k d, v = .agg #[.slice S m c, .slice T k d] ∧ m ≤ c ∧ ∀ X : World, (∀ b, base ≤ b → b < w.heap.size → X.heap[b]? = w.heap[b]?) → Row X S m (l.map Iv) ∧ Tabs X T k ts
section
variable {w w' : World} {base : Nat} {v : Value} {l : List Int} {ts : List (List Int)}
theorem PoolF.none_ : PoolF w base (.agg #[.slice none 0 0, .slice none 0 0]) [] [] := ⟨none, 0, 0, none, 0, 0, rfl, Nat.le_refl _, fun _ _ => ⟨Row.none_, Tabs.none_⟩⟩
theorem PoolF.ext (hb : Below w.heap.size w w') (h : PoolF w base v l ts) : PoolF w' base v l ts := by
  obtain ⟨S, m, c, T, k, d, h1, h2, h3⟩ := h
  exact ⟨S, m, c, T, k, d, h1, h2, fun X hX => h3 X fun b h4 h5 => (hX b h4 (Nat.lt_of_lt_of_le h5 hb.size)).trans (hb.block b h5)⟩
theorem PoolF.far (h : PoolF w base v l ts) {p : Addr} (hp : p.block < base) (u : Value) : PoolF (w.setCell p u) base v l ts := by
  obtain ⟨S, m, c, T, k, d, h1, h2, h3⟩ := h
  exact ⟨S, m, c, T, k, d, h1, h2, fun X hX => h3 X fun b h4 h5 => (hX b h4 (by simpa [World.setCell] using h5)).trans (Below.heap_setCell _ _ _ b (by omega))⟩
theorem PoolF.mono {base' : Nat} (h : PoolF w base v l ts) (hb : base' ≤ base) : PoolF w base' v l ts := by
  obtain ⟨S, m, c, T, k, d, h1, h2, h3⟩ := h
  exact ⟨S, m, c, T, k, d, h1, h2, fun X hX => h3 X fun b h4 h5 => hX b (by omega) h5⟩
theorem PoolF.read (h : PoolF w base v l ts) : ∃ S m c T k d, v = .agg #[.slice S m c, .slice T k d] ∧ Row w S m (l.map Iv) ∧ Tabs w T k ts ∧ m ≤ c := by
  obtain ⟨S, m, c, T, k, d, h1, h2, h3⟩ := h
  exact ⟨S, m, c, T, k, d, h1, (h3 w fun _ _ _ => rfl).1, (h3 w fun _ _ _ => rfl).2, h2⟩
/-- Where the blocks from base on are what they were. -/
theorem Keeps.same {K SB TB : Nat} (h : Keeps w base K SB TB l ts) {X : World} (hs : w.heap.size ≤ X.heap.size) (hX : ∀ (b : Nat) (c : Array Value) (t : TypeId), base ≤ b → w.heap[b]? = some (.cells c t (0, 0)) → X.heap[b]? = w.heap[b]?) (hr : ∀ b off v, base ≤ b → w.cell? ⟨b, off, none⟩ = some v → X.cell? ⟨b, off, none⟩ = some v) : Keeps X base K SB TB l ts := by
  have blk : ∀ {g : Nat} {t : TypeId} {cs : Array Value}, base ≤ g → Blk w g t cs → Blk X g t cs := fun hg hb => (hX _ _ _ hg hb).trans hb
  obtain ⟨vs, h1, h2, h3⟩ := h.t
  refine ⟨blk h.bk h.k, blk h.bs h.s, ⟨vs, h1, blk h.bt h2, fun j t ht => ?_⟩, h.bk, h.bs, h.bt⟩
  obtain ⟨A, n, c, e1, e2, e3, e4, e5⟩ := h3 j t ht
  refine ⟨A, n, c, e1, e2, e3, ⟨e4.1, fun hn => ?_⟩, fun a ea => ⟨(e5 a ea).1, Nat.lt_of_lt_of_le (e5 a ea).2.1 hs, (e5 a ea).2.2⟩⟩
  obtain ⟨b, off, e, hc⟩ := e4.2 hn
  exact ⟨b, off, e, fun i u hu => hr b _ u (e5 _ e).1 (hc i u hu)⟩
theorem cell_put {W : World} {D : Nat} {x : Option (List Deferred)} {o' : Obj} (hD : W.heap[D]? = some (.deferred x)) {b off : Nat} {v : Value} (hc : W.cell? ⟨b, off, none⟩ = some v) : (W.putObj D o').cell? ⟨b, off, none⟩ = some v := by
  have hb : b ≠ D := by
    rintro rfl
    simp [World.cell?, hD] at hc
  exact (World.cell?_of_block (w := W) (World.putObj_heap_other hb)).trans hc
theorem Keeps.put {K SB TB D : Nat} {x : Option (List Deferred)} {o' : Obj} (h : Keeps w base K SB TB l ts) (hD : w.heap[D]? = some (.deferred x)) : Keeps (w.putObj D o') base K SB TB l ts :=
  h.same (by simp) (fun b c t _ hb => World.putObj_heap_other (by rintro rfl; rw [hD] at hb; cases hb)) (fun b off v _ hc => cell_put hD hc)
theorem Keeps.poolF {K SB TB : Nat} (h : Keeps w base K SB TB l ts) : PoolF w base (.agg #[.slice (some ⟨SB, 0, none⟩) l.length l.length, .slice (some ⟨TB, 0, none⟩) ts.length ts.length]) l ts := by
  refine ⟨_, _, _, _, _, _, rfl, Nat.le_refl _, fun X hX => ?_⟩
  have blk : ∀ {g : Nat} {t : TypeId} {cs : Array Value}, base ≤ g → Blk w g t cs → Blk X g t cs := fun hg hb => (hX _ hg hb.lt).trans hb
  refine ⟨by simpa using (blk h.bs h.s).row, ?_⟩
  obtain ⟨vs, h1, h2, h3⟩ := h.t
  have h2' := blk h.bt h2
  refine ⟨rfl, fun _ => ⟨TB, 0, rfl, fun j t ht => ?_⟩⟩
  obtain ⟨A, n, c, e1, e2, e3, e4, e5⟩ := h3 j t ht
  refine ⟨A, n, c, by rw [Nat.zero_add, h2'.cell]; simpa using e1, e2, e3, e4.1, fun hn => ?_⟩
  obtain ⟨b, off, e, hc⟩ := e4.2 hn
  refine ⟨b, off, e, fun i u hu => ?_⟩
  have hb := e5 _ e
  exact (World.cell?_of_block (w := w) (hX b hb.1 hb.2.1)).trans (hc i u hu)
end

/-- What keep hands back. -/
def GivesKeep (w : World) (l : List Int) (ts : List (List Int)) (e : Ending) (w' : World) : Prop :=
  ∃ K SB TB, e = .returned (.tuple #[.pointer (some ⟨K, 0, none⟩), .nilIface]) ∧ Keeps w' w.heap.size K SB TB l ts ∧ Below w.heap.size w w'

end Go.Proofs.YtllanbggjfmfhaaGreatDoor
