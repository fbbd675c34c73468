/-
  What is proved: contracts of package starts' list. No condition beyond those stated.
-/
import Derived.Test.YtelbddnjnapoeaaDoorDo
import Derived.Test.YtelbddnjnapoeaaDoorRi
import Derived.Test.YtelbddnjnapoeaaDoorApp
import Derived.Maps.OwnIn
namespace Go.Proofs.YtelbddnjnapoeaaDoor
open Go.RowKit Go.Shelf
attribute [local go_sem] Oper.semAt_some

/-- A list of numbers. -/
def GivesL (w : World) (l : List Int) (e : Ending) (w' : World) : Prop := ∃ A m c, e = .returned (.slice A m c) ∧ Row w' A m (l.map Iv) ∧ Below w.heap.size w w'
/-- What has come. -/
def cameE (L : List Int) (pre : List (Fin L.length)) : List Int := pre.map fun x => L[x.1]
theorem cameE_snoc (L : List Int) (pre : List (Fin L.length)) (x : Fin L.length) : cameE L (pre ++ [x]) = cameE L pre ++ [L[x.1]] := by simp [cameE]
theorem cameE_all (L : List Int) : cameE L (List.finRange L.length) = L := by
  unfold cameE
  apply List.ext_getElem
  · simp
  · intro i h1 h2; simp
theorem cameE_take (L : List Int) (k : Nat) : ∃ rest, L = cameE L ((List.finRange L.length).take k) ++ rest := by
  refine ⟨cameE L ((List.finRange L.length).drop k), ?_⟩
  have h : ∀ a b, cameE L (a ++ b) = cameE L a ++ cameE L b := fun a b => by simp [cameE]
  rw [← h, List.take_append_drop, cameE_all]
theorem eachL_le (n : Int) (ws : List Nat) (p : Int → Bool) : (eachL n ws p).length ≤ 16384 := by
  unfold eachL
  split
  · rename_i hr
    have hrb := (sRight_elim hr).2.2.2
    have hN := (sRight_elim hr).2.2.1
    have h1 := List.length_filter_le p ((listN n ws).map fun i : Nat => (i : Int) * 8)
    have h2 := List.length_filter_le (tb ws) (List.range n.toNat)
    rw [List.length_map, listN, if_pos hrb] at h1
    simp at h2
    rw [listN, if_pos hrb]
    omega
  · simp

def SListI (w W1 : World) (L : List Int) (s : Nat) (pre : List (Fin L.length)) (W' : World) : Prop :=
  W1.heap.size ≤ W'.heap.size ∧ Below w.heap.size w W' ∧ ∃ v, W'.ownsRow W1.heap.size 3 1 v (cameE L pre).length ((cameE L pre).map Iv) ∧ Blk W' s 37 #[v]
theorem SListI.own (w W1 : World) (L : List Int) (s : Nat) (hs : s < W1.heap.size) (hw : w.heap.size ≤ W1.heap.size) : OwnFrom W1.heap.size (SListI w W1 L s) := by
  rintro pre X Y row ⟨h1, h2, v, h4, h5⟩ hg hr
  have hb : Below W1.heap.size X Y := (Below.refl _ X).grown hg h1 (fun k e => (hr k e).1)
  refine ⟨Nat.le_trans h1 hg.size, h2.trans (hb.mono (by omega)), v, h4.kept hg ?_, h5.below hb hs⟩
  cases hv : v.ownBlock with
  | none => exact .inl rfl
  | some b =>
    right
    intro e
    obtain ⟨_, o, ho, hc⟩ := hr b e.symm
    obtain ⟨cur, hcur⟩ := own_cells h4 hv
    rw [hcur] at ho
    cases ho
    simp [Obj.isCells] at hc

def slistW0 (w : World) (n : Int) (A : Option Addr) (m c : Nat) (r : Bool) : World := (w.alloc (.cells #[.int .i64 n, .slice A m c, .bool r] 44)).alloc (.cells #[.slice none 0 0] 37)

def slistF (w : World) (n : Int) (A : Option Addr) (m c : Nat) (r : Bool) (B : Option Addr) (q d : Nat) (x : Int) : Act :=
  { tmps := #[startsV n A m c r, .slice B q d, .pointer (some ⟨w.heap.size, 0, none⟩), undef, .slice none 0 0, .pointer (some ⟨w.heap.size + 1, 0, none⟩), .int .i64 x, startsV n A m c r, .slice B q d,
      .func (.func 53) #[] #[.pointer (some ⟨w.heap.size + 1 + 1, 0, none⟩), .pointer (some ⟨w.heap.size + 1 + 1 + 1, 0, none⟩)], .int .i64 x, undef, undef, undef, undef, undef, undef, undef, undef, undef, undef], defers := [] }

set_option maxRecDepth 100000 in
set_option maxHeartbeats 2000000 in
/-- starts' list. -/
theorem slist_any (A : Option Addr) (m c : Nat) (n : Int) (ws : List Nat) (B : Option Addr) (q d : Nat) (ks : List (Bool × Nat × Int)) (w : World) (hR : Row w A m (ws.map U32)) (hF : Fits ws) (hB : Row w B q (ks.map askV)) (hq : q ≤ 1000)
    (hBl : ∀ a, B = some a → a.block < w.heap.size) (hk : ∀ k ∈ ks, w.cell? ⟨k.2.1, 0, none⟩ = some (.int .i64 k.2.2)) :
    Calls Tryd.prog 41 #[startsV n A m c (sRight n ws), .slice B q d] w (GivesL w (eachL n ws (asksB ks))) := by
  obtain ⟨i, hi, hz0, hz1, hz2⟩ := info_parts int_info
  have hb0 : Below w.heap.size w (slistW0 w n A m c (sRight n ws)) := below_le (below_box _ _) (below_box _ _)
  have hsz : (slistW0 w n A m c (sRight n ws)).heap.size = w.heap.size + 1 + 1 := by simp [slistW0]
  have k0 : (slistW0 w n A m c (sRight n ws)).cell? ⟨w.heap.size, 0, none⟩ = some (.int .i64 n) := by simp [go_sem, slistW0]
  have k1 : (slistW0 w n A m c (sRight n ws)).cell? ⟨w.heap.size, 1, none⟩ = some (.slice A m c) := by simp [go_sem, slistW0]
  have k2 : (slistW0 w n A m c (sRight n ws)).cell? ⟨w.heap.size, 2, none⟩ = some (.bool (sRight n ws)) := by simp [go_sem, slistW0]
  have hbl : Blk (slistW0 w n A m c (sRight n ws)) (w.heap.size + 1) 37 #[.slice none 0 0] := heap_new (by simp) _
  have hcount := eachL_le n ws (asksB ks)
  obtain ⟨L, hLL⟩ : ∃ L, eachL n ws (asksB ks) = L := ⟨_, rfl⟩
  rw [hLL] at hcount ⊢
  have HR := Lib.hid (hR.ext hb0)
  have HBR := Lib.hid (hB.ext hb0)
  have HK := Lib.hid (fun k h => cell_ext hb0 (hk k h))
  have HKL := Lib.hid (fun k h => lt_of_cell (hk k h))
  have HB := Lib.hid hb0
  have HBL := Lib.hid hbl
  clear hR hB hk hb0 hbl
  refine (callsIn_wide (n := 3)).1 ?_
  refine callsIn_of_wp_marks Tryd.func41 rfl trivial ?_ rfl
  simp only [Tryd.ntmps41, List.size_toArray, List.length_cons, List.length_nil, Nat.reduceAdd, Nat.reduceSub, Array.replicate_succ, Array.replicate_zero, List.push_toArray, List.append_toArray, List.nil_append, List.cons_append]
  unfold startsV
  gi_wp2_with fail
  refine ⟨trivial, (callsIn_wide.2 (each_any A m c n (sRight n ws) B q d (slistW0 w n A m c (sRight n ws)))).mono ?_⟩
  rintro e w' ⟨rfl, rfl⟩
  rw [hsz]
  have hb1 : Below (slistW0 w n A m c (sRight n ws)).heap.size (slistW0 w n A m c (sRight n ws)) (eachW (slistW0 w n A m c (sRight n ws)) n A m c (sRight n ws) B q d) := below_le (below_box _ _) (below_box _ _)
  have hz : (eachW (slistW0 w n A m c (sRight n ws)) n A m c (sRight n ws) B q d).heap.size = w.heap.size + 4 := by simp [eachW, hsz]
  have e0 : (eachW (slistW0 w n A m c (sRight n ws)) n A m c (sRight n ws) B q d).cell? ⟨w.heap.size + 1 + 1, 0, none⟩ = some (.int .i64 n) := by rw [← hsz]; simp [go_sem, eachW]
  have e1 : (eachW (slistW0 w n A m c (sRight n ws)) n A m c (sRight n ws) B q d).cell? ⟨w.heap.size + 1 + 1, 1, none⟩ = some (.slice A m c) := by rw [← hsz]; simp [go_sem, eachW]
  have e2 : (eachW (slistW0 w n A m c (sRight n ws)) n A m c (sRight n ws) B q d).cell? ⟨w.heap.size + 1 + 1, 2, none⟩ = some (.bool (sRight n ws)) := by rw [← hsz]; simp [go_sem, eachW]
  have e3 : (eachW (slistW0 w n A m c (sRight n ws)) n A m c (sRight n ws) B q d).cell? ⟨w.heap.size + 1 + 1 + 1, 0, none⟩ = some (.slice B q d) := by rw [← hsz]; simp [go_sem, eachW]
  have hbl1 := HBL.out.ext hb1
  have hR1 := HR.out.ext hb1
  have hBR1 := HBR.out.ext hb1
  have hK1 := fun k h => cell_ext hb1 (HK.out k h)
  have hB1 := below_le HB.out hb1
  generalize eachW (slistW0 w n A m c (sRight n ws)) n A m c (sRight n ws) B q d = W1 at *
  have hpt : ∀ b, ¬ Points (w.heap.size + 1) W1 b := fun b ⟨v, hv, hv'⟩ => by
    rw [hbl1.cell 0] at hv
    simp at hv
    subst hv
    cases hv'
  have hE : EachAt W1 A m c n ws B q d ks (w.heap.size + 1 + 1) (w.heap.size + 1 + 1 + 1) [w.heap.size + 1] (w.heap.size + 1) :=
    ⟨e0, e1, e2, hR1, e3, hBR1, hK1, ⟨by simp; omega, hpt _⟩, fun a e => ⟨by have := hBl a e; simp; omega, hpt _⟩, fun k h => ⟨by have := HKL.out k h; simp; omega, hpt _⟩, fun b h => by simp at h; omega, fun b h => absurd h (hpt b), by omega⟩
  have HE := Lib.hid hE
  have HB1 := Lib.hid hB1
  have hI0 : SListI w W1 L (w.heap.size + 1) [] W1 := ⟨Nat.le_refl _, hB1, _, ⟨rfl, .inl ⟨rfl, rfl⟩⟩, hbl1⟩
  clear e0 e1 e2 e3 hbl1 hR1 hBR1 hK1 hB1 hpt hE HR HBR HK HKL HBL k0 k1 k2 hb1
  gi_wp2_with fail
  have hstops := each_stops (3 - 1) A m c n ws B q d ks (w.heap.size + 1 + 1) (w.heap.size + 1 + 1 + 1) [w.heap.size + 1] (w.heap.size + 1) W1 hF hq HE.out _ hLL
  generalize sRight n ws = r at *
  refine wpIn_rangeFunc_ownG (F := Fence.wide) (n := 3) rfl (by omega) (gf := 53) (lb := #[.pointer (some ⟨w.heap.size + 1 + 1, 0, none⟩), .pointer (some ⟨w.heap.size + 1 + 1 + 1, 0, none⟩)]) rfl trivial (enters_of Tryd.func53 (by kernel_rfl) rfl)
    hstops (fun h k => h.t k) (KeepS.b (by omega)) (Below.refl _ _) (fun _ => rfl)
    (SListI w W1 L (w.heap.size + 1)) (fun _ _ _ => False)
    (SListI.own w W1 L (w.heap.size + 1) (by omega) (by omega))
    (fun _ _ _ _ _ hs _ _ => hs)
    hI0
    (fun x' => slistF w n A m c r B q d L[x'.1]) ?assign ?body ?done ?stop
  case assign =>
    intro l x1 W' K hK
    gi_wp2
    exact hK
  case body =>
    rintro l pre x W' ⟨s1, s2, v, s4, s5⟩ hpre
    have hsn := cameE_snoc L pre x
    have hcl : (cameE L (pre ++ [x])).length = (cameE L pre).length + 1 := by rw [hsn]; simp
    have hcm : (cameE L pre).length ≤ 16384 := by
      have h1 : (cameE L pre).length = pre.length := by simp [cameE]
      omega
    generalize L[x.1] = y at *
    have c5 := s5.cell 0
    have f5 := s5.frozen 0
    simp at c5
    have S2 := Lib.hid s2
    have S4 := Lib.hid s4
    have S5 := Lib.hid s5
    have HSN := Lib.hid hsn
    have HCL := Lib.hid hcl
    clear s2 s4 s5 hsn hcl hI0 hstops HE
    simp only [slistF, startsV]
    gi_wp2_with (gi_at_builtin; refine stop_here ?_)
    intro _
    refine (wpListIn_append_own_at _ rfl (.tmp 11) (.tmp 13) 37 rfl W1.heap.size 3 i (.int .i64 0) 1 8 Tryd.underlying37 hi hz0 hz1 hz2 rfl (by omega) v (cameE L pre).length ((cameE L pre).map Iv) rfl ?own ⟨W'.heap.size, 0, none⟩ 1 1 [.int .i64 y] rfl rfl ?news ?one ?b1 ?b2 ?b3 ?_)
    case own => exact S4.out.alloc _
    case news =>
      intro k u hu
      match k with
      | 0 => simp [Addr.add, go_sem] at hu ⊢; exact hu
      | k + 1 => simp at hu
    case one => intro u hu; rw [List.mem_singleton.1 hu]; rfl
    case b1 => unfold maxLen; omega
    case b2 => omega
    case b3 => simp; omega
    intro v' W3 hown hgr _ hat
    obtain ⟨g', cap', rfl⟩ := ownsRow_succ hown
    have hbk := below_box W' (.cells #[.int .i64 y] 3)
    have hne : ∀ b, b < W1.heap.size → some b ≠ v.ownBlock := fun b hb e => by
      have := own_base S4.out e.symm
      omega
    have s5' : Blk W3 (w.heap.size + 1) 37 #[v] := (hgr.block _ (by simp; omega) (hne _ (by omega))).trans (S5.out.ext hbk)
    have c6 := s5'.cell 0
    have f6 := s5'.frozen 0
    simp at c6
    have S5' := Lib.hid s5'
    have HOW := Lib.hid hown
    have HGR := Lib.hid hgr
    have HAT := Lib.hid hat
    have HBK := Lib.hid hbk
    have HNE := Lib.hid hne
    clear hown hgr hat hbk hne s5' c5 f5
    gi_wp2
    have g1 := grown_set W3 (w.heap.size + 1) 0 (.slice (some ⟨g', 0, none⟩) ((cameE L pre).length + 1) cap')
    have hsz : W'.heap.size ≤ W3.heap.size := Nat.le_trans HBK.out.size HGR.out.size
    have hblk : ∀ b, b < W'.heap.size → some b ≠ v.ownBlock → b ≠ w.heap.size + 1 → (W3.setCell ⟨w.heap.size + 1, 0, none⟩ (.slice (some ⟨g', 0, none⟩) ((cameE L pre).length + 1) cap')).heap[b]? = W'.heap[b]? := fun b h1 h2 h3 =>
      (g1.block b (by omega) (fun e => h3 (Option.some.inj e))).trans ((HGR.out.block b (by simp; omega) h2).trans (HBK.out.block b (by omega)))
    have s6 := S5'.out.set_ 0 (.slice (some ⟨g', 0, none⟩) ((cameE L pre).length + 1) cap')
    refine ⟨?_, ⟨fun b o ho hoc hS hp => ?_, fun b hb hp => ?_, Nat.le_trans hsz g1.size⟩, ?_, ?_, _, ?_, s6⟩
    · refine ⟨Nat.le_trans hsz g1.size, fun k o hB hk ho => ?_⟩
      have hkl : k < W'.heap.size := (Array.getElem?_eq_some_iff.1 hk).1
      refine (hblk k hkl (fun e => ?_) (by omega)).trans hk
      obtain ⟨cur, hcur⟩ := own_cells S4.out e.symm
      rw [hcur] at hk
      cases hk
      simp [Obj.isCells] at ho
    · have hbl : b < W'.heap.size := (Array.getElem?_eq_some_iff.1 ho).1
      refine (hblk b hbl (fun e => hp ⟨v, ?_, e.symm⟩) (by simpa using hS)).trans ho
      rw [S5.out.cell 0]; rfl
    · obtain ⟨u, hu, hub⟩ := hp
      rw [s6.cell 0] at hu
      simp at hu
      subst hu
      rcases HAT.out with h | h
      · exact ⟨v, by rw [S5.out.cell 0]; rfl, by rw [← h]; exact hub⟩
      · rw [h] at hub
        simp at hub
        omega
    · exact Nat.le_trans s1 (Nat.le_trans hsz g1.size)
    · have hb5 : Below w.heap.size w W3 := (below_le S2.out HBK.out).trans ((Below.refl _ _).grown HGR.out (by simp; omega) (fun k e => by have := own_base S4.out e; omega))
      exact hb5.setCell (p := ⟨w.heap.size + 1, 0, none⟩) (by show w.heap.size ≤ w.heap.size + 1; omega) _
    · rw [HCL.out, HSN.out]
      have h7 := HOW.out.kept g1 (.inr fun e => ?_)
      · simpa [Iv] using h7
      · rcases HAT.out with h | h
        · exact HNE.out (w.heap.size + 1) (by omega) (e.symm.trans h)
        · rw [h] at e
          simp at e
          omega
  case done =>
    rintro D ys W' hD rfl ⟨s1, s2, v, s4, s5⟩ hK
    rw [cameE_all] at s4
    have hcell : ∀ {g}, v.ownBlock = some g → ∀ j u, (L.map Iv)[j]? = some u → W'.cell? ((⟨g, 0, none⟩ : Addr).add j) = some u := fun h => s4.cells h
    have c5 := s5.cell 0
    simp at c5
    have S2 := Lib.hid s2
    clear s2 s5 hI0 hstops HE
    rcases s4.2 with ⟨rfl, h0⟩ | ⟨b, cap, cur, rfl, hb, hcur, hk, hcap, -, -⟩
    · have hL0 : L = [] := List.eq_nil_of_length_eq_zero h0
      have HL0 := Lib.hid hL0
      clear s4 hcell h0 hL0
      gi_wp2
      refine ⟨by simp, .inl ⟨_, _, rfl, run_takeDeferred hK, ?_⟩⟩
      refine ⟨.slice none 0 0, by simp [results, Tryd.results41, go_sem], _, _, _, rfl, by rw [HL0.out]; exact Row.none_, ?_⟩
      exact S2.out.trans (belowK_b (w := W1) (by omega) W' D _ _ hD hK rfl rfl)
    · have HC5 := Lib.hid (fun j u => hcell rfl j u)
      have hki : (L.length : Int) ≤ cap := by omega
      clear hcell s4
      gi_wp2
      refine ⟨by simp, .inl ⟨_, _, rfl, run_takeDeferred hK, ?_⟩⟩
      have hbD : b ≠ D := by
        rintro rfl
        rw [hcur] at hK
        cases hK
      refine ⟨.slice (some ⟨b, 0, none⟩) L.length L.length, by simp [results, Tryd.results41, go_sem], _, _, _, rfl, ⟨by simp, fun _ => ⟨b, 0, rfl, fun j u hu => ?_⟩⟩, ?_⟩
      · have h8 := HC5.out j u hu
        have e : (⟨b, 0, none⟩ : Addr).add j = ⟨b, 0 + j, none⟩ := by
          unfold Addr.add
          by_cases h : j = 0 <;> simp [h]
        rw [e] at h8
        exact (World.cell?_of_block (w := W') (World.putObj_heap_other hbD)).trans h8
      · exact S2.out.trans (belowK_b (w := W1) (by omega) W' D _ _ hD hK rfl rfl)
  case stop =>
    rintro D c pre W' _ _ h _
    exact h.elim

end Go.Proofs.YtelbddnjnapoeaaDoor
