/-
  What is proved: a loop over an iterator that collects numbers in a list of the call's own, step by step; the iterator all of package marks, and the contracts of Lines and Count. No condition beyond those stated.
-/
import Derived.Test.YtllanbggjfmfhaaGreatDoorGb
import Derived.Test.YtllanbggjfmfhaaGreatDoorApp
import Derived.Maps.OwnIn
namespace Go.Proofs.YtllanbggjfmfhaaGreatDoor
open Go.RowKit Go.Shelf
attribute [local go_sem] Oper.semAt_some

/-- What is collected lies in block g, or in a block from W1 on. -/
def OwnAt (g : Nat) (W1 : World) (v : Value) : Prop := v.ownBlock = none ∨ v.ownBlock = some g ∨ ∃ b, W1.heap.size ≤ b ∧ v.ownBlock = some b
/-- The list that is collected: the numbers xs, in box s. -/
def CollI (w W1 : World) (g s : Nat) (xs : List Int) (W' : World) : Prop :=
  W1.heap.size ≤ W'.heap.size ∧ Below w.heap.size w W' ∧ ∃ v, W'.ownsRow g 3 1 v xs.length (xs.map Iv) ∧ Blk W' s 22 #[v] ∧ OwnAt g W1 v
theorem owns_cells {W : World} {base : Nat} {e : TypeId} {size : Nat} {v : Value} {n : Nat} {xs : List Value} (h : W.ownsRow base e size v n xs) {b : Nat} (hb : v.ownBlock = some b) : ∃ cur, W.heap[b]? = some (.cells cur e (0, 0)) := by
  rcases h.2 with ⟨rfl, _⟩ | ⟨g', cap, cur, rfl, _, h1, _⟩
  · cases hb
  · injection hb with hb
    simp at hb
    subst hb
    exact ⟨cur, h1⟩
theorem CollI.own {β : Type} (w W1 : World) (g s : Nat) (f : β → List Int) (hs : s < W1.heap.size) (hw : w.heap.size ≤ W1.heap.size) : OwnFrom W1.heap.size (fun pre : β => CollI w W1 g s (f pre)) := by
  rintro pre X Y row ⟨h1, h2, v, h4, h5, h6⟩ hg hr
  have hb : Below W1.heap.size X Y := (Below.refl _ X).grown hg h1 (fun k e => (hr k e).1)
  refine ⟨Nat.le_trans h1 hg.size, h2.trans (hb.mono (by omega)), v, h4.kept hg ?_, h5.below hb hs, h6⟩
  cases hv : v.ownBlock with
  | none => exact .inl rfl
  | some b =>
    right
    intro e
    obtain ⟨_, o, ho, hc⟩ := hr b e.symm
    obtain ⟨cur, hcur⟩ := owns_cells h4 hv
    rw [hcur] at ho
    cases ho
    simp [Obj.isCells] at hc

/-- One number more. -/
theorem coll_step {w W1 W' W3 : World} {g s : Nat} {S : List Nat} {y : Int} {xs : List Int} {v : Value} {g' cap' : Nat} (h1 : W1.heap.size ≤ W'.heap.size) (h2 : Below w.heap.size w W') (h4 : W'.ownsRow g 3 1 v xs.length (xs.map Iv)) (h5 : Blk W' s 22 #[v]) (h6 : OwnAt g W1 v)
    (hwg : w.heap.size ≤ g) (hws : w.heap.size ≤ s) (hgW : g < W1.heap.size) (hsW : s < W1.heap.size) (hgs : s ≠ g) (hS : ∀ b ∈ S, b < W1.heap.size ∧ b ≠ g ∧ b ≠ s)
    (hown : W3.ownsRow g 3 1 (.slice (some ⟨g', 0, none⟩) (xs.length + 1) cap') (xs.length + 1) (xs.map Iv ++ [.int .i64 y])) (hgr : (W'.alloc (.cells #[.int .i64 y] 3)).grownBy W3 v.ownBlock)
    (hat : (Value.slice (some ⟨g', 0, none⟩) (xs.length + 1) cap').ownBlock = v.ownBlock ∨ (Value.slice (some ⟨g', 0, none⟩) (xs.length + 1) cap').ownBlock = some (W'.alloc (.cells #[.int .i64 y] 3)).heap.size) :
    (Blk W3 s 22 #[v]) ∧ (KeepsFrom W1.heap.size W' (W3.setCell ⟨s, 0, none⟩ (.slice (some ⟨g', 0, none⟩) (xs.length + 1) cap')) ∧ KeepB S W' (W3.setCell ⟨s, 0, none⟩ (.slice (some ⟨g', 0, none⟩) (xs.length + 1) cap')) ∧ CollI w W1 g s (xs ++ [y]) (W3.setCell ⟨s, 0, none⟩ (.slice (some ⟨g', 0, none⟩) (xs.length + 1) cap'))) := by
  have hbk := below_box W' (.cells #[.int .i64 y] 3)
  have hne : ∀ b, b < W1.heap.size → b ≠ g → some b ≠ v.ownBlock := by
    intro b hb hbn e
    rcases h6 with h | h | ⟨b', hb', h⟩ <;> rw [h] at e <;> cases e <;> omega
  have s5' : Blk W3 s 22 #[v] := (hgr.block _ (by simp; omega) (hne _ (by omega) (by omega))).trans (h5.ext hbk)
  have g1 := grown_set W3 s 0 (.slice (some ⟨g', 0, none⟩) (xs.length + 1) cap')
  have hsz : W'.heap.size ≤ W3.heap.size := Nat.le_trans hbk.size hgr.size
  have hblk : ∀ b, b < W1.heap.size → b ≠ g → b ≠ s → (W3.setCell ⟨s, 0, none⟩ (.slice (some ⟨g', 0, none⟩) (xs.length + 1) cap')).heap[b]? = W'.heap[b]? := fun b h1 h2 h3 =>
    (g1.block b (by omega) (fun e => h3 (Option.some.inj e))).trans ((hgr.block b (by simp; omega) (hne b h1 h2)).trans (hbk.block b (by omega)))
  refine ⟨s5', ?_, fun b hb => hblk b (hS b hb).1 (hS b hb).2.1 (hS b hb).2.2, ?_, ?_, _, ?_, s5'.set_ 0 (.slice (some ⟨g', 0, none⟩) (xs.length + 1) cap'), ?_⟩
  · refine ⟨Nat.le_trans hsz g1.size, fun k o hB hk ho => ?_⟩
    have hkl : k < W'.heap.size := (Array.getElem?_eq_some_iff.1 hk).1
    refine (g1.block k (by omega) (fun e => by cases e; omega)).trans ((hgr.block k (by simp; omega) (fun e => ?_)).trans ((hbk.block k hkl).trans hk))
    obtain ⟨cur, hcur⟩ := owns_cells h4 e.symm
    rw [hcur] at hk
    cases hk
    simp [Obj.isCells] at ho
  · exact Nat.le_trans h1 (Nat.le_trans hsz g1.size)
  · have hb5 : Below w.heap.size w W3 := (below_le h2 hbk).trans ((Below.refl _ _).grown hgr (by have := h2.size; simp; omega) (fun k e => by
      rcases h6 with h | h | ⟨b', hb', h⟩ <;> rw [h] at e <;> cases e <;> omega))
    exact hb5.setCell (p := ⟨s, 0, none⟩) hws _
  · have := hown.kept g1 (.inr fun e => by
      rcases hat with h | h
      · exact hne s hsW hgs (e.symm.trans h)
      · rw [h] at e
        simp at e
        omega)
    simpa [Iv] using this
  · rcases hat with h | h
    · rcases h6 with h' | h' | ⟨b', hb', h'⟩
      · exact .inl (h.trans h')
      · exact .inr (.inl (h.trans h'))
      · exact .inr (.inr ⟨b', hb', h.trans h'⟩)
    · exact .inr (.inr ⟨_, by simp; omega, h⟩)

/-- The list, as it is read behind the loop, whatever becomes of block D. -/
theorem coll_end {W' : World} {g D : Nat} {xs : List Int} {v : Value} (h4 : W'.ownsRow g 3 1 v xs.length (xs.map Iv)) {o : Obj} (hK : W'.heap[D]? = some o) (ho : o.isCells = false) :
    ∃ A c, v = .slice A xs.length c ∧ (∀ o', Row (W'.putObj D o') A xs.length (xs.map Iv)) ∧ xs.length ≤ c ∧ (∀ a, A = some a → g ≤ a.block) := by
  have hnD : ∀ b, v.ownBlock = some b → b ≠ D := fun b hb e => by
    obtain ⟨cur, hcur⟩ := owns_cells h4 hb
    rw [e, hK] at hcur
    cases hcur
    simp [Obj.isCells] at ho
  have hle : ∀ A n c, v = .slice A n c → xs.length ≤ c := fun A n c e => by
    rcases h4.2 with ⟨rfl, h0⟩ | ⟨b, cap, cur, rfl, hb, hcur, hk, -⟩
    · cases e; omega
    · cases e; exact hk
  obtain ⟨A', c', rfl, hrow, hfr⟩ := row_of_owns h4
  refine ⟨A', c', rfl, fun o' => ⟨hrow.1, fun hn => ?_⟩, hle _ _ _ rfl, hfr⟩
  obtain ⟨b, off, e, hc⟩ := hrow.2 hn
  subst e
  have hb : b ≠ D := hnD b rfl
  exact ⟨b, off, rfl, fun j r hr => (World.cell?_of_block (w := W') (World.putObj_heap_other hb)).trans (hc j r hr)⟩

/-! ### all -/
theorem lines_len (t : List Int) : (linesL t).length ≤ 32 := by
  unfold linesL
  have := List.length_filter_le (keptB t) (List.range 32)
  simpa using this
def linesFrom (t : List Int) (b : Nat) : List Int := ((List.range' b (32 - b)).filter (keptB t)).map fun i : Nat => (i : Int)
theorem lines_from0 (t : List Int) : linesL t = linesFrom t 0 := by
  unfold linesL linesFrom
  rw [List.range_eq_range']
theorem lines_from (t : List Int) {b : Nat} (h : b < 32) : linesFrom t b = (if keptB t b then [(b : Int)] else []) ++ linesFrom t (b + 1) := by
  unfold linesFrom
  rw [show 32 - b = (32 - (b + 1)) + 1 by omega, List.range'_succ, List.filter_cons]
  split <;> simp

set_option maxRecDepth 100000 in
set_option maxHeartbeats 2000000 in
theorem all1_in (n : Nat) (A : Option Addr) (c : Nat) (t : List Int) (bb y : Nat) (S : List Nat) (hbS : bb ∈ S) (hAS : ∀ a, A = some a → a.block ∈ S) (L : List Int) (hL : L = linesL t) (J Jx : List (Fin L.length) → World → Prop) (W : World) (hJ : AbidesFrom W.heap.size J)
    (hY : ∀ pre x W, J pre W → pre.length < L.length → YieldAt Fence.wide (n - 1) Tryz.prog y #[.int .i64 (L[x.1])] W fun e W' =>
      (e = .returned (.bool true) ∧ J (pre ++ [x]) W' ∧ KeepB S W W') ∨ (e = .returned (.bool false) ∧ Jx (pre ++ [x]) W'))
    (hc : W.cell? ⟨bb, 0, none⟩ = some (.slice A 32 c)) (hR : Row W A 32 (t.map Iv)) (h0 : J [] W) :
    CallsIn Fence.wide n Tryz.prog 91 #[.func (.yield y) #[] #[], .pointer (some ⟨bb, 0, none⟩)] W (SeqEnd (fun ys => ys = List.finRange L.length) (fun pre => ∃ k, k ≤ L.length ∧ pre = (List.finRange L.length).take k) J Jx) := by
  have HR := Lib.hid hR
  have HJ := Lib.hid hJ
  have HL := Lib.hid hL
  have HAS := Lib.hid hAS
  clear hR hJ hL hAS
  refine callsIn_of_wp Tryz.func91 rfl trivial ?_ rfl
  simp only [Tryz.ntmps91, List.size_toArray, List.length_cons, List.length_nil, Nat.reduceAdd, Nat.reduceSub, Array.replicate_succ, Array.replicate_zero, List.push_toArray, List.append_toArray, List.nil_append, List.cons_append]
  refine wpIn_scope_ahead 0 (fun _ _ => False) rfl ?_ (fun _ _ h => h.elim)
  gi_wp2_with fail
  refine wpIn_label ?_
  gi_wp2
  gi_loopw [6] (fun i wr => ∃ b k : Nat, b ≤ 32 ∧ i = .int .i64 b ∧ k ≤ L.length ∧ L.drop k = linesFrom t b ∧ J ((List.finRange L.length).take k) wr ∧ KeepB S W wr)
    (fun i _ => 32 - (intOf i).toNat)
  case atStart => exact ⟨0, 0, Nat.zero_le _, rfl, Nat.zero_le _, by rw [HL.out, ← lines_from0]; rfl, h0, KeepB.refl _ _⟩
  case round =>
    obtain ⟨b, k, hbm, rfl, hk, hdr, hJs, hkp⟩ := hrel
    have c1 := hkp.cell hbS hc
    have HK := Lib.hid hkp
    have HD := Lib.hid hdr
    have HJs := Lib.hid hJs
    have hRw := Lib.hid (hkp.row HR.out HAS.out)
    clear hkp hdr hJs
    by_cases hlt : b < 32
    · have hcall := kept_any A 32 c t b wr hRw.out hlt (by omega)
      have hfr := lines_from t hlt
      cases hkb : keptB t b
      · rw [hkb] at hcall hfr
        have HF := Lib.hid hfr
        clear hfr hkb
        gi_wp2_with fail
        refine ⟨trivial, fun h => by simp [Fence.wide] at h, (callsIn_wide.2 hcall).mono ?_⟩
        clear hcall
        rintro e w' ⟨rfl, rfl⟩
        gi_wp2
        go_roundw
        case rel => exact ⟨b + 1, k, by omega, by go_num, hk, HD.out.trans HF.out, HJs.out, HK.out⟩
        case measure => simp [intOf]; omega
      · rw [hkb] at hcall hfr
        have hdk := HD.out
        rw [hfr] at hdk
        have hkN : k < L.length := by
          have := congrArg List.length hdk
          simp at this
          omega
        have hgk : L[k] = (b : Int) ∧ L.drop (k + 1) = linesFrom t (b + 1) := by
          rw [List.drop_eq_getElem_cons hkN] at hdk
          exact List.cons.inj hdk
        obtain ⟨hg1, hg2⟩ := hgk
        obtain ⟨fn, tmps, assign, body, hy, hRy⟩ := hY _ ⟨k, hkN⟩ _ HJs.out (by simp; omega)
        dsimp only at hy hRy
        rw [hg1] at hy
        have HRy := Lib.hid hRy
        have HG := Lib.hid hg2
        clear hRy hg1 hg2 hdk hfr hkb
        gi_wp2_with fail
        refine ⟨trivial, fun h => by simp [Fence.wide] at h, (callsIn_wide.2 hcall).mono ?_⟩
        clear hcall
        rintro e w' ⟨rfl, rfl⟩
        gi_wp2
        refine ⟨fun h => by simp [Fence.wide] at h, HRy.out.mono ?_⟩
        rintro e W3 (⟨rfl, hJ4, hk4⟩ | ⟨rfl, hJx4⟩)
        · have HJ4 := Lib.hid hJ4
          have HK4 := Lib.hid hk4
          clear hJ4 hk4
          gi_wp2
          go_roundw
          case rel => exact ⟨b + 1, k + 1, by omega, by go_num, by omega, HG.out, by rw [fin_take_succ _ _ hkN]; exact HJ4.out, HK.out.t HK4.out⟩
          case measure => simp [intOf]; omega
        · have HJx4 := Lib.hid hJx4
          clear hJx4
          gi_wp2
          refine bodyPost_ret (results_none rfl _ _ _) rfl ?_
          exact ⟨⟨_, rfl⟩, .inr ⟨_, ⟨k + 1, by omega, rfl⟩, by rw [fin_take_succ _ _ hkN]; exact HJx4.out⟩⟩
    · have hkl : L.length ≤ k := by
        have := congrArg List.length HD.out
        rw [show linesFrom t b = [] by unfold linesFrom; rw [show 32 - b = 0 by omega]; rfl] at this
        simp at this
        omega
      have HKL := Lib.hid (show k = L.length by omega)
      clear hkl
      gi_wp2
      go_end0
      refine ⟨⟨_, rfl⟩, .inl ⟨_, rfl, ?_⟩⟩
      have := HJs.out
      rwa [HKL.out, fin_take_all] at this

theorem all1_stops (n : Nat) (A : Option Addr) (c : Nat) (t : List Int) (bb : Nat) (S : List Nat) (hbS : bb ∈ S) (hAS : ∀ a, A = some a → a.block ∈ S) (w : World) (hc : w.cell? ⟨bb, 0, none⟩ = some (.slice A 32 c)) (hR : Row w A 32 (t.map Iv)) :
    StopsI n 91 #[.pointer (some ⟨bb, 0, none⟩)] S (linesL t) w := fun y J Jx W hW hJ _ hY h0 =>
  all1_in n A c t bb y S hbS hAS _ rfl J Jx W hJ hY (cell_ext hW hc) (hR.ext hW) h0

set_option maxHeartbeats 400000 in
theorem all_any_marks (S : Option Addr) (n c : Nat) (w : World) :
    Calls Tryz.prog 82 #[.slice S n c] w fun e w' => e = .returned (.func (.func 91) #[] #[.pointer (some ⟨w.heap.size, 0, none⟩)]) ∧ w.alloc (.cells #[.slice S n c] 114) = w' := by
  go_enter Tryz.func82, Tryz.ntmps82
  go_wp2
  go_ret
  exact ⟨rfl, rfl⟩

end Go.Proofs.YtllanbggjfmfhaaGreatDoor
