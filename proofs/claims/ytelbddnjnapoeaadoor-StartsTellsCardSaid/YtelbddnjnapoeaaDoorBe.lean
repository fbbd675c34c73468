/-
  What is proved: contracts of need and told of package bits. No condition beyond those stated.
-/
import Derived.Test.YtelbddnjnapoeaaDoorErr
namespace Go.Proofs.YtelbddnjnapoeaaDoor
open Go.RowKit

/-- The three sentinels of package bits. -/
structure BSent (w : World) (aA aB aP : Addr) : Prop where
  hA : Held w 0 aA
  hB : Held w 2 aB
  hP : Held w 3 aP
  ab : aA ≠ aB
  ap : aA ≠ aP
  bp : aB ≠ aP
theorem BSent.ext {w w1 : World} {aA aB aP : Addr} (hb : Below w.heap.size w w1) (h : BSent w aA aB aP) : BSent w1 aA aB aP :=
  ⟨h.hA.ext hb, h.hB.ext hb, h.hP.ext hb, h.ab, h.ap, h.bp⟩

/-- The error of a number. -/
def ev (aA aB aP : Addr) (k : Nat) : Value := if k = 0 then .nilIface else if k = 2 then Err aA else if k = 20 then Err aB else Err aP
def isErr (k : Nat) : Prop := k = 0 ∨ k = 2 ∨ k = 20 ∨ k = 21
/-- The first that is none. -/
def toldN : List Nat → Nat
  | [] => 0
  | k :: r => if k = 0 then toldN r else k

theorem toldN_at (cs : List Nat) (k : Nat) (h : ∀ j, j < k → cs.getD j 0 = 0) (hk : k < cs.length) (hne : cs.getD k 0 ≠ 0) : toldN cs = cs.getD k 0 := by
  induction cs generalizing k with
  | nil => simp at hk
  | cons c r ih =>
    cases k with
    | zero => simp at hne ⊢; simp [toldN, hne]
    | succ k =>
      have h0 := h 0 (by omega)
      simp at h0
      simp only [toldN, h0, if_true, List.getD_cons_succ]
      exact ih k (fun j hj => by have := h (j + 1) (by omega); simpa using this) (by simpa using hk) (by simpa using hne)
theorem toldN_none (cs : List Nat) (h : ∀ j, j < cs.length → cs.getD j 0 = 0) : toldN cs = 0 := by
  induction cs with
  | nil => rfl
  | cons c r ih =>
    have h0 := h 0 (by simp)
    simp at h0
    simp only [toldN, h0, if_true]
    exact ih fun j hj => by have := h (j + 1) (by simpa using hj); simpa using this

set_option maxHeartbeats 400000 in
theorem need_any (b : Bool) (v : Value) (w : World) :
    Calls Tryd.prog 51 #[.bool b, v] w fun e w' => e = .returned (if b then .nilIface else v) ∧ w = w' := by
  cases b <;>
  · go_enter Tryd.func51, Tryd.ntmps51
    go_wp2
    go_ret
    exact ⟨rfl, rfl⟩

/-- A number, unless something holds. -/
def chk (b : Bool) (k : Nat) : Nat := if b then 0 else k
/-- The first one that is none. -/
def first2 (k l : Nat) : Nat := if k = 0 then l else k
theorem isErr_chk (b : Bool) {k : Nat} (h : isErr k) : isErr (chk b k) := by
  cases b
  · exact h
  · exact .inl rfl
theorem need_ev {aA aB aP : Addr} (b : Bool) (k : Nat) (v : Value) (w : World) (hv : v = ev aA aB aP k) : Calls Tryd.prog 51 #[.bool b, v] w fun e w' => e = .returned (ev aA aB aP (chk b k)) ∧ Below w.heap.size w w' := by
  have h := Calls.still (need_any b v w)
  have e : (if b = true then Value.nilIface else v) = ev aA aB aP (chk b k) := by
    subst hv
    cases b
    · rfl
    · rfl
  rwa [e] at h

theorem need_true (v : Value) (w : World) : Calls Tryd.prog 51 #[.bool true, v] w fun e w' => e = .returned .nilIface ∧ Below w.heap.size w w' := Calls.still (need_any true v w)
theorem need_false (v : Value) (w : World) : Calls Tryd.prog 51 #[.bool false, v] w fun e w' => e = .returned v ∧ Below w.heap.size w w' := Calls.still (need_any false v w)

set_option maxHeartbeats 1000000 in
/-- bits.told. -/
theorem told_any (A : Option Addr) (n c : Nat) (cs : List Nat) (aA aB aP : Addr) (w : World) (hS : BSent w aA aB aP) (hn : n ≤ 1000) (hR : Row w A n (cs.map (ev aA aB aP))) (hE : ∀ k ∈ cs, isErr k) :
    Calls Tryd.prog 50 #[.slice A n c] w fun e w' => e = .returned (.int .i64 (toldN cs)) ∧ w = w' := by
  have hl := hR.1
  simp at hl
  have HL := Lib.hid hl
  have HR := Lib.hid hR
  have HE := Lib.hid hE
  have gA := hS.hA.1
  have gB := hS.hB.1
  have gP := hS.hP.1
  have HS := Lib.hid hS
  clear hl hR hE hS
  go_enter Tryd.func50, Tryd.ntmps50
  go_wp2
  go_loop [7] (fun i => ∃ k : Nat, k ≤ n ∧ i = .int .i64 k ∧ ∀ j, j < k → cs.getD j 0 = 0) (fun i => n - (intOf i).toNat)
  case atStart => exact ⟨0, Nat.zero_le _, rfl, fun j hj => absurd hj (by omega)⟩
  case round =>
    obtain ⟨k, hk, rfl, hz⟩ := hrel
    have HZ := Lib.hid hz
    clear hz
    by_cases hlt : k < n
    · obtain ⟨b, off, rfl, hc⟩ := HR.out.at_ hlt
      have hkl : k < cs.length := by have := HL.out; omega
      have hv : (cs.map (ev aA aB aP))[k]'(by simpa using hkl) = ev aA aB aP (cs.getD k 0) := by simp [hkl]
      rw [hv] at hc
      clear hv
      have hq : isErr (cs.getD k 0) := HE.out _ (by simp [hkl])
      generalize hcd : cs.getD k 0 = q at hc hq
      have HQ := Lib.hid hcd
      clear hcd
      rcases hq with rfl | rfl | rfl | rfl
      · simp only [ev, if_true] at hc
        go_wp2
        go_round
        case rel => exact ⟨k + 1, by omega, by go_num, fun j hj => by
          by_cases e : j = k
          · rw [e]; exact HQ.out
          · exact HZ.out j (by omega)⟩
        case measure => simp [intOf]; omega
      · simp only [ev, Err] at hc
        go_wp2_with (go_at_call 57; refine (is_same _ _).mono ?_; rintro e w' ⟨rfl, rfl⟩)
        go_ret
        exact ⟨ret_int (by rw [toldN_at cs k HZ.out hkl (by rw [HQ.out]; decide), HQ.out]; rfl), rfl⟩
      · simp only [ev, Err] at hc
        go_wp2_with fail
        obtain ⟨cb, tb', hbb⟩ := HS.out.hB.2
        obtain ⟨ca, ta', haa⟩ := HS.out.hA.2
        refine (is_other aB aA cb ca tb' ta' _ (Ne.symm HS.out.ab) hbb haa).mono ?_
        rintro e w' ⟨rfl, rfl⟩
        have HBB := Lib.hid hbb
        have HAA := Lib.hid haa
        clear hbb haa
        go_wp2_with (go_at_call 57; refine (is_same _ _).mono ?_; rintro e w' ⟨rfl, rfl⟩)
        go_ret
        exact ⟨ret_int (by rw [toldN_at cs k HZ.out hkl (by rw [HQ.out]; decide), HQ.out]; rfl), rfl⟩
      · simp only [ev, Err] at hc
        go_wp2_with fail
        obtain ⟨cb, tb', hbb⟩ := HS.out.hB.2
        obtain ⟨ca, ta', haa⟩ := HS.out.hA.2
        obtain ⟨cp, tp', hpp⟩ := HS.out.hP.2
        refine (is_other aP aA cp ca tp' ta' _ (Ne.symm HS.out.ap) hpp haa).mono ?_
        rintro e w' ⟨rfl, rfl⟩
        have HBB := Lib.hid hbb
        have HAA := Lib.hid haa
        have HPP := Lib.hid hpp
        clear hbb haa hpp
        go_wp2_with fail
        refine (is_other aP aB cp cb tp' tb' _ (Ne.symm HS.out.bp) HPP.out HBB.out).mono ?_
        rintro e w' ⟨rfl, rfl⟩
        go_wp2_with (go_at_call 57; refine (is_same _ _).mono ?_; rintro e w' ⟨rfl, rfl⟩)
        go_ret
        exact ⟨ret_int (by rw [toldN_at cs k HZ.out hkl (by rw [HQ.out]; decide), HQ.out]; rfl), rfl⟩
    · go_wp2
      go_ret
      exact ⟨ret_int (by rw [toldN_none cs fun j hj => HZ.out j (by have := HL.out; omega)]; rfl), rfl⟩

theorem cell_one {w : World} {t : TypeId} {v : Value} : (w.alloc (.cells #[v] t)).cell? ⟨w.heap.size, 0, none⟩ = some v := by simp [go_sem]
theorem row_one (w : World) (t : TypeId) (v : Value) : Row (w.alloc (.cells #[v] t)) (some ⟨w.heap.size, 0, none⟩) 1 [v] :=
  ⟨rfl, fun _ => ⟨_, 0, rfl, fun j u hu => by
    cases j with
    | zero => simp at hu; subst hu; exact cell_one
    | succ j => simp at hu⟩⟩
theorem row_two (w : World) (t : TypeId) (v u : Value) : Row (w.alloc (.cells #[v, u] t)) (some ⟨w.heap.size, 0, none⟩) 2 [v, u] :=
  ⟨rfl, fun _ => ⟨_, 0, rfl, fun j z hz => by
    match j with
    | 0 => simp at hz; subst hz; simp [go_sem]
    | 1 => simp at hz; subst hz; simp [go_sem]
    | j + 2 => simp at hz⟩⟩

theorem told_one {aA aB aP : Addr} (W : World) (g : Nat) (hg : W.heap.size = g) (k : Nat) (hk : isErr k) (v : Value) (hv : v = ev aA aB aP k) (hS : BSent W aA aB aP) :
    Calls Tryd.prog 50 #[.slice (some ⟨g, 0, none⟩) 1 1] (W.alloc (.cells #[v] 57)) fun e w' => e = .returned (.int .i64 k) ∧ W.alloc (.cells #[v] 57) = w' := by
  subst hg hv
  have h := told_any (some ⟨W.heap.size, 0, none⟩) 1 1 [k] aA aB aP _ (hS.ext ((Below.refl _ _).alloc (Nat.le_refl _) (.cells #[ev aA aB aP k] 57))) (by omega) (row_one W 57 _) (by simpa using hk)
  have e : toldN [k] = k := by simp [toldN]; omega
  rwa [e] at h

theorem told_two {aA aB aP : Addr} (W : World) (g : Nat) (hg : W.heap.size = g) (k l : Nat) (hk : isErr k) (hl : isErr l) (v u : Value) (hv : v = ev aA aB aP k) (hu : u = ev aA aB aP l) (hS : BSent W aA aB aP) :
    Calls Tryd.prog 50 #[.slice (some ⟨g, 0, none⟩) 2 2] (W.alloc (.cells #[v, u] 57)) fun e w' => e = .returned (.int .i64 (first2 k l : Nat)) ∧ W.alloc (.cells #[v, u] 57) = w' := by
  subst hg hv hu
  have h := told_any (some ⟨W.heap.size, 0, none⟩) 2 2 [k, l] aA aB aP _ (hS.ext ((Below.refl _ _).alloc (Nat.le_refl _) (.cells #[ev aA aB aP k, ev aA aB aP l] 57))) (by omega) (row_two W 57 _ _) (by simpa using ⟨hk, hl⟩)
  have e : toldN [k, l] = first2 k l := by
    simp only [toldN, first2]
    split <;> simp_all
  rwa [e] at h

theorem ev_form (aA aB aP : Addr) (k : Nat) : ev aA aB aP k = .nilIface ∨ ∃ a, ev aA aB aP k = Err a := by
  unfold ev
  split
  · exact .inl rfl
  · split
    · exact .inr ⟨_, rfl⟩
    · split
      · exact .inr ⟨_, rfl⟩
      · exact .inr ⟨_, rfl⟩
theorem run_errs1 (aA aB aP : Addr) (k : Nat) (W : World) : (Instr.buildSlice 77 1 #[(0, ev aA aB aP k)]).run Tryd.prog W = .ok (.slice (some ⟨W.heap.size, 0, none⟩) 1 1) (W.alloc (.cells #[ev aA aB aP k] 57)) := by
  rcases ev_form aA aB aP k with h | ⟨a, h⟩ <;> rw [h] <;> simp [go_sem, Err]
theorem run_errs2 (aA aB aP : Addr) (k l : Nat) (W : World) : (Instr.buildSlice 77 2 #[(0, ev aA aB aP k), (1, ev aA aB aP l)]).run Tryd.prog W = .ok (.slice (some ⟨W.heap.size, 0, none⟩) 2 2) (W.alloc (.cells #[ev aA aB aP k, ev aA aB aP l] 57)) := by
  rcases ev_form aA aB aP k with h | ⟨a, h⟩ <;> rcases ev_form aA aB aP l with h' | ⟨a', h'⟩ <;> rw [h, h'] <;> simp [go_sem, Err]

theorem ev_arg (aA aB aP : Addr) : Value.iface 110 (.pointer (some aA)) = ev aA aB aP 2 := rfl
theorem ev_bits (aA aB aP : Addr) : Value.iface 110 (.pointer (some aB)) = ev aA aB aP 20 := rfl
theorem ev_place (aA aB aP : Addr) : Value.iface 110 (.pointer (some aP)) = ev aA aB aP 21 := rfl
theorem ev_none (aA aB aP : Addr) : Value.nilIface = ev aA aB aP 0 := rfl

theorem first2_zero {b p : Bool} {k l : Nat} (hk : k ≠ 0) (hl : l ≠ 0) (h : 0 = first2 (chk b k) (chk p l)) : b = true ∧ p = true := by
  cases b <;> cases p <;> simp [first2, chk, hk] at h ⊢ <;> omega
theorem chk_zero {b : Bool} {k : Nat} (hk : k ≠ 0) (h : 0 = chk b k) : b = true := by
  cases b <;> simp [chk] at h ⊢ <;> omega

theorem told_pair {aA aB aP : Addr} (W : World) (g : Nat) (k l : Nat) (hk : isErr k) (hl : isErr l) (hR : Row W (some ⟨g, 0, none⟩) 2 [ev aA aB aP k, ev aA aB aP l]) (hS : BSent W aA aB aP) :
    Calls Tryd.prog 50 #[.slice (some ⟨g, 0, none⟩) 2 2] W fun e w' => e = .returned (.int .i64 (first2 k l : Nat)) ∧ W = w' := by
  have h := told_any (some ⟨g, 0, none⟩) 2 2 [k, l] aA aB aP W hS (by omega) hR (by simpa using ⟨hk, hl⟩)
  have e : toldN [k, l] = first2 k l := by
    simp only [toldN, first2]
    split <;> simp_all
  rwa [e] at h
theorem told_single {aA aB aP : Addr} (W : World) (g : Nat) (k : Nat) (hk : isErr k) (hR : Row W (some ⟨g, 0, none⟩) 1 [ev aA aB aP k]) (hS : BSent W aA aB aP) :
    Calls Tryd.prog 50 #[.slice (some ⟨g, 0, none⟩) 1 1] W fun e w' => e = .returned (.int .i64 k) ∧ W = w' := by
  have h := told_any (some ⟨g, 0, none⟩) 1 1 [k] aA aB aP W hS (by omega) hR (by simpa using hk)
  have e : toldN [k] = k := by simp [toldN]; omega
  rwa [e] at h

attribute [irreducible] ev chk first2

end Go.Proofs.YtelbddnjnapoeaaDoor
