/-
  What is proved: what a loop over an iterator keeps, named by its blocks; contracts of lines, Make, Right and kept of package marks. No condition beyond those stated.
-/
import Derived.Test.YtllanbggjfmfhaaGreatDoorNd
import Derived.Test.YtllanbggjfmfhaaGreatDoorNf
namespace Go.Proofs.YtllanbggjfmfhaaGreatDoor
open Go.RowKit Go.Shelf
attribute [local go_sem] Oper.semAt_some

/-- Some blocks are what they were. -/
def KeepB (S : List Nat) (W W' : World) : Prop := ∀ b ∈ S, W'.heap[b]? = W.heap[b]?
section
variable {S : List Nat} {X Y Z : World}
theorem KeepB.refl (S : List Nat) (W : World) : KeepB S W W := fun _ _ => rfl
theorem KeepB.t (h : KeepB S X Y) (k : KeepB S Y Z) : KeepB S X Z := fun b hb => (k b hb).trans (h b hb)
theorem KeepB.cell (h : KeepB S X Y) {b o : Nat} {v : Value} (hb : b ∈ S) (hc : X.cell? ⟨b, o, none⟩ = some v) : Y.cell? ⟨b, o, none⟩ = some v := (World.cell?_of_block (w := X) (h b hb)).trans hc
theorem KeepB.blk (h : KeepB S X Y) {b : Nat} {t : TypeId} {cs : Array Value} (hb : b ∈ S) (hc : Blk X b t cs) : Blk Y b t cs := (h b hb).trans hc
theorem KeepB.row (h : KeepB S X Y) {A : Option Addr} {n : Nat} {xs : List Value} (hR : Row X A n xs) (hA : ∀ a, A = some a → a.block ∈ S) : Row Y A n xs :=
  ⟨hR.1, fun hn => by
    obtain ⟨b, off, e, hc⟩ := hR.2 hn
    exact ⟨b, off, e, fun j u hu => h.cell (hA _ e) (hc j u hu)⟩⟩
theorem KeepB.b {w : World} (hS : ∀ b ∈ S, b < w.heap.size) (W : World) (l : Nat) (o o' : Obj) (hl : w.heap.size ≤ l) (_ : W.heap[l]? = some o) (_ : o.isCells = false) (_ : o.isWalk = false) : KeepB S W (W.putObj l o') :=
  fun b hb => World.putObj_heap_other (by have := hS b hb; omega)
theorem KeepB.of_below {n : Nat} (h : Below n X Y) (hS : ∀ b ∈ S, b < n) : KeepB S X Y := fun b hb => h.block b (hS b hb)
theorem KeepB.of_grown {row : Option Nat} (h : X.grownBy Y row) (hS : ∀ b ∈ S, b < X.heap.size ∧ some b ≠ row) : KeepB S X Y := fun b hb => h.block b (hS b hb).1 (hS b hb).2
end

/-- What an iterator of numbers has come by. -/
def cameI (L : List Int) (pre : List (Fin L.length)) : List Int := pre.map fun x => L[x.1]
theorem cameI_snoc (L : List Int) (pre : List (Fin L.length)) (x : Fin L.length) : cameI L (pre ++ [x]) = cameI L pre ++ [L[x.1]] := by simp [cameI]
theorem cameI_all (L : List Int) : cameI L (List.finRange L.length) = L := by
  unfold cameI
  apply List.ext_getElem
  · simp
  · intro i h1 h2; simp
theorem cameI_take (L : List Int) (k : Nat) : ∃ rest, L = cameI L ((List.finRange L.length).take k) ++ rest := by
  refine ⟨cameI L ((List.finRange L.length).drop k), ?_⟩
  have h : ∀ a b, cameI L (a ++ b) = cameI L a ++ cameI L b := fun a b => by simp [cameI]
  rw [← h, List.take_append_drop, cameI_all]
theorem cameI_len (L : List Int) (pre : List (Fin L.length)) : (cameI L pre).length = pre.length := by simp [cameI]

/-- An iterator of numbers. -/
abbrev StopsI (n f : Nat) (lb : Array Value) (S : List Nat) (L : List Int) (w : World) : Prop :=
  SeqStopsK Fence.wide n Tryz.prog f lb (fun x : Fin L.length => #[.int .i64 (L[x.1])]) (KeepB S) (fun ys => ys = List.finRange L.length) (fun pre => ∃ k, k ≤ L.length ∧ pre = (List.finRange L.length).take k) L.length w

/-- The numbers from 0 on, so many. -/
def upL (n : Nat) : List Int := (List.range n).map fun i : Nat => (i : Int)
theorem upL_len (n : Nat) : (upL n).length = n := by simp [upL]
theorem upL_get (n k : Nat) (h : k < (upL n).length) : (upL n)[k] = (k : Int) := by simp [upL]

set_option maxRecDepth 100000 in
set_option maxHeartbeats 2000000 in
theorem lines1_in (n : Nat) (b1 b2 y : Nat) (N : Nat) (hN : 1 ≤ N ∧ N ≤ 1000) (L : List Int) (hL : L = upL N) (J Jx : List (Fin L.length) → World → Prop) (W : World) (hJ : AbidesFrom W.heap.size J)
    (hY : ∀ pre x W, J pre W → pre.length < L.length → YieldAt Fence.wide (n - 1) Tryz.prog y #[.int .i64 (L[x.1])] W fun e W' =>
      (e = .returned (.bool true) ∧ J (pre ++ [x]) W' ∧ KeepB [b1, b2] W W') ∨ (e = .returned (.bool false) ∧ Jx (pre ++ [x]) W'))
    (h1 : W.cell? ⟨b1, 0, none⟩ = some (.int .i64 0)) (h2 : W.cell? ⟨b2, 0, none⟩ = some (.int .i64 ((N : Int) - 1))) (h0 : J [] W) :
    CallsIn Fence.wide n Tryz.prog 81 #[.func (.yield y) #[] #[], .pointer (some ⟨b1, 0, none⟩), .pointer (some ⟨b2, 0, none⟩)] W (SeqEnd (fun ys => ys = List.finRange L.length) (fun pre => ∃ k, k ≤ L.length ∧ pre = (List.finRange L.length).take k) J Jx) := by
  have hlen : L.length = N := by rw [hL, upL_len]
  have hget : ∀ k (h : k < L.length), L[k] = (k : Int) := fun k h => by subst hL; exact upL_get N k h
  have HJ := Lib.hid hJ
  have HG := Lib.hid hget
  have HLEN := Lib.hid hlen
  clear hJ hget hL hlen
  refine callsIn_of_wp Tryz.func81 rfl trivial ?_ rfl
  simp only [Tryz.ntmps81, List.size_toArray, List.length_cons, List.length_nil, Nat.reduceAdd, Nat.reduceSub, Array.replicate_succ, Array.replicate_zero, List.push_toArray, List.append_toArray, List.nil_append, List.cons_append]
  gi_wp2
  gi_loopw [4] (fun i wr => ∃ k : Nat, k ≤ N ∧ i = .int .i64 k ∧ J ((List.finRange L.length).take k) wr ∧ KeepB [b1, b2] W wr)
    (fun i _ => N - (intOf i).toNat)
  case atStart => exact ⟨0, Nat.zero_le _, rfl, h0, KeepB.refl _ _⟩
  case round =>
    obtain ⟨k, hk, rfl, hJs, hkp⟩ := hrel
    have c2 := hkp.cell (by simp) h2
    have HK := Lib.hid hkp
    have HJs := Lib.hid hJs
    clear hkp hJs
    by_cases hlt : k < N
    · have hkN : k < L.length := by have := HLEN.out; omega
      have hle : (k : Int) ≤ (N : Int) - 1 := by omega
      obtain ⟨fn, tmps, assign, body, hy, hRy⟩ := hY _ ⟨k, hkN⟩ _ HJs.out (by simp; omega)
      dsimp only at hy hRy
      rw [HG.out k hkN] at hy
      have HRy := Lib.hid hRy
      clear hRy
      gi_wp2
      refine ⟨fun h => by simp [Fence.wide] at h, HRy.out.mono ?_⟩
      rintro e W3 (⟨rfl, hJ4, hk4⟩ | ⟨rfl, hJx4⟩)
      · have HJ4 := Lib.hid hJ4
        have HK4 := Lib.hid hk4
        clear hJ4 hk4
        gi_wp2
        go_roundw
        case rel => exact ⟨k + 1, by omega, by go_num, by rw [fin_take_succ _ _ hkN]; exact HJ4.out, HK.out.t HK4.out⟩
        case measure => simp [intOf]; omega
      · have HJx4 := Lib.hid hJx4
        clear hJx4
        gi_wp2
        refine bodyPost_ret (results_none rfl _ _ _) rfl ?_
        exact ⟨⟨_, rfl⟩, .inr ⟨_, ⟨k + 1, by omega, rfl⟩, by rw [fin_take_succ _ _ hkN]; exact HJx4.out⟩⟩
    · have HKL := Lib.hid (show k = L.length by have := HLEN.out; omega)
      have hle : ¬ (k : Int) ≤ (N : Int) - 1 := by omega
      gi_wp2
      go_end0
      refine ⟨⟨_, rfl⟩, .inl ⟨_, rfl, ?_⟩⟩
      have := HJs.out
      rwa [HKL.out, fin_take_all] at this

theorem lines1_stops (n : Nat) (b1 b2 : Nat) (N : Nat) (hN : 1 ≤ N ∧ N ≤ 1000) (w : World) (h1 : w.cell? ⟨b1, 0, none⟩ = some (.int .i64 0)) (h2 : w.cell? ⟨b2, 0, none⟩ = some (.int .i64 ((N : Int) - 1))) :
    StopsI n 81 #[.pointer (some ⟨b1, 0, none⟩), .pointer (some ⟨b2, 0, none⟩)] [b1, b2] (upL N) w := fun y J Jx W hW hJ _ hY h0 =>
  lines1_in n b1 b2 y N hN _ rfl J Jx W hJ hY (cell_ext hW h1) (cell_ext hW h2) h0

set_option maxHeartbeats 400000 in
theorem lines_any (a b : Int) (w : World) :
    Calls Tryz.prog 63 #[.int .i64 a, .int .i64 b] w fun e w' => e = .returned (.func (.func 81) #[] #[.pointer (some ⟨w.heap.size, 0, none⟩), .pointer (some ⟨w.heap.size + 1, 0, none⟩)]) ∧ (w.alloc (.cells #[.int .i64 a] 3)).alloc (.cells #[.int .i64 b] 3) = w' := by
  go_enter Tryz.func63, Tryz.ntmps63
  go_wp2
  go_ret
  exact ⟨rfl, rfl⟩

/-! ### Tables -/
def lineB (x : Int) : Bool := decide (0 ≤ x) && decide (x ≤ 2)
/-- A right table. -/
def tabB (t : List Int) : Bool := decide (t.length = 32) && t.all lineB
def keptB (t : List Int) (i : Nat) : Bool := (t.getD i 0 != 0) || (decide (0 < i) && (t.getD (i - 1) 0 == 2))
def linesL (t : List Int) : List Int := ((List.range 32).filter (keptB t)).map fun i : Nat => (i : Int)
def linesR (t : List Int) : List Int := if tabB t then linesL t else []
theorem tab_len {t : List Int} (h : tabB t = true) : t.length = 32 := by
  simp only [tabB, Bool.and_eq_true, decide_eq_true_eq] at h
  exact h.1
theorem tab_at {t : List Int} (h : tabB t = true) (i : Nat) : 0 ≤ t.getD i 0 ∧ t.getD i 0 ≤ 2 := by
  simp only [tabB, Bool.and_eq_true, decide_eq_true_eq] at h
  rcases Nat.lt_or_ge i t.length with hi | hi
  · have := List.all_eq_true.1 h.2 t[i] (List.getElem_mem _)
    simp only [lineB, Bool.and_eq_true, decide_eq_true_eq] at this
    simpa [hi] using this
  · rw [List.getD_eq_getElem?_getD, List.getElem?_eq_none hi]; simp

end Go.Proofs.YtllanbggjfmfhaaGreatDoor
