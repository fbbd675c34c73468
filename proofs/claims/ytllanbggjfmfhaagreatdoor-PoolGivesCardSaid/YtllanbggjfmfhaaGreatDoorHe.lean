/-
  What is proved: contracts of slices.Index and slices.Contains at lists of numbers, of a keeper's has, and its blocks as an iterator. No condition beyond those stated.
-/
import Derived.Test.YtllanbggjfmfhaaGreatDoorHd
namespace Go.Proofs.YtllanbggjfmfhaaGreatDoor
open Go.RowKit Go.Shelf
attribute [local go_sem] Oper.semAt_some

def hasB (xs : List Int) (y : Int) : Bool := decide (y ∈ xs)

def GivesAt (w : World) (xs : List Int) (y : Int) (e : Ending) (w' : World) : Prop := ∃ i : Int, e = .returned (.int .i64 i) ∧ (decide (i ≥ 0) = hasB xs y) ∧ w = w'

set_option maxHeartbeats 1000000 in
theorem index_any (A : Option Addr) (n c : Nat) (xs : List Int) (y : Int) (w : World) (hR : Row w A n (xs.map Iv)) (hn : n ≤ 100000) :
    Calls Tryz.prog 80 #[.slice A n c, .int .i64 y] w (GivesAt w xs y) := by
  have hl := hR.1
  simp at hl
  have HR := Lib.hid hR
  have HL := Lib.hid hl
  clear hR hl
  go_enter Tryz.func80, Tryz.ntmps80
  go_wp2
  go_loop [8] (fun i => ∃ k : Nat, k ≤ n ∧ i = .int .i64 k ∧ ∀ j, j < k → xs.getD j 0 ≠ y) (fun i => n - (intOf i).toNat)
  case atStart => exact ⟨0, Nat.zero_le _, rfl, fun j hj => absurd hj (by omega)⟩
  case round =>
    obtain ⟨k, hk, rfl, hz⟩ := hrel
    have HZ := Lib.hid hz
    clear hz
    by_cases hlt : k < n
    · obtain ⟨b, off, x, rfl, hcx, hx, hx2⟩ := num_at HR.out hlt
      have HX := Lib.hid hx
      have HX2 := Lib.hid hx2
      clear hx hx2
      by_cases hxy : y = x
      · have hd : (y == x) = true := by simpa using hxy
        have HD := Lib.hid hxy
        clear hxy
        go_wp2
        go_ret
        refine ⟨(k : Int), rfl, ?_, rfl⟩
        unfold hasB
        rw [decide_eq_true (by omega), decide_eq_true (by rw [HD.out]; exact List.mem_of_getElem? HX2.out)]
      · have hd : (y == x) = false := by simpa using hxy
        have HD := Lib.hid hxy
        clear hxy
        go_wp2
        go_round
        case rel => exact ⟨k + 1, by omega, by go_num, fun j hj => by
          by_cases e : j = k
          · rw [e, HX.out]; exact fun h => HD.out h.symm
          · exact HZ.out j (by omega)⟩
        case measure => simp [intOf]; omega
    · go_wp2
      go_ret
      refine ⟨-1, rfl, ?_, rfl⟩
      unfold hasB
      rw [decide_eq_false (by omega), decide_eq_false]
      intro h
      obtain ⟨j, hj, e⟩ := List.mem_iff_getElem.1 h
      exact HZ.out j (by have := HL.out; omega) (by simpa [hj] using e)

set_option maxHeartbeats 400000 in
theorem contains_any (A : Option Addr) (n c : Nat) (xs : List Int) (y : Int) (w : World) (hR : Row w A n (xs.map Iv)) (hn : n ≤ 100000) :
    Calls Tryz.prog 62 #[.slice A n c, .int .i64 y] w fun e w' => e = .returned (.bool (hasB xs y)) ∧ w = w' := by
  have hcall := index_any A n c xs y w hR hn
  clear hR
  go_enter Tryz.func62, Tryz.ntmps62
  go_wp2_with fail
  refine hcall.mono ?_
  clear hcall
  rintro e w' ⟨i, rfl, hi, rfl⟩
  cases hh : hasB xs y
  · rw [hh] at hi
    have HH := Lib.hid hh
    clear hh
    go_wp2
    go_ret
    exact ⟨ret_bool HH.out.symm, rfl⟩
  · rw [hh] at hi
    have HH := Lib.hid hh
    clear hh
    go_wp2
    go_ret
    exact ⟨ret_bool HH.out.symm, rfl⟩

theorem mem_getD {l : List Int} {k : Nat} {x : Int} (h : l[k]? = some x) : l.getD k 0 = x := by rw [List.getD_eq_getElem?_getD, h]; rfl

def hasN (l : List Int) (b : Int) (ws : List Int) : Bool := decide (0 ≤ b) && decide (b < l.length) && hasB ws (l.getD b.toNat 0)

set_option maxRecDepth 100000 in
set_option maxHeartbeats 1000000 in
/-- A keeper's has. -/
theorem has_any_k (K SB : Nat) (l : List Int) (tv : Value) (b : Int) (A : Option Addr) (n c : Nat) (ws : List Int) (w : World) (hK : Blk w K 53 #[.slice (some ⟨SB, 0, none⟩) l.length l.length, tv]) (hS : Blk w SB 3 (l.map Iv).toArray)
    (hR : Row w A n (ws.map Iv)) (hn : n ≤ 1000) :
    Calls Tryz.prog 35 #[.pointer (some ⟨K, 0, none⟩), .int .i64 b, .slice A n c] w fun e w' => e = .returned (.bool (hasN l b ws)) ∧ w = w' := by
  have c0 := hK.cell 0
  simp at c0
  by_cases h0 : 0 ≤ b
  · by_cases h1 : b < l.length
    · obtain ⟨i, rfl⟩ : ∃ i : Nat, b = i := ⟨b.toNat, by omega⟩
      have hil : i < l.length := by omega
      have hcx : w.cell? ⟨SB, i, none⟩ = some (.int .i64 l[i]) := by rw [hS.cell i]; simp [hil, Iv]
      have hcall := contains_any A n c ws l[i] w hR (by omega)
      have hN : hasN l i ws = hasB ws l[i] := by
        unfold hasN
        rw [decide_eq_true h0, decide_eq_true h1]
        simp [hil]
      have HN := Lib.hid hN
      generalize l[i] = x at *
      have hd0 : decide ((i : Int) ≥ 0) = true := by simp
      clear hR hK hS hN
      cases hh : hasB ws x
      all_goals
        rw [hh] at hcall
        have HH := Lib.hid hh
        clear hh
        go_enter Tryz.func35, Tryz.ntmps35
        go_wp2_with fail
        refine hcall.mono ?_
        clear hcall
        rintro e w' ⟨rfl, rfl⟩
        go_wp2
        go_ret
        exact ⟨ret_bool (by rw [HN.out, HH.out]), rfl⟩
    · have hN : hasN l b ws = false := by unfold hasN; rw [decide_eq_false h1]; simp
      have HN := Lib.hid hN
      have hd0 : decide (b ≥ 0) = true := by simpa using h0
      clear hR hK hS hN
      go_enter Tryz.func35, Tryz.ntmps35
      go_wp2
      go_ret
      exact ⟨ret_bool HN.out.symm, rfl⟩
  · have hN : hasN l b ws = false := by unfold hasN; rw [decide_eq_false h0]; rfl
    have HN := Lib.hid hN
    have hd0 : decide (b ≥ 0) = false := by simpa using h0
    clear hR hK hS hN
    go_enter Tryz.func35, Tryz.ntmps35
    go_wp2
    go_ret
    exact ⟨ret_bool HN.out.symm, rfl⟩

/-! ### blocks -/
/-- The blocks that have one of some states. -/
def blocksFrom (l ws : List Int) (b : Nat) : List Int := ((List.range' b (l.length - b)).filter fun i => hasB ws (l.getD i 0)).map fun i : Nat => (i : Int)
def blocksL (l ws : List Int) : List Int := blocksFrom l ws 0
theorem blocks_from (l ws : List Int) {b : Nat} (h : b < l.length) : blocksFrom l ws b = (if hasB ws (l.getD b 0) then [(b : Int)] else []) ++ blocksFrom l ws (b + 1) := by
  unfold blocksFrom
  rw [show l.length - b = (l.length - (b + 1)) + 1 by omega, List.range'_succ, List.filter_cons]
  split <;> simp

set_option maxRecDepth 100000 in
set_option maxHeartbeats 2000000 in
theorem blocks1_in (n K SB b1 b2 : Nat) (l : List Int) (tv : Value) (A : Option Addr) (q c : Nat) (ws : List Int) (hl : l.length ≤ 1000) (hq : q ≤ 1000) (y : Nat) (S : List Nat) (hS : K ∈ S ∧ SB ∈ S ∧ b1 ∈ S ∧ b2 ∈ S) (hAS : ∀ a, A = some a → a.block ∈ S) (L : List Int) (hL : L = blocksL l ws) (J Jx : List (Fin L.length) → World → Prop) (W : World) (hJ : AbidesFrom W.heap.size J)
    (hY : ∀ pre x W, J pre W → pre.length < L.length → YieldAt Fence.wide (n - 1) Tryz.prog y #[.int .i64 (L[x.1])] W fun e W' =>
      (e = .returned (.bool true) ∧ J (pre ++ [x]) W' ∧ KeepB S W W') ∨ (e = .returned (.bool false) ∧ Jx (pre ++ [x]) W'))
    (hK : Blk W K 53 #[.slice (some ⟨SB, 0, none⟩) l.length l.length, tv]) (hSB : Blk W SB 3 (l.map Iv).toArray) (h1 : W.cell? ⟨b1, 0, none⟩ = some (.pointer (some ⟨K, 0, none⟩))) (h2 : W.cell? ⟨b2, 0, none⟩ = some (.slice A q c)) (hR : Row W A q (ws.map Iv)) (h0 : J [] W) :
    CallsIn Fence.wide n Tryz.prog 70 #[.func (.yield y) #[] #[], .pointer (some ⟨b1, 0, none⟩), .pointer (some ⟨b2, 0, none⟩)] W (SeqEnd (fun ys => ys = List.finRange L.length) (fun pre => ∃ k, k ≤ L.length ∧ pre = (List.finRange L.length).take k) J Jx) := by
  obtain ⟨hS1, hS2, hS3, hS4⟩ := hS
  have c0 := hK.cell 0
  simp at c0
  have HR := Lib.hid hR
  have HJ := Lib.hid hJ
  have HL := Lib.hid hL
  have HAS := Lib.hid hAS
  have HSB := Lib.hid hSB
  clear hR hJ hL hAS hSB hK
  refine callsIn_of_wp Tryz.func70 rfl trivial ?_ rfl
  simp only [Tryz.ntmps70, List.size_toArray, List.length_cons, List.length_nil, Nat.reduceAdd, Nat.reduceSub, Array.replicate_succ, Array.replicate_zero, List.push_toArray, List.append_toArray, List.nil_append, List.cons_append]
  refine wpIn_scope_ahead 0 (fun _ _ => False) rfl ?_ (fun _ _ h => h.elim)
  gi_wp2_with fail
  refine wpIn_label ?_
  gi_wp2
  gi_loopw [12] (fun i wr => ∃ b k : Nat, b ≤ l.length ∧ i = .int .i64 b ∧ k ≤ L.length ∧ L.drop k = blocksFrom l ws b ∧ J ((List.finRange L.length).take k) wr ∧ KeepB S W wr)
    (fun i _ => l.length - (intOf i).toNat)
  case atStart => exact ⟨0, 0, Nat.zero_le _, rfl, Nat.zero_le _, by rw [HL.out]; rfl, h0, KeepB.refl _ _⟩
  case round =>
    obtain ⟨b, k, hbm, rfl, hk, hdr, hJs, hkp⟩ := hrel
    have c2 := hkp.cell hS4 h2
    have HK := Lib.hid hkp
    have HD := Lib.hid hdr
    have HJs := Lib.hid hJs
    have hRw := Lib.hid (hkp.row HR.out HAS.out)
    have hSw := hkp.blk hS2 HSB.out
    clear hkp hdr hJs
    by_cases hlt : b < l.length
    · have hcx : wr.cell? ⟨SB, b, none⟩ = some (.int .i64 (l.getD b 0)) := by rw [hSw.cell b]; simp [hlt, Iv]
      have hfr := blocks_from l ws hlt
      have hcall := contains_any A q c ws (l.getD b 0) wr hRw.out (by omega)
      generalize l.getD b 0 = s at *
      clear hSw
      cases hkb : hasB ws s
      · rw [hkb] at hcall hfr
        have HF := Lib.hid hfr
        clear hfr hkb
        gi_wp2_with fail
        refine ⟨trivial, fun h => by simp [Fence.wide] at h, (callsIn_wide.2 hcall).mono ?_⟩
        clear hcall
        rintro e w' ⟨rfl, rfl⟩
        gi_wp2
        go_roundw
        case rel => exact ⟨b + 1, k, by omega, by go_num, hk, HD.out.trans HF.out, HJs.out, HK.out⟩
        case measure => simp [intOf]; omega
      · rw [hkb] at hcall hfr
        have hdk := HD.out
        rw [hfr] at hdk
        have hkN : k < L.length := by
          have := congrArg List.length hdk
          simp at this
          omega
        have hgk : L[k] = (b : Int) ∧ L.drop (k + 1) = blocksFrom l ws (b + 1) := by
          rw [List.drop_eq_getElem_cons hkN] at hdk
          exact List.cons.inj hdk
        obtain ⟨hg1, hg2⟩ := hgk
        obtain ⟨fn, tmps, assign, body, hy, hRy⟩ := hY _ ⟨k, hkN⟩ _ HJs.out (by simp; omega)
        dsimp only at hy hRy
        rw [hg1] at hy
        have HRy := Lib.hid hRy
        have HG := Lib.hid hg2
        clear hRy hg1 hg2 hdk hfr hkb
        gi_wp2_with fail
        refine ⟨trivial, fun h => by simp [Fence.wide] at h, (callsIn_wide.2 hcall).mono ?_⟩
        clear hcall
        rintro e w' ⟨rfl, rfl⟩
        gi_wp2
        refine ⟨fun h => by simp [Fence.wide] at h, HRy.out.mono ?_⟩
        rintro e W3 (⟨rfl, hJ4, hk4⟩ | ⟨rfl, hJx4⟩)
        · have HJ4 := Lib.hid hJ4
          have HK4 := Lib.hid hk4
          clear hJ4 hk4
          gi_wp2
          go_roundw
          case rel => exact ⟨b + 1, k + 1, by omega, by go_num, by omega, HG.out, by rw [fin_take_succ _ _ hkN]; exact HJ4.out, HK.out.t HK4.out⟩
          case measure => simp [intOf]; omega
        · have HJx4 := Lib.hid hJx4
          clear hJx4
          gi_wp2
          refine bodyPost_ret (results_none rfl _ _ _) rfl ?_
          exact ⟨⟨_, rfl⟩, .inr ⟨_, ⟨k + 1, by omega, rfl⟩, by rw [fin_take_succ _ _ hkN]; exact HJx4.out⟩⟩
    · have hkl : L.length ≤ k := by
        have := congrArg List.length HD.out
        rw [show blocksFrom l ws b = [] by unfold blocksFrom; rw [show l.length - b = 0 by omega]; rfl] at this
        simp at this
        omega
      have HKL := Lib.hid (show k = L.length by omega)
      clear hkl hSw
      gi_wp2
      go_end0
      refine ⟨⟨_, rfl⟩, .inl ⟨_, rfl, ?_⟩⟩
      have := HJs.out
      rwa [HKL.out, fin_take_all] at this

theorem blocks1_stops (n K SB b1 b2 : Nat) (l : List Int) (tv : Value) (A : Option Addr) (q c : Nat) (ws : List Int) (hl : l.length ≤ 1000) (hq : q ≤ 1000) (S : List Nat) (hS : K ∈ S ∧ SB ∈ S ∧ b1 ∈ S ∧ b2 ∈ S) (hAS : ∀ a, A = some a → a.block ∈ S) (w : World)
    (hK : Blk w K 53 #[.slice (some ⟨SB, 0, none⟩) l.length l.length, tv]) (hSB : Blk w SB 3 (l.map Iv).toArray) (h1 : w.cell? ⟨b1, 0, none⟩ = some (.pointer (some ⟨K, 0, none⟩))) (h2 : w.cell? ⟨b2, 0, none⟩ = some (.slice A q c)) (hR : Row w A q (ws.map Iv)) :
    StopsI n 70 #[.pointer (some ⟨b1, 0, none⟩), .pointer (some ⟨b2, 0, none⟩)] S (blocksL l ws) w := fun y J Jx W hW hJ _ hY h0 =>
  blocks1_in n K SB b1 b2 l tv A q c ws hl hq y S hS hAS _ rfl J Jx W hJ hY (hK.ext hW) (hSB.ext hW) (cell_ext hW h1) (cell_ext hW h2) (hR.ext hW) h0

set_option maxHeartbeats 400000 in
theorem blocks_any (p : Option Addr) (S : Option Addr) (n c : Nat) (w : World) :
    Calls Tryz.prog 49 #[.pointer p, .slice S n c] w fun e w' => e = .returned (.func (.func 70) #[] #[.pointer (some ⟨w.heap.size, 0, none⟩), .pointer (some ⟨w.heap.size + 1, 0, none⟩)]) ∧ (w.alloc (.cells #[.pointer p] 45)).alloc (.cells #[.slice S n c] 22) = w' := by
  go_enter Tryz.func49, Tryz.ntmps49
  go_wp2
  go_ret
  exact ⟨rfl, rfl⟩

end Go.Proofs.YtllanbggjfmfhaaGreatDoor
