/-
  What is proved: contracts of Right, Whole and number of package run. No condition beyond those stated.
-/
import Derived.Test.YtllanbggjfmfhaaGreatDoorNa
import Derived.Test.YtllanbggjfmfhaaGreatDoorErr
namespace Go.Proofs.YtllanbggjfmfhaaGreatDoor
open Go.RowKit

theorem enters_known : ∀ args W, (callFunc 71 args).run Tryz.prog W = .ok (.enter 71 args) W := fun args W => by simp [go_sem]
theorem enters_is : ∀ args W, (callFunc 74 args).run Tryz.prog W = .ok (.enter 74 args) W := fun args W => by simp [go_sem]

theorem cell_one {w : World} {t : TypeId} {v : Value} : (w.alloc (.cells #[v] t)).cell? ⟨w.heap.size, 0, none⟩ = some v := by simp [go_sem]

set_option maxHeartbeats 400000 in
/-- run.Right. -/
theorem right_any (A : Option Addr) (n c : Nat) (l : List Int) (w : World) (hR : Row w A n (l.map Iv)) (hn : n ≤ 1000) :
    Calls Tryz.prog 50 #[.slice A n c] w fun e w' => e = .returned (.bool (rightL l)) ∧ Below w.heap.size w w' := by
  have hl := hR.1
  simp at hl
  by_cases h0 : 1 ≤ n
  · by_cases h1 : n ≤ 32
    · have HD : Hid (rightL l = l.all knownB) := Lib.hid (by
        rw [rightL, show decide (1 ≤ l.length) = true by simp; omega, show decide (l.length ≤ 32) = true by simp; omega]; rfl)
      have hx := below_box w (.cells #[.func (.func 71) #[] #[]] 74)
      have hc := cell_one (w := w) (t := 74) (v := .func (.func 71) #[] #[])
      have HR := Lib.hid (hR.ext hx)
      have HX := Lib.hid hx
      clear hR hx hl
      go_enter Tryz.func50, Tryz.ntmps50
      go_wp2_with fail
      refine (each_any 71 #[] enters_known knownB A n c l w.heap.size _ HR.out hn hc (fun x => right1_any x _)).mono ?_
      rintro e w' ⟨rfl, rfl⟩
      clear hc
      go_wp2
      go_ret
      exact ⟨ret_bool HD.out.symm, HX.out⟩
    · have HD : Hid (rightL l = false) := Lib.hid (by rw [rightL, show decide (l.length ≤ 32) = false by simp; omega]; simp)
      clear hR hl
      go_enter Tryz.func50, Tryz.ntmps50
      go_wp2
      go_ret
      exact ⟨ret_bool HD.out.symm, Below.refl _ _⟩
  · have HD : Hid (rightL l = false) := Lib.hid (by rw [rightL, decide_eq_false (show ¬ 1 ≤ l.length by omega)]; simp)
    clear hR hl
    go_enter Tryz.func50, Tryz.ntmps50
    go_wp2
    go_ret
    exact ⟨ret_bool HD.out.symm, Below.refl _ _⟩

theorem right_len {l : List Int} (h : rightL l = true) : 1 ≤ l.length ∧ l.length ≤ 32 := by
  simp only [rightL, Bool.and_eq_true, decide_eq_true_eq] at h
  exact h.1
theorem right_mem {l : List Int} (h : rightL l = true) {x : Int} (hx : x ∈ l) : 0 ≤ x ∧ x ≤ 5 := by
  simp only [rightL, Bool.and_eq_true] at h
  have := List.all_eq_true.1 h.2 x hx
  simpa [knownB] using this

theorem run_two34 (W : World) :
    (Instr.buildSlice 22 2 #[(0, .int .i64 3), (1, .int .i64 4)]).run Tryz.prog W = .ok (.slice (some ⟨W.heap.size, 0, none⟩) 2 2) (W.alloc (.cells #[.int .i64 3, .int .i64 4] 3)) := by
  go_simp

def largeB (x : Int) : Bool := x == 3 || x == 4

set_option maxRecDepth 100000 in
set_option maxHeartbeats 1000000 in
/-- run.Whole. -/
theorem whole_any (A : Option Addr) (n c : Nat) (l : List Int) (w : World) (hR : Row w A n (l.map Iv)) (hn : n ≤ 1000) :
    Calls Tryz.prog 52 #[.slice A n c] w fun e w' => e = .returned (.bool (wholeL l)) ∧ Below w.heap.size w w' := by
  have hl := hR.1
  simp at hl
  have HR := Lib.hid hR
  have HL := Lib.hid hl
  have hrt := run_two34
  clear hR hl
  go_enter Tryz.func52, Tryz.ntmps52
  go_wp2_with fail
  refine (right_any A n c l w HR.out hn).mono ?_
  rintro e w1 ⟨rfl, hb1⟩
  have HB1 := Lib.hid hb1
  clear hb1
  cases hr : rightL l
  · have HD : Hid (wholeL l = false) := Lib.hid (by simp [wholeL, hr])
    clear hr
    go_wp2
    go_ret
    exact ⟨ret_bool HD.out.symm, HB1.out⟩
  · have HD : Hid (wholeL l = (List.range l.length).all (okAt l)) := Lib.hid (by simp [wholeL, hr])
    clear hr
    go_wp2_with fail
    refine (is_any _ 2 2 _).mono ?_
    rintro e w' ⟨rfl, rfl⟩
    have hbx : Below w1.heap.size w1 ((w1.alloc (.cells #[.int .i64 3, .int .i64 4] 3)).alloc (.cells #[.slice (some ⟨w1.heap.size, 0, none⟩) 2 2] 22)) := below_le (below_box _ _) (below_box _ _)
    have hcb : ((w1.alloc (.cells #[.int .i64 3, .int .i64 4] 3)).alloc (.cells #[.slice (some ⟨w1.heap.size, 0, none⟩) 2 2] 22)).cell? ⟨w1.heap.size + 1, 0, none⟩ = some (.slice (some ⟨w1.heap.size, 0, none⟩) 2 2) := by simp [go_sem]
    have hrow : Row ((w1.alloc (.cells #[.int .i64 3, .int .i64 4] 3)).alloc (.cells #[.slice (some ⟨w1.heap.size, 0, none⟩) 2 2] 22)) (some ⟨w1.heap.size, 0, none⟩) 2 ([3, 4].map Iv) :=
      ⟨rfl, fun _ => ⟨_, _, rfl, fun j u hj => by
        match j with
        | 0 => simp [go_sem, Iv] at hj ⊢; exact hj
        | 1 => simp [go_sem, Iv] at hj ⊢; exact hj
        | j + 2 => simp at hj⟩⟩
    have HB2 := Lib.hid (below_le HB1.out hbx)
    have hlg : ∀ x, Calls Tryz.prog 74 #[.int .i64 x, .pointer (some ⟨w1.heap.size + 1, 0, none⟩)] ((w1.alloc (.cells #[.int .i64 3, .int .i64 4] 3)).alloc (.cells #[.slice (some ⟨w1.heap.size, 0, none⟩) 2 2] 22)) fun e w' => e = .returned (.bool (largeB x)) ∧ ((w1.alloc (.cells #[.int .i64 3, .int .i64 4] 3)).alloc (.cells #[.slice (some ⟨w1.heap.size, 0, none⟩) 2 2] 22)) = w' := fun x => by
      have h := is1_any _ 2 2 [3, 4] x (w1.heap.size + 1) _ hcb hrow (by omega)
      rwa [show ([3, 4] : List Int).any (fun s => x == s) = largeB x by simp [largeB]] at h
    have HLG := Lib.hid hlg
    have hsz : ∀ o : Obj, (w1.alloc o).heap.size = w1.heap.size + 1 := fun o => by simp
    clear hbx hcb hrow hlg hrt
    simp only [hsz]
    clear hsz
    generalize (w1.alloc (.cells #[.int .i64 3, .int .i64 4] 3)).alloc (.cells #[.slice (some ⟨w1.heap.size, 0, none⟩) 2 2] 22) = W2 at *
    have HR2 := Lib.hid (HR.out.ext HB2.out)
    go_wp2
    go_loop [13] (fun i => ∃ k : Nat, k ≤ n ∧ i = .int .i64 k ∧ ∀ j, j < k → okAt l j = true) (fun i => n - (intOf i).toNat)
    case atStart => exact ⟨0, Nat.zero_le _, rfl, fun j hj => absurd hj (by omega)⟩
    case round =>
      obtain ⟨k, hk, rfl, hz⟩ := hrel
      have HZ := Lib.hid hz
      clear hz
      have next : okAt l k = true → ∀ j, j < k + 1 → okAt l j = true := fun h j hj => by
        by_cases e : j = k
        · rw [e]; exact h
        · exact HZ.out j (by omega)
      have NX := Lib.hid next
      clear next
      by_cases hlt : k < n
      · obtain ⟨b, off, y, rfl, hcy, hy, -⟩ := num_at HR2.out hlt
        have bad : okAt l k = false → wholeL l = false := fun h => by
          rw [HD.out, List.all_eq_false]
          exact ⟨k, by simp; have := HL.out; omega, by rw [h]; exact Bool.false_ne_true⟩
        have BAD := Lib.hid bad
        have HY := Lib.hid hy
        clear hy bad
        by_cases h4 : y = 4
        · subst h4
          by_cases hk0 : k = 0
          · have ho : okAt l k = false := by
              unfold okAt
              rw [HY.out, show (k == 0) = true by simpa using hk0]
              rfl
            have hkz : ((k : Int) == 0) = true := by simp; omega
            have HO := Lib.hid ho
            clear ho hk0
            go_wp2
            go_ret
            exact ⟨ret_bool (BAD.out HO.out).symm, HB2.out⟩
          · obtain ⟨b', off', x, e', hcx, hx, -⟩ := num_at (k := k - 1) HR2.out (by omega)
            cases e'
            have hk1 : 1 ≤ k := by omega
            have hkz : ((k : Int) == 0) = false := by simp; omega
            have hsub : ((k : Int) - 1).toNat = k - 1 := by omega
            have ho : okAt l k = largeB x := by
              simp only [okAt, HY.out, hx, largeB]
              simp [hk0]
            have HO := Lib.hid ho
            clear ho hx
            have hkn : ((k : Int) - 1) < n := by omega
            go_wp2_with fail
            have h := HLG.out x
            cases hp : largeB x
            · rw [hp] at h
              have HP := Lib.hid hp
              refine h.mono ?_
              clear h hp
              rintro e w' ⟨rfl, rfl⟩
              go_wp2
              go_ret
              exact ⟨ret_bool (BAD.out (HO.out.trans HP.out)).symm, HB2.out⟩
            · rw [hp] at h
              have HP := Lib.hid hp
              refine h.mono ?_
              clear h hp
              rintro e w' ⟨rfl, rfl⟩
              go_wp2
              go_round
              case rel => exact ⟨k + 1, by omega, by go_num, NX.out (HO.out.trans HP.out)⟩
              case measure => simp [intOf]; omega
        · have hd : (y == 4) = false := by simpa using h4
          have ho : okAt l k = true := by simp only [okAt, HY.out, hd]; rfl
          have HO := Lib.hid ho
          clear ho
          go_wp2
          go_round
          case rel => exact ⟨k + 1, by omega, by go_num, NX.out HO.out⟩
          case measure => simp [intOf]; omega
      · go_wp2
        go_ret
        refine ⟨ret_bool (Eq.symm ?_), HB2.out⟩
        rw [HD.out, List.all_eq_true]
        exact fun j hj => HZ.out j (by have := HL.out; simp at hj; omega)

/-- The two sentinels of package run. -/
structure RSent (w : World) (aS aR : Addr) : Prop where
  hS : Held w 0 aS
  hR : Held w 1 aR
  ne : aS ≠ aR
theorem RSent.ext {w w1 : World} {aS aR : Addr} (hb : Below w.heap.size w w1) (h : RSent w aS aR) : RSent w1 aS aR :=
  ⟨h.hS.ext hb, h.hR.ext hb, h.ne⟩

set_option maxHeartbeats 400000 in
theorem number_state (aS aR : Addr) (w : World) (hS : RSent w aS aR) :
    Calls Tryz.prog 53 #[Err aS] w fun e w' => e = .returned (.int .i64 90) ∧ w = w' := by
  have gS := hS.hS.1
  simp only [Err]
  clear hS
  go_enter Tryz.func53, Tryz.ntmps53
  go_wp2_with (go_at_call 73; refine (is_same _ _).mono ?_; rintro e w' ⟨rfl, rfl⟩)
  go_ret
  exact ⟨rfl, rfl⟩

set_option maxHeartbeats 400000 in
theorem number_run (aS aR : Addr) (w : World) (hS : RSent w aS aR) :
    Calls Tryz.prog 53 #[Err aR] w fun e w' => e = .returned (.int .i64 91) ∧ w = w' := by
  have gS := hS.hS.1
  obtain ⟨cs, ts, hss⟩ := hS.hS.2
  obtain ⟨cr, tr, hrr⟩ := hS.hR.2
  have HI := Lib.hid (is_other aR aS cr cs tr ts w (Ne.symm hS.ne) hrr hss)
  simp only [Err]
  clear hS hss hrr
  go_enter Tryz.func53, Tryz.ntmps53
  go_wp2_with fail
  refine HI.out.mono ?_
  rintro e w' ⟨rfl, rfl⟩
  go_wp2
  go_ret
  exact ⟨rfl, rfl⟩

end Go.Proofs.YtllanbggjfmfhaaGreatDoor
