/-
  What is proved: contracts of the references of layers 7 and 8: Make, Right, Kept, Lines, Count, Room. No condition beyond those stated.
-/
import Derived.Test.YtllanbggjfmfhaaGreatDoorGh
import Derived.Test.YtllanbggjfmfhaaGreatDoorPush
namespace Go.Proofs.YtllanbggjfmfhaaGreatDoor
open Go.RowKit Go.Shelf

set_option maxHeartbeats 400000 in
theorem r7make_any (w : World) : Calls Tryz.prog 75 #[] w (GivesBlk w (List.replicate 32 0)) := by
  have hmk := run_make_ints 32 (by omega) (by omega)
  go_enter Tryz.func75, Tryz.ntmps75
  go_wp2
  go_ret
  refine ⟨w.heap.size, rfl, Nat.le_refl _, ?_, below_box _ _⟩
  have := Blk.new w 3 (zerosI 32)
  exact this

set_option maxHeartbeats 1000000 in
/-- The reference's Right of a table. -/
theorem r7right_any (A : Option Addr) (m c : Nat) (t : List Int) (w : World) (hR : Row w A m (t.map Iv)) (hm : m ≤ 100000) :
    Calls Tryz.prog 43 #[.slice A m c] w fun e w' => e = .returned (.bool (tabB t)) ∧ w = w' := by
  have hl := hR.1
  simp at hl
  have HR := Lib.hid hR
  have HL := Lib.hid hl
  clear hR hl
  go_enter Tryz.func43, Tryz.ntmps43
  go_wp2
  go_loop [3] (fun i => ∃ k : Nat, k ≤ m ∧ i = .int .i64 k ∧ ∀ j, j < k → lineB (t.getD j 0) = true) (fun i => m - (intOf i).toNat)
  case atStart => exact ⟨0, Nat.zero_le _, rfl, fun j hj => absurd hj (by omega)⟩
  case round =>
    obtain ⟨k, hk, rfl, hz⟩ := hrel
    have HZ := Lib.hid hz
    clear hz
    by_cases hlt : k < m
    · obtain ⟨b, off, x, rfl, hcx, hx, hx2⟩ := num_at HR.out hlt
      have hbad : lineB x = false → tabB t = false := fun h => by
        unfold tabB
        rw [show t.all lineB = false by rw [List.all_eq_false]; exact ⟨x, List.mem_of_getElem? hx2, by rw [h]; exact Bool.false_ne_true⟩]
        simp
      have BAD := Lib.hid hbad
      have HX := Lib.hid hx
      clear hbad hx hx2
      by_cases h0 : x < 0
      · have HK : Hid (lineB x = false) := Lib.hid (by simp [lineB]; omega)
        go_wp2
        go_ret
        exact ⟨ret_bool (BAD.out HK.out).symm, rfl⟩
      by_cases h1 : 2 < x
      · have HK : Hid (lineB x = false) := Lib.hid (by simp [lineB]; omega)
        go_wp2
        go_ret
        exact ⟨ret_bool (BAD.out HK.out).symm, rfl⟩
      · have HK : Hid (lineB x = true) := Lib.hid (by simp [lineB]; omega)
        go_wp2
        go_round
        case rel => exact ⟨k + 1, by omega, by go_num, fun j hj => by
          by_cases e : j = k
          · rw [e, HX.out]; exact HK.out
          · exact HZ.out j (by omega)⟩
        case measure => simp [intOf]; omega
    · have HALL : Hid (t.all lineB = true) := Lib.hid (by
        rw [List.all_eq_true]
        intro x hx
        obtain ⟨j, hj, rfl⟩ := List.mem_iff_getElem.1 hx
        have := HZ.out j (by have := HL.out; omega)
        rwa [List.getD_eq_getElem?_getD, List.getElem?_eq_getElem hj] at this)
      by_cases h1 : m = 32
      · subst h1
        go_wp2
        go_ret
        refine ⟨ret_bool ?_, rfl⟩
        rw [tabB, HALL.out, decide_eq_true HL.out]
        rfl
      · have hq : ((m : Int) == 32) = false := by simp; omega
        go_wp2
        go_ret
        refine ⟨ret_bool ?_, rfl⟩
        rw [tabB, decide_eq_false (by rw [HL.out]; exact h1)]
        rfl

/-- The reference's Kept. -/
def keptR (t : List Int) (i : Nat) : Bool := tabB t && keptB t i
set_option maxHeartbeats 2000000 in
theorem r7kept_any (A : Option Addr) (m c : Nat) (t : List Int) (i : Nat) (w : World) (hR : Row w A m (t.map Iv)) (hi : i < 32) (hm : m ≤ 100000) :
    Calls Tryz.prog 84 #[.slice A m c, .int .i64 (i : Int)] w fun e w' => e = .returned (.bool (keptR t i)) ∧ w = w' := by
  have hcall := r7right_any A m c t w hR hm
  cases hT : tabB t
  · have HK : Hid (keptR t i = false) := Lib.hid (by unfold keptR; rw [hT]; rfl)
    rw [hT] at hcall
    clear hT hR
    go_enter Tryz.func84, Tryz.ntmps84
    go_wp2_with fail
    refine hcall.mono ?_
    clear hcall
    rintro e w' ⟨rfl, rfl⟩
    go_wp2
    go_ret
    exact ⟨ret_bool HK.out.symm, rfl⟩
  · have hml : m = 32 := by have h := tab_len hT; have h2 := hR.1; simp at h2; omega
    subst hml
    have HKT : Hid (keptR t i = keptB t i) := Lib.hid (by unfold keptR; rw [hT]; rfl)
    rw [hT] at hcall
    obtain ⟨b, off, x, rfl, hcx, hx, -⟩ := num_at hR hi
    have hge : decide ((i : Int) ≥ 0) = true := by simp
    have hlt : decide ((i : Int) < 32) = true := by simp; omega
    have hi2 : (i : Int) < 32 := by omega
    clear hT
    by_cases h0 : x = 0
    · by_cases hi0 : 0 < i
      · obtain ⟨b', off', y, e', hcy, hy, -⟩ := num_at (k := i - 1) hR (by omega)
        cases e'
        have hk : keptB t i = (y == 2) := by unfold keptB; rw [hx, hy]; simp [h0, hi0]
        have HK := Lib.hid (HKT.out.trans hk)
        have hd : (x != 0) = false := by simpa using h0
        have hp : decide ((i : Int) > 0) = true := by simp; omega
        have hsub : ((i : Int) - 1).toNat = i - 1 := by omega
        have hin : ((i : Int) - 1) < 32 := by omega
        have h1i : 1 ≤ i := by omega
        clear hk hx hy h0 hR
        by_cases hy2 : y = 2
        · subst hy2
          go_enter Tryz.func84, Tryz.ntmps84
          go_wp2_with fail
          refine hcall.mono ?_
          clear hcall
          rintro e w' ⟨rfl, rfl⟩
          go_wp2
          go_ret
          exact ⟨ret_bool (by rw [HK.out]; rfl), rfl⟩
        · have hyd : (y == 2) = false := by simpa using hy2
          clear hy2
          go_enter Tryz.func84, Tryz.ntmps84
          go_wp2_with fail
          refine hcall.mono ?_
          clear hcall
          rintro e w' ⟨rfl, rfl⟩
          go_wp2
          go_ret
          exact ⟨ret_bool (by rw [HK.out]; exact hyd.symm), rfl⟩
      · have hk : keptB t i = false := by unfold keptB; rw [hx]; simp [h0, hi0]
        have HK := Lib.hid (HKT.out.trans hk)
        have hd : (x != 0) = false := by simpa using h0
        have hp : decide ((i : Int) > 0) = false := by simp; omega
        clear hk hx h0 hR
        go_enter Tryz.func84, Tryz.ntmps84
        go_wp2_with fail
        refine hcall.mono ?_
        clear hcall
        rintro e w' ⟨rfl, rfl⟩
        go_wp2
        go_ret
        exact ⟨ret_bool (by rw [HK.out]), rfl⟩
    · have hk : keptB t i = true := by unfold keptB; rw [hx]; simp [h0]
      have HK := Lib.hid (HKT.out.trans hk)
      have hd : (x != 0) = true := by simpa using h0
      clear hk hx h0 hR
      go_enter Tryz.func84, Tryz.ntmps84
      go_wp2_with fail
      refine hcall.mono ?_
      clear hcall
      rintro e w' ⟨rfl, rfl⟩
      go_wp2
      go_ret
      exact ⟨ret_bool (by rw [HK.out]), rfl⟩

/-- The lines up to a place. -/
def linesTo (t : List Int) (k : Nat) : List Int := ((List.range k).filter (keptR t)).map fun i : Nat => (i : Int)
theorem linesTo_succ (t : List Int) (k : Nat) : linesTo t (k + 1) = linesTo t k ++ if keptR t k then [(k : Int)] else [] := by
  unfold linesTo
  rw [List.range_succ, List.filter_append, List.map_append]
  congr 1
  cases h : keptR t k <;> simp [h]
theorem linesTo_len (t : List Int) (k : Nat) : (linesTo t k).length ≤ k := by
  have := List.length_filter_le (keptR t) (List.range k)
  simpa [linesTo] using this
theorem linesTo_all (t : List Int) : linesTo t 32 = linesR t := by
  unfold linesTo linesR linesL
  cases hT : tabB t
  · have : (List.range 32).filter (keptR t) = [] := by
      rw [List.filter_eq_nil_iff]
      intro i _
      unfold keptR
      rw [hT]
      exact Bool.false_ne_true
    rw [this]; rfl
  · have : keptR t = keptB t := by funext i; unfold keptR; rw [hT]; rfl
    rw [this]; rfl

set_option maxRecDepth 100000 in
set_option maxHeartbeats 1000000 in
/-- The reference's Lines. -/
theorem r7lines_any (A : Option Addr) (m c : Nat) (t : List Int) (w : World) (hR : Row w A m (t.map Iv)) (hm : m ≤ 100000) :
    Calls Tryz.prog 68 #[.slice A m c] w fun e w' => ∃ B n d, e = .returned (.slice B n d) ∧ n = cntN t ∧ Row w' B n ((linesR t).map Iv) ∧ Below w.heap.size w w' := by
  obtain ⟨i, hi, hz0, hz1, hz2⟩ := info_parts int_info
  have HR := Lib.hid hR
  clear hR
  go_enter Tryz.func68, Tryz.ntmps68
  go_wp2
  go_loopw [3, 4] (fun s i wr => ∃ k : Nat, k ≤ 32 ∧ i = .int .i64 k ∧ wr.ownsRow w.heap.size 3 1 s (linesTo t k).length ((linesTo t k).map Iv) ∧ Below w.heap.size w wr) (fun _ i _ => 32 - (intOf i).toNat)
  case atStart => exact ⟨0, Nat.zero_le _, rfl, ⟨rfl, .inl ⟨rfl, rfl⟩⟩, Below.refl _ _⟩
  case round =>
    obtain ⟨k, hk, rfl, hown, hb⟩ := hrel
    have HO := Lib.hid hown
    have Hb := Lib.hid hb
    have hsz := hb.size
    have hll := linesTo_len t k
    have hst := linesTo_succ t k
    clear hown hb
    by_cases hlt : k < 32
    · have h := r7kept_any A m c t k wr (HR.out.ext Hb.out) hlt hm
      have hk2 : (k : Int) < 32 := by omega
      cases hkr : keptR t k
      · rw [hkr] at h hst
        have HST := Lib.hid hst
        clear hst hkr
        go_wp2_with fail
        refine h.mono ?_
        clear h
        rintro e w' ⟨rfl, rfl⟩
        go_wp2
        go_roundw
        case rel => exact ⟨k + 1, by omega, by go_num, by rw [HST.out]; simpa using HO.out, Hb.out⟩
        case measure => simp [intOf]; omega
      · rw [hkr] at h hst
        have HST := Lib.hid hst
        clear hst hkr
        generalize hLL : linesTo t k = LL at *
        go_wp2_with fail
        refine h.mono ?_
        clear h
        rintro e w' ⟨rfl, rfl⟩
        go_wp2_with (at_builtin; refine stop_here ?_)
        intro _
        refine wpList_push (w0 := w) wr rfl (.tmp 12) (.tmp 14) 22 rfl w.heap.size 3 i (.int .i64 0) 8 Tryz.underlying22 hi hz0 hz1 hz2 rfl u3 LL.length _ rfl HO.out (.int .i64 (k : Int)) rfl rfl (by unfold maxLen; omega) (by omega) (Nat.le_refl _) hsz Hb.out ?_
        intro v' w3 hown hb3
        have HOW := Lib.hid hown
        have HB3 := Lib.hid hb3
        clear hown hb3
        go_wp2
        go_roundw
        case rel => exact ⟨k + 1, by omega, by go_num, by rw [HST.out]; simpa [Iv] using HOW.out, HB3.out⟩
        case measure => simp [intOf]; omega
    · obtain rfl : k = 32 := by omega
      rw [linesTo_all] at HO
      obtain ⟨A', c', rfl, hrow, -⟩ := row_of_owns HO.out
      have HW := Lib.hid hrow
      clear hrow
      go_wp2
      go_ret
      exact ⟨_, _, _, rfl, rfl, HW.out, Hb.out⟩

set_option maxHeartbeats 1000000 in
/-- The reference's Count. -/
theorem r7count_any (A : Option Addr) (m c : Nat) (t : List Int) (w : World) (hR : Row w A m (t.map Iv)) (hm : m ≤ 100000) :
    Calls Tryz.prog 44 #[.slice A m c] w fun e w' => e = .returned (.int .i64 (cntN t : Nat)) ∧ Below w.heap.size w w' := by
  have HC := Lib.hid (r7lines_any A m c t w hR hm)
  clear hR
  generalize cntN t = q at *
  go_enter Tryz.func44, Tryz.ntmps44
  go_wp2_with fail
  refine HC.out.mono ?_
  rintro e w' ⟨B, n, d, rfl, rfl, -, hb⟩
  have HB := Lib.hid hb
  clear hb
  go_wp2
  go_ret
  exact ⟨rfl, HB.out⟩

set_option maxHeartbeats 1000000 in
/-- The reference's Room. -/
theorem r8room_any (A : Option Addr) (m c : Nat) (t : List Int) (w : World) (hR : Row w A m (t.map Iv)) (hm : m ≤ 100000) :
    Calls Tryz.prog 45 #[.slice A m c] w fun e w' => e = .returned (.int .i64 (roomN t : Nat)) ∧ Below w.heap.size w w' := by
  have HC := Lib.hid (r7count_any A m c t w hR hm)
  have hcall := r7right_any A m c t w hR hm
  have hle : cntN t ≤ 32 := by
    unfold cntN linesR
    split
    · exact lines_len t
    · simp
  cases hT : tabB t
  · have HK : Hid (roomN t = 0) := Lib.hid (by unfold roomN; rw [hT]; rfl)
    rw [hT] at hcall
    clear hT hR
    go_enter Tryz.func45, Tryz.ntmps45
    go_wp2_with fail
    refine hcall.mono ?_
    clear hcall
    rintro e w' ⟨rfl, rfl⟩
    go_wp2
    go_ret
    exact ⟨by rw [HK.out]; rfl, Below.refl _ _⟩
  · have HK : Hid (roomN t = 32 - cntN t) := Lib.hid (by unfold roomN; rw [hT]; rfl)
    rw [hT] at hcall
    clear hT hR
    generalize cntN t = n at *
    have hw : IntKind.i64.wrap ((32 : Int) - (n : Int)) = ((32 - n : Nat) : Int) := by rw [IntWalk.i64_in _ (by omega)]; omega
    go_enter Tryz.func45, Tryz.ntmps45
    go_wp2_with fail
    refine hcall.mono ?_
    clear hcall
    rintro e w' ⟨rfl, rfl⟩
    go_wp2_with fail
    refine HC.out.mono ?_
    rintro e w' ⟨rfl, hb⟩
    have HB := Lib.hid hb
    clear hb
    go_wp2
    go_ret
    exact ⟨by rw [HK.out]; rfl, HB.out⟩

end Go.Proofs.YtllanbggjfmfhaaGreatDoor
