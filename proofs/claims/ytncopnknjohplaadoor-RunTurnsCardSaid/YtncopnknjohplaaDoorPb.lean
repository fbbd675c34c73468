/-
  What is proved: contracts of Put and Cut of the reference of layer 9. No condition beyond those stated.
-/
import Derived.Test.YtncopnknjohplaaDoorPa
namespace Go.Proofs.YtncopnknjohplaaDoor
open Go.RowKit Go.Shelf

/-- A list and a number, whatever room the list has. -/
def GivesL (w : World) (code : Nat) (l : List Int) (e : Ending) (w' : World) : Prop :=
  ∃ A m c, e = .returned (.tuple #[.slice A m c, .int .i64 code]) ∧ Row w' A m (l.map Iv) ∧ Below w.heap.size w w'
def GivesC (w : World) (code n : Nat) (l : List Int) (e : Ending) (w' : World) : Prop :=
  ∃ A m c, e = .returned (.tuple #[.slice A m c, .int .i64 n, .int .i64 code]) ∧ Row w' A m (l.map Iv) ∧ Below w.heap.size w w'

theorem run_make_room (z : Int) (h0 : 0 ≤ z) (h1 : z ≤ 100000) (W : World) :
    (Instr.makeSlice 22 (.int .i64 0) (.int .i64 z)).run Tryd.prog W = .ok (.slice (some ⟨W.heap.size, 0, none⟩) 0 z.toNat) (W.alloc (.cells (zerosI z.toNat) 3)) := by
  obtain ⟨i, hi, hz0, hz1, hz2⟩ := info_parts int_info
  have hr := run_make (P := Tryd.prog) W 22 3 i _ Tryd.underlying22 hi hz0 .i64 .i64 0 z (by omega) (by omega) (by rw [hz2]; omega) (by omega)
  rw [hr]
  congr 3
  rw [hz1]
  apply Array.ext
  · simp [zerosI, madeCells]
  · intro j h1 h2
    simp [zerosI, madeCells, Value.cells, Nat.mod_one]
theorem own_room {W : World} {g base k : Nat} (hg : W.heap.size = g) (hb : base ≤ g) (hk : k ≤ 100000) : (W.alloc (.cells (zerosI k) 3)).ownsRow base 3 1 (.slice (some ⟨g, 0, none⟩) 0 k) 0 [] :=
  ⟨rfl, .inr ⟨g, k, zerosI k, rfl, hb, heap_new hg _, Nat.zero_le _, by unfold maxLen; omega, by simp [zerosI], rfl⟩⟩
theorem one_ints (l : List Int) : ∀ u ∈ l.map Iv, u.oneCell' = true := by intro u hu; obtain ⟨x, _, rfl⟩ := List.mem_map.1 hu; rfl

theorem free_put {l : List Int} {f k : Int} (hf : 0 ≤ f) (hfl : f < l.length) (hk : 1 ≤ k) : decide ((freeN l f.toNat : Int) < k) = !putOk l f k := by
  have h1 := free_le l f.toNat (by omega)
  unfold putOk
  rw [decide_eq_true hf, decide_eq_true hk]
  by_cases h : (freeN l f.toNat : Int) < k
  · rw [decide_eq_true h]
    by_cases h2 : f + k ≤ l.length
    · rw [decide_eq_true h2]
      have : freeAt l f.toNat k.toNat = false := by
        cases e : freeAt l f.toNat k.toNat
        · rfl
        · have := free_ge (l := l) (s := f.toNat) (e := f.toNat + k.toNat) (by omega) (by omega) ((freeAt_iff (by omega)).1 e)
          omega
      rw [this]; rfl
    · rw [decide_eq_false h2]; rfl
  · rw [decide_eq_false h, decide_eq_true (show f + k ≤ l.length by omega), (freeAt_iff (by omega)).2 (fun j h1 h2 => free_all l f.toNat j h1 (by omega))]
    rfl

set_option maxRecDepth 100000 in
set_option maxHeartbeats 1000000 in
theorem refput_no (A : Option Addr) (m c : Nat) (l : List Int) (f k : Int) (w : World) (hR : Row w A m (l.map Iv)) (hm : m ≤ 1000) (hc : wholeL l = false ∨ putOk l f k = false) :
    Calls Tryd.prog 12 #[.slice A m c, .int .i64 f, .int .i64 k] w (GivesL w (codeP l f k) []) := by
  have hl := hR.1
  simp at hl
  have HR := Lib.hid hR
  have HL := Lib.hid hl
  obtain ⟨cd, hcd⟩ : ∃ cd, codeP l f k = cd := ⟨_, rfl⟩
  rw [hcd]
  have HCD := Lib.hid hcd
  clear hR hl hcd
  go_enter Tryd.func12, Tryd.ntmps12
  go_wp2_with fail
  refine (refwhole_any A m c l w HR.out hm).mono ?_
  rintro e w' ⟨rfl, rfl⟩
  cases hw : wholeL l
  · have hcd : cd = 90 := by rw [← HCD.out]; simp [codeP, hw]
    have HC := Lib.hid hcd
    clear hcd hw
    go_wp2
    exact bodyPost_ret (v := .tuple #[.slice none 0 0, .int .i64 90]) (by simp [results, Tryd.results12, go_sem]) rfl ⟨_, _, _, by rw [HC.out]; rfl, Row.none_, Below.refl _ _⟩
  · have hp : putOk l f k = false := by
      rcases hc with h | h
      · rw [hw] at h; cases h
      · exact h
    have hcd : cd = 91 := by rw [← HCD.out]; simp [codeP, hw, hp]
    have HC := Lib.hid hcd
    have HP := Lib.hid hp
    clear hcd hw hp hc
    by_cases h1 : k < 1
    · go_wp2
      exact bodyPost_ret (v := .tuple #[.slice none 0 0, .int .i64 91]) (by simp [results, Tryd.results12, go_sem]) rfl ⟨_, _, _, by rw [HC.out]; rfl, Row.none_, Below.refl _ _⟩
    by_cases h2 : f < 0
    · go_wp2
      exact bodyPost_ret (v := .tuple #[.slice none 0 0, .int .i64 91]) (by simp [results, Tryd.results12, go_sem]) rfl ⟨_, _, _, by rw [HC.out]; rfl, Row.none_, Below.refl _ _⟩
    by_cases h3 : (m : Int) ≤ f
    · go_wp2
      exact bodyPost_ret (v := .tuple #[.slice none 0 0, .int .i64 91]) (by simp [results, Tryd.results12, go_sem]) rfl ⟨_, _, _, by rw [HC.out]; rfl, Row.none_, Below.refl _ _⟩
    · have hfp := free_put (l := l) (f := f) (k := k) (by omega) (by have := HL.out; omega) (by omega)
      rw [HP.out] at hfp
      have h := free_any A m c l f.toNat w HR.out hm (by omega)
      rw [Int.toNat_of_nonneg (by omega)] at h
      generalize freeN l f.toNat = q at *
      have HH := Lib.hid h
      have hqk : (q : Int) < k := by simpa using hfp
      clear hfp h
      go_wp2_with fail
      refine HH.out.mono ?_
      rintro e w' ⟨rfl, rfl⟩
      go_wp2
      exact bodyPost_ret (v := .tuple #[.slice none 0 0, .int .i64 91]) (by simp [results, Tryd.results12, go_sem]) rfl ⟨_, _, _, by rw [HC.out]; rfl, Row.none_, Below.refl _ _⟩

set_option maxRecDepth 100000 in
set_option maxHeartbeats 1000000 in
theorem refput_in (A : Option Addr) (m c : Nat) (l : List Int) (f k : Nat) (w : World) (hR : Row w A m (l.map Iv)) (hm : m ≤ 1000) (hw : wholeL l = true) (hp : putOk l f k = true) :
    Calls Tryd.prog 12 #[.slice A m c, .int .i64 f, .int .i64 k] w (GivesL w 0 (putL l f k)) := by
  have hl := hR.1
  simp at hl
  obtain ⟨hpi, -, -, -⟩ := PutIn.of hp
  simp only [Int.toNat_natCast] at hpi
  have hk := hpi.hk
  have hfk := hpi.hfk
  have hfp := free_put (l := l) (f := f) (k := k) (by omega) (by omega) (by omega)
  rw [hp, Int.toNat_natCast] at hfp
  have hfr := free_any A m c l f w hR hm (by omega)
  generalize freeN l f = q at *
  have hqk : (k : Int) ≤ q := by simpa using hfp
  have hmk := run_make_room (m : Int) (by omega) (by omega)
  simp only [Int.toNat_natCast] at hmk
  obtain ⟨inf, hinf, hi0, hi1, hi2⟩ := info_parts int_info
  have HR := Lib.hid hR
  have HL := Lib.hid hl
  have HW := Lib.hid hw
  have HFR := Lib.hid hfr
  have hfm : f + k ≤ m := by omega
  clear hR hl hw hp hpi hfp hfr
  go_enter Tryd.func12, Tryd.ntmps12
  go_wp2_with fail
  have h := refwhole_any A m c l w HR.out hm
  rw [HW.out] at h
  refine h.mono ?_
  clear h
  rintro e w' ⟨rfl, rfl⟩
  go_wp2_with fail
  refine HFR.out.mono ?_
  rintro e w' ⟨rfl, rfl⟩
  go_wp2_with (at_builtin; refine stop_here ?_)
  intro _
  refine wpList_append_row _ rfl (.tmp 34) (.tmp 35) 22 rfl w.heap.size 3 inf (.int .i64 0) 8 Tryd.underlying22 hinf hi0 hi1 hi2 rfl _ 0 [] rfl (own_room rfl (Nat.le_refl _) (by omega)) A m c (l.map Iv) rfl (HR.out.ext (below_box _ _)) (one_ints l) (by unfold maxLen; omega) (by omega) (by simp) ?_
  intro v' w1 hown hgr
  simp only [List.nil_append, Nat.zero_add] at hown
  obtain ⟨C, cp, rfl, hOw⟩ := Own.of_row hown
  have hb1 : Below w.heap.size w w1 := (below_box w (.cells (zerosI m) 3)).trans ((Below.refl _ _).grown hgr (by simp) (fun b e => by cases e; exact Nat.le_refl _))
  obtain ⟨g, cur, rfl, hgb, hbk, hcx⟩ := hOw.at_ (k := f) (by omega)
  obtain ⟨u0, hcu⟩ : ∃ u, w1.cell? ⟨g, f, none⟩ = some u := ⟨_, hcx⟩
  clear hcx
  have f0 := hbk.frozen f
  have hO2 := hOw.set_ (k := f) (Iv 3)
  rw [← List.map_set, put_one (by omega)] at hO2
  have HO := Lib.hid hO2
  have HB := Lib.hid (hb1.setCell (p := ⟨g, f, none⟩) hgb (Iv 3))
  have hfm2 : f < m := by omega
  simp only [Iv] at HB HO
  clear hown hgr hOw hb1 hbk hO2 hmk
  go_wp2
  generalize w1.setCell ⟨g, f, none⟩ (.int .i64 3) = w2 at *
  clear f0 hcu
  go_loopw [9] (fun i wr => ∃ j : Nat, 1 ≤ j ∧ j ≤ k ∧ i = .int .i64 j ∧ Own 3 wr w.heap.size (some ⟨g, 0, none⟩) m ((putL l f j).map Iv) ∧ Below w.heap.size w wr) (fun i _ => k - (intOf i).toNat)
  case atStart => exact ⟨1, Nat.le_refl _, hk, rfl, HO.out, HB.out⟩
  case round =>
    obtain ⟨j, hj1, hjk, rfl, hOr, hbr⟩ := hrel
    have HOr := Lib.hid hOr
    have HBr := Lib.hid hbr
    clear hbr
    by_cases hlt : j < k
    · obtain ⟨g', cur', e', hgb', hbk, hcx⟩ := hOr.at_ (k := f + j) (by omega)
      cases e'
      obtain ⟨u1, hcu⟩ : ∃ u, wr.cell? ⟨g, f + j, none⟩ = some u := ⟨_, hcx⟩
      clear hcx
      have f0 := hbk.frozen (f + j)
      have hO2 := hOr.set_ (k := f + j) (Iv 4)
      rw [← List.map_set, put_step hj1 (by have := HL.out; omega)] at hO2
      have HO2 := Lib.hid hO2
      have HB2 := Lib.hid (HBr.out.setCell (p := ⟨g, f + j, none⟩) hgb (Iv 4))
      have hwr : ((f : Int) + (j : Int)).toNat = f + j := by omega
      have hjm : (f : Int) + (j : Int) < m := by omega
      simp only [Iv] at HB2 HO2
      clear hO2 hbk hOr
      go_wp2
      go_roundw
      case rel => exact ⟨j + 1, by omega, by omega, by go_num, HO2.out, HB2.out⟩
      case measure => simp [intOf]; omega
    · obtain rfl : j = k := by omega
      clear hOr
      go_wp2
      refine bodyPost_ret (v := .tuple #[.slice (some ⟨g, 0, none⟩) m cp, .int .i64 0]) (by simp [results, Tryd.results12, go_sem]) rfl ⟨_, _, _, rfl, HOr.out.row, HBr.out⟩

/-- The reference's Put. -/
theorem refput_any (A : Option Addr) (m c : Nat) (l : List Int) (f k : Int) (w : World) (hR : Row w A m (l.map Iv)) (hm : m ≤ 1000) :
    Calls Tryd.prog 12 #[.slice A m c, .int .i64 f, .int .i64 k] w (GivesL w (codeP l f k) (resP l f k)) := by
  cases hw : wholeL l
  · have h := refput_no A m c l f k w hR hm (.inl hw)
    rwa [show resP l f k = [] by simp [resP, hw]]
  · cases hp : putOk l f k
    · have h := refput_no A m c l f k w hR hm (.inr hp)
      rwa [show resP l f k = [] by simp [resP, hp]]
    · obtain ⟨-, h0, h1, -⟩ := PutIn.of hp
      have h := refput_in A m c l f.toNat k.toNat w hR hm hw (by rw [Int.toNat_of_nonneg h0, Int.toNat_of_nonneg (by omega)]; exact hp)
      rw [Int.toNat_of_nonneg h0, Int.toNat_of_nonneg (by omega)] at h
      rwa [show codeP l f k = 0 by simp [codeP, hw, hp], show resP l f k = putL l f.toNat k.toNat by simp [resP, hw, hp]]

set_option maxRecDepth 100000 in
set_option maxHeartbeats 1000000 in
theorem refcut_no (A : Option Addr) (m c : Nat) (l : List Int) (f : Int) (w : World) (hR : Row w A m (l.map Iv)) (hm : m ≤ 1000) (hc : wholeL l = false ∨ cutOk l f = false) :
    Calls Tryd.prog 14 #[.slice A m c, .int .i64 f] w (GivesC w (codeC l f) 0 []) := by
  have hl := hR.1
  simp at hl
  have HR := Lib.hid hR
  have HL := Lib.hid hl
  obtain ⟨cd, hcd⟩ : ∃ cd, codeC l f = cd := ⟨_, rfl⟩
  rw [hcd]
  have HCD := Lib.hid hcd
  clear hR hl hcd
  go_enter Tryd.func14, Tryd.ntmps14
  go_wp2_with fail
  refine (refwhole_any A m c l w HR.out hm).mono ?_
  rintro e w' ⟨rfl, rfl⟩
  cases hw : wholeL l
  · have hcd : cd = 90 := by rw [← HCD.out]; simp [codeC, hw]
    have HC := Lib.hid hcd
    clear hcd hw
    go_wp2
    exact bodyPost_ret (v := .tuple #[.slice none 0 0, .int .i64 0, .int .i64 90]) (by simp [results, Tryd.results14, go_sem]) rfl ⟨_, _, _, by rw [HC.out]; rfl, Row.none_, Below.refl _ _⟩
  · have hp : cutOk l f = false := by
      rcases hc with h | h
      · rw [hw] at h; cases h
      · exact h
    have hcd : cd = 91 := by rw [← HCD.out]; simp [codeC, hw, hp]
    have HC := Lib.hid hcd
    have HP := Lib.hid hp
    clear hcd hw hp hc
    by_cases h2 : f < 0
    · go_wp2
      exact bodyPost_ret (v := .tuple #[.slice none 0 0, .int .i64 0, .int .i64 91]) (by simp [results, Tryd.results14, go_sem]) rfl ⟨_, _, _, by rw [HC.out]; rfl, Row.none_, Below.refl _ _⟩
    by_cases h3 : (m : Int) ≤ f
    · go_wp2
      exact bodyPost_ret (v := .tuple #[.slice none 0 0, .int .i64 0, .int .i64 91]) (by simp [results, Tryd.results14, go_sem]) rfl ⟨_, _, _, by rw [HC.out]; rfl, Row.none_, Below.refl _ _⟩
    · obtain ⟨b, off, x, rfl, hcx, hx, -⟩ := num_at (k := f.toNat) HR.out (by omega)
      have hd : (x != 3) = true := by
        have h1 := HP.out
        have h2 := HL.out
        unfold cutOk at h1
        rw [decide_eq_true (show 0 ≤ f by omega), decide_eq_true (show f < l.length by omega), hx] at h1
        simpa using h1
      clear hx
      go_wp2
      exact bodyPost_ret (v := .tuple #[.slice none 0 0, .int .i64 0, .int .i64 91]) (by simp [results, Tryd.results14, go_sem]) rfl ⟨_, _, _, by rw [HC.out]; rfl, Row.none_, Below.refl _ _⟩

set_option maxRecDepth 100000 in
set_option maxHeartbeats 2000000 in
theorem refcut_in (A : Option Addr) (m c : Nat) (l : List Int) (f : Nat) (w : World) (hR : Row w A m (l.map Iv)) (hm : m ≤ 1000) (hw : wholeL l = true) (hfm : f < m) (h3 : l.getD f 0 = 3) (e : Nat) (he : f + 1 + tailN l (f + 1) = e) :
    Calls Tryd.prog 14 #[.slice A m c, .int .i64 f] w (GivesC w 0 (e - f) (cutL l f e)) := by
  have hl := hR.1
  simp at hl
  have hle := tail_le l (f + 1) (by omega)
  have hall := tail_all l (f + 1)
  have hstp := tail_stop l (f + 1) (by omega)
  rw [he] at hle hall hstp
  have hef : f < e := by omega
  have hem : e ≤ m := by omega
  have hmk := run_make_room (m : Int) (by omega) (by omega)
  simp only [Int.toNat_natCast] at hmk
  obtain ⟨inf, hinf, hi0, hi1, hi2⟩ := info_parts int_info
  have HR := Lib.hid hR
  have HW := Lib.hid hw
  have HL := Lib.hid hl
  have HAL := Lib.hid hall
  have HSP := Lib.hid hstp
  obtain ⟨b, off, x, rfl, hcx0, hx, -⟩ := num_at (k := f) hR hfm
  rw [h3] at hx
  subst hx
  clear hR hw hl h3 hall hstp he hle
  go_enter Tryd.func14, Tryd.ntmps14
  go_wp2_with fail
  have h := refwhole_any (some ⟨b, off, none⟩) m c l w HR.out hm
  rw [HW.out] at h
  refine h.mono ?_
  clear h
  rintro en w' ⟨rfl, rfl⟩
  go_wp2_with (at_builtin; refine stop_here ?_)
  intro _
  refine wpList_append_row _ rfl (.tmp 29) (.tmp 30) 22 rfl w.heap.size 3 inf (.int .i64 0) 8 Tryd.underlying22 hinf hi0 hi1 hi2 rfl _ 0 [] rfl (own_room rfl (Nat.le_refl _) (by omega)) (some ⟨b, off, none⟩) m c (l.map Iv) rfl (HR.out.ext (below_box _ _)) (one_ints l) (by unfold maxLen; omega) (by omega) (by simp) ?_
  intro v' w1 hown hgr
  simp only [List.nil_append, Nat.zero_add] at hown
  obtain ⟨C, cp, rfl, hOw⟩ := Own.of_row hown
  have hb1 : Below w.heap.size w w1 := (below_box w (.cells (zerosI m) 3)).trans ((Below.refl _ _).grown hgr (by simp) (fun b e => by cases e; exact Nat.le_refl _))
  obtain ⟨g, cur, rfl, hgb, hbk, hcx⟩ := hOw.at_ (k := f) (by omega)
  obtain ⟨u0, hcu⟩ : ∃ u, w1.cell? ⟨g, f, none⟩ = some u := ⟨_, hcx⟩
  clear hcx
  have f0 := hbk.frozen f
  have hO2 := hOw.set_ (k := f) (Iv 0)
  rw [← List.map_set] at hO2
  have hcs := cut_step (l := l) (f := f) (e := f) (Nat.le_refl _) (by have := HL.out; omega)
  rw [cut_none] at hcs
  rw [hcs] at hO2
  have HO := Lib.hid hO2
  have HB := Lib.hid (hb1.setCell (p := ⟨g, f, none⟩) hgb (Iv 0))
  simp only [Iv] at HB HO
  clear hown hgr hOw hb1 hbk hO2 hmk hcs hcx0
  go_wp2
  generalize w1.setCell ⟨g, f, none⟩ (.int .i64 0) = w2 at *
  clear f0 hcu
  go_loopw [8] (fun i wr => ∃ j : Nat, 1 ≤ j ∧ f + j ≤ e ∧ i = .int .i64 j ∧ Own 3 wr w.heap.size (some ⟨g, 0, none⟩) m ((cutL l f (f + j)).map Iv) ∧ Below w.heap.size w wr) (fun i _ => e - f - (intOf i).toNat)
  case atStart => exact ⟨1, Nat.le_refl _, by omega, rfl, HO.out, HB.out⟩
  case round =>
    obtain ⟨j, hj1, hje, rfl, hOr, hbr⟩ := hrel
    have HOr := Lib.hid hOr
    have HBr := Lib.hid hbr
    have hwr : ((f : Int) + (j : Int)).toNat = f + j := by omega
    clear hbr
    by_cases hlt : f + j < e
    · obtain ⟨g', cur', e', hgb', hbk, hcx⟩ := hOr.at_ (k := f + j) (by omega)
      cases e'
      obtain ⟨u1, hcu⟩ : ∃ u, wr.cell? ⟨g, f + j, none⟩ = some u := ⟨_, hcx⟩
      clear hcx
      obtain ⟨b', off', x, e', hcz, hz, -⟩ := num_at (k := f + j) (HR.out.ext HBr.out) (by omega)
      cases e'
      rw [HAL.out (f + j) (by omega) hlt] at hz
      subst hz
      have f0 := hbk.frozen (f + j)
      have hO2 := hOr.set_ (k := f + j) (Iv 0)
      rw [← List.map_set, cut_step (by omega) (by have := HL.out; omega)] at hO2
      have HO2 := Lib.hid hO2
      have HB2 := Lib.hid (HBr.out.setCell (p := ⟨g, f + j, none⟩) hgb (Iv 0))
      have hjm : (f : Int) + (j : Int) < m := by omega
      simp only [Iv] at HB2 HO2
      clear hO2 hbk hOr
      go_wp2
      go_roundw
      case rel => exact ⟨j + 1, by omega, by omega, by go_num, HO2.out, HB2.out⟩
      case measure => simp [intOf]; omega
    · obtain ⟨q, rfl⟩ : ∃ q, e = f + q := ⟨j, by omega⟩
      obtain rfl : j = q := by omega
      clear hOr
      have hcase : (m ≤ f + j) ∨ (f + j < m ∧ l.getD (f + j) 0 ≠ 4) := by
        rcases Nat.lt_or_ge (f + j) m with h | h
        · refine .inr ⟨h, ?_⟩
          rcases HSP.out with h2 | h2
          · have := HL.out; omega
          · exact h2
        · exact .inl h
      rcases hcase with hc1 | ⟨hc1, hc2⟩
      case' inl =>
        have hb1 : ¬ (f : Int) + (j : Int) < m := by omega
      case' inr =>
        obtain ⟨b', off', x, e', hcz, hz, -⟩ := num_at (k := f + j) (HR.out.ext HBr.out) hc1
        cases e'
        have hzd : (x == 4) = false := by rw [hz] at hc2; simpa using hc2
        have hb1 : (f : Int) + (j : Int) < m := by omega
        clear hz hc2
      all_goals
        go_wp2
        exact bodyPost_ret (v := .tuple #[.slice (some ⟨g, 0, none⟩) m cp, .int .i64 (j : Int), .int .i64 0]) (by simp [results, Tryd.results14, go_sem]) rfl ⟨_, m, cp, by first | rfl | (rw [show f + j - f = j by omega]; rfl), HOr.out.row, HBr.out⟩

/-- The reference's Cut. -/
theorem refcut_any (A : Option Addr) (m c : Nat) (l : List Int) (f : Int) (w : World) (hR : Row w A m (l.map Iv)) (hm : m ≤ 1000) :
    Calls Tryd.prog 14 #[.slice A m c, .int .i64 f] w (GivesC w (codeC l f) (numC l f) (resC l f)) := by
  have hl := hR.1
  simp at hl
  cases hw : wholeL l
  · have h := refcut_no A m c l f w hR hm (.inl hw)
    rwa [show resC l f = [] by simp [resC, hw], show numC l f = 0 by simp [numC, hw]]
  · cases hc : cutOk l f
    · have h := refcut_no A m c l f w hR hm (.inr hc)
      rwa [show resC l f = [] by simp [resC, hc], show numC l f = 0 by simp [numC, hc]]
    · obtain ⟨⟨h0, h1⟩, h2⟩ : (0 ≤ f ∧ f < l.length) ∧ l.getD f.toNat 0 = 3 := by
        simpa [cutOk] using hc
      have h := refcut_in A m c l f.toNat w hR hm hw (by omega) h2 (endC l f) rfl
      rw [Int.toNat_of_nonneg h0] at h
      rwa [show codeC l f = 0 by simp [codeC, hw, hc], show resC l f = cutL l f.toNat (endC l f) by simp [resC, hw, hc], show numC l f = endC l f - f.toNat by simp [numC, hw, hc]]

end Go.Proofs.YtncopnknjohplaaDoor
