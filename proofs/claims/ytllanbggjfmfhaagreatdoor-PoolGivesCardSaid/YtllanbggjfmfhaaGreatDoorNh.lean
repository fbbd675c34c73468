/-
  What is proved: the contract of Cut of package run. No condition beyond those stated.
-/
import Derived.Test.YtllanbggjfmfhaaGreatDoorNg
import Derived.Lib.SliceRun
namespace Go.Proofs.YtllanbggjfmfhaaGreatDoor
open Go.RowKit Go.Shelf

theorem cut_none (l : List Int) (f : Nat) : cutL l f f = l := by
  refine list_ext0 (cut_len l f f) fun i hi => ?_
  rw [cut_get (by rw [cut_len] at hi; exact hi), if_neg (by omega)]
theorem cut_step {l : List Int} {f e : Nat} (hf : f ≤ e) (he : e < l.length) : (cutL l f e).set e 0 = cutL l f (e + 1) := by
  refine list_ext0 (by rw [cut_len]; simp [cut_len]) fun i hi => ?_
  have hi' : i < l.length := by simpa [cut_len] using hi
  rw [getD_set_eq _ _ _ _ (by rw [cut_len]; exact he), cut_get hi', cut_get hi']
  by_cases h : i = e
  · rw [if_pos h, if_pos (by omega)]
  · rw [if_neg h]
    by_cases h2 : f ≤ i ∧ i < e
    · rw [if_pos h2, if_pos (by omega)]
    · rw [if_neg h2, if_neg (by omega)]

theorem blk_clear {l : List Int} {f B : Nat} : ∀ (n e : Nat) (w : World), f ≤ e → e + n ≤ l.length → Blk w B 3 ((cutL l f e).map Iv).toArray → Blk (w.setCells B e (List.replicate n (.int .i64 0))) B 3 ((cutL l f (e + n)).map Iv).toArray
  | 0, e, w, _, _, h => h
  | n + 1, e, w, hf, he, h => by
    rw [List.replicate_succ]
    show Blk ((w.setCell ⟨B, e, none⟩ (.int .i64 0)).setCells B (e + 1) (List.replicate n (.int .i64 0))) _ _ _
    have h1 := h.set_ e (Iv 0)
    rw [List.setIfInBounds_toArray, ← List.map_set, cut_step hf (by omega)] at h1
    have := blk_clear n (e + 1) _ (by omega) (by omega) h1
    rwa [show e + 1 + n = e + (n + 1) by omega] at this
theorem below_clear {B b : Nat} {a : World} (hb : B ≤ b) : ∀ (n e : Nat) (w : World), Below B a w → Below B a (w.setCells b e (List.replicate n (.int .i64 0)))
  | 0, _, _, h => h
  | n + 1, e, w, h => by
    rw [List.replicate_succ]
    exact below_clear hb n (e + 1) _ (h.setCell (p := ⟨b, e, none⟩) hb _)

theorem zero_int (w : World) : (zeroValue 3).run Tryz.prog w = .ok (.int .i64 0) w := by
  obtain ⟨i, hi, hz0, -, -⟩ := info_parts int_info
  simp [zeroValue, typeInfo, hi, hz0]

/-- A list and two numbers. -/
def GivesCut (w : World) (code n : Nat) (l : List Int) (e : Ending) (w' : World) : Prop :=
  ∃ A m c, e = .returned (.tuple #[.slice A m c, .int .i64 n, .int .i64 code]) ∧ Row w' A m (l.map Iv) ∧ (m ≤ c ∧ ∀ a, A = some a → w.heap.size ≤ a.block) ∧ Below w.heap.size w w'

set_option maxRecDepth 100000 in
set_option maxHeartbeats 1000000 in
theorem cut_unwhole (A : Option Addr) (m c : Nat) (l : List Int) (f : Int) (aS aR : Addr) (w : World) (hS : RSent w aS aR) (hR : Row w A m (l.map Iv)) (hm : m ≤ 1000) (hw : wholeL l = false) :
    Calls Tryz.prog 37 #[.slice A m c, .int .i64 f] w (GivesCut w 90 0 []) := by
  have HR := Lib.hid hR
  have HS := Lib.hid hS
  have HW := Lib.hid hw
  clear hR hS hw
  go_enter Tryz.func37, Tryz.ntmps37
  go_wp2_with fail
  have h := whole_any A m c l w HR.out hm
  rw [HW.out] at h
  refine h.mono ?_
  clear h
  rintro e w1 ⟨rfl, hb1⟩
  have g0 := (HS.out.ext hb1).hS.1
  have HN := Lib.hid (number_state aS aR w1 (HS.out.ext hb1))
  have HB1 := Lib.hid hb1
  clear hb1
  go_wp2_with fail
  refine HN.out.mono ?_
  rintro e w' ⟨rfl, rfl⟩
  go_wp2
  exact bodyPost_ret (v := .tuple #[.slice none 0 0, .int .i64 0, .int .i64 90]) (by simp [results, Tryz.results37, go_sem]) rfl ⟨_, _, _, rfl, Row.none_, ⟨Nat.le_refl _, (fun _ e => by cases e)⟩, HB1.out⟩

set_option maxRecDepth 100000 in
set_option maxHeartbeats 1000000 in
theorem cut_bad (A : Option Addr) (m c : Nat) (l : List Int) (f : Int) (aS aR : Addr) (w : World) (hS : RSent w aS aR) (hR : Row w A m (l.map Iv)) (hm : m ≤ 1000) (hw : wholeL l = true) (hc : f < 0 ∨ (0 ≤ f ∧ (m : Int) ≤ f) ∨ (0 ≤ f ∧ f < m ∧ l.getD f.toNat 0 ≠ 3)) :
    Calls Tryz.prog 37 #[.slice A m c, .int .i64 f] w (GivesCut w 91 0 []) := by
  have HR := Lib.hid hR
  have HS := Lib.hid hS
  have HW := Lib.hid hw
  clear hR hS hw
  go_enter Tryz.func37, Tryz.ntmps37
  go_wp2_with fail
  have h := whole_any A m c l w HR.out hm
  rw [HW.out] at h
  refine h.mono ?_
  clear h
  rintro e w1 ⟨rfl, hb1⟩
  have HN := Lib.hid (number_run aS aR w1 (HS.out.ext hb1))
  have g0 := (HS.out.ext hb1).hR.1
  have HB1 := Lib.hid hb1
  have HR1 := Lib.hid (HR.out.ext hb1)
  clear hb1
  rcases hc with h0 | ⟨h0, h1⟩ | ⟨h0, h1, h2⟩
  case' inr.inr =>
    obtain ⟨b, off, x, rfl, hcx, hx, -⟩ := num_at (k := f.toNat) HR1.out (by omega)
    have hd : (x != 3) = true := by rw [hx] at h2; simpa using h2
    clear hx h2
  all_goals
    go_wp2_with fail
    refine HN.out.mono ?_
    rintro e w' ⟨rfl, rfl⟩
    go_wp2
    exact bodyPost_ret (v := .tuple #[.slice none 0 0, .int .i64 0, .int .i64 91]) (by simp [results, Tryz.results37, go_sem]) rfl ⟨_, _, _, rfl, Row.none_, ⟨Nat.le_refl _, (fun _ e => by cases e)⟩, HB1.out⟩

set_option maxRecDepth 100000 in
set_option maxHeartbeats 2000000 in
theorem cut_in (b off m c : Nat) (l : List Int) (f : Nat) (w : World) (hR : Row w (some ⟨b, off, none⟩) m (l.map Iv)) (hm : m ≤ 1000) (hw : wholeL l = true) (hfm : f < m) (h3 : l.getD f 0 = 3) (e : Nat) (he : f + 1 + tailN l (f + 1) = e) :
    Calls Tryz.prog 37 #[.slice (some ⟨b, off, none⟩) m c, .int .i64 f] w (GivesCut w 0 (e - f) (cutL l f e)) := by
  have hl := hR.1
  simp at hl
  have hle := tail_le l (f + 1) (by omega)
  have hall := tail_all l (f + 1)
  have hstp := tail_stop l (f + 1) (by omega)
  rw [he] at hle hall hstp
  have hef : f < e := by omega
  have hem : e ≤ m := by omega
  have HR := Lib.hid hR
  have HW := Lib.hid hw
  have HL := Lib.hid hl
  have H3 := Lib.hid h3
  have HAL := Lib.hid hall
  have HSP := Lib.hid hstp
  clear hR hw hl h3 hall hstp he hle
  go_enter Tryz.func37, Tryz.ntmps37
  go_wp2_with fail
  have h := whole_any (some ⟨b, off, none⟩) m c l w HR.out hm
  rw [HW.out] at h
  refine h.mono ?_
  clear h
  rintro en w1 ⟨rfl, hb1⟩
  have HB1 := Lib.hid hb1
  have HR1 := Lib.hid (HR.out.ext hb1)
  clear hb1
  obtain ⟨b', off', x, e', hcx, hx, -⟩ := num_at (k := f) HR1.out hfm
  cases e'
  rw [H3.out] at hx
  subst hx
  go_wp2
  go_loop [7] (fun i => ∃ j : Nat, f + 1 ≤ j ∧ j ≤ e ∧ i = .int .i64 j) (fun i => e - (intOf i).toNat)
  case atStart => exact ⟨f + 1, Nat.le_refl _, by omega, by go_num⟩
  case round =>
    obtain ⟨j, hj0, hj1, rfl⟩ := hrel
    by_cases hje : j < e
    · obtain ⟨b', off', x, e', hcz, hz, -⟩ := num_at (k := j) HR1.out (by omega)
      cases e'
      rw [HAL.out j hj0 hje] at hz
      subst hz
      go_wp2
      go_round
      case rel => exact ⟨j + 1, by omega, by omega, by go_num⟩
      case measure => simp [intOf]; omega
    · obtain rfl : j = e := by omega
      have hcase : (m ≤ j) ∨ (j < m ∧ l.getD j 0 ≠ 4) := by
        rcases Nat.lt_or_ge j m with h | h
        · refine .inr ⟨h, ?_⟩
          rcases HSP.out with h2 | h2
          · have := HL.out; omega
          · exact h2
        · exact .inl h
      rcases hcase with hc1 | ⟨hc1, hc2⟩
      case' inr =>
        obtain ⟨b', off', x, e', hcz, hz, -⟩ := num_at (k := j) HR1.out hc1
        cases e'
        have hzd : (x == 4) = false := by rw [hz] at hc2; simpa using hc2
        clear hz hc2
      all_goals
        go_wp2_with fail
        refine (copied_any (some ⟨b, off, none⟩) m c l w1 HR1.out hm).mono ?_
        rintro en w2 ⟨B, rfl, hB, hblk, hb2⟩
        rw [HL.out]
        have hlm := HL.out
        have hcl : ∀ ty, (Builtin.clear_ #[22] ty #[.slice (some ⟨B, f, none⟩) (j - f) (m - f)]).run Tryz.prog w2 = .ok (.tuple #[]) (w2.setCells B f (List.replicate (j - f) (.int .i64 0))) := fun ty =>
          Lib.run_clear_slice w2 22 3 ty (.int .i64 0) Tryz.underlying22 zero_int rfl rfl B f (j - f) (m - f) (by omega)
            (fun i hi => by rw [hblk.cell, List.getElem?_toArray, List.getElem?_map, List.getElem?_eq_getElem (by omega)]; rfl) (fun i _ => hblk.frozen _)
        have hblk2 := blk_clear (l := l) (f := f) (j - f) f w2 (Nat.le_refl _) (by omega) (by rw [cut_none]; exact hblk)
        rw [show f + (j - f) = j by omega] at hblk2
        have hb3 := below_clear (B := w.heap.size) (b := B) (Nat.le_trans HB1.out.size hB) (j - f) f w2 (below_le HB1.out hb2)
        have HK := Lib.hid hblk2
        have HB3 := Lib.hid hb3
        have HBB : Hid (w.heap.size ≤ B) := Lib.hid (Nat.le_trans HB1.out.size hB)
        have hcf : ¬ m = f := by omega
        clear hblk hblk2 hb3 hb2 hlm
        go_wp2
        refine bodyPost_ret (v := .tuple #[.slice (some ⟨B, 0, none⟩) m m, .int .i64 ((j : Int) - (f : Int)), .int .i64 0]) (by simp [results, Tryz.results37, go_sem]) rfl ⟨_, _, _, by rw [show ((j - f : Nat) : Int) = (j : Int) - (f : Int) by omega]; rfl, ?_, ⟨Nat.le_refl _, (fun _ e => by cases e; exact HBB.out)⟩, HB3.out⟩
        have hrow := HK.out.row
        simp only [List.size_toArray, List.length_map, cut_len, HL.out] at hrow
        exact hrow

def cutOk (l : List Int) (f : Int) : Bool := decide (0 ≤ f) && decide (f < l.length) && (l.getD f.toNat 0 == 3)
def endC (l : List Int) (f : Int) : Nat := f.toNat + 1 + tailN l (f.toNat + 1)
def codeC (l : List Int) (f : Int) : Nat := if wholeL l then (if cutOk l f then 0 else 91) else 90
def resC (l : List Int) (f : Int) : List Int := if wholeL l && cutOk l f then cutL l f.toNat (endC l f) else []
def numC (l : List Int) (f : Int) : Nat := if wholeL l && cutOk l f then endC l f - f.toNat else 0
/-- run.Cut. -/
theorem cut_any (A : Option Addr) (m c : Nat) (l : List Int) (f : Int) (aS aR : Addr) (w : World) (hS : RSent w aS aR) (hR : Row w A m (l.map Iv)) (hm : m ≤ 1000) :
    Calls Tryz.prog 37 #[.slice A m c, .int .i64 f] w (GivesCut w (codeC l f) (numC l f) (resC l f)) := by
  have hl := hR.1
  simp at hl
  cases hw : wholeL l
  · have h := cut_unwhole A m c l f aS aR w hS hR hm hw
    rwa [show codeC l f = 90 by simp [codeC, hw], show resC l f = [] by simp [resC, hw], show numC l f = 0 by simp [numC, hw]]
  · cases hc : cutOk l f
    · have h := cut_bad A m c l f aS aR w hS hR hm hw (by
        simp [cutOk] at hc
        rw [List.getD_eq_getElem?_getD]
        by_cases h1 : 0 ≤ f
        · by_cases h2 : f < l.length
          · exact .inr (.inr ⟨h1, by omega, hc h1 h2⟩)
          · exact .inr (.inl ⟨h1, by omega⟩)
        · exact .inl (by omega))
      rwa [show codeC l f = 91 by simp [codeC, hw, hc], show resC l f = [] by simp [resC, hc], show numC l f = 0 by simp [numC, hc]]
    · obtain ⟨⟨h0, h1⟩, h2⟩ : (0 ≤ f ∧ f < l.length) ∧ l.getD f.toNat 0 = 3 := by
        simpa [cutOk] using hc
      obtain ⟨b, off, e, _⟩ := hR.2 (by omega)
      subst e
      have h := cut_in b off m c l f.toNat w hR hm hw (by omega) h2 (endC l f) rfl
      rw [Int.toNat_of_nonneg h0] at h
      rwa [show codeC l f = 0 by simp [codeC, hw, hc], show resC l f = cutL l f.toNat (endC l f) by simp [resC, hw, hc], show numC l f = endC l f - f.toNat by simp [numC, hw, hc]]

end Go.Proofs.YtllanbggjfmfhaaGreatDoor
