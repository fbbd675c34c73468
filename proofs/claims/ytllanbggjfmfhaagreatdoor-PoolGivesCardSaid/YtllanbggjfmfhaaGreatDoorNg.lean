/-
  What is proved: the contract of Put of package run. No condition beyond those stated.
-/
import Derived.Test.YtllanbggjfmfhaaGreatDoorNf
import Derived.Test.YtllanbggjfmfhaaGreatDoorNq
namespace Go.Proofs.YtllanbggjfmfhaaGreatDoor
open Go.RowKit Go.Shelf

/-- A list and a number. -/
def GivesList (w : World) (code : Nat) (l : List Int) (e : Ending) (w' : World) : Prop :=
  ∃ A m c, e = .returned (.tuple #[.slice A m c, .int .i64 code]) ∧ Row w' A m (l.map Iv) ∧ (m ≤ c ∧ ∀ a, A = some a → w.heap.size ≤ a.block) ∧ Below w.heap.size w w'

set_option maxRecDepth 100000 in
set_option maxHeartbeats 1000000 in
theorem put_unwhole (A : Option Addr) (m c : Nat) (l : List Int) (f k : Int) (aS aR : Addr) (w : World) (hS : RSent w aS aR) (hR : Row w A m (l.map Iv)) (hm : m ≤ 1000) (hw : wholeL l = false) :
    Calls Tryz.prog 29 #[.slice A m c, .int .i64 f, .int .i64 k] w (GivesList w 90 []) := by
  have HR := Lib.hid hR
  have HS := Lib.hid hS
  have HW := Lib.hid hw
  clear hR hS hw
  go_enter Tryz.func29, Tryz.ntmps29
  go_wp2_with fail
  have h := whole_any A m c l w HR.out hm
  rw [HW.out] at h
  refine h.mono ?_
  clear h
  rintro e w1 ⟨rfl, hb1⟩
  have g0 := (HS.out.ext hb1).hS.1
  have HN := Lib.hid (number_state aS aR w1 (HS.out.ext hb1))
  have HB1 := Lib.hid hb1
  clear hb1
  go_wp2_with fail
  refine HN.out.mono ?_
  rintro e w' ⟨rfl, rfl⟩
  go_wp2
  refine bodyPost_ret (v := .tuple #[.slice none 0 0, .int .i64 90]) (by simp [results, Tryz.results29, go_sem]) rfl ⟨_, _, _, rfl, Row.none_, ⟨Nat.le_refl _, (fun _ e => by cases e)⟩, HB1.out⟩

set_option maxRecDepth 100000 in
set_option maxHeartbeats 1000000 in
theorem put_bad (A : Option Addr) (m c : Nat) (l : List Int) (f k : Int) (aS aR : Addr) (w : World) (hS : RSent w aS aR) (hR : Row w A m (l.map Iv)) (hm : m ≤ 1000) (hw : wholeL l = true) (hf : f ≤ 9223372036854775807) (hc : f < 0 ∨ (0 ≤ f ∧ k < 1) ∨ (0 ≤ f ∧ 1 ≤ k ∧ (m : Int) - f < k)) :
    Calls Tryz.prog 29 #[.slice A m c, .int .i64 f, .int .i64 k] w (GivesList w 91 []) := by
  have hwr : 0 ≤ f → IntKind.i64.wrap ((m : Int) - f) = (m : Int) - f := fun h => by rw [IntKind.wrap_i64]; omega
  have HR := Lib.hid hR
  have HS := Lib.hid hS
  have HW := Lib.hid hw
  have HWR := Lib.hid hwr
  clear hR hS hw hwr hf
  go_enter Tryz.func29, Tryz.ntmps29
  go_wp2_with fail
  have h := whole_any A m c l w HR.out hm
  rw [HW.out] at h
  refine h.mono ?_
  clear h
  rintro e w1 ⟨rfl, hb1⟩
  have HS1 := Lib.hid (HS.out.ext hb1)
  have HB1 := Lib.hid hb1
  clear hb1
  go_wp2
  rcases hc with h0 | ⟨h0, h1⟩ | ⟨h0, h1, h2⟩
  case' inl => have hd0 : decide (f < 0) = true := by simpa using h0
  case' inr.inl =>
    have hd0 : decide (f < 0) = false := by simpa using h0
    have hd1 : decide (k < 1) = true := by simpa using h1
  case' inr.inr =>
    have hd0 : decide (f < 0) = false := by simpa using h0
    have hd1 : decide (k < 1) = false := by simpa using h1
    have hwr := HWR.out h0
    have hd2 : decide ((m : Int) - f < k) = true := by simpa using h2
  all_goals
    refine wp_region_mix (by kernel_rfl) ?_
    first | (refine mix_skip 0 rfl (by kernel_rfl) rfl ?_; go_frame) | (refine mix_soft 0 rfl (by kernel_rfl) rfl (fun K hK => ?_); go_simp; first | (refine hK _ ?_; clear hK K) | (apply Exists.intro; refine ⟨fun x => ?_, hK _ ?_⟩; (· (fail)); clear hK K; try go_frame))
    first | (refine mix_skip 1 rfl (by kernel_rfl) rfl ?_; go_frame) | (refine mix_soft 1 rfl (by kernel_rfl) rfl (fun K hK => ?_); go_simp; first | (refine hK _ ?_; clear hK K) | (apply Exists.intro; refine ⟨fun x => ?_, hK _ ?_⟩; (· (fail)); clear hK K; try go_frame))
    first | (refine mix_skip 2 rfl (by kernel_rfl) rfl ?_; go_frame) | (refine mix_soft 2 rfl (by kernel_rfl) rfl (fun K hK => ?_); go_simp; first | (refine hK _ ?_; clear hK K) | (apply Exists.intro; refine ⟨fun x => ?_, hK _ ?_⟩; (· (fail)); clear hK K; try go_frame))
    first | (refine mix_skip 3 rfl (by kernel_rfl) rfl ?_; go_frame) | (refine mix_soft 3 rfl (by kernel_rfl) rfl (fun K hK => ?_); go_simp; first | (refine hK _ ?_; clear hK K) | (apply Exists.intro; refine ⟨fun x => ?_, hK _ ?_⟩; (· (fail)); clear hK K; try go_frame))
    first | (refine mix_skip 4 rfl (by kernel_rfl) rfl ?_; go_frame) | (refine mix_soft 4 rfl (by kernel_rfl) rfl (fun K hK => ?_); go_simp; first | (refine hK _ ?_; clear hK K) | (apply Exists.intro; refine ⟨fun x => ?_, hK _ ?_⟩; (· (fail)); clear hK K; try go_frame))
    first | (refine mix_skip 5 rfl (by kernel_rfl) rfl ?_; go_frame) | (refine mix_soft 5 rfl (by kernel_rfl) rfl (fun K hK => ?_); go_simp; first | (refine hK _ ?_; clear hK K) | (apply Exists.intro; refine ⟨fun x => ?_, hK _ ?_⟩; (· (fail)); clear hK K; try go_frame))
    first | (refine mix_skip 6 rfl (by kernel_rfl) rfl ?_; go_frame) | (refine mix_soft 6 rfl (by kernel_rfl) rfl (fun K hK => ?_); go_simp; first | (refine hK _ ?_; clear hK K) | (apply Exists.intro; refine ⟨fun x => ?_, hK _ ?_⟩; (· (fail)); clear hK K; try go_frame))
    first | (refine mix_skip 7 rfl (by kernel_rfl) rfl ?_; go_frame) | (refine mix_soft 7 rfl (by kernel_rfl) rfl (fun K hK => ?_); go_simp; first | (refine hK _ ?_; clear hK K) | (apply Exists.intro; refine ⟨fun x => ?_, hK _ ?_⟩; (· (fail)); clear hK K; try go_frame))
    first | (refine mix_skip 8 rfl (by kernel_rfl) rfl ?_; go_frame) | (refine mix_soft 8 rfl (by kernel_rfl) rfl (fun K hK => ?_); go_simp; first | (refine hK _ ?_; clear hK K) | (apply Exists.intro; refine ⟨fun x => ?_, hK _ ?_⟩; (· (fail)); clear hK K; try go_frame))
    first | (refine mix_skip 9 rfl (by kernel_rfl) rfl ?_; go_frame) | (refine mix_soft 9 rfl (by kernel_rfl) rfl (fun K hK => ?_); go_simp; first | (refine hK _ ?_; clear hK K) | (apply Exists.intro; refine ⟨fun x => ?_, hK _ ?_⟩; (· (fail)); clear hK K; try go_frame))
    first | (refine mix_skip 10 rfl (by kernel_rfl) rfl ?_; go_frame) | (refine mix_soft 10 rfl (by kernel_rfl) rfl (fun K hK => ?_); go_simp; first | (refine hK _ ?_; clear hK K) | (apply Exists.intro; refine ⟨fun x => ?_, hK _ ?_⟩; (· (fail)); clear hK K; try go_frame))
    first | (refine mix_skip 11 rfl (by kernel_rfl) rfl ?_; go_frame) | (refine mix_soft 11 rfl (by kernel_rfl) rfl (fun K hK => ?_); go_simp; first | (refine hK _ ?_; clear hK K) | (apply Exists.intro; refine ⟨fun x => ?_, hK _ ?_⟩; (· (fail)); clear hK K; try go_frame))
    first | (refine mix_skip 12 rfl (by kernel_rfl) rfl ?_; go_frame) | (refine mix_soft 12 rfl (by kernel_rfl) rfl (fun K hK => ?_); go_simp; first | (refine hK _ ?_; clear hK K) | (apply Exists.intro; refine ⟨fun x => ?_, hK _ ?_⟩; (· (fail)); clear hK K; try go_frame))
    first | (refine mix_skip 13 rfl (by kernel_rfl) rfl ?_; go_frame) | (refine mix_soft 13 rfl (by kernel_rfl) rfl (fun K hK => ?_); go_simp; first | (refine hK _ ?_; clear hK K) | (apply Exists.intro; refine ⟨fun x => ?_, hK _ ?_⟩; (· (fail)); clear hK K; try go_frame))
    first | (refine mix_skip 14 rfl (by kernel_rfl) rfl ?_; go_frame) | (refine mix_soft 14 rfl (by kernel_rfl) rfl (fun K hK => ?_); go_simp; first | (refine hK _ ?_; clear hK K) | (apply Exists.intro; refine ⟨fun x => ?_, hK _ ?_⟩; (· (fail)); clear hK K; try go_frame))
    first | (refine mix_skip 15 rfl (by kernel_rfl) rfl ?_; go_frame) | (refine mix_soft 15 rfl (by kernel_rfl) rfl (fun K hK => ?_); go_simp; first | (refine hK _ ?_; clear hK K) | (apply Exists.intro; refine ⟨fun x => ?_, hK _ ?_⟩; (· (fail)); clear hK K; try go_frame))
    first | (refine mix_skip 16 rfl (by kernel_rfl) rfl ?_; go_frame) | (refine mix_soft 16 rfl (by kernel_rfl) rfl (fun K hK => ?_); go_simp; first | (refine hK _ ?_; clear hK K) | (apply Exists.intro; refine ⟨fun x => ?_, hK _ ?_⟩; (· (fail)); clear hK K; try go_frame))
    first | (refine mix_skip 17 rfl (by kernel_rfl) rfl ?_; go_frame) | (refine mix_soft 17 rfl (by kernel_rfl) rfl (fun K hK => ?_); go_simp; first | (refine hK _ ?_; clear hK K) | (apply Exists.intro; refine ⟨fun x => ?_, hK _ ?_⟩; (· (fail)); clear hK K; try go_frame))
    first | (refine mix_skip 18 rfl (by kernel_rfl) rfl ?_; go_frame) | (refine mix_soft 18 rfl (by kernel_rfl) rfl (fun K hK => ?_); go_simp; first | (refine hK _ ?_; clear hK K) | (apply Exists.intro; refine ⟨fun x => ?_, hK _ ?_⟩; (· (fail)); clear hK K; try go_frame))
    first | (refine mix_skip 19 rfl (by kernel_rfl) rfl ?_; go_frame) | (refine mix_soft 19 rfl (by kernel_rfl) rfl (fun K hK => ?_); go_simp; first | (refine hK _ ?_; clear hK K) | (apply Exists.intro; refine ⟨fun x => ?_, hK _ ?_⟩; (· (fail)); clear hK K; try go_frame))
    first | (refine mix_skip 20 rfl (by kernel_rfl) rfl ?_; go_frame) | (refine mix_soft 20 rfl (by kernel_rfl) rfl (fun K hK => ?_); go_simp; first | (refine hK _ ?_; clear hK K) | (apply Exists.intro; refine ⟨fun x => ?_, hK _ ?_⟩; (· (fail)); clear hK K; try go_frame))
    first | (refine mix_skip 21 rfl (by kernel_rfl) rfl ?_; go_frame) | (refine mix_soft 21 rfl (by kernel_rfl) rfl (fun K hK => ?_); go_simp; first | (refine hK _ ?_; clear hK K) | (apply Exists.intro; refine ⟨fun x => ?_, hK _ ?_⟩; (· (fail)); clear hK K; try go_frame))
    first | (refine mix_skip 22 rfl (by kernel_rfl) rfl ?_; go_frame) | (refine mix_soft 22 rfl (by kernel_rfl) rfl (fun K hK => ?_); go_simp; first | (refine hK _ ?_; clear hK K) | (apply Exists.intro; refine ⟨fun x => ?_, hK _ ?_⟩; (· (fail)); clear hK K; try go_frame))
    first | (refine mix_skip 23 rfl (by kernel_rfl) rfl ?_; go_frame) | (refine mix_soft 23 rfl (by kernel_rfl) rfl (fun K hK => ?_); go_simp; first | (refine hK _ ?_; clear hK K) | (apply Exists.intro; refine ⟨fun x => ?_, hK _ ?_⟩; (· (fail)); clear hK K; try go_frame))
    first | (refine mix_skip 24 rfl (by kernel_rfl) rfl ?_; go_frame) | (refine mix_soft 24 rfl (by kernel_rfl) rfl (fun K hK => ?_); go_simp; first | (refine hK _ ?_; clear hK K) | (apply Exists.intro; refine ⟨fun x => ?_, hK _ ?_⟩; (· (fail)); clear hK K; try go_frame))
    first | (refine mix_skip 25 rfl (by kernel_rfl) rfl ?_; go_frame) | (refine mix_soft 25 rfl (by kernel_rfl) rfl (fun K hK => ?_); go_simp; first | (refine hK _ ?_; clear hK K) | (apply Exists.intro; refine ⟨fun x => ?_, hK _ ?_⟩; (· (fail)); clear hK K; try go_frame))
    first | (refine mix_skip 26 rfl (by kernel_rfl) rfl ?_; go_frame) | (refine mix_soft 26 rfl (by kernel_rfl) rfl (fun K hK => ?_); go_simp; first | (refine hK _ ?_; clear hK K) | (apply Exists.intro; refine ⟨fun x => ?_, hK _ ?_⟩; (· (fail)); clear hK K; try go_frame))
    refine mix_nil (by kernel_rfl) fun w2 hb2 _ => ?_
    have g0 := (HS1.out.ext hb2).hR.1
    have HN := Lib.hid (number_run aS aR w2 (HS1.out.ext hb2))
    have HB2 := Lib.hid (below_le HB1.out hb2)
    clear hb2
    go_wp2_with fail
    refine HN.out.mono ?_
    rintro e w' ⟨rfl, rfl⟩
    go_wp2
    exact bodyPost_ret (v := .tuple #[.slice none 0 0, .int .i64 91]) (by simp [results, Tryz.results29, go_sem]) rfl ⟨_, _, _, rfl, Row.none_, ⟨Nat.le_refl _, (fun _ e => by cases e)⟩, HB2.out⟩

theorem Row.sub {w : World} {b off m : Nat} {xs : List Value} (h : Row w (some ⟨b, off, none⟩) m xs) (f k : Nat) (hfk : f + k ≤ m) : Row w (some ⟨b, off + f, none⟩) k ((xs.drop f).take k) := by
  have hl := h.1
  refine ⟨by simp; omega, fun hk => ⟨b, off + f, rfl, fun j u hu => ?_⟩⟩
  obtain ⟨b', off', e, hc⟩ := h.2 (by omega)
  cases e
  rw [List.getElem?_take] at hu
  split at hu
  · rw [List.getElem?_drop] at hu
    have := hc (f + j) u hu
    rwa [show off + f + j = off + (f + j) by omega]
  · cases hu
theorem drop_take_map (l : List Int) (f k : Nat) : ((l.map Iv).drop f).take k = ((l.drop f).take k).map Iv := by rw [List.map_take, List.map_drop]
theorem row_one {w : World} {g : Nat} {x : Int} (h : w.cell? ⟨g, 0, none⟩ = some (.int .i64 x)) : Row w (some ⟨g, 0, none⟩) 1 ([x].map Iv) :=
  ⟨rfl, fun _ => ⟨_, _, rfl, fun j u hj => by
    match j with
    | 0 => simp [Iv] at hj; rw [← hj]; exact h
    | j + 1 => simp at hj⟩⟩

theorem run_one0 (W : World) :
    (Instr.buildSlice 22 1 #[(0, .int .i64 0)]).run Tryz.prog W = .ok (.slice (some ⟨W.heap.size, 0, none⟩) 1 1) (W.alloc (.cells #[.int .i64 0] 3)) := by
  go_simp
theorem run_onef (p : Option Addr) (W : World) :
    (Instr.buildSlice 101 1 #[(0, .func (.func 74) #[] #[.pointer p])]).run Tryz.prog W = .ok (.slice (some ⟨W.heap.size, 0, none⟩) 1 1) (W.alloc (.cells #[.func (.func 74) #[] #[.pointer p]] 74)) := by
  go_simp

set_option maxRecDepth 100000 in
set_option maxHeartbeats 2000000 in
theorem put_in (b off m c : Nat) (l : List Int) (f k : Nat) (aS aR : Addr) (w : World) (hS : RSent w aS aR) (hR : Row w (some ⟨b, off, none⟩) m (l.map Iv)) (hm : m ≤ 1000) (hmc : m ≤ c) (hw : wholeL l = true) (hk : 1 ≤ k) (hfk : f + k ≤ m)
    (code : Nat) (l' : List Int) (hq1 : freeAt l f k = true → code = 0 ∧ l' = putL l f k) (hq0 : freeAt l f k = false → code = 91 ∧ l' = []) :
    Calls Tryz.prog 29 #[.slice (some ⟨b, off, none⟩) m c, .int .i64 f, .int .i64 k] w (GivesList w code l') := by
  have hl := hR.1
  simp at hl
  have HR := Lib.hid hR
  have HS := Lib.hid hS
  have HW := Lib.hid hw
  have HL := Lib.hid hl
  have hwr : IntKind.i64.wrap ((m : Int) - (f : Int)) = (m : Int) - (f : Int) := by rw [IntKind.wrap_i64]; omega
  have hwa : IntKind.i64.wrap ((f : Int) + (k : Int)) = (f : Int) + (k : Int) := by rw [IntKind.wrap_i64]; omega
  have HWR := Lib.hid hwr
  have HWA := Lib.hid hwa
  have HQ1 := Lib.hid hq1
  have HQ0 := Lib.hid hq0
  clear hR hS hw hl hwr hwa hq1 hq0
  go_enter Tryz.func29, Tryz.ntmps29
  go_wp2_with fail
  have h := whole_any (some ⟨b, off, none⟩) m c l w HR.out hm
  rw [HW.out] at h
  refine h.mono ?_
  clear h
  rintro e w1 ⟨rfl, hb1⟩
  have HS1 := Lib.hid (HS.out.ext hb1)
  have HR1 := Lib.hid (HR.out.ext hb1)
  have HB1 := Lib.hid hb1
  clear hb1
  go_wp2
  have hd2 : decide ((m : Int) - (f : Int) < (k : Int)) = false := by simp; omega
  have hwr := HWR.out
  have hwa := HWA.out
  have hrt := run_one0
  have hrf := run_onef
  have hfm : (f : Int) + (k : Int) ≤ c := by omega
  have hfk0 : (f : Int) ≤ (f : Int) + (k : Int) := by omega
  have hk1 : decide ((k : Int) < 1) = false := by simp; omega
  have hk0 : decide ((f : Int) < 0) = false := by simp
  have hcf : ¬ c = f := by omega
  have hnt : ((f : Int) + (k : Int)).toNat - f = k := by omega
  refine wp_region_mix (by kernel_rfl) ?_
  first | (refine mix_skip 0 rfl (by kernel_rfl) rfl ?_; go_frame) | (refine mix_soft 0 rfl (by kernel_rfl) rfl (fun K hK => ?_); go_simp; first | (refine hK _ ?_; clear hK K) | (apply Exists.intro; refine ⟨fun x => ?_, hK _ ?_⟩; (· (fail)); clear hK K; try go_frame))
  first | (refine mix_skip 1 rfl (by kernel_rfl) rfl ?_; go_frame) | (refine mix_soft 1 rfl (by kernel_rfl) rfl (fun K hK => ?_); go_simp; first | (refine hK _ ?_; clear hK K) | (apply Exists.intro; refine ⟨fun x => ?_, hK _ ?_⟩; (· (fail)); clear hK K; try go_frame))
  first | (refine mix_skip 2 rfl (by kernel_rfl) rfl ?_; go_frame) | (refine mix_soft 2 rfl (by kernel_rfl) rfl (fun K hK => ?_); go_simp; first | (refine hK _ ?_; clear hK K) | (apply Exists.intro; refine ⟨fun x => ?_, hK _ ?_⟩; (· (fail)); clear hK K; try go_frame))
  first | (refine mix_skip 3 rfl (by kernel_rfl) rfl ?_; go_frame) | (refine mix_soft 3 rfl (by kernel_rfl) rfl (fun K hK => ?_); go_simp; first | (refine hK _ ?_; clear hK K) | (apply Exists.intro; refine ⟨fun x => ?_, hK _ ?_⟩; (· (fail)); clear hK K; try go_frame))
  first | (refine mix_skip 4 rfl (by kernel_rfl) rfl ?_; go_frame) | (refine mix_soft 4 rfl (by kernel_rfl) rfl (fun K hK => ?_); go_simp; first | (refine hK _ ?_; clear hK K) | (apply Exists.intro; refine ⟨fun x => ?_, hK _ ?_⟩; (· (fail)); clear hK K; try go_frame))
  first | (refine mix_skip 5 rfl (by kernel_rfl) rfl ?_; go_frame) | (refine mix_soft 5 rfl (by kernel_rfl) rfl (fun K hK => ?_); go_simp; first | (refine hK _ ?_; clear hK K) | (apply Exists.intro; refine ⟨fun x => ?_, hK _ ?_⟩; (· (fail)); clear hK K; try go_frame))
  first | (refine mix_skip 6 rfl (by kernel_rfl) rfl ?_; go_frame) | (refine mix_soft 6 rfl (by kernel_rfl) rfl (fun K hK => ?_); go_simp; first | (refine hK _ ?_; clear hK K) | (apply Exists.intro; refine ⟨fun x => ?_, hK _ ?_⟩; (· (fail)); clear hK K; try go_frame))
  first | (refine mix_skip 7 rfl (by kernel_rfl) rfl ?_; go_frame) | (refine mix_soft 7 rfl (by kernel_rfl) rfl (fun K hK => ?_); go_simp; first | (refine hK _ ?_; clear hK K) | (apply Exists.intro; refine ⟨fun x => ?_, hK _ ?_⟩; (· (fail)); clear hK K; try go_frame))
  first | (refine mix_skip 8 rfl (by kernel_rfl) rfl ?_; go_frame) | (refine mix_soft 8 rfl (by kernel_rfl) rfl (fun K hK => ?_); go_simp; first | (refine hK _ ?_; clear hK K) | (apply Exists.intro; refine ⟨fun x => ?_, hK _ ?_⟩; (· (fail)); clear hK K; try go_frame))
  first | (refine mix_skip 9 rfl (by kernel_rfl) rfl ?_; go_frame) | (refine mix_soft 9 rfl (by kernel_rfl) rfl (fun K hK => ?_); go_simp; first | (refine hK _ ?_; clear hK K) | (apply Exists.intro; refine ⟨fun x => ?_, hK _ ?_⟩; (· (fail)); clear hK K; try go_frame))
  first | (refine mix_skip 10 rfl (by kernel_rfl) rfl ?_; go_frame) | (refine mix_soft 10 rfl (by kernel_rfl) rfl (fun K hK => ?_); go_simp; first | (refine hK _ ?_; clear hK K) | (apply Exists.intro; refine ⟨fun x => ?_, hK _ ?_⟩; (· (fail)); clear hK K; try go_frame))
  first | (refine mix_skip 11 rfl (by kernel_rfl) rfl ?_; go_frame) | (refine mix_soft 11 rfl (by kernel_rfl) rfl (fun K hK => ?_); go_simp; first | (refine hK _ ?_; clear hK K) | (apply Exists.intro; refine ⟨fun x => ?_, hK _ ?_⟩; (· (fail)); clear hK K; try go_frame))
  first | (refine mix_skip 12 rfl (by kernel_rfl) rfl ?_; go_frame) | (refine mix_soft 12 rfl (by kernel_rfl) rfl (fun K hK => ?_); go_simp; first | (refine hK _ ?_; clear hK K) | (apply Exists.intro; refine ⟨fun x => ?_, hK _ ?_⟩; (· (fail)); clear hK K; try go_frame))
  first | (refine mix_skip 13 rfl (by kernel_rfl) rfl ?_; go_frame) | (refine mix_soft 13 rfl (by kernel_rfl) rfl (fun K hK => ?_); go_simp; first | (refine hK _ ?_; clear hK K) | (apply Exists.intro; refine ⟨fun x => ?_, hK _ ?_⟩; (· (fail)); clear hK K; try go_frame))
  first | (refine mix_skip 14 rfl (by kernel_rfl) rfl ?_; go_frame) | (refine mix_soft 14 rfl (by kernel_rfl) rfl (fun K hK => ?_); go_simp; first | (refine hK _ ?_; clear hK K) | (apply Exists.intro; refine ⟨fun x => ?_, hK _ ?_⟩; (· (fail)); clear hK K; try go_frame))
  first | (refine mix_skip 15 rfl (by kernel_rfl) rfl ?_; go_frame) | (refine mix_soft 15 rfl (by kernel_rfl) rfl (fun K hK => ?_); go_simp; first | (refine hK _ ?_; clear hK K) | (apply Exists.intro; refine ⟨fun x => ?_, hK _ ?_⟩; (· (fail)); clear hK K; try go_frame))
  first | (refine mix_skip 16 rfl (by kernel_rfl) rfl ?_; go_frame) | (refine mix_soft 16 rfl (by kernel_rfl) rfl (fun K hK => ?_); go_simp; first | (refine hK _ ?_; clear hK K) | (apply Exists.intro; refine ⟨fun x => ?_, hK _ ?_⟩; (· (fail)); clear hK K; try go_frame))
  first | (refine mix_skip 17 rfl (by kernel_rfl) rfl ?_; go_frame) | (refine mix_soft 17 rfl (by kernel_rfl) rfl (fun K hK => ?_); go_simp; first | (refine hK _ ?_; clear hK K) | (apply Exists.intro; refine ⟨fun x => ?_, hK _ ?_⟩; (· (fail)); clear hK K; try go_frame))
  first | (refine mix_skip 18 rfl (by kernel_rfl) rfl ?_; go_frame) | (refine mix_soft 18 rfl (by kernel_rfl) rfl (fun K hK => ?_); go_simp; first | (refine hK _ ?_; clear hK K) | (apply Exists.intro; refine ⟨fun x => ?_, hK _ ?_⟩; (· (fail)); clear hK K; try go_frame))
  first | (refine mix_skip 19 rfl (by kernel_rfl) rfl ?_; go_frame) | (refine mix_soft 19 rfl (by kernel_rfl) rfl (fun K hK => ?_); go_simp; first | (refine hK _ ?_; clear hK K) | (apply Exists.intro; refine ⟨fun x => ?_, hK _ ?_⟩; (· (fail)); clear hK K; try go_frame))
  first | (refine mix_skip 20 rfl (by kernel_rfl) rfl ?_; go_frame) | (refine mix_soft 20 rfl (by kernel_rfl) rfl (fun K hK => ?_); go_simp; first | (refine hK _ ?_; clear hK K) | (apply Exists.intro; refine ⟨fun x => ?_, hK _ ?_⟩; (· (fail)); clear hK K; try go_frame))
  clear hcf hnt hwr hwa
  refine mix_one 21 (by kernel_rfl) ?_
  refine mix_now rfl rfl ?_; intro w2 hb2 hB2 K hK; go_simp
  have c2 := cell_one (w := w2) (t := 3) (v := .int .i64 0)
  refine hK _ _ (below_le hB2 (below_box _ _)) ?_
  clear hK K hb2 hB2
  try go_frame
  generalize w2.alloc (.cells #[.int .i64 0] 3) = W2 at *
  generalize w2.heap.size = g0 at *
  refine mix_one 22 (by kernel_rfl) ?_
  refine mix_now rfl rfl ?_; intro w3 hb3 hB3 K hK; go_simp
  refine (is_any _ 1 1 _).mono ?_
  rintro e w' ⟨rfl, rfl⟩
  have hx3 := below_box w3 (.cells #[.slice (some ⟨g0, 0, none⟩) 1 1] 22)
  have c3 := cell_one (w := w3) (t := 22) (v := .slice (some ⟨g0, 0, none⟩) 1 1)
  replace c2 := cell_ext (below_le hb3 hx3) c2
  refine hK _ _ (below_le hB3 hx3) ?_
  clear hK K hb3 hB3 hx3
  try go_frame
  generalize w3.alloc (.cells #[.slice (some ⟨g0, 0, none⟩) 1 1] 22) = W3 at *
  generalize w3.heap.size = g1 at *
  refine mix_one 23 (by kernel_rfl) ?_
  refine mix_now rfl rfl ?_; intro w4 hb4 hB4 K hK; go_simp
  have hx4 := below_box w4 (.cells #[.func (.func 74) #[] #[.pointer (some ⟨g1, 0, none⟩)]] 74)
  have c4 := cell_one (w := w4) (t := 74) (v := .func (.func 74) #[] #[.pointer (some ⟨g1, 0, none⟩)])
  replace c2 := cell_ext (below_le hb4 hx4) c2
  replace c3 := cell_ext (below_le hb4 hx4) c3
  refine hK _ _ (below_le hB4 hx4) ?_
  clear hK K hb4 hB4 hx4 hrt hrf
  try go_frame
  generalize w4.alloc (.cells #[.func (.func 74) #[] #[.pointer (some ⟨g1, 0, none⟩)]] 74) = W4 at *
  generalize w4.heap.size = g2 at *
  refine mix_one 24 (by kernel_rfl) ?_
  refine mix_now rfl rfl ?_; intro w5 hb5 hB5 K hK; go_simp
  have hrs := (HR1.out.ext hB5).sub f k hfk
  rw [drop_take_map] at hrs
  have h := each_any 74 #[.pointer (some ⟨g1, 0, none⟩)] enters_is (fun x => x == 0) (some ⟨b, off + f, none⟩) k (c - f) ((l.drop f).take k) g2 w5 hrs (by omega) (cell_ext hb5 c4) (fun x => by
    have h := is1_any _ 1 1 [0] x g1 w5 (cell_ext hb5 c3) (row_one (cell_ext hb5 c2)) (by omega)
    rwa [show ([0] : List Int).any (fun s => x == s) = (x == 0) by simp] at h)
  obtain ⟨fa, hfa⟩ : ∃ fa, freeAt l f k = fa := ⟨_, rfl⟩
  rw [show ((l.drop f).take k).all (fun x => x == 0) = fa from hfa] at h
  refine h.mono ?_
  clear h hrs
  rintro e w' ⟨rfl, rfl⟩
  refine hK _ _ hB5 ?_
  clear hK K hb5 hB5 c2 c3 c4
  try go_frame
  cases fa
  · obtain ⟨hcd, hl'⟩ := HQ0.out hfa
    subst hcd hl'
    clear hfa
    first | (refine mix_skip 25 rfl (by kernel_rfl) rfl ?_; go_frame) | (refine mix_soft 25 rfl (by kernel_rfl) rfl (fun K hK => ?_); go_simp; first | (refine hK _ ?_; clear hK K) | (apply Exists.intro; refine ⟨fun x => ?_, hK _ ?_⟩; (· (fail)); clear hK K; try go_frame))
    first | (refine mix_skip 26 rfl (by kernel_rfl) rfl ?_; go_frame) | (refine mix_soft 26 rfl (by kernel_rfl) rfl (fun K hK => ?_); go_simp; first | (refine hK _ ?_; clear hK K) | (apply Exists.intro; refine ⟨fun x => ?_, hK _ ?_⟩; (· (fail)); clear hK K; try go_frame))
    refine mix_nil (by kernel_rfl) fun w6 _ hb6 => ?_
    have g0 := (HS1.out.ext hb6).hR.1
    have HN := Lib.hid (number_run aS aR w6 (HS1.out.ext hb6))
    have HB6 := Lib.hid (below_le HB1.out hb6)
    clear hb6
    go_wp2_with fail
    refine HN.out.mono ?_
    rintro e w' ⟨rfl, rfl⟩
    go_wp2
    exact bodyPost_ret (v := .tuple #[.slice none 0 0, .int .i64 91]) (by simp [results, Tryz.results29, go_sem]) rfl ⟨_, _, _, rfl, Row.none_, ⟨Nat.le_refl _, (fun _ e => by cases e)⟩, HB6.out⟩
  · obtain ⟨hcd, hl'⟩ := HQ1.out hfa
    subst hcd hl'
    clear hfa
    first | (refine mix_skip 25 rfl (by kernel_rfl) rfl ?_; go_frame) | (refine mix_soft 25 rfl (by kernel_rfl) rfl (fun K hK => ?_); go_simp; first | (refine hK _ ?_; clear hK K) | (apply Exists.intro; refine ⟨fun x => ?_, hK _ ?_⟩; (· (fail)); clear hK K; try go_frame))
    first | (refine mix_skip 26 rfl (by kernel_rfl) rfl ?_; go_frame) | (refine mix_soft 26 rfl (by kernel_rfl) rfl (fun K hK => ?_); go_simp; first | (refine hK _ ?_; clear hK K) | (apply Exists.intro; refine ⟨fun x => ?_, hK _ ?_⟩; (· (fail)); clear hK K; try go_frame))
    refine mix_nil (by kernel_rfl) fun w6 _ hb6 => ?_
    have HB6 := Lib.hid (below_le HB1.out hb6)
    have HR6 := Lib.hid (HR1.out.ext hb6)
    clear hb6
    go_wp2_with fail
    refine (copied_any (some ⟨b, off, none⟩) m c l w6 HR6.out hm).mono ?_
    rintro e w7 ⟨B, rfl, hB, hblk, hb7⟩
    rw [HL.out]
    have f0 := hblk.frozen f
    have d0 := hblk.cell f
    rw [List.getElem?_toArray, List.getElem?_map, List.getElem?_eq_getElem (by have := HL.out; omega)] at d0
    have hb2 := hblk.set_ f (Iv 3)
    rw [List.setIfInBounds_toArray, ← List.map_set, put_one (by have := HL.out; omega)] at hb2
    have HB7 := Lib.hid (below_le HB6.out hb7)
    have HBK := Lib.hid hb2
    have HBB : Hid (w.heap.size ≤ B) := Lib.hid (Nat.le_trans HB6.out.size hB)
    clear hblk hb7 hb2 hB
    have hff : (f : Int) < m := by omega
    have hffn : f < m := by omega
    go_wp2
    have hB8 := HB7.out.setCell (p := ⟨B, f, none⟩) HBB.out (Iv 3)
    have HB8 := Lib.hid hB8
    clear hB8 f0 d0
    simp only [Iv] at HBK HB8
    generalize w7.setCell ⟨B, f, none⟩ (.int .i64 3) = w8 at *
    go_loopw [9] (fun i wr => ∃ j : Nat, 1 ≤ j ∧ j ≤ k ∧ i = .int .i64 ((f + j : Nat) : Int) ∧ Blk wr B 3 ((putL l f j).map Iv).toArray ∧ Below w.heap.size w wr) (fun i _ => ((f : Int) + k - intOf i).toNat)
    case atStart => exact ⟨1, Nat.le_refl _, hk, by go_num, HBK.out, HB8.out⟩
    case round =>
      obtain ⟨j, hj1, hjk, rfl, hbk, hbr⟩ := hrel
      have HJ := Lib.hid hbk
      have HBr := Lib.hid hbr
      clear hbr
      by_cases hlt : j < k
      · have f0 := hbk.frozen (f + j)
        have d0 := hbk.cell (f + j)
        rw [List.getElem?_toArray, List.getElem?_map, List.getElem?_eq_getElem (by rw [put_len]; have := HL.out; omega)] at d0
        have hb2 := hbk.set_ (f + j) (Iv 4)
        rw [List.setIfInBounds_toArray, ← List.map_set, put_step hj1 (by have := HL.out; omega)] at hb2
        have H2 := Lib.hid hb2
        have H3 := Lib.hid (HBr.out.setCell (p := ⟨B, f + j, none⟩) HBB.out (Iv 4))
        simp only [Iv] at H2 H3
        have hjm : f + j < m := by omega
        have hlt2 : f + j < f + k := by omega
        clear hb2 hbk
        go_wp2
        go_roundw
        case rel => exact ⟨j + 1, by omega, by omega, by go_num, H2.out, H3.out⟩
        case measure => simp [intOf]; omega
      · obtain rfl : j = k := by omega
        clear hbk
        have hlt2 : ¬ f + j < f + j := by omega
        go_wp2
        refine bodyPost_ret (v := .tuple #[.slice (some ⟨B, 0, none⟩) m m, .int .i64 0]) (by simp [results, Tryz.results29, go_sem]) rfl ⟨_, _, _, rfl, ?_, ⟨Nat.le_refl _, (fun _ e => by cases e; exact HBB.out)⟩, HBr.out⟩
        have hrow := HJ.out.row
        simp only [List.size_toArray, List.length_map, put_len, HL.out] at hrow
        exact hrow

/-- run.Put, of what is whole. -/
theorem put_whole (A : Option Addr) (m c : Nat) (l : List Int) (f k : Int) (aS aR : Addr) (w : World) (hS : RSent w aS aR) (hR : Row w A m (l.map Iv)) (hm : m ≤ 1000) (hmc : m ≤ c) (hw : wholeL l = true) (hf : f ≤ 9223372036854775807)
    (code : Nat) (l' : List Int) (hq1 : putOk l f k = true → code = 0 ∧ l' = putL l f.toNat k.toNat) (hq0 : putOk l f k = false → code = 91 ∧ l' = []) :
    Calls Tryz.prog 29 #[.slice A m c, .int .i64 f, .int .i64 k] w (GivesList w code l') := by
  have hl := hR.1
  simp at hl
  by_cases hc : f < 0 ∨ (0 ≤ f ∧ k < 1) ∨ (0 ≤ f ∧ 1 ≤ k ∧ (m : Int) - f < k)
  · obtain ⟨rfl, rfl⟩ := hq0 (by
      unfold putOk
      rcases hc with h | ⟨h, h'⟩ | ⟨h, h', h''⟩
      · rw [decide_eq_false (show ¬ 0 ≤ f by omega)]; rfl
      · rw [decide_eq_false (show ¬ 1 ≤ k by omega)]; simp
      · rw [decide_eq_false (show ¬ f + k ≤ l.length by omega)]; simp)
    exact put_bad A m c l f k aS aR w hS hR hm hw hf hc
  · have h0 : 0 ≤ f := by omega
    have h1 : 1 ≤ k := by omega
    have h2 : f + k ≤ l.length := by omega
    obtain ⟨b, off, e, _⟩ := hR.2 (by omega)
    subst e
    have hpo : putOk l f k = freeAt l f.toNat k.toNat := by
      unfold putOk
      rw [decide_eq_true h0, decide_eq_true h1, decide_eq_true h2]; rfl
    have h := put_in b off m c l f.toNat k.toNat aS aR w hS hR hm hmc hw (by omega) (by omega) code l' (fun h => hq1 (hpo.trans h)) (fun h => hq0 (hpo.trans h))
    rwa [Int.toNat_of_nonneg h0, Int.toNat_of_nonneg (by omega)] at h

def codeP (l : List Int) (f k : Int) : Nat := if wholeL l then (if putOk l f k then 0 else 91) else 90
def resP (l : List Int) (f k : Int) : List Int := if wholeL l && putOk l f k then putL l f.toNat k.toNat else []
/-- run.Put. -/
theorem put_any (A : Option Addr) (m c : Nat) (l : List Int) (f k : Int) (aS aR : Addr) (w : World) (hS : RSent w aS aR) (hR : Row w A m (l.map Iv)) (hm : m ≤ 1000) (hmc : m ≤ c) (hf : f ≤ 9223372036854775807) :
    Calls Tryz.prog 29 #[.slice A m c, .int .i64 f, .int .i64 k] w (GivesList w (codeP l f k) (resP l f k)) := by
  cases hw : wholeL l
  · have h := put_unwhole A m c l f k aS aR w hS hR hm hw
    rwa [show codeP l f k = 90 by simp [codeP, hw], show resP l f k = [] by simp [resP, hw]]
  · exact put_whole A m c l f k aS aR w hS hR hm hmc hw hf _ _ (fun h => ⟨by simp [codeP, hw, h], by simp [resP, hw, h]⟩) (fun h => ⟨by simp [codeP, hw, h], by simp [resP, h]⟩)

end Go.Proofs.YtllanbggjfmfhaaGreatDoor
