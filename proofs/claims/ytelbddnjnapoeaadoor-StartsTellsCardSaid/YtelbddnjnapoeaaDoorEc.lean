/-
  What is proved: contracts of the reference's Right, place, Has, New, turn, Put and Drop of starts. No condition beyond those stated.
-/
import Derived.Test.YtelbddnjnapoeaaDoorDn
import Derived.Test.YtelbddnjnapoeaaDoorRf
namespace Go.Proofs.YtelbddnjnapoeaaDoor
open Go.RowKit Go.Shelf

set_option maxHeartbeats 1000000 in
/-- The reference's Right. -/
theorem rsright_any (A : Option Addr) (m c : Nat) (n : Int) (ws : List Nat) (w : World) (hR : Row w A m (ws.map U32)) (hF : Fits ws) :
    Calls Tryd.prog 21 #[.agg #[.int .i64 n, .slice A m c]] w fun e w' => e = .returned (.bool (sRight n ws)) ∧ Below w.heap.size w w' := by
  have hb0 := below_box w (.cells #[.int .i64 n, .slice A m c] 24)
  have k0 := box0 (w := w) (t := 24) (v0 := .int .i64 n) (v1 := .slice A m c)
  have k1 := box1 (w := w) (t := 24) (v0 := .int .i64 n) (v1 := .slice A m c)
  have hrf := refright_any A m c n ws (w.alloc (.cells #[.int .i64 n, .slice A m c] 24)) (hR.ext hb0) hF
  have HB := Lib.hid hb0
  clear hR hb0 hF
  go_enter Tryd.func21, Tryd.ntmps21
  go_wp2_with fail
  generalize w.alloc (.cells #[.int .i64 n, .slice A m c] 24) = W0 at *
  cases hr : rightB n ws
  · rw [hr] at hrf
    have HQ : Hid (sRight n ws = false) := Lib.hid (by simp [sRight, hr])
    clear hr
    refine (hrf).mono ?_
    rintro e w1 ⟨rfl, hb_⟩
    replace k0 := cell_ext hb_ k0
    replace k1 := cell_ext hb_ k1
    replace HB := Lib.hid (below_le HB.out hb_)
    clear hb_
    clear hrf
    go_wp2
    go_ret
    exact ⟨ret_bool HQ.out.symm, HB.out⟩
  · rw [hr] at hrf
    have HQ : Hid (sRight n ws = (decide (n % 512 = 0) && decide (512 ≤ n) && decide (n ≤ 16384))) := Lib.hid (by simp [sRight, hr])
    clear hr
    refine (hrf).mono ?_
    rintro e w1 ⟨rfl, hb_⟩
    replace k0 := cell_ext hb_ k0
    replace k1 := cell_ext hb_ k1
    replace HB := Lib.hid (below_le HB.out hb_)
    clear hb_
    clear hrf
    by_cases h2 : 512 ≤ n
    · by_cases h3 : n ≤ 16384
      · by_cases h1 : n % 512 = 0
        · have hd : (n % 512 == 0) = true := by simpa using h1
          go_wp2
          go_ret
          exact ⟨ret_bool (by rw [HQ.out]; simp [h1, h2, h3]), HB.out⟩
        · have hd : (n % 512 == 0) = false := by simpa using h1
          go_wp2
          go_ret
          exact ⟨ret_bool (by rw [HQ.out]; simp [h1]), HB.out⟩
      · go_wp2
        go_ret
        exact ⟨ret_bool (by rw [HQ.out, decide_eq_false (show ¬ n ≤ 16384 by omega)]; simp), HB.out⟩
    · go_wp2
      go_ret
      exact ⟨ret_bool (by rw [HQ.out, decide_eq_false (show ¬ 512 ≤ n by omega)]; simp), HB.out⟩

theorem tmod8_small (n : Int) : -8 < n.tmod 8 ∧ n.tmod 8 < 8 := by
  by_cases h : 0 ≤ n
  · rw [Int.tmod_eq_emod_of_nonneg h]; omega
  · obtain ⟨m, rfl⟩ : ∃ m, n = -m := ⟨-n, by omega⟩
    rw [Int.neg_tmod, Int.tmod_eq_emod_of_nonneg (by omega)]; omega

set_option maxHeartbeats 1000000 in
/-- The reference's place. -/
theorem rplace_any (A : Option Addr) (m c : Nat) (n a : Int) (w : World) (ha : a ≤ 9223372036854775807) :
    Calls Tryd.prog 39 #[.agg #[.int .i64 n, .slice A m c], .int .i64 a] w fun e w' => e = .returned (.tuple #[.int .i64 (bif placeB n a then a / 8 else 0), .bool (placeB n a)]) ∧ Below w.heap.size w w' := by
  have hb0 := below_box w (.cells #[.int .i64 n, .slice A m c] 24)
  have k0 := box0 (w := w) (t := 24) (v0 := .int .i64 n) (v1 := .slice A m c)
  have HB := Lib.hid hb0
  clear hb0
  by_cases h0 : 0 ≤ a
  · have hq1 : IntKind.i64.wrap (a.tdiv 8) = a / 8 := by rw [IntKind.wrap_i64, Int.tdiv_eq_ediv_of_nonneg h0]; omega
    have hq2 : IntKind.i64.wrap (a / 8) = a / 8 := by rw [IntKind.wrap_i64]; omega
    have hq3 : IntKind.i64.wrap (a.tmod 8) = a % 8 := by rw [IntKind.wrap_i64, Int.tmod_eq_emod_of_nonneg h0]; omega
    by_cases h1 : a % 8 = 0
    · have hd : (a % 8 != 0) = false := by simpa using h1
      by_cases h2 : a / 8 < n
      · have HQ : Hid (placeB n a = true) := Lib.hid (by simp [placeB, h0, h1, h2])
        have hd2 : decide (n ≤ a / 8) = false := by simp; omega
        clear h1
        rw [HQ.out]
        go_enter Tryd.func39, Tryd.ntmps39
        go_wp2
        go_ret2
        exact ⟨rfl, HB.out⟩
      · have HQ : Hid (placeB n a = false) := Lib.hid (by simp [placeB, h2])
        have hd2 : decide (n ≤ a / 8) = true := by simp; omega
        clear h1
        rw [HQ.out]
        go_enter Tryd.func39, Tryd.ntmps39
        go_wp2
        go_ret2
        exact ⟨rfl, HB.out⟩
    · have hd : (a % 8 != 0) = true := by simpa using h1
      have HQ : Hid (placeB n a = false) := Lib.hid (by simp [placeB, h1])
      clear h1
      rw [HQ.out]
      go_enter Tryd.func39, Tryd.ntmps39
      go_wp2
      go_ret2
      exact ⟨rfl, HB.out⟩
  · have HQ : Hid (placeB n a = false) := Lib.hid (by simp [placeB, h0])
    rw [HQ.out]
    go_enter Tryd.func39, Tryd.ntmps39
    go_wp2
    go_ret2
    exact ⟨rfl, HB.out⟩

theorem has_place {n : Int} {ws : List Nat} {a : Int} (hr : sRight n ws = true) : sHas n ws a = (placeB n a && hasB n ws (a / 8)) := by
  have r4 := (sRight_elim hr).2.2.2
  unfold sHas placeB
  rw [hr, Bool.true_and]
  by_cases h : a / 8 < n
  · simp [h]
  · have : hasB n ws (a / 8) = false := by rw [has_eq r4]; simp [h]
    simp [this]

set_option maxRecDepth 100000 in
set_option maxHeartbeats 1000000 in
/-- The reference's Has. -/
theorem rshas_any (A : Option Addr) (m c : Nat) (n : Int) (ws : List Nat) (a : Int) (ha : a ≤ 9223372036854775807) (w : World) (hR : Row w A m (ws.map U32)) (hF : Fits ws) :
    Calls Tryd.prog 23 #[.agg #[.int .i64 n, .slice A m c], .int .i64 a] w fun e w' => e = .returned (.bool (sHas n ws a)) ∧ Below w.heap.size w w' := by
  have hb0 := below_box w (.cells #[.int .i64 n, .slice A m c] 24)
  have k0 := box0 (w := w) (t := 24) (v0 := .int .i64 n) (v1 := .slice A m c)
  have k1 := box1 (w := w) (t := 24) (v0 := .int .i64 n) (v1 := .slice A m c)
  have PL : Hid (∀ x : World, Calls Tryd.prog 39 #[.agg #[.int .i64 n, .slice A m c], .int .i64 a] x fun e w' => e = .returned (.tuple #[.int .i64 (bif placeB n a then a / 8 else 0), .bool (placeB n a)]) ∧ Below x.heap.size x w') := Lib.hid (fun x => rplace_any A m c n a x ha)
  have RI : Hid (∀ x : World, Row x A m (ws.map U32) → Calls Tryd.prog 21 #[.agg #[.int .i64 n, .slice A m c]] x fun e w' => e = .returned (.bool (sRight n ws)) ∧ Below x.heap.size x w') := Lib.hid (fun x h => rsright_any A m c n ws x h hF)
  have HH : Hid (∀ x : World, Row x A m (ws.map U32) → Calls Tryd.prog 40 #[.agg #[.int .i64 n, .slice A m c], .int .i64 (a / 8)] x fun e w' => e = .returned (.bool (hasB n ws (a / 8))) ∧ Below x.heap.size x w') := Lib.hid (fun x h => refhas_any A m c n ws (a / 8) x h hF)
  have HP := Lib.hid (has_place (n := n) (ws := ws) (a := a))
  have HN : Hid (sRight n ws = false → sHas n ws a = false) := Lib.hid (fun h => by simp [sHas, h])
  have HR := Lib.hid (hR.ext hb0)
  have HB := Lib.hid hb0
  clear hR hb0 hF ha
  generalize hasB n ws (a / 8) = d at *
  generalize placeB n a = p at *
  generalize sHas n ws a = s at *
  generalize sRight n ws = r at *
  go_enter Tryd.func23, Tryd.ntmps23
  go_wp2_with fail
  generalize w.alloc (.cells #[.int .i64 n, .slice A m c] 24) = W0 at *
  refine (PL.out W0).mono ?_
  rintro e w1 ⟨rfl, hb_⟩
  replace k0 := cell_ext hb_ k0
  replace k1 := cell_ext hb_ k1
  replace HR := Lib.hid (HR.out.ext hb_)
  replace HB := Lib.hid (below_le HB.out hb_)
  clear hb_
  go_wp2_with fail
  refine (RI.out w1 HR.out).mono ?_
  rintro e w2 ⟨rfl, hb_⟩
  replace k0 := cell_ext hb_ k0
  replace k1 := cell_ext hb_ k1
  replace HR := Lib.hid (HR.out.ext hb_)
  replace HB := Lib.hid (below_le HB.out hb_)
  clear hb_
  cases r
  · have hs := HN.out rfl
    subst hs
    clear HN HP
    go_wp2
    go_ret
    exact ⟨rfl, HB.out⟩
  · have hs := HP.out rfl
    subst hs
    clear HN HP
    cases p
    · go_wp2
      go_ret
      exact ⟨rfl, HB.out⟩
    · go_wp2_with fail
      refine (HH.out w2 HR.out).mono ?_
      rintro e w3 ⟨rfl, hb_⟩
      replace k0 := cell_ext hb_ k0
      replace k1 := cell_ext hb_ k1
      replace HB := Lib.hid (below_le HB.out hb_)
      clear hb_
      go_wp2
      go_ret
      exact ⟨ret_bool (by simp), HB.out⟩

set_option maxHeartbeats 1000000 in
/-- The reference's New, of a number of blocks. -/
theorem rnew_ok (b : Int) (w : World) (h0 : 1 ≤ b) (h1 : b ≤ 32) :
    Calls Tryd.prog 17 #[.int .i64 b] w (GivesBits w 0 (512 * b) (noneW (512 * b))) := by
  have hb0 := below_box w (.cells #[.int .i64 0, .slice none 0 0] 24)
  have hrb : Blk (w.alloc (.cells #[.int .i64 0, .slice none 0 0] 24)) w.heap.size 24 #[.int .i64 0, .slice none 0 0] := heap_new rfl _
  have HB := Lib.hid hb0
  have HRB := Lib.hid hrb
  clear hb0 hrb
  go_enter Tryd.func17, Tryd.ntmps17
  go_wp2_with fail
  generalize w.alloc (.cells #[.int .i64 0, .slice none 0 0] 24) = W0 at *
  have h := refmake_ok (512 * b) W0 (by omega) (by omega)
  refine h.mono ?_
  clear h
  rintro e w1 ⟨C, q, f, rfl, hRc, hb1⟩
  have hr1 := HRB.out.ext hb1
  have f0 := hr1.frozen 0
  have f1 := hr1.frozen 1
  have d0 := hr1.cell 0
  have d1 := hr1.cell 1
  have hr2 := (hr1.set_ 0 (.int .i64 (512 * b))).set_ 1 (.slice C q f)
  have hRd := (hRc.unbox (fun _ h => by cases h) hr1 0 (.int .i64 (512 * b))).unbox (fun _ h => by cases h) (hr1.set_ 0 (.int .i64 (512 * b))) 1 (.slice C q f)
  have HB1 := Lib.hid (below_le HB.out hb1)
  have HR3 := Lib.hid hr2
  have HRD := Lib.hid hRd
  clear hr1 hr2 hRc hRd hb1
  go_wp2
  have q0 := HR3.out.cell 0
  have q1 := HR3.out.cell 1
  simp at q0 q1
  have hbf := (HB1.out.setCell (p := ⟨w.heap.size, 0, none⟩) (Nat.le_refl _) (.int .i64 (512 * b))).setCell (p := ⟨w.heap.size, 1, none⟩) (Nat.le_refl _) (.slice C q f)
  exact bodyPost_ret (v := .tuple #[.agg #[.int .i64 (512 * b), .slice C q f], .int .i64 0]) (by simp [results, Tryd.results17, go_sem, q0, q1]) rfl ⟨_, _, _, rfl, HRD.out, hbf⟩

set_option maxHeartbeats 1000000 in
theorem rnew_bad (b : Int) (w : World) (h : b < 1 ∨ 32 < b) :
    Calls Tryd.prog 17 #[.int .i64 b] w (GivesBits w 2 0 []) := by
  by_cases h0 : b < 1
  · go_enter Tryd.func17, Tryd.ntmps17
    go_wp2
    exact bodyPost_ret (v := .tuple #[.agg #[.int .i64 0, .slice none 0 0], .int .i64 2]) (by simp [results, Tryd.results17, go_sem]) rfl ⟨_, _, _, rfl, Row.none_, below_box _ _⟩
  · have h1 : 32 < b := by omega
    go_enter Tryd.func17, Tryd.ntmps17
    go_wp2
    exact bodyPost_ret (v := .tuple #[.agg #[.int .i64 0, .slice none 0 0], .int .i64 2]) (by simp [results, Tryd.results17, go_sem]) rfl ⟨_, _, _, rfl, Row.none_, below_box _ _⟩

def rturnW0 (w : World) (n : Int) (A : Option Addr) (m c : Nat) : World := (w.alloc (.cells #[.int .i64 n, .slice A m c] 24)).alloc (.cells #[.int .i64 0, .slice none 0 0] 24)
def whyC (on : Bool) : Nat := if on then 52 else 131

set_option maxRecDepth 100000 in
set_option maxHeartbeats 1000000 in
/-- The reference's turn. -/
theorem rturn_any (A : Option Addr) (m c : Nat) (n a : Int) (ws : List Nat) (on : Bool) (w : World) (ha : a ≤ 9223372036854775807) (hR : Row w A m (ws.map U32)) (hF : Fits ws)
    (code : Nat) (hcode : chkCode n ws (sRight n ws) a (!on) = code) (why : Nat) (hwhy : why = whyC on) :
    Calls Tryd.prog 32 #[.agg #[.int .i64 n, .slice A m c], .int .i64 a, .bool on, .int .i64 why] w (GivesIf w code n (setW ws (a / 8).toNat on)) := by
  have hb0 : Below w.heap.size w (rturnW0 w n A m c) := below_le (below_box _ _) (below_box _ _)
  have k0 : (rturnW0 w n A m c).cell? ⟨w.heap.size, 0, none⟩ = some (.int .i64 n) := by simp [go_sem, rturnW0]
  have k1 : (rturnW0 w n A m c).cell? ⟨w.heap.size, 1, none⟩ = some (.slice A m c) := by simp [go_sem, rturnW0]
  have hrb : Blk (rturnW0 w n A m c) (w.heap.size + 1) 24 #[.int .i64 0, .slice none 0 0] := heap_new (by simp) _
  have PL : Hid (∀ x : World, Calls Tryd.prog 39 #[.agg #[.int .i64 n, .slice A m c], .int .i64 a] x fun e w' => e = .returned (.tuple #[.int .i64 (bif placeB n a then a / 8 else 0), .bool (placeB n a)]) ∧ Below x.heap.size x w') := Lib.hid (fun x => rplace_any A m c n a x ha)
  have RI : Hid (∀ x : World, Row x A m (ws.map U32) → Calls Tryd.prog 21 #[.agg #[.int .i64 n, .slice A m c]] x fun e w' => e = .returned (.bool (sRight n ws)) ∧ Below x.heap.size x w') := Lib.hid (fun x h => rsright_any A m c n ws x h hF)
  have HH : Hid (∀ x : World, Row x A m (ws.map U32) → Calls Tryd.prog 40 #[.agg #[.int .i64 n, .slice A m c], .int .i64 (a / 8)] x fun e w' => e = .returned (.bool (hasB n ws (a / 8))) ∧ Below x.heap.size x w') := Lib.hid (fun x h => refhas_any A m c n ws (a / 8) x h hF)
  have SE : Hid (code = 0 → ∀ x : World, Row x A m (ws.map U32) → Calls Tryd.prog 49 #[.agg #[.int .i64 n, .slice A m c], .int .i64 (a / 8), .bool on] x (GivesBits x 0 n (setW ws (a / 8).toNat on))) := Lib.hid (fun hz x h => by
    rw [hz] at hcode
    have hk := chk_ok hcode
    exact (refset_any A m c n ws (a / 8) on x h hF 0 (by rw [hk.1, hk.2.1]; simp [first2, chk])).mono fun _ _ h => h.ok)
  have HC := Lib.hid hcode
  have HWY := Lib.hid hwhy
  have HR := Lib.hid (hR.ext hb0)
  have HB := Lib.hid hb0
  have HRB := Lib.hid hrb
  clear hR hb0 hrb hF ha hcode hwhy
  unfold chkCode at HC
  generalize setW ws (a / 8).toNat on = us at *
  generalize hasB n ws (a / 8) = d at *
  generalize placeB n a = p at *
  generalize sRight n ws = r at *
  go_enter Tryd.func32, Tryd.ntmps32
  go_wp2_with fail
  change Calls _ _ _ (rturnW0 w n A m c) _
  generalize rturnW0 w n A m c = W0 at *
  refine (RI.out W0 HR.out).mono ?_
  rintro e w1 ⟨rfl, hb_⟩
  replace k0 := cell_ext hb_ k0
  replace k1 := cell_ext hb_ k1
  replace HR := Lib.hid (HR.out.ext hb_)
  replace HRB := Lib.hid (HRB.out.ext hb_)
  replace HB := Lib.hid (below_le HB.out hb_)
  clear hb_
  have no : ∀ (x : World) (cd : Nat), cd ≠ 0 → code = cd → Below w.heap.size w x → Blk x (w.heap.size + 1) 24 #[.int .i64 0, .slice none 0 0] →
      GivesIf w code n us (.returned (.tuple #[.agg #[.int .i64 0, .slice none 0 0], .int .i64 (cd : Nat)])) ((x.setCell ⟨w.heap.size + 1, 0, none⟩ (.int .i64 0)).setCell ⟨w.heap.size + 1, 1, none⟩ (.slice none 0 0)) := fun x cd h1 h2 h3 h4 => by
    subst h2
    exact GivesIf.no h1 ⟨_, _, _, rfl, Row.none_, (h3.setCell (p := ⟨w.heap.size + 1, 0, none⟩) (by show w.heap.size ≤ w.heap.size + 1; omega) _).setCell (p := ⟨w.heap.size + 1, 1, none⟩) (by show w.heap.size ≤ w.heap.size + 1; omega) _⟩
  have NO := Lib.hid no
  clear no
  have f0 := HRB.out.frozen 0
  have f1 := HRB.out.frozen 1
  have d0 := HRB.out.cell 0
  have d1 := HRB.out.cell 1
  cases r
  · have hc := HC.out
    simp only [cond_false] at hc
    go_wp2
    have q := (HRB.out.set_ 0 (.int .i64 0)).set_ 1 (.slice none 0 0)
    have q0 := q.cell 0
    have q1 := q.cell 1
    simp at q0 q1
    exact bodyPost_ret (v := .tuple #[.agg #[.int .i64 0, .slice none 0 0], .int .i64 130]) (by simp [results, Tryd.results32, go_sem, q0, q1]) rfl (NO.out _ 130 (by decide) hc.symm HB.out HRB.out)
  · clear f0 f1 d0 d1
    go_wp2_with fail
    refine (PL.out w1).mono ?_
    rintro e w2 ⟨rfl, hb_⟩
    replace k0 := cell_ext hb_ k0
    replace k1 := cell_ext hb_ k1
    replace HR := Lib.hid (HR.out.ext hb_)
    replace HRB := Lib.hid (HRB.out.ext hb_)
    replace HB := Lib.hid (below_le HB.out hb_)
    clear hb_
    have f0 := HRB.out.frozen 0
    have f1 := HRB.out.frozen 1
    have d0 := HRB.out.cell 0
    have d1 := HRB.out.cell 1
    cases p
    · have hc := HC.out
      simp only [cond_false, cond_true] at hc
      go_wp2
      have q := (HRB.out.set_ 0 (.int .i64 0)).set_ 1 (.slice none 0 0)
      have q0 := q.cell 0
      have q1 := q.cell 1
      simp at q0 q1
      exact bodyPost_ret (v := .tuple #[.agg #[.int .i64 0, .slice none 0 0], .int .i64 10]) (by simp [results, Tryd.results32, go_sem, q0, q1]) rfl (NO.out _ 10 (by decide) hc.symm HB.out HRB.out)
    · clear f0 f1 d0 d1
      have hcond : (bif true then a / 8 else 0) = a / 8 := rfl
      rw [hcond]
      clear hcond
      go_wp2_with fail
      refine (HH.out w2 HR.out).mono ?_
      rintro e w3 ⟨rfl, hb_⟩
      replace k0 := cell_ext hb_ k0
      replace k1 := cell_ext hb_ k1
      replace HR := Lib.hid (HR.out.ext hb_)
      replace HRB := Lib.hid (HRB.out.ext hb_)
      replace HB := Lib.hid (below_le HB.out hb_)
      clear hb_
      have f0 := HRB.out.frozen 0
      have f1 := HRB.out.frozen 1
      have d0 := HRB.out.cell 0
      have d1 := HRB.out.cell 1
      by_cases hd : d = on
      · have hdo : (d == on) = true := by simpa using hd
        have hc : Hid (why = code ∧ why ≠ 0) := Lib.hid <| by
          have h1 := HC.out
          subst hd
          rw [HWY.out]
          cases d
          · simp [whyC] at h1 ⊢; exact h1
          · simp [whyC] at h1 ⊢; exact h1
        clear hd HWY HC
        go_wp2
        have q := (HRB.out.set_ 0 (.int .i64 0)).set_ 1 (.slice none 0 0)
        have q0 := q.cell 0
        have q1 := q.cell 1
        simp at q0 q1
        exact bodyPost_ret (v := .tuple #[.agg #[.int .i64 0, .slice none 0 0], .int .i64 why]) (by simp [results, Tryd.results32, go_sem, q0, q1]) rfl (NO.out _ why hc.out.2 hc.out.1.symm HB.out HRB.out)
      · have hdo : (d == on) = false := by simpa using hd
        have hz : code = 0 := by
          have h1 := HC.out
          cases d <;> cases on <;> simp_all
        subst hz
        have hse := SE.out rfl w3 HR.out
        clear hd HWY HC SE NO
        go_wp2_with fail
        refine hse.mono ?_
        clear hse
        rintro e w4 ⟨C, q, f, rfl, hRc, hb4⟩
        have hr1 := HRB.out.ext hb4
        have f0 := hr1.frozen 0
        have f1 := hr1.frozen 1
        have d0 := hr1.cell 0
        have d1 := hr1.cell 1
        have hr2 := (hr1.set_ 0 (.int .i64 n)).set_ 1 (.slice C q f)
        have hRd := (hRc.unbox (fun _ h => by cases h) hr1 0 (.int .i64 n)).unbox (fun _ h => by cases h) (hr1.set_ 0 (.int .i64 n)) 1 (.slice C q f)
        replace HB := Lib.hid (below_le HB.out hb4)
        have HR3 := Lib.hid hr2
        have HRD := Lib.hid hRd
        clear hr1 hr2 hRc hRd hb4 HRB
        go_wp2
        have q0 := HR3.out.cell 0
        have q1 := HR3.out.cell 1
        simp at q0 q1
        have hbf := (HB.out.setCell (p := ⟨w.heap.size + 1, 0, none⟩) (by show w.heap.size ≤ w.heap.size + 1; omega) (.int .i64 n)).setCell (p := ⟨w.heap.size + 1, 1, none⟩) (by show w.heap.size ≤ w.heap.size + 1; omega) (.slice C q f)
        exact bodyPost_ret (v := .tuple #[.agg #[.int .i64 n, .slice C q f], .int .i64 0]) (by simp [results, Tryd.results32, go_sem, q0, q1]) rfl ⟨_, _, _, rfl, HRD.out, hbf⟩


set_option maxRecDepth 100000 in
set_option maxHeartbeats 1000000 in
/-- The reference's Put. -/
theorem rput_any (A : Option Addr) (m c : Nat) (n a : Int) (ws : List Nat) (w : World) (ha : a ≤ 9223372036854775807) (hR : Row w A m (ws.map U32)) (hF : Fits ws)
    (code : Nat) (hcode : chkCode n ws (sRight n ws) a false = code) :
    Calls Tryd.prog 12 #[.agg #[.int .i64 n, .slice A m c], .int .i64 a] w (GivesIf w code n (setW ws (a / 8).toNat true)) := by
  have hb0 : Below w.heap.size w (rturnW0 w n A m c) := below_le (below_box _ _) (below_box _ _)
  have k0 : (rturnW0 w n A m c).cell? ⟨w.heap.size, 0, none⟩ = some (.int .i64 n) := by simp [go_sem, rturnW0]
  have k1 : (rturnW0 w n A m c).cell? ⟨w.heap.size, 1, none⟩ = some (.slice A m c) := by simp [go_sem, rturnW0]
  have hrb : Blk (rturnW0 w n A m c) (w.heap.size + 1) 24 #[.int .i64 0, .slice none 0 0] := heap_new (by simp) _
  have h := rturn_any A m c n a ws true (rturnW0 w n A m c) ha (hR.ext hb0) hF code hcode 52 rfl
  have HB := Lib.hid hb0
  have HRB := Lib.hid hrb
  clear hb0 hrb hF ha hcode hR
  generalize setW ws (a / 8).toNat true = us at *
  go_enter Tryd.func12, Tryd.ntmps12
  go_wp2_with fail
  change Calls _ _ _ (rturnW0 w n A m c) _
  generalize rturnW0 w n A m c = W0 at *
  refine h.mono ?_
  clear h
  generalize hn : (if code = 0 then n else 0) = n1
  generalize hu : (if code = 0 then us else []) = u1
  rintro e w2 ⟨C, q, f, rfl, hRc, hb2⟩
  rw [hn]
  rw [hu] at hRc
  have hr1 := HRB.out.ext hb2
  have f0 := hr1.frozen 0
  have f1 := hr1.frozen 1
  have d0 := hr1.cell 0
  have d1 := hr1.cell 1
  have hr2 := (hr1.set_ 0 (.int .i64 n1)).set_ 1 (.slice C q f)
  have hRd := (hRc.unbox (fun _ h => by cases h) hr1 0 (.int .i64 n1)).unbox (fun _ h => by cases h) (hr1.set_ 0 (.int .i64 n1)) 1 (.slice C q f)
  have HB3 := Lib.hid (below_le HB.out hb2)
  have HR3 := Lib.hid hr2
  have HRD := Lib.hid hRd
  have HN := Lib.hid hn
  have HU := Lib.hid hu
  clear hr1 hr2 hRc hRd hb2 k0 k1 hn hu
  go_wp2
  have q0 := HR3.out.cell 0
  have q1 := HR3.out.cell 1
  simp at q0 q1
  have hbf := (HB3.out.setCell (p := ⟨w.heap.size + 1, 0, none⟩) (by show w.heap.size ≤ w.heap.size + 1; omega) (.int .i64 n1)).setCell (p := ⟨w.heap.size + 1, 1, none⟩) (by show w.heap.size ≤ w.heap.size + 1; omega) (.slice C q f)
  refine bodyPost_ret (v := .tuple #[.agg #[.int .i64 n1, .slice C q f], .int .i64 code]) (by simp [results, Tryd.results12, go_sem, q0, q1]) rfl ?_
  unfold GivesIf
  rw [HN.out, HU.out]
  exact ⟨_, _, _, rfl, HRD.out, hbf⟩

set_option maxRecDepth 100000 in
set_option maxHeartbeats 1000000 in
/-- The reference's Drop. -/
theorem rdrop_any (A : Option Addr) (m c : Nat) (n a : Int) (ws : List Nat) (w : World) (ha : a ≤ 9223372036854775807) (hR : Row w A m (ws.map U32)) (hF : Fits ws)
    (code : Nat) (hcode : chkCode n ws (sRight n ws) a true = code) :
    Calls Tryd.prog 14 #[.agg #[.int .i64 n, .slice A m c], .int .i64 a] w (GivesIf w code n (setW ws (a / 8).toNat false)) := by
  have hb0 : Below w.heap.size w (rturnW0 w n A m c) := below_le (below_box _ _) (below_box _ _)
  have k0 : (rturnW0 w n A m c).cell? ⟨w.heap.size, 0, none⟩ = some (.int .i64 n) := by simp [go_sem, rturnW0]
  have k1 : (rturnW0 w n A m c).cell? ⟨w.heap.size, 1, none⟩ = some (.slice A m c) := by simp [go_sem, rturnW0]
  have hrb : Blk (rturnW0 w n A m c) (w.heap.size + 1) 24 #[.int .i64 0, .slice none 0 0] := heap_new (by simp) _
  have h := rturn_any A m c n a ws false (rturnW0 w n A m c) ha (hR.ext hb0) hF code hcode 131 rfl
  have HB := Lib.hid hb0
  have HRB := Lib.hid hrb
  clear hb0 hrb hF ha hcode hR
  generalize setW ws (a / 8).toNat false = us at *
  go_enter Tryd.func14, Tryd.ntmps14
  go_wp2_with fail
  change Calls _ _ _ (rturnW0 w n A m c) _
  generalize rturnW0 w n A m c = W0 at *
  refine h.mono ?_
  clear h
  generalize hn : (if code = 0 then n else 0) = n1
  generalize hu : (if code = 0 then us else []) = u1
  rintro e w2 ⟨C, q, f, rfl, hRc, hb2⟩
  rw [hn]
  rw [hu] at hRc
  have hr1 := HRB.out.ext hb2
  have f0 := hr1.frozen 0
  have f1 := hr1.frozen 1
  have d0 := hr1.cell 0
  have d1 := hr1.cell 1
  have hr2 := (hr1.set_ 0 (.int .i64 n1)).set_ 1 (.slice C q f)
  have hRd := (hRc.unbox (fun _ h => by cases h) hr1 0 (.int .i64 n1)).unbox (fun _ h => by cases h) (hr1.set_ 0 (.int .i64 n1)) 1 (.slice C q f)
  have HB3 := Lib.hid (below_le HB.out hb2)
  have HR3 := Lib.hid hr2
  have HRD := Lib.hid hRd
  have HN := Lib.hid hn
  have HU := Lib.hid hu
  clear hr1 hr2 hRc hRd hb2 k0 k1 hn hu
  go_wp2
  have q0 := HR3.out.cell 0
  have q1 := HR3.out.cell 1
  simp at q0 q1
  have hbf := (HB3.out.setCell (p := ⟨w.heap.size + 1, 0, none⟩) (by show w.heap.size ≤ w.heap.size + 1; omega) (.int .i64 n1)).setCell (p := ⟨w.heap.size + 1, 1, none⟩) (by show w.heap.size ≤ w.heap.size + 1; omega) (.slice C q f)
  refine bodyPost_ret (v := .tuple #[.agg #[.int .i64 n1, .slice C q f], .int .i64 code]) (by simp [results, Tryd.results14, go_sem, q0, q1]) rfl ?_
  unfold GivesIf
  rw [HN.out, HU.out]
  exact ⟨_, _, _, rfl, HRD.out, hbf⟩

end Go.Proofs.YtelbddnjnapoeaaDoor
