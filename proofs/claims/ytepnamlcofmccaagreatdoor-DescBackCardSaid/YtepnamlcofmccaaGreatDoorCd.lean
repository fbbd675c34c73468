/-
  What is proved: contracts of form and end of package desc. No condition beyond those stated.
-/
import Derived.Test.YtepnamlcofmccaaGreatDoorCc
import Derived.Test.YtepnamlcofmccaaGreatDoorC7
import Derived.Deep.Cut
import Derived.Deep.CutRange
namespace Go.Proofs.YtepnamlcofmccaaGreatDoor
open Go.RowKit

abbrev shapeV (z : Int) (P : Option Addr) (m c : Nat) (e : Int) (Q : Option Addr) (q f : Nat) (n : Int) : Value := .agg #[.int .i64 z, .slice P m c, .int .i64 e, .slice Q q f, .int .i64 n]
abbrev shapeO (z : Int) (P : Option Addr) (m c : Nat) (e : Int) (Q : Option Addr) (q f : Nat) (n : Int) : Obj := .cells #[.int .i64 z, .slice P m c, .int .i64 e, .slice Q q f, .int .i64 n] 53

/-- A shape, and an error; the shape of what came in, where there is none. -/
def GivesForm (w : World) (no : Nat) (sv : Value) (x : Ending) (w' : World) : Prop := ∃ s v, x = .returned (.tuple #[s, v]) ∧ ErrV_desc w' no v ∧ (no = 0 → s = sv) ∧ (no ≠ 0 → s = shapeV 0 none 0 0 0 none 0 0 0) ∧ Below w.heap.size w w'

/-- An error stays where another block is set. -/
theorem ErrV_desc.far {w W' : World} {no : Nat} {v : Value} {g : Nat} {t : TypeId} {c2 c3 c4 : Value} {A : Option Addr} {n k : Nat} (h : ErrV_desc w no v) (hg : Blk w g t #[.int .i64 0, .slice A n k, c2, c3, c4]) (hf : ∀ b, b ≠ g → W'.heap[b]? = w.heap[b]?) :
    ErrV_desc W' no v := by
  rcases h with h | ⟨h0, t', u, h1, h2, h3⟩
  · exact .inl h
  · have c0 := hg.at_ (i := 0) rfl
    have c1 := hg.at_ (i := 1) rfl
    have ht : t' ≠ g := by
      rintro rfl
      rw [c1] at h2
      cases h2
    have hu : u ≠ g := by
      rintro rfl
      rw [c0] at h3
      injection h3 with h3
      injection h3 with _ h3
      omega
    exact .inr ⟨h0, t', u, h1, (World.cell?_of_block (w := w) (hf t' ht)).trans h2, (World.cell?_of_block (w := w) (hf u hu)).trans h3⟩

set_option maxRecDepth 100000 in
set_option maxHeartbeats 8000000 in
theorem form_any (z e n : Int) (P Q : Option Addr) (m c q f : Nat) (ps es : List Int) (w : World) (hP : Row w P m (ps.map Iv)) (hQ : Row w Q q (es.map Iv)) (hm : m ≤ 1000) (hq : q ≤ 1000) :
    Calls Tryz.prog 28 #[descV z P m c e Q q f, .int .i64 n] w (GivesForm w (formC z ps e es n) (shapeV z P m c e Q q f n)) := by
  have hb1 := below_le (below_box w (descO z P m c e Q q f)) (below_box _ (shapeO 0 none 0 0 0 none 0 0 0))
  have h2 : Blk ((w.alloc (descO z P m c e Q q f)).alloc (shapeO 0 none 0 0 0 none 0 0 0)) w.heap.size 24 #[.int .i64 z, .slice P m c, .int .i64 e, .slice Q q f] := Blk.alloc (Blk.new _ _ _) _
  have h4 : Blk ((w.alloc (descO z P m c e Q q f)).alloc (shapeO 0 none 0 0 0 none 0 0 0)) (w.heap.size + 1) 53 #[.int .i64 0, .slice none 0 0, .int .i64 0, .slice none 0 0, .int .i64 0] := heap_new (by simp) _
  have hcall := dright_any z e P Q m c q f ps es _ (hP.ext hb1) (hQ.ext hb1) hm hq
  have HB := Lib.hid hb1
  have H2 := Lib.hid h2
  have H4 := Lib.hid h4
  have HC := Lib.hid hcall
  have a0 := h2.at_ (i := 0) rfl
  have a1 := h2.at_ (i := 1) rfl
  have a2 := h2.at_ (i := 2) rfl
  have a3 := h2.at_ (i := 3) rfl
  clear hP hQ hb1 h2 h4 hcall
  have hF : formC z ps e es n = if dRight z ps e es then (if lenB z e n then 0 else 41) else 40 := rfl
  generalize hno : formC z ps e es n = no at *
  have HF := Lib.hid hF
  clear hF hno
  go_enter Tryz.func28, Tryz.ntmps28
  go_wp2_with fail
  generalize (w.alloc (descO z P m c e Q q f)).alloc (shapeO 0 none 0 0 0 none 0 0 0) = W0 at *
  refine HC.out.mono ?_
  rintro x w1 ⟨rfl, hb1⟩
  replace a0 := cell_ext hb1 a0
  replace a1 := cell_ext hb1 a1
  replace a2 := cell_ext hb1 a2
  replace a3 := cell_ext hb1 a3
  have HZ := Lib.hid H4.out.lt
  replace H4 := Lib.hid (H4.out.ext hb1)
  replace HB := Lib.hid (below_le HB.out hb1)
  clear hb1 HC H2
  cases hd : dRight z ps e es
  · have hno : no = 40 := by rw [HF.out, hd]; rfl
    have HNO := Lib.hid hno
    clear hno hd
    go_wp2_with fail
    refine (refuse_desc _ 40 (by decide) _).mono ?_
    rintro x w2 ⟨v, rfl, hv, hb2⟩
    have h4 := H4.out.ext hb2
    have c0 := h4.at_ (i := 0) rfl
    have c1 := h4.at_ (i := 1) rfl
    have c2 := h4.at_ (i := 2) rfl
    have c3 := h4.at_ (i := 3) rfl
    have c4 := h4.at_ (i := 4) rfl
    have f0 := h4.frozen 0
    have f1 := h4.frozen 1
    have f2 := h4.frozen 2
    have f3 := h4.frozen 3
    have f4 := h4.frozen 4
    have HV := Lib.hid hv
    have HB2 := Lib.hid (below_le HB.out hb2)
    have h5 := h4.set5 (.int .i64 0) (.slice none 0 0) (.int .i64 0) (.slice none 0 0) (.int .i64 0)
    have HQ5 := Lib.hid h5
    have H5 := Lib.hid h4
    clear h4 h5 hv hb2
    go_wp2
    have q0 := HQ5.out.at_ (i := 0) rfl
    have q1 := HQ5.out.at_ (i := 1) rfl
    have q2 := HQ5.out.at_ (i := 2) rfl
    have q3 := HQ5.out.at_ (i := 3) rfl
    have q4 := HQ5.out.at_ (i := 4) rfl
    refine bodyPost_ret (v := .tuple #[shapeV 0 none 0 0 0 none 0 0 0, v]) (by simp [results, Tryz.results28, go_sem, q0, q1, q2, q3, q4]) rfl ⟨_, _, rfl, ?_, ?_, fun _ => rfl, below_set5 HB2.out (by omega) _ _ _ _ _⟩
    · have hE := HV.out.far H5.out (fun b hb => heap_set5 _ hb (.int .i64 0) (.slice none 0 0) (.int .i64 0) (.slice none 0 0) (.int .i64 0))
      rwa [HNO.out]
    · intro h
      rw [HNO.out] at h
      omega
  · obtain ⟨hz, he, -, -⟩ := right_of hd
    have hF2 : no = if lenB z e n then 0 else 41 := by rw [HF.out, hd]; rfl
    have HF2 := Lib.hid hF2
    have hlm : lenMost z e = if 0 < e then (131064 - z).tdiv e else 0 := rfl
    have hlb : lenB z e n = (decide (0 ≤ n) && decide (n ≤ lenMost z e)) := rfl
    have HLB := Lib.hid hlb
    obtain ⟨hz1, hz2, -⟩ := hz
    obtain ⟨he1, he2, -⟩ := he
    clear hF2 hd HF hlb
    by_cases h0 : 0 < e
    · rw [if_pos h0] at hlm
      generalize lenMost z e = M at *
      have hm2 : (131064 - z) / e = M := by rw [hlm, Int.tdiv_eq_ediv_of_nonneg (by omega)]
      have hM0 : 0 ≤ M := by rw [← hm2]; exact Int.ediv_nonneg (by omega) (by omega)
      have hM1 : M ≤ 131064 := by
        have h := Int.ediv_le_self e (show 0 ≤ 131064 - z by omega)
        omega
      replace hlm := hlm.symm
      by_cases h1 : 0 ≤ n
      · have h1' : ¬ n < 0 := by omega
        by_cases h2 : n ≤ M
        · have hno : no = 0 := by rw [HF2.out, HLB.out, decide_eq_true h1, decide_eq_true h2]; rfl
          have h2' : ¬ M < n := by omega
          have HNO := Lib.hid hno
          clear hno
          have h4 := H4.out
          have c0 := h4.at_ (i := 0) rfl
          have c1 := h4.at_ (i := 1) rfl
          have c2 := h4.at_ (i := 2) rfl
          have c3 := h4.at_ (i := 3) rfl
          have c4 := h4.at_ (i := 4) rfl
          have f0 := h4.frozen 0
          have f1 := h4.frozen 1
          have f2 := h4.frozen 2
          have f3 := h4.frozen 3
          have f4 := h4.frozen 4
          have h5 := h4.set5 (.int .i64 z) (.slice P m c) (.int .i64 e) (.slice Q q f) (.int .i64 n)
          have HQ5 := Lib.hid h5
          clear h4 h5
          go_wp2
          have q0 := HQ5.out.at_ (i := 0) rfl
          have q1 := HQ5.out.at_ (i := 1) rfl
          have q2 := HQ5.out.at_ (i := 2) rfl
          have q3 := HQ5.out.at_ (i := 3) rfl
          have q4 := HQ5.out.at_ (i := 4) rfl
          exact bodyPost_ret (v := .tuple #[shapeV z P m c e Q q f n, .nilIface]) (by simp [results, Tryz.results28, go_sem, q0, q1, q2, q3, q4]) rfl ⟨_, _, rfl, .inl ⟨HNO.out, rfl⟩, fun _ => rfl, fun h => absurd HNO.out h, below_set5 HB.out (by omega) _ _ _ _ _⟩
        · have hno : no = 41 := by rw [HF2.out, HLB.out, decide_eq_false h2]; simp
          have h2' : M < n := by omega
          have HNO := Lib.hid hno
          clear hno
          go_wp2_with fail
          refine (refuse_desc _ 41 (by decide) _).mono ?_
          rintro x w2 ⟨v, rfl, hv, hb2⟩
          have h4 := H4.out.ext hb2
          have c0 := h4.at_ (i := 0) rfl
          have c1 := h4.at_ (i := 1) rfl
          have c2 := h4.at_ (i := 2) rfl
          have c3 := h4.at_ (i := 3) rfl
          have c4 := h4.at_ (i := 4) rfl
          have f0 := h4.frozen 0
          have f1 := h4.frozen 1
          have f2 := h4.frozen 2
          have f3 := h4.frozen 3
          have f4 := h4.frozen 4
          have HV := Lib.hid hv
          have HB2 := Lib.hid (below_le HB.out hb2)
          have h5 := h4.set5 (.int .i64 0) (.slice none 0 0) (.int .i64 0) (.slice none 0 0) (.int .i64 0)
          have HQ5 := Lib.hid h5
          have H5 := Lib.hid h4
          clear h4 h5 hv hb2
          go_wp2
          have q0 := HQ5.out.at_ (i := 0) rfl
          have q1 := HQ5.out.at_ (i := 1) rfl
          have q2 := HQ5.out.at_ (i := 2) rfl
          have q3 := HQ5.out.at_ (i := 3) rfl
          have q4 := HQ5.out.at_ (i := 4) rfl
          refine bodyPost_ret (v := .tuple #[shapeV 0 none 0 0 0 none 0 0 0, v]) (by simp [results, Tryz.results28, go_sem, q0, q1, q2, q3, q4]) rfl ⟨_, _, rfl, ?_, ?_, fun _ => rfl, below_set5 HB2.out (by omega) _ _ _ _ _⟩
          · have hE := HV.out.far H5.out (fun b hb => heap_set5 _ hb (.int .i64 0) (.slice none 0 0) (.int .i64 0) (.slice none 0 0) (.int .i64 0))
            rwa [HNO.out]
          · intro h
            rw [HNO.out] at h
            omega
      · have hno : no = 41 := by rw [HF2.out, HLB.out, decide_eq_false h1]; rfl
        have h1' : n < 0 := by omega
        have HNO := Lib.hid hno
        clear hno
        go_wp2_with fail
        refine (refuse_desc _ 41 (by decide) _).mono ?_
        rintro x w2 ⟨v, rfl, hv, hb2⟩
        have h4 := H4.out.ext hb2
        have c0 := h4.at_ (i := 0) rfl
        have c1 := h4.at_ (i := 1) rfl
        have c2 := h4.at_ (i := 2) rfl
        have c3 := h4.at_ (i := 3) rfl
        have c4 := h4.at_ (i := 4) rfl
        have f0 := h4.frozen 0
        have f1 := h4.frozen 1
        have f2 := h4.frozen 2
        have f3 := h4.frozen 3
        have f4 := h4.frozen 4
        have HV := Lib.hid hv
        have HB2 := Lib.hid (below_le HB.out hb2)
        have h5 := h4.set5 (.int .i64 0) (.slice none 0 0) (.int .i64 0) (.slice none 0 0) (.int .i64 0)
        have HQ5 := Lib.hid h5
        have H5 := Lib.hid h4
        clear h4 h5 hv hb2
        go_wp2
        have q0 := HQ5.out.at_ (i := 0) rfl
        have q1 := HQ5.out.at_ (i := 1) rfl
        have q2 := HQ5.out.at_ (i := 2) rfl
        have q3 := HQ5.out.at_ (i := 3) rfl
        have q4 := HQ5.out.at_ (i := 4) rfl
        refine bodyPost_ret (v := .tuple #[shapeV 0 none 0 0 0 none 0 0 0, v]) (by simp [results, Tryz.results28, go_sem, q0, q1, q2, q3, q4]) rfl ⟨_, _, rfl, ?_, ?_, fun _ => rfl, below_set5 HB2.out (by omega) _ _ _ _ _⟩
        · have hE := HV.out.far H5.out (fun b hb => heap_set5 _ hb (.int .i64 0) (.slice none 0 0) (.int .i64 0) (.slice none 0 0) (.int .i64 0))
          rwa [HNO.out]
        · intro h
          rw [HNO.out] at h
          omega
    · rw [if_neg h0] at hlm
      have he3 : e ≤ 0 := by omega
      generalize lenMost z e = M at *
      subst hlm
      by_cases h1 : 0 ≤ n
      · have h1' : ¬ n < 0 := by omega
        by_cases h2 : n ≤ 0
        · have hno : no = 0 := by rw [HF2.out, HLB.out, decide_eq_true h1, decide_eq_true h2]; rfl
          have h2' : ¬ 0 < n := by omega
          have HNO := Lib.hid hno
          clear hno
          have h4 := H4.out
          have c0 := h4.at_ (i := 0) rfl
          have c1 := h4.at_ (i := 1) rfl
          have c2 := h4.at_ (i := 2) rfl
          have c3 := h4.at_ (i := 3) rfl
          have c4 := h4.at_ (i := 4) rfl
          have f0 := h4.frozen 0
          have f1 := h4.frozen 1
          have f2 := h4.frozen 2
          have f3 := h4.frozen 3
          have f4 := h4.frozen 4
          have h5 := h4.set5 (.int .i64 z) (.slice P m c) (.int .i64 e) (.slice Q q f) (.int .i64 n)
          have HQ5 := Lib.hid h5
          clear h4 h5
          go_wp2
          have q0 := HQ5.out.at_ (i := 0) rfl
          have q1 := HQ5.out.at_ (i := 1) rfl
          have q2 := HQ5.out.at_ (i := 2) rfl
          have q3 := HQ5.out.at_ (i := 3) rfl
          have q4 := HQ5.out.at_ (i := 4) rfl
          exact bodyPost_ret (v := .tuple #[shapeV z P m c e Q q f n, .nilIface]) (by simp [results, Tryz.results28, go_sem, q0, q1, q2, q3, q4]) rfl ⟨_, _, rfl, .inl ⟨HNO.out, rfl⟩, fun _ => rfl, fun h => absurd HNO.out h, below_set5 HB.out (by omega) _ _ _ _ _⟩
        · have hno : no = 41 := by rw [HF2.out, HLB.out, decide_eq_false h2]; simp
          have h2' : 0 < n := by omega
          have HNO := Lib.hid hno
          clear hno
          go_wp2_with fail
          refine (refuse_desc _ 41 (by decide) _).mono ?_
          rintro x w2 ⟨v, rfl, hv, hb2⟩
          have h4 := H4.out.ext hb2
          have c0 := h4.at_ (i := 0) rfl
          have c1 := h4.at_ (i := 1) rfl
          have c2 := h4.at_ (i := 2) rfl
          have c3 := h4.at_ (i := 3) rfl
          have c4 := h4.at_ (i := 4) rfl
          have f0 := h4.frozen 0
          have f1 := h4.frozen 1
          have f2 := h4.frozen 2
          have f3 := h4.frozen 3
          have f4 := h4.frozen 4
          have HV := Lib.hid hv
          have HB2 := Lib.hid (below_le HB.out hb2)
          have h5 := h4.set5 (.int .i64 0) (.slice none 0 0) (.int .i64 0) (.slice none 0 0) (.int .i64 0)
          have HQ5 := Lib.hid h5
          have H5 := Lib.hid h4
          clear h4 h5 hv hb2
          go_wp2
          have q0 := HQ5.out.at_ (i := 0) rfl
          have q1 := HQ5.out.at_ (i := 1) rfl
          have q2 := HQ5.out.at_ (i := 2) rfl
          have q3 := HQ5.out.at_ (i := 3) rfl
          have q4 := HQ5.out.at_ (i := 4) rfl
          refine bodyPost_ret (v := .tuple #[shapeV 0 none 0 0 0 none 0 0 0, v]) (by simp [results, Tryz.results28, go_sem, q0, q1, q2, q3, q4]) rfl ⟨_, _, rfl, ?_, ?_, fun _ => rfl, below_set5 HB2.out (by omega) _ _ _ _ _⟩
          · have hE := HV.out.far H5.out (fun b hb => heap_set5 _ hb (.int .i64 0) (.slice none 0 0) (.int .i64 0) (.slice none 0 0) (.int .i64 0))
            rwa [HNO.out]
          · intro h
            rw [HNO.out] at h
            omega
      · have hno : no = 41 := by rw [HF2.out, HLB.out, decide_eq_false h1]; rfl
        have h1' : n < 0 := by omega
        have HNO := Lib.hid hno
        clear hno
        go_wp2_with fail
        refine (refuse_desc _ 41 (by decide) _).mono ?_
        rintro x w2 ⟨v, rfl, hv, hb2⟩
        have h4 := H4.out.ext hb2
        have c0 := h4.at_ (i := 0) rfl
        have c1 := h4.at_ (i := 1) rfl
        have c2 := h4.at_ (i := 2) rfl
        have c3 := h4.at_ (i := 3) rfl
        have c4 := h4.at_ (i := 4) rfl
        have f0 := h4.frozen 0
        have f1 := h4.frozen 1
        have f2 := h4.frozen 2
        have f3 := h4.frozen 3
        have f4 := h4.frozen 4
        have HV := Lib.hid hv
        have HB2 := Lib.hid (below_le HB.out hb2)
        have h5 := h4.set5 (.int .i64 0) (.slice none 0 0) (.int .i64 0) (.slice none 0 0) (.int .i64 0)
        have HQ5 := Lib.hid h5
        have H5 := Lib.hid h4
        clear h4 h5 hv hb2
        go_wp2
        have q0 := HQ5.out.at_ (i := 0) rfl
        have q1 := HQ5.out.at_ (i := 1) rfl
        have q2 := HQ5.out.at_ (i := 2) rfl
        have q3 := HQ5.out.at_ (i := 3) rfl
        have q4 := HQ5.out.at_ (i := 4) rfl
        refine bodyPost_ret (v := .tuple #[shapeV 0 none 0 0 0 none 0 0 0, v]) (by simp [results, Tryz.results28, go_sem, q0, q1, q2, q3, q4]) rfl ⟨_, _, rfl, ?_, ?_, fun _ => rfl, below_set5 HB2.out (by omega) _ _ _ _ _⟩
        · have hE := HV.out.far H5.out (fun b hb => heap_set5 _ hb (.int .i64 0) (.slice none 0 0) (.int .i64 0) (.slice none 0 0) (.int .i64 0))
          rwa [HNO.out]
        · intro h
          rw [HNO.out] at h
          omega

end Go.Proofs.YtepnamlcofmccaaGreatDoor
