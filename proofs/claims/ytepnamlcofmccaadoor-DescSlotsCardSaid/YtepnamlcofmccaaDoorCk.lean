/-
  What is proved: contracts of Bytes, kind and Kind of the reference of descriptors. No condition beyond those stated.
-/
import Derived.Test.YtepnamlcofmccaaDoorCj
import Derived.Test.YtepnamlcofmccaaDoorCg
namespace Go.Proofs.YtepnamlcofmccaaDoor
open Go.RowKit

theorem refC_of {z e n : Int} {ps es : List Int} (hd : dRight z ps e es = true) : formC z ps e es n = if n < 0 ∨ (0 < n ∧ e = 0) ∨ 131072 < n then 41 else if 131072 < bytesOf z e n then 41 else 0 := by
  rw [← ref_code]
  unfold refC
  rw [if_pos hd]
theorem form_bad {z e n : Int} {ps es : List Int} (hd : dRight z ps e es = false) : formC z ps e es n = 40 := by
  unfold formC
  rw [hd]
  rfl

/-- A number, and an error's number. -/
def GivesB (w : World) (a : Int) (no : Nat) (x : Ending) (w' : World) : Prop := x = .returned (.tuple #[.int .i64 a, .int .i64 no]) ∧ Below w.heap.size w w'
theorem GivesB.mk {w w' : World} {a : Int} {no : Nat} {c d : Int} (h : c = a) (k : d = no) (hb : Below w.heap.size w w') : GivesB w a no (.returned (.tuple #[.int .i64 c, .int .i64 d])) w' := ⟨ret_two h k, hb⟩

set_option maxHeartbeats 4000000 in
/-- The reference's Bytes. -/
theorem rbytes_any (z e n : Int) (P Q : Option Addr) (m c q f : Nat) (ps es : List Int) (w : World) (hP : Row w P m (ps.map Iv)) (hQ : Row w Q q (es.map Iv)) (hm : m ≤ 1000) (hq : q ≤ 1000) :
    Calls Tryd.prog 11 #[descV z P m c e Q q f, .int .i64 n] w (GivesB w (bytesR z ps e es n) (formC z ps e es n)) := by
  have hb1 := below_box w (descO z P m c e Q q f)
  obtain ⟨a0, a1, a2, a3⟩ : (w.alloc (descO z P m c e Q q f)).cell? ⟨w.heap.size, 0, none⟩ = some (.int .i64 z) ∧ (w.alloc (descO z P m c e Q q f)).cell? ⟨w.heap.size, 1, none⟩ = some (.slice P m c) ∧ (w.alloc (descO z P m c e Q q f)).cell? ⟨w.heap.size, 2, none⟩ = some (.int .i64 e) ∧ (w.alloc (descO z P m c e Q q f)).cell? ⟨w.heap.size, 3, none⟩ = some (.slice Q q f) := by simp [go_sem]
  have hcall := rright_any z e P Q m c q f ps es _ (hP.ext hb1) (hQ.ext hb1) hm hq
  have hF1 := refC_of (z := z) (e := e) (n := n) (ps := ps) (es := es)
  have hF2 := form_bad (z := z) (e := e) (n := n) (ps := ps) (es := es)
  have hB : bytesR z ps e es n = if formC z ps e es n = 0 then bytesOf z e n else 0 := rfl
  have hR := fun h => right_of (z := z) (e := e) (ps := ps) (es := es) h
  generalize formC z ps e es n = no at *
  generalize bytesR z ps e es n = by_ at *
  have HC := Lib.hid hcall
  have HF1 := Lib.hid hF1
  have HF2 := Lib.hid hF2
  have HBY := Lib.hid hB
  have HRT := Lib.hid hR
  have HB := Lib.hid hb1
  clear hcall hF1 hF2 hB hR hb1 hP hQ
  go_enter Tryd.func11, Tryd.ntmps11
  go_wp2_with fail
  generalize w.alloc (descO z P m c e Q q f) = W0 at *
  refine HC.out.mono ?_
  rintro x w1 ⟨rfl, hb1⟩
  replace a0 := cell_ext hb1 a0
  replace a2 := cell_ext hb1 a2
  replace HB := Lib.hid (below_le HB.out hb1)
  clear hb1 a1 a3 HC
  cases hd : dRight z ps e es
  · have hno := HF2.out hd
    have hby := HBY.out
    rw [hno] at hby
    have HNO := Lib.hid hno
    have HBY2 := Lib.hid (show 0 = by_ from by rw [hby]; rfl)
    clear hno hby hd
    go_wp2
    go_ret2
    exact GivesB.mk HBY2.out (by rw [HNO.out]; rfl) HB.out
  · obtain ⟨⟨hz1, hz2, -⟩, ⟨he1, he2, -⟩, -, -⟩ := HRT.out hd
    have hF := HF1.out hd
    by_cases hbad : n < 0 ∨ (0 < n ∧ e = 0) ∨ 131072 < n
    · rw [if_pos hbad] at hF
      have hby := HBY.out
      rw [hF] at hby
      have HNO := Lib.hid hF
      have HBY2 := Lib.hid (show 0 = by_ from by rw [hby]; rfl)
      clear hF hby hd HF1 HF2 HBY HRT
      by_cases h1 : n < 0
      · clear hbad
        go_wp2
        go_ret2
        exact GivesB.mk HBY2.out (by rw [HNO.out]; rfl) HB.out
      · by_cases h2 : 0 < n
        · by_cases h3 : e = 0
          · have h3' : (e == 0) = true := by rw [h3]; rfl
            clear hbad h3
            go_wp2
            go_ret2
            exact GivesB.mk HBY2.out (by rw [HNO.out]; rfl) HB.out
          · have h3' : (e == 0) = false := beq_eq_false_iff_ne.2 h3
            have h4 : 131072 < n := by omega
            clear hbad h3
            go_wp2
            go_ret2
            exact GivesB.mk HBY2.out (by rw [HNO.out]; rfl) HB.out
        · omega
    · rw [if_neg hbad] at hF
      have h1 : 0 ≤ n := by omega
      have h2 : n ≤ 131072 := by omega
      have h3 : ¬ (0 < n ∧ e = 0) := by omega
      have hm1 := Int.mul_nonneg h1 he1
      have hm2 := Int.mul_le_mul h2 he2 he1 (by omega)
      have hbo : bytesOf z e n = (8 + z + n * e + 7) / 8 * 8 := by unfold bytesOf; rw [Int.tdiv_eq_ediv_of_nonneg (by omega)]
      obtain ⟨M, hM⟩ : ∃ M, n * e = M := ⟨_, rfl⟩
      rw [hM] at hm1 hm2 hbo
      have HFH := Lib.hid hF
      have HBO := Lib.hid hbo
      clear hF hbo hd HF1 HF2 HRT hbad
      have hlast : ∀ b : Int, b = bytesOf z e n → (131072 < b → no = 41 ∧ by_ = 0) ∧ (¬ 131072 < b → no = 0 ∧ by_ = b) := fun b hb => by
        rw [hb]
        have hF := HFH.out
        have hby := HBY.out
        constructor
        · intro h; rw [if_pos h] at hF; rw [hF] at hby; exact ⟨hF, hby⟩
        · intro h; rw [if_neg h] at hF; rw [hF] at hby; exact ⟨hF, hby⟩
      have hl2 := hlast _ HBO.out.symm
      have HLA := Lib.hid hl2
      clear hlast hl2 HFH HBY HBO
      have hbb : (8 + z + M + 7) / 8 * 8 ≤ 40000000 := by omega
      have hb0 : 0 ≤ (8 + z + M + 7) / 8 * 8 := by omega
      by_cases h5 : 131072 < (8 + z + M + 7) / 8 * 8
      case' pos =>
        obtain ⟨hn1, hn2⟩ := HLA.out.1 h5
      case' neg =>
        obtain ⟨hn1, hn2⟩ := HLA.out.2 h5
      all_goals
        have HN1 := Lib.hid hn1
        have HN2 := Lib.hid hn2
        clear hn1 hn2 HLA
        by_cases h6 : 0 < n
        · have h7 : (e == 0) = false := beq_eq_false_iff_ne.2 (fun h => h3 ⟨h6, h⟩)
          clear h3
          go_wp2
          go_ret2
          exact GivesB.mk HN2.out.symm (by rw [HN1.out]; rfl) HB.out
        · clear h3
          go_wp2
          go_ret2
          exact GivesB.mk HN2.out.symm (by rw [HN1.out]; rfl) HB.out

end Go.Proofs.YtepnamlcofmccaaDoor
