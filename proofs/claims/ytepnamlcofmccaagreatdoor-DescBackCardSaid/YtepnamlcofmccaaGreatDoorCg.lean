/-
  What is proved: contracts of Bytes and Kind of package desc. No condition beyond those stated.
-/
import Derived.Test.YtepnamlcofmccaaGreatDoorCf
import Derived.Test.YtepnamlcofmccaaGreatDoorCa
namespace Go.Proofs.YtepnamlcofmccaaGreatDoor
open Go.RowKit Go.Stop

theorem form_zero {z e n : Int} {ps es : List Int} (h : formC z ps e es n = 0) : (0 ≤ z ∧ z ≤ 1024) ∧ (0 ≤ e ∧ e ≤ 256) ∧ (0 ≤ n ∧ n ≤ 131072) ∧ (0 ≤ n * e ∧ n * e ≤ 131072) ∧ 8 + z + n * e ≤ 131072 := by
  unfold formC at h
  split at h
  · rename_i hd
    split at h
    · rename_i hl
      obtain ⟨hz, he, -, -⟩ := right_of hd
      have := len_most ⟨hz.1, hz.2.1⟩ he.1 hl
      omega
    · omega
  · omega
theorem form_le {z e n : Int} {ps es : List Int} : formC z ps e es n ≤ 41 := by
  unfold formC
  split
  · split <;> omega
  · omega

theorem ret_two {a b c d : Int} (h : a = c) (k : b = d) : Ending.returned (.tuple #[.int .i64 a, .int .i64 b]) = .returned (.tuple #[.int .i64 c, .int .i64 d]) := by rw [h, k]

/-- errors' own variable holds the handle of the type error; the sentinel of sizes is an error. -/
def EType (w : World) : Prop := w.cell? ⟨1, 0, none⟩ = some (rty 45)
theorem EType.ext {w w' : World} (h : EType w) (hb : Below w.heap.size w w') : EType w' := cell_ext hb h
def SSize (w : World) : Prop := ∃ t x, w.cell? ⟨0, 0, none⟩ = some (.iface t x)
theorem SSize.ext {w w' : World} (h : SSize w) (hb : Below w.heap.size w w') : SSize w' := by
  obtain ⟨t, x, h⟩ := h
  exact ⟨t, x, cell_ext hb h⟩

set_option maxHeartbeats 4000000 in
theorem bytes_any (z e n : Int) (P Q : Option Addr) (m c q f : Nat) (ps es : List Int) (w : World) (hE : EType w) (hS : SSize w) (hP : Row w P m (ps.map Iv)) (hQ : Row w Q q (es.map Iv)) (hm : m ≤ 1000) (hq : q ≤ 1000) :
    Calls Tryz.prog 15 #[descV z P m c e Q q f, .int .i64 n] w fun x w' => x = .returned (.tuple #[.int .i64 (bytesR z ps e es n), .int .i64 (formC z ps e es n : Nat)]) ∧ Below w.heap.size w w' := by
  have hb1 := below_box w (descO z P m c e Q q f)
  have hcall := form_any z e n P Q m c q f ps es _ (hP.ext hb1) (hQ.ext hb1) hm hq
  have hfz := form_zero (z := z) (e := e) (n := n) (ps := ps) (es := es)
  have hbz : bytesR z ps e es n = if formC z ps e es n = 0 then (8 + (z + n * e) + 7).tdiv 8 * 8 else 0 := by unfold bytesR bytesOf; rw [Int.add_assoc 8 z]
  generalize bytesR z ps e es n = by_ at *
  generalize formC z ps e es n = no at *
  have HC := Lib.hid hcall
  have HFZ := Lib.hid hfz
  have HBZ := Lib.hid hbz
  have HB := Lib.hid hb1
  have HE := Lib.hid hE
  have HS := Lib.hid hS
  clear hcall hfz hbz hb1 hP hQ hE hS
  go_enter Tryz.func15, Tryz.ntmps15
  go_wp2_with fail
  generalize w.alloc (descO z P m c e Q q f) = W0 at *
  refine HC.out.mono ?_
  rintro x w1 ⟨s, v, rfl, hv, hs0, hs1, hb1⟩
  by_cases h0 : no = 0
  · obtain rfl := hs0 h0
    obtain rfl : v = .nilIface := by
      rcases hv with h | h
      · exact h.2
      · exact absurd h0 h.1
    obtain ⟨hz, he, hn, hne, hle⟩ := HFZ.out h0
    have hx := below_box w1 (shapeO z P m c e Q q f n)
    have hbw := below_le (below_le HB.out hb1) hx
    have hcall := end_any z e n P Q m c q f (w1.alloc (shapeO z P m c e Q q f n)) hz he hn hne
    have hBZ := HBZ.out
    rw [if_pos h0] at hBZ
    have hen0 : 0 ≤ z + n * e := by omega
    have hen1 : 8 + (z + n * e) ≤ 131072 := by omega
    generalize z + n * e = en at *
    have HN := Lib.hid h0
    have HBW := Lib.hid hbw
    have HC2 := Lib.hid hcall
    have HBR := Lib.hid hBZ
    clear hs0 hs1 hv h0 hx hbw hcall hb1 hBZ HC HFZ HBZ hz he hn hne hle
    go_wp2_with fail
    generalize w1.alloc (shapeO z P m c e Q q f n) = W1 at *
    refine HC2.out.mono ?_
    rintro x w2 ⟨rfl, hb2⟩
    have hbw2 := below_le HBW.out hb2
    obtain ⟨t, y, hs⟩ := HS.out.ext hbw2
    have hcall := round_ok (8 + en) (by omega) (by omega) t y w2 hs
    rw [← HBR.out] at hcall
    have HC3 := Lib.hid hcall
    have HBW2 := Lib.hid hbw2
    clear hbw2 hs hcall hb2 HC2
    go_wp2_with fail
    refine HC3.out.mono ?_
    rintro x w3 ⟨rfl, hb3⟩
    have HBW3 := Lib.hid (below_le HBW2.out hb3)
    clear hb3 HC3
    go_wp2
    go_ret2
    exact ⟨ret_two rfl (by rw [HN.out]; rfl), HBW3.out⟩
  · obtain rfl := hs1 h0
    obtain ⟨t, u, rfl⟩ : ∃ t u : Nat, v = .iface 95 (.pointer (some ⟨t, 0, none⟩)) := by
      rcases hv with h | ⟨_, t, u, h, _⟩
      · exact absurd h.1 h0
      · exact ⟨t, 0, h⟩
    have hx := below_box w1 (shapeO 0 none 0 0 0 none 0 0 0)
    have hbw := below_le (below_le HB.out hb1) hx
    have hcall := number_desc no _ _ (hv.ext hx) (HE.out.ext hbw)
    have hBZ := HBZ.out
    rw [if_neg h0] at hBZ
    have HBZ2 := Lib.hid hBZ
    have HC2 := Lib.hid hcall
    have HBW := Lib.hid hbw
    clear hs0 hs1 hv hx hbw hcall hb1 hBZ h0 HC HFZ HBZ
    go_wp2_with fail
    generalize w1.alloc (shapeO 0 none 0 0 0 none 0 0 0) = W1 at *
    refine HC2.out.mono ?_
    rintro x w2 ⟨rfl, hb2⟩
    have HBW3 := Lib.hid (below_le HBW.out hb2)
    clear hb2 HC2
    go_wp2
    go_ret2
    exact ⟨ret_two HBZ2.out.symm rfl, HBW3.out⟩

def kindR (z : Int) (ps : List Int) (e : Int) (es : List Int) (n a : Int) : Int := if formC z ps e es n = 0 then kindAt z ps e es n a else 0

set_option maxHeartbeats 4000000 in
theorem kind_any (z e n a : Int) (P Q : Option Addr) (m c q f : Nat) (ps es : List Int) (w : World) (hE : EType w) (hP : Row w P m (ps.map Iv)) (hQ : Row w Q q (es.map Iv)) (hm : m ≤ 1000) (hq : q ≤ 1000) :
    Calls Tryz.prog 17 #[descV z P m c e Q q f, .int .i64 n, .int .i64 a] w fun x w' => x = .returned (.tuple #[.int .i64 (kindR z ps e es n a), .int .i64 (formC z ps e es n : Nat)]) ∧ Below w.heap.size w w' := by
  have hb1 := below_box w (descO z P m c e Q q f)
  have hcall := form_any z e n P Q m c q f ps es _ (hP.ext hb1) (hQ.ext hb1) hm hq
  have hfz := form_zero (z := z) (e := e) (n := n) (ps := ps) (es := es)
  have hbz : kindR z ps e es n a = if formC z ps e es n = 0 then kindAt z ps e es n a else 0 := rfl
  have htell := fun g h W H1 H2 => tell_any z e n a P Q m c q f ps es g h W H1 H2 hm hq
  generalize kindR z ps e es n a = by_ at *
  generalize formC z ps e es n = no at *
  generalize kindAt z ps e es n a = ka at *
  have HC := Lib.hid hcall
  have HFZ := Lib.hid hfz
  have HBZ := Lib.hid hbz
  have HB := Lib.hid hb1
  have HE := Lib.hid hE
  have HT := Lib.hid htell
  have HP := Lib.hid hP
  have HQ := Lib.hid hQ
  clear hcall hfz hbz hb1 hP hQ hE htell
  go_enter Tryz.func17, Tryz.ntmps17
  go_wp2_with fail
  generalize w.alloc (descO z P m c e Q q f) = W0 at *
  refine HC.out.mono ?_
  rintro x w1 ⟨s, v, rfl, hv, hs0, hs1, hb1⟩
  by_cases h0 : no = 0
  · obtain rfl := hs0 h0
    obtain rfl : v = .nilIface := by
      rcases hv with h | h
      · exact h.2
      · exact absurd h0 h.1
    obtain ⟨hz, he, hn, hne, -⟩ := HFZ.out h0
    have hx := below_box w1 (shapeO z P m c e Q q f n)
    have hbw := below_le (below_le HB.out hb1) hx
    have hcall := teller_any z e n P Q m c q f (w1.alloc (shapeO z P m c e Q q f n)) hz he hn hne
    have hBZ := HBZ.out
    rw [if_pos h0] at hBZ
    have HN := Lib.hid h0
    have HBW := Lib.hid hbw
    have HC2 := Lib.hid hcall
    have HBR := Lib.hid hBZ
    have HT2 := Lib.hid fun g h W H1 H2 H3 H4 => HT.out g h W H1 H2 H3 H4 hz he hne
    clear hs0 hs1 hv h0 hx hbw hcall hb1 hBZ HC HFZ HBZ hz he hn hne HT
    generalize z + n * e = en at *
    go_wp2_with fail
    generalize w1.alloc (shapeO z P m c e Q q f n) = W1 at *
    refine HC2.out.mono ?_
    rintro x w2 ⟨g, h, rfl, hg, hh, hb2⟩
    have hbw2 := below_le HBW.out hb2
    have hcall := HT2.out g h w2 (HP.out.ext hbw2) (HQ.out.ext hbw2) hg hh
    have HC3 := Lib.hid hcall
    have HBW2 := Lib.hid hbw2
    clear hbw2 hcall hb2 HC2 hg hh HT2
    go_wp2_with fail
    refine HC3.out.mono ?_
    rintro x w3 ⟨rfl, hb3⟩
    have HBW3 := Lib.hid (below_le HBW2.out hb3)
    clear hb3 HC3
    go_wp2
    go_ret2
    exact ⟨ret_two HBR.out.symm (by rw [HN.out]; rfl), HBW3.out⟩
  · obtain rfl := hs1 h0
    obtain ⟨t, u, rfl⟩ : ∃ t u : Nat, v = .iface 95 (.pointer (some ⟨t, 0, none⟩)) := by
      rcases hv with h | ⟨_, t, u, h, _⟩
      · exact absurd h.1 h0
      · exact ⟨t, 0, h⟩
    have hx := below_box w1 (shapeO 0 none 0 0 0 none 0 0 0)
    have hbw := below_le (below_le HB.out hb1) hx
    have hcall := number_desc no _ _ (hv.ext hx) (HE.out.ext hbw)
    have hBZ := HBZ.out
    rw [if_neg h0] at hBZ
    have HBZ2 := Lib.hid hBZ
    have HC2 := Lib.hid hcall
    have HBW := Lib.hid hbw
    clear hs0 hs1 hv hx hbw hcall hb1 hBZ h0 HC HFZ HBZ HT
    go_wp2_with fail
    generalize w1.alloc (shapeO 0 none 0 0 0 none 0 0 0) = W1 at *
    refine HC2.out.mono ?_
    rintro x w2 ⟨rfl, hb2⟩
    have HBW3 := Lib.hid (below_le HBW.out hb2)
    clear hb2 HC2
    go_wp2
    go_ret2
    exact ⟨ret_two HBZ2.out.symm rfl, HBW3.out⟩

end Go.Proofs.YtepnamlcofmccaaGreatDoor
