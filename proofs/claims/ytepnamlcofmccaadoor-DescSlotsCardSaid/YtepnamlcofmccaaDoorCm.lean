/-
  What is proved: the contract of Slots of the reference of descriptors. No condition beyond those stated.
-/
import Derived.Test.YtepnamlcofmccaaDoorCl
import Derived.Test.YtepnamlcofmccaaDoorCi
namespace Go.Proofs.YtepnamlcofmccaaDoor
open Go.RowKit Go.Stop

/-- The places so far that are pointers. -/
def refSl (z : Int) (ps : List Int) (e : Int) (es : List Int) (n : Int) (k : Nat) : List Int := ((List.range k).filter fun i : Nat => kindAt z ps e es n (4 * (i : Int)) == 2).map fun i : Nat => 4 * (i : Int)
theorem refSl_succ (z : Int) (ps : List Int) (e : Int) (es : List Int) (n : Int) (k : Nat) : refSl z ps e es n (k + 1) = refSl z ps e es n k ++ if kindAt z ps e es n (4 * (k : Int)) == 2 then [4 * (k : Int)] else [] := by
  unfold refSl
  rw [List.range_succ, List.filter_append, List.map_append]
  congr 1
  cases h : (kindAt z ps e es n (4 * (k : Int)) == 2) <;> simp [h]
theorem refSl_le (z : Int) (ps : List Int) (e : Int) (es : List Int) (n : Int) (k : Nat) : (refSl z ps e es n k).length ≤ k := by
  unfold refSl
  rw [List.length_map]
  have := List.length_filter_le (fun i : Nat => kindAt z ps e es n (4 * (i : Int)) == 2) (List.range k)
  simpa using this
theorem refSl_mem {z : Int} {ps : List Int} {e : Int} {es : List Int} {n : Int} {k : Nat} {x : Int} (hk : z + n * e ≤ 4 * (k : Int)) : x ∈ refSl z ps e es n k ↔ kindAt z ps e es n x = 2 := by
  unfold refSl
  simp only [List.mem_map, List.mem_filter, List.mem_range, beq_iff_eq]
  constructor
  · rintro ⟨i, ⟨_, h⟩, rfl⟩; exact h
  · intro h
    have h2 := h
    unfold kindAt at h2
    split at h2
    · omega
    · rename_i hc
      have hx0 : 0 ≤ x := by omega
      have hm : x % 4 = 0 := by
        rw [← Int.tmod_eq_emod_of_nonneg hx0]
        apply Classical.byContradiction
        intro h9
        exact hc (.inr (.inr h9))
      refine ⟨(x / 4).toNat, ⟨by omega, ?_⟩, by omega⟩
      rw [show 4 * ((x / 4).toNat : Int) = x by omega]
      exact h
theorem refSl_all {z : Int} {ps : List Int} {e : Int} {es : List Int} {N k : Nat} (hd : dRight z ps e es = true) (hk : z + (N : Int) * e ≤ 4 * (k : Int)) : refSl z ps e es N k = slotsTo z ps e es N := by
  refine pair_ext ?_ (slots_pair hd N) fun x => ?_
  · unfold refSl
    rw [List.pairwise_map]
    exact (List.Pairwise.filter _ List.pairwise_lt_range).imp fun h => by omega
  · rw [refSl_mem hk, kind_two hd]

theorem form_right {z e n : Int} {ps es : List Int} (h : formC z ps e es n = 0) : dRight z ps e es = true := by
  cases hd : dRight z ps e es
  · rw [form_bad hd] at h; omega
  · rfl

set_option maxRecDepth 100000 in
set_option maxHeartbeats 4000000 in
/-- The reference's Slots. -/
theorem rslots_any (z e n : Int) (P Q : Option Addr) (m c q f : Nat) (ps es : List Int) (w : World) (hP : Row w P m (ps.map Iv)) (hQ : Row w Q q (es.map Iv)) (hm : m ≤ 1000) (hq : q ≤ 1000) :
    Calls Tryd.prog 17 #[descV z P m c e Q q f, .int .i64 n] w (GivesSl w (slotsR z ps e es n) (formC z ps e es n)) := by
  obtain ⟨i, hi, hi0, hi1, hi2⟩ := info_parts int_info
  have hb1 := below_box w (descO z P m c e Q q f)
  have hcall := rbytes_any z e n P Q m c q f ps es _ (hP.ext hb1) (hQ.ext hb1) hm hq
  have hfz := form_zero (z := z) (e := e) (n := n) (ps := ps) (es := es)
  have hfr := form_right (z := z) (e := e) (n := n) (ps := ps) (es := es)
  have hbz : slotsR z ps e es n = if formC z ps e es n = 0 then slotsTo z ps e es n.toNat else [] := rfl
  obtain ⟨a0, a1, a2, a3⟩ : (w.alloc (descO z P m c e Q q f)).cell? ⟨w.heap.size, 0, none⟩ = some (.int .i64 z) ∧ (w.alloc (descO z P m c e Q q f)).cell? ⟨w.heap.size, 1, none⟩ = some (.slice P m c) ∧ (w.alloc (descO z P m c e Q q f)).cell? ⟨w.heap.size, 2, none⟩ = some (.int .i64 e) ∧ (w.alloc (descO z P m c e Q q f)).cell? ⟨w.heap.size, 3, none⟩ = some (.slice Q q f) := by simp [go_sem]
  have hk := fun W a h1 h2 => rkind0_any z e n a P Q m c q f ps es W h1 h2 hm hq
  generalize slotsR z ps e es n = sl at *
  generalize bytesR z ps e es n = br at *
  generalize formC z ps e es n = no at *
  have HC := Lib.hid hcall
  have HFZ := Lib.hid hfz
  have HFR := Lib.hid hfr
  have HBZ := Lib.hid hbz
  have HB := Lib.hid hb1
  have HK := Lib.hid hk
  have HP := Lib.hid (hP.ext hb1)
  have HQ := Lib.hid (hQ.ext hb1)
  clear hcall hfz hbz hb1 hP hQ hk hfr
  go_enter Tryd.func17, Tryd.ntmps17
  go_wp2_with fail
  generalize w.alloc (descO z P m c e Q q f) = W0 at *
  refine HC.out.mono ?_
  rintro x w1 ⟨rfl, hb1⟩
  replace a0 := cell_ext hb1 a0
  replace a1 := cell_ext hb1 a1
  replace a2 := cell_ext hb1 a2
  replace a3 := cell_ext hb1 a3
  replace HP := Lib.hid (HP.out.ext hb1)
  replace HQ := Lib.hid (HQ.out.ext hb1)
  replace HB := Lib.hid (below_le HB.out hb1)
  clear hb1 HC
  by_cases h0 : no = 0
  · have h0' : ((no : Int) != 0) = false := by simp [h0]
    obtain ⟨hz, he, hn, hne, -⟩ := HFZ.out h0
    have hrt := HFR.out h0
    obtain ⟨N, rfl⟩ : ∃ N : Nat, n = N := ⟨n.toNat, by omega⟩
    have hBZ := HBZ.out
    rw [if_pos h0, Int.toNat_natCast] at hBZ
    have hk := fun W a h1 h2 => HK.out W a h1 h2 hz he hne
    have hall := fun k h => refSl_all (N := N) (k := k) hrt h
    obtain ⟨M, hM⟩ : ∃ M, (N : Int) * e = M := ⟨_, rfl⟩
    rw [hM] at hne hall
    obtain ⟨hz1, hz2'⟩ := hz
    obtain ⟨hne1, hne2⟩ := hne
    obtain ⟨he1, he2⟩ := he
    have hsu := refSl_succ z ps e es N
    have hle := refSl_le z ps e es N
    have hr0 : refSl z ps e es N 0 = [] := rfl
    have hkk : ∀ a W, Row W P m (ps.map Iv) → Row W Q q (es.map Iv) → ∃ b, b = kindAt z ps e es N a ∧ Calls Tryd.prog 33 #[descV z P m c e Q q f, .int .i64 N, .int .i64 a] W fun x w' => x = .returned (.int .i64 b) ∧ Below W.heap.size W w' := fun a W h1 h2 => ⟨_, rfl, hk W a h1 h2⟩
    have HN := Lib.hid h0
    have HZ := Lib.hid hBZ
    have HKK := Lib.hid hkk
    have HALL := Lib.hid hall
    have HSU := Lib.hid hsu
    have HLE := Lib.hid hle
    have HR0 := Lib.hid hr0
    clear h0 hn hBZ HK HFZ HBZ HFR hrt hk hall hsu hle hr0 hkk
    generalize slotsTo z ps e es N = L at *
    go_wp2
    go_loopw [8, 9] (fun s at_ wr => ∃ k : Nat, 4 * (k : Int) ≤ z + M + 4 ∧ at_ = .int .i64 (4 * (k : Int)) ∧ wr.ownsRow w1.heap.size 3 1 s (refSl z ps e es N k).length ((refSl z ps e es N k).map Iv) ∧ Below w1.heap.size w1 wr) (fun _ at_ _ => (z + M + 4 - intOf at_).toNat)
    case atStart => exact ⟨0, by omega, rfl, by rw [HR0.out]; exact ⟨rfl, .inl ⟨rfl, rfl⟩⟩, Below.refl _ _⟩
    case round =>
      obtain ⟨k, hk, rfl, hown, hb⟩ := hrel
      have b0 := cell_ext hb a0
      have b1 := cell_ext hb a1
      have b2 := cell_ext hb a2
      have b3 := cell_ext hb a3
      have HO := Lib.hid hown
      have Hb := Lib.hid hb
      have hle := HLE.out k
      have hsz := hb.size
      clear hown hb
      by_cases hlt : 4 * (k : Int) < z + M
      · obtain ⟨b, hbk, hcall⟩ := HKK.out (4 * (k : Int)) wr (HP.out.ext Hb.out) (HQ.out.ext Hb.out)
        have hsn := HSU.out k
        rw [← hbk] at hsn
        have HC := Lib.hid hcall
        clear hbk hcall
        have h4 : 0 ≤ 4 * (k : Int) := by omega
        go_wp2_with fail
        refine HC.out.mono ?_
        rintro x w2 ⟨rfl, hb2⟩
        by_cases hb : b = 2
        · have hd : (b == 2) = true := by rw [hb]; rfl
          rw [hd, if_pos rfl] at hsn
          have HT := Lib.hid hsn
          have hown2 := HO.out.kept (row := none) ⟨hb2.os, hb2.tape, hb2.output, hb2.size, fun i hi _ => hb2.block i hi⟩ (by cases u8.ownBlock <;> simp)
          have HO2 := Lib.hid hown2
          have HB2 := Lib.hid hb2
          have hsz2 := hb2.size
          clear hb hsn hb2 hown2 HC
          generalize refSl z ps e es N k = LL at *
          go_wp2_with (at_builtin; refine stop_here ?_)
          intro _
          refine (wpList_append_own_at _ rfl (.tmp 35) (.tmp 37) 22 rfl w1.heap.size 3 i (.int .i64 0) 1 8 Tryd.underlying22 hi hi0 hi1 hi2 rfl (by omega) u8 LL.length (LL.map Iv) rfl ?own ⟨w2.heap.size, 0, none⟩ 1 1 [.int .i64 (4 * (k : Int))] rfl rfl ?news ?one ?b1 ?b2 ?b3 ?_)
          case own => exact HO2.out.alloc _
          case news =>
            intro k u hu
            match k with
            | 0 => simp [Addr.add, go_sem] at hu ⊢; exact hu
            | k + 1 => simp at hu
          case one => intro u hu; rw [List.mem_singleton.1 hu]; rfl
          case b1 => unfold maxLen; omega
          case b2 => omega
          case b3 => simp; omega
          intro v' w3 hown hgr _ hat
          have hbk := below_box w2 (.cells #[.int .i64 (4 * (k : Int))] 3)
          have hb3 : Below w1.heap.size w1 w3 := ((below_le Hb.out HB2.out).trans (hbk.mono (by omega))).trans ((Below.refl _ _).grown hgr (by simp; omega) (fun b e => by
            obtain ⟨A', c', rfl, _, hfr⟩ := row_of_owns HO.out
            cases A' with
            | none => simp [Value.ownBlock] at e
            | some a => simp [Value.ownBlock] at e; rw [← e]; exact hfr _ rfl))
          have HOW := Lib.hid hown
          have HB3 := Lib.hid hb3
          clear hown hgr hat hb3 hbk
          go_wp2
          go_roundw
          case rel => exact ⟨k + 1, by omega, by go_num, by rw [HT.out]; simpa [Iv] using HOW.out, HB3.out⟩
          case measure => simp [intOf]; omega
        · have hd : (b == 2) = false := beq_eq_false_iff_ne.2 hb
          rw [hd] at hsn
          have HT := Lib.hid hsn
          have HB2 := Lib.hid hb2
          clear hb hsn hb2 HC
          go_wp2
          go_roundw
          case rel =>
            refine ⟨k + 1, by omega, by go_num, ?_, below_le Hb.out HB2.out⟩
            rw [HT.out]
            simp only [Bool.false_eq_true, if_false, List.append_nil]
            exact HO.out.kept (row := none) ⟨HB2.out.os, HB2.out.tape, HB2.out.output, HB2.out.size, fun i hi _ => HB2.out.block i hi⟩ (by cases u8.ownBlock <;> simp)
          case measure => simp [intOf]; omega
      · have hL := HALL.out k (by omega)
        obtain ⟨A', c', rfl, hrow, hfr⟩ := row_of_owns HO.out
        have HW := Lib.hid (show Row wr A' (refSl z ps e es N k).length (L.map Iv) by have h := hrow; rw [hL] at h ⊢; exact h)
        have HFr := Lib.hid hfr
        have hsz0 := HB.out.size
        clear hrow hfr hL
        generalize (refSl z ps e es N k).length = ll at *
        go_wp2
        go_ret2
        refine ⟨A', ll, c', by rw [HN.out]; rfl, ?_, (fun a e => by have := HFr.out a e; omega), below_le HB.out Hb.out⟩
        rw [HZ.out]
        exact HW.out
  · have h0' : ((no : Int) != 0) = true := by simp [h0]
    have hBZ := HBZ.out
    rw [if_neg h0] at hBZ
    have HZ := Lib.hid hBZ
    clear h0 hBZ HK HFZ HBZ
    go_wp2
    go_ret2
    refine ⟨none, 0, 0, rfl, ?_, (fun a e => by cases e), HB.out⟩
    rw [HZ.out]
    exact Row.none_

end Go.Proofs.YtepnamlcofmccaaDoor
