/-
  What is proved: contracts of check and Right of package kinds. No condition beyond those stated.
-/
import Derived.Test.YtmabokmnniiadaaGreatDoorMl
import Derived.Test.YtmabokmnniiadaaGreatDoorCx
import Derived.Test.YtmabokmnniiadaaGreatDoorCo
namespace Go.Proofs.YtmabokmnniiadaaGreatDoor
open Go.RowKit Go.Maps

/-- The one at a place, its cells as a walk wants them. -/
theorem RowD.get {w : World} {A : Option Addr} {n k : Nat} {ds : List DscK} (h : RowD w A n ds) (hk : k < n) : ∃ b off z P m c e Q q f ps es, A = some ⟨b, off, none⟩ ∧ ds[k]? = some (z, ps, e, es) ∧ Row w P m (ps.map Iv) ∧ Row w Q q (es.map Iv) ∧
    w.cell? ⟨b, off + k * 4, none⟩ = some (.int .i64 z) ∧ w.cell? ⟨b, off + k * 4 + 1, none⟩ = some (.slice P m c) ∧ w.cell? ⟨b, off + k * 4 + 2, none⟩ = some (.int .i64 e) ∧ w.cell? ⟨b, off + k * 4 + 3, none⟩ = some (.slice Q q f) := by
  obtain ⟨b, off, ⟨z, ps, e, es⟩, rfl, hd, P, m, c, Q, q, f, h1, h2, h3, h4, h5, h6⟩ := h.at_ hk
  rw [Nat.mul_comm 4 k] at h1 h2 h3 h4
  exact ⟨b, off, z, P, m, c, e, Q, q, f, ps, es, rfl, hd, h5, h6, h1, h2, h3, h4⟩
theorem dP_len {d : DscK} (h : dR d = true) : (dP d).length ≤ 100000 := by
  have hz := bounds_of h
  have hs := small_of h
  have hl := sm_of h
  have h1 := half_lenw hz.1 hs.1 hl.1
  have h2 := half_lenw hz.2 hs.2 hl.2
  unfold dP printT
  simp
  omega

theorem map_of_heap {w : World} {M : Nat} {P : Program} {k : TypeId} {R : Value → Option (DataW Unit × List MemPlace)} (h : w.heap[M]? = some (.map #[] 0)) : w.ownsMap P k R M 0 (.map []) := by
  obtain ⟨es, cl, h1, h2, h3, h4⟩ := World.ownsMap_made (H := Unit) w P k R
  rw [heap_alloc_new] at h1
  cases h1
  exact ⟨_, _, h, h2, h3, h4⟩
theorem tab_new {w : World} {base mt top g M : Nat} (hb : Blk w g 68 #[.slice none 0 0, .map (some M), .int .i64 0]) (hm : w.heap[M]? = some (.map #[] 0)) (h1 : base ≤ g) (h2 : base ≤ M) (h3 : g < mt) (h4 : M < mt) : TabAt w base mt top g 0 [] :=
  ⟨_, M, [], .map [], hb, ⟨rfl, .inl ⟨rfl, rfl⟩⟩, rfl, fun k d x h => by simp at h, fun d h => by simp at h, map_of_heap hm, fun t => by simp [Maps.has], h1, h2, h3, h4, fun b h => by cases h⟩
theorem TabAt.lt {w : World} {base mt top g : Nat} {line : Int} {ds : List DscK} (h : TabAt w base mt top g line ds) : g < w.heap.size := by
  obtain ⟨lv, M, ms, D, h1, -⟩ := h
  exact h1.lt
theorem TabAt.base {w : World} {base mt top g : Nat} {line : Int} {ds : List DscK} (h : TabAt w base mt top g line ds) : base ≤ g := by
  obtain ⟨lv, M, ms, D, -, -, -, -, -, -, -, h, -⟩ := h
  exact h

theorem take_snoc {α : Type} {l : List α} {k : Nat} {d : α} (h : l[k]? = some d) : l.take (k + 1) = l.take k ++ [d] := by
  have hk := (List.getElem?_eq_some_iff.1 h).1
  rw [List.take_succ_eq_append_getElem hk]
  rw [List.getElem?_eq_getElem hk] at h
  rw [Option.some.inj h]
theorem kNo_bad {ds : List DscK} {k : Nat} {d : DscK} (h : ds[k]? = some d) (hb : dR d = false ∨ takeC (ds.take k) d ≠ 0) : kNo ds = 50 := by
  unfold kNo
  rw [if_neg]
  intro hr
  have h1 := kRight_take hr (k + 1)
  rw [take_snoc h] at h1
  obtain ⟨h2, h3, h4, h5⟩ := kRight_snoc.1 h1
  rcases hb with hb | hb
  · rw [h3] at hb; cases hb
  · unfold takeC at hb
    rw [if_neg h4, if_neg (by omega)] at hb
    exact hb rfl
theorem take_good {ds : List DscK} {k : Nat} {d : DscK} (h : ds[k]? = some d) (hd : dR d = true) (ht : takeC (ds.take k) d = 0) (hr : kRight (ds.take k) = true) : kRight (ds.take (k + 1)) = true ∧ ds.take (k + 1) = ds.take k ++ [d] := by
  rw [take_snoc h]
  refine ⟨kRight_snoc.2 ⟨hr, hd, ?_⟩, rfl⟩
  unfold takeC at ht
  by_cases hm : d ∈ ds.take k
  · rw [if_pos hm] at ht; cases ht
  · rw [if_neg hm] at ht
    by_cases h6 : 60 ≤ (ds.take k).length
    · rw [if_pos h6] at ht; cases ht
    · exact ⟨hm, by omega⟩

/-- An error of kinds, or none. -/
def GivesErr (w : World) (no : Nat) (x : Ending) (w' : World) : Prop := ∃ v, x = .returned v ∧ ErrV_kinds w' no v ∧ Below w.heap.size w w'

set_option maxRecDepth 100000 in
set_option maxHeartbeats 4000000 in
/-- check. -/
theorem check_any (A : Option Addr) (n c : Nat) (ds : List DscK) (w : World) (hR : RowD w A n ds) (hs : Sm ds) (hn : n ≤ 1000) (ht : Tab w) :
    Calls Tryz.prog 30 #[.slice A n c] w (GivesErr w (kNo ds)) := by
  have hlen := hR.1
  have k1 : 60 < n → kNo ds = 50 := fun h => by
    unfold kNo
    rw [if_neg]
    intro hr
    have := (kRight_iff.1 hr).1
    omega
  have k2 : ∀ k d, ds[k]? = some d → (dR d = false ∨ takeC (ds.take k) d ≠ 0) → kNo ds = 50 := fun k d h hb => kNo_bad h hb
  have k3 : kRight (ds.take n) = true → kNo ds = 0 := fun h => by
    rw [List.take_of_length_le (by omega)] at h
    unfold kNo
    rw [if_pos h]
  generalize kNo ds = no at *
  have HR := Lib.hid hR
  have HS := Lib.hid hs
  have HT := Lib.hid ht
  have K2 := Lib.hid k2
  have K3 := Lib.hid k3
  have HLEN := Lib.hid hlen
  clear hR hs ht k2 k3 hlen
  by_cases h60 : 60 < n
  · obtain rfl := k1 h60
    clear k1
    go_enter Tryz.func30, Tryz.ntmps30
    go_wp2_with fail
    refine (refuse_kinds _ 50 (by decide) w).mono ?_
    rintro x w1 ⟨v, rfl, hE, hb1⟩
    have HE := Lib.hid hE
    have HB1 := Lib.hid hb1
    clear hE hb1
    go_wp2
    go_ret
    exact ⟨_, rfl, HE.out, HB1.out⟩
  · clear k1
    go_enter Tryz.func30, Tryz.ntmps30
    go_wp2_with fail
    refine (start_any w).mono ?_
    rintro x w1 ⟨M, rfl, hb1, hM1, hM2, hM3⟩
    have hx := below_box w1 (.cells #[.slice none 0 0, .map (some M), .int .i64 0] 68)
    have hg : Blk (w1.alloc (.cells #[.slice none 0 0, .map (some M), .int .i64 0] 68)) w1.heap.size 68 #[.slice none 0 0, .map (some M), .int .i64 0] := Blk.new _ _ _
    have hz : (w1.alloc (.cells #[.slice none 0 0, .map (some M), .int .i64 0] 68)).heap.size = w1.heap.size + 1 := by simp
    have hT := tab_new (base := w.heap.size) (mt := w1.heap.size + 1) (top := w1.heap.size + 1) hg ((hx.block M hM2).trans hM3) hb1.size hM1 (by omega) (by omega)
    have HTA := Lib.hid hT
    have HB := Lib.hid (below_le hb1 hx)
    have HZ := Lib.hid hz
    clear hx hg hT hb1 hM1 hM2 hM3 hz
    go_wp2
    generalize w1.alloc (.cells #[.slice none 0 0, .map (some M), .int .i64 0] 68) = W1 at *
    go_loopw [16] (fun i wr => ∃ k : Nat, k ≤ n ∧ i = .int .i64 k ∧ kRight (ds.take k) = true ∧ TabAt wr w.heap.size (w1.heap.size + 1) wr.heap.size w1.heap.size 0 (ds.take k) ∧ Below w.heap.size w wr) (fun i _ => n - (intOf i).toNat)
    case atStart => exact ⟨0, Nat.zero_le _, rfl, by simp [kRight], HTA.out.up (by rw [HZ.out]; omega), HB.out⟩
    case round =>
      clear HB HTA HZ
      obtain ⟨k, hk, rfl, hkr, hta, hb⟩ := hrel
      have HB := Lib.hid hb
      have HKR := Lib.hid hkr
      have HTA := Lib.hid hta
      clear hb hkr hta
      by_cases hlt : k < n
      · obtain ⟨b, off, z, P, m, c', e, Q, q, f, ps, es, rfl, hd, r1, r2, d0, d1, d2, d3⟩ := HR.out.get hlt
        have HOLD := Lib.hid (show (∀ b ∈ blkR P m ++ blkR Q q, b < w.heap.size) from fun b hb => (List.mem_append.1 hb).elim (blkR_lt r1 b) (blkR_lt r2 b))
        replace d0 := cell_ext HB.out d0
        replace d1 := cell_ext HB.out d1
        replace d2 := cell_ext HB.out d2
        replace d3 := cell_ext HB.out d3
        replace r1 := r1.ext HB.out
        replace r2 := r2.ext HB.out
        have hsm := HS.out _ (List.mem_of_getElem? hd)
        have hl1 := r1.1
        have hl2 := r2.1
        simp at hl1 hl2
        have hm : m ≤ 1000 := by have := hsm.1; dsimp only at this; omega
        have hq : q ≤ 1000 := by have := hsm.2; dsimp only at this; omega
        have hx := below_box wr (descO z P m c' e Q q f)
        have h1 : Blk (wr.alloc (descO z P m c' e Q q f)) wr.heap.size 35 #[.int .i64 z, .slice P m c', .int .i64 e, .slice Q q f] := Blk.new _ _ _
        have a0 := h1.at_ (i := 0) rfl
        have a1 := h1.at_ (i := 1) rfl
        have a2 := h1.at_ (i := 2) rfl
        have a3 := h1.at_ (i := 3) rfl
        have HR1 := Lib.hid (r1.ext hx)
        have HR2 := Lib.hid (r2.ext hx)
        have HD := Lib.hid hd
        have HTB := Lib.hid (HTA.out.ext hx)
        have HBB := Lib.hid (below_le HB.out hx)
        have HSZ := Lib.hid hx.size
        clear hx h1 r1 r2 hd hsm hl1 hl2 HTA
        go_wp2_with fail
        generalize wr.alloc (descO z P m c' e Q q f) = W2 at *
        refine (print_any z e P Q m c' q f ps es W2 HR1.out HR2.out hm hq (tab_ext HT.out HBB.out)).mono ?_
        rintro x w3 ⟨rfl, hb3⟩
        replace a0 := cell_ext hb3 a0; replace a1 := cell_ext hb3 a1; replace a2 := cell_ext hb3 a2; replace a3 := cell_ext hb3 a3; replace HR1 := Lib.hid (HR1.out.ext hb3); replace HR2 := Lib.hid (HR2.out.ext hb3); replace HTB := Lib.hid (HTB.out.ext hb3)
        replace HBB := Lib.hid (below_le HBB.out hb3)
        replace HSZ := Lib.hid (Nat.le_trans HSZ.out hb3.size)
        clear hb3
        unfold prText prNo
        cases hdr : dRight z ps e es
        · obtain rfl := K2.out k _ HD.out (.inl hdr)
          clear hdr
          simp only [Bool.false_eq_true, if_false]
          go_wp2_with fail
          refine (refuse_kinds _ 50 (by decide) w3).mono ?_
          rintro x w4 ⟨v, rfl, hE, hb4⟩
          have HE := Lib.hid hE
          have HB4 := Lib.hid (below_le HBB.out hb4)
          clear hE hb4
          go_wp2
          go_ret
          exact ⟨_, rfl, HE.out, HB4.out⟩
        · simp only [if_true]
          have hpl := dP_len (d := (z, ps, e, es)) hdr
          have hcall := take_any (base := w.heap.size) (mt := w1.heap.size + 1) (top := w3.heap.size) (g := w1.heap.size) (line := 0) (ds := ds.take k) (z, ps, e, es) P Q m c' q f ⟨(printT z ps e es).toArray⟩ w3 (HTB.out.up (by have := HSZ.out; omega)) (HTB.out.lt) (Nat.le_refl _) (by simp [dP]) (by rw [size_list]; exact hpl) HR1.out HR2.out (fun b hb => .inl (HOLD.out b hb)) hdr (kRight_iff.1 HKR.out).2.1 (by have := List.length_take_le k ds; omega)
          have htg : takeC (ds.take k) (z, ps, e, es) = 0 → kRight (ds.take (k + 1)) = true ∧ ds.take (k + 1) = ds.take k ++ [(z, ps, e, es)] := fun h => take_good HD.out hdr h HKR.out
          have htb : takeC (ds.take k) (z, ps, e, es) ≠ 0 → no = 50 := fun h => K2.out k _ HD.out (.inr h)
          generalize takeC (ds.take k) (z, ps, e, es) = tc at *
          have HCA := Lib.hid hcall
          have HTG := Lib.hid htg
          have HTBD := Lib.hid htb
          clear hcall htg htb hdr hpl HTB HR1 HR2
          go_wp2_with fail
          refine HCA.out.mono ?_
          rintro x w4 ⟨v, rfl, hE, hT4, hb4, -⟩
          have HB4 := Lib.hid ((HBB.out.trans hb4))
          clear HCA a0 a1 a2 a3 hb4 HBB
          rcases hE with ⟨h0, rfl⟩ | ⟨h0, t, u, rfl, -, -⟩
          · obtain ⟨g1, g2⟩ := HTG.out h0
            rw [if_pos h0, ← g2] at hT4
            have HT4 := Lib.hid hT4
            have HG1 := Lib.hid g1
            clear g1 g2 hT4 h0 HTG HTBD
            go_wp2
            go_roundw
            case rel => exact ⟨k + 1, by omega, by go_num, HG1.out, HT4.out, HB4.out⟩
            case measure => simp [intOf]; omega
          · obtain rfl := HTBD.out h0
            clear hT4 h0 HTG HTBD
            go_wp2_with fail
            refine (refuse_kinds _ 50 (by decide) w4).mono ?_
            rintro x w5 ⟨v, rfl, hE, hb5⟩
            have HE := Lib.hid hE
            have HB5 := Lib.hid (below_le HB4.out hb5)
            clear hE hb5
            go_wp2
            go_ret
            exact ⟨_, rfl, HE.out, HB5.out⟩
      · have hkn : k = n := by omega
        have hno : no = 0 := K3.out (by rw [← hkn]; exact HKR.out)
        subst hno
        clear hkn
        go_wp2
        go_ret
        exact ⟨_, rfl, .inl ⟨rfl, rfl⟩, HB.out⟩

set_option maxHeartbeats 1000000 in
/-- Right. -/
theorem kright_any (A : Option Addr) (n c : Nat) (ds : List DscK) (w : World) (hR : RowD w A n ds) (hs : Sm ds) (hn : n ≤ 1000) (ht : Tab w) :
    Calls Tryz.prog 18 #[.slice A n c] w fun x w' => x = .returned (.bool (kRight ds)) ∧ Below w.heap.size w w' := by
  have hc := check_any A n c ds w hR hs hn ht
  have h0 : kNo ds = 0 → kRight ds = true := fun h => by
    cases hk : kRight ds
    · unfold kNo at h; rw [hk] at h; cases h
    · rfl
  have h1 : kNo ds ≠ 0 → kRight ds = false := fun h => by
    cases hk : kRight ds
    · rfl
    · unfold kNo at h; rw [hk] at h; exact absurd rfl h
  generalize kNo ds = no at *
  generalize kRight ds = r at *
  have HC := Lib.hid hc
  have H0 := Lib.hid h0
  have H1 := Lib.hid h1
  clear hc h0 h1 hR hs ht
  go_enter Tryz.func18, Tryz.ntmps18
  go_wp2_with fail
  refine HC.out.mono ?_
  rintro x w1 ⟨v, rfl, hE, hb1⟩
  have HB := Lib.hid hb1
  clear hb1 HC
  rcases hE with ⟨g0, rfl⟩ | ⟨g0, t, u, rfl, -, -⟩
  · obtain rfl := H0.out g0
    clear g0
    go_wp2
    go_ret
    exact ⟨rfl, HB.out⟩
  · obtain rfl := H1.out g0
    clear g0
    go_wp2
    go_ret
    exact ⟨rfl, HB.out⟩
end Go.Proofs.YtmabokmnniiadaaGreatDoor
