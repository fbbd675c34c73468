/-
  What is proved: the contract of read of package kinds. No condition beyond those stated.
-/
import Derived.Test.YtmabokmnniiadaaGreatDoorMv
namespace Go.Proofs.YtmabokmnniiadaaGreatDoor
open Go.RowKit

theorem TabAt.line_ {w : World} {base mt top g : Nat} {line : Int} {ds : List DscK} (h : TabAt w base mt top g line ds) (l' : Int) : TabAt (w.setCell ⟨g, 2, none⟩ (.int .i64 l')) base mt top g l' ds := by
  obtain ⟨lv, M, ms, D, h1, h2, h3, h4, h5, h6, h7, h8⟩ := h
  have hs := grown_set w g 2 (.int .i64 l')
  exact ⟨lv, M, ms, D, by simpa using h1.set_ 2 (.int .i64 l'), own_grown h2 hs (own_neD h2 h1 (by decide)), h3, fun k d x a b => (h4 k d x a b).grown hs (fun b' hb' e => (h5 d (List.mem_of_getElem? a) b' hb').1 (Option.some.inj e)), h5, h6.kept hs (by intro e; injection e with e; exact map_ne h6 h1 e.symm), h7, h8⟩
theorem TabAt.own_ {w : World} {base mt top g : Nat} {line : Int} {ds : List DscK} (h : TabAt w base mt top g line ds) : ∃ lv M, Blk w g 68 #[lv, .map (some M), .int .i64 line] ∧ base ≤ g ∧ g < mt := by
  obtain ⟨lv, M, ms, D, h1, h2, h3, h4, h5, h6, h7, h8, h9, h10, h11⟩ := h
  exact ⟨lv, M, h1, h8, h10⟩
theorem readK_take {ds : List DscK} {s : List UInt8} {d : DscK} (h : readT s = some d) : readK ds (s, true) = (if takeC ds d = 0 then ds ++ [d] else ds, takeC ds d) := by
  unfold readK takeC
  simp only [Bool.true_eq_false, if_false, h]
  by_cases h1 : d ∈ ds
  · simp [h1]
  · by_cases h2 : 60 ≤ ds.length
    · simp [h1, h2]
    · simp [h1, h2]

/-- A line was read. -/
def GivesRd (base mt g : Nat) (line : Int) (r : List DscK × Nat) (w : World) (y : Ending) (w' : World) : Prop :=
  ∃ v, y = .returned v ∧ ErrV_kinds w' r.2 v ∧ TabAt w' base mt w'.heap.size g (line + 1) r.1 ∧ Below base w w' ∧ KeepsT mt w w'

set_option maxRecDepth 100000 in
set_option maxHeartbeats 4000000 in
/-- read. -/
theorem kread_any {base mt top g : Nat} {line : Int} {ds : List DscK} (x : List UInt8 × Bool) (s : ByteArray) (w : World) (hT : TabAt w base mt top g line ds) (hmt : mt ≤ top) (htop : top ≤ w.heap.size) (hs : s.data.toList = x.1) (hsl : s.size ≤ 1000) (ha : ∀ d ∈ ds, dR d = true) (hn : ds.length ≤ 60)
    (hl0 : 0 ≤ line) (hl1 : line ≤ 10000000) (hM : ∀ W, Below base w W → MLen W) (hE : ∀ W, Below base w W → EType W) :
    Calls Tryz.prog 40 #[.pointer (some ⟨g, 0, none⟩), .string s, .bool x.2] w (GivesRd base mt g line (readK ds x) w) := by
  obtain ⟨xs, en⟩ := x
  dsimp only at hs ⊢
  subst hs
  obtain ⟨lv, M, h1, hg, hgm⟩ := hT.own_
  have c2 := h1.at_ (i := 2) rfl
  have f2 := h1.frozen 2
  have hT1 := hT.line_ (line + 1)
  have hb1 : Below base w (w.setCell ⟨g, 2, none⟩ (.int .i64 (line + 1))) := (Below.refl _ _).setCell (p := ⟨g, 2, none⟩) hg _
  have hk1 : KeepsT mt w (w.setCell ⟨g, 2, none⟩ (.int .i64 (line + 1))) := keepsT_set h1
  have hsz : w.heap.size ≤ (w.setCell ⟨g, 2, none⟩ (.int .i64 (line + 1))).heap.size := hb1.size
  have e0 : en = false → readK ds (s.data.toList, en) = (ds, 40) := fun e => by rw [e]; rfl
  have e1 : en = true → readT s.data.toList = none → readK ds (s.data.toList, en) = (ds, 40) := fun e h => by rw [e]; unfold readK; simp [h]
  have e2 : en = true → ∀ d, readT s.data.toList = some d → readK ds (s.data.toList, en) = (if takeC ds d = 0 then ds ++ [d] else ds, takeC ds d) ∧ dR d = true ∧ s.data.toList = dP d := fun e d h => by
    rw [e]
    exact ⟨readK_take h, (read_dR h).2, (read_dR h).1⟩
  have hpar := fun W h1 h2 => parse_any s W hsl h1 h2
  have hlw : s.data.toList.length = s.size := by simp
  generalize readK ds (s.data.toList, en) = r at *
  generalize readT s.data.toList = o at *
  have HT1 := Lib.hid hT1
  have HB1 := Lib.hid hb1
  have HK1 := Lib.hid hk1
  have E0 := Lib.hid e0
  have E1 := Lib.hid e1
  have E2 := Lib.hid e2
  have HP := Lib.hid hpar
  have HM := Lib.hid hM
  have HE := Lib.hid hE
  have HA := Lib.hid ha
  clear hT hT1 hb1 hk1 e0 e1 e2 hpar hM hE ha h1
  go_enter Tryz.func40, Tryz.ntmps40
  cases en with
  | false =>
    obtain rfl := E0.out rfl
    go_wp2_with fail
    clear c2 f2
    generalize w.setCell ⟨g, 2, none⟩ (.int .i64 (line + 1)) = W1 at *
    refine (refuse_kinds _ 40 (by decide) W1).mono ?_
    rintro y w2 ⟨v, rfl, hv, hb2⟩
    have HR : Hid (GivesRd base mt g line (ds, 40) w (.returned v) w2) := Lib.hid ⟨v, rfl, hv, (HT1.out.ext hb2).up (by have := hb2.size; omega), HB1.out.trans (hb2.mono (by omega)), HK1.out.trans (keepsT_below hb2)⟩
    clear hv hb2
    go_wp2
    go_ret
    exact HR.out
  | true =>
    go_wp2_with fail
    clear c2 f2
    generalize w.setCell ⟨g, 2, none⟩ (.int .i64 (line + 1)) = W1 at *
    refine (HP.out W1 (HM.out _ HB1.out) (HE.out _ HB1.out)).mono ?_
    rintro y w2 ⟨dv, rfl, ⟨P, m, c, Q, q, f, rfl, hP, hQ, hPf, hQf⟩, hb2⟩
    cases o with
    | none =>
      obtain rfl := E1.out trivial rfl
      have hx := below_box w2 (descO 0 P m c 0 Q q f)
      have HB2 := Lib.hid (below_le hb2 hx)
      clear hP hQ hPf hQf hb2 hx
      simp only [dsc0, Option.getD_none, Option.isSome_none, Bool.false_eq_true, if_false]
      go_wp2_with fail
      generalize w2.alloc (descO 0 P m c 0 Q q f) = W2 at *
      refine (refuse_kinds _ 40 (by decide) W2).mono ?_
      rintro y w3 ⟨v, rfl, hv, hb3⟩
      have hb := below_le HB2.out hb3
      have HR : Hid (GivesRd base mt g line (ds, 40) w (.returned v) w3) := Lib.hid ⟨v, rfl, hv, (HT1.out.ext hb).up (by have := hb.size; omega), HB1.out.trans (hb.mono (by omega)), HK1.out.trans (keepsT_below hb)⟩
      clear hv hb3 hb
      go_wp2
      go_ret
      exact HR.out
    | some d =>
      obtain ⟨hr, hdr, hsd⟩ := E2.out trivial d rfl
      clear E0 E1 E2
      obtain ⟨z, ps, e, es⟩ := d
      have hx := below_box w2 (descO z P m c e Q q f)
      have hbl : Blk (w2.alloc (descO z P m c e Q q f)) w2.heap.size 35 #[.int .i64 z, .slice P m c, .int .i64 e, .slice Q q f] := Blk.new _ _ _
      have hfar : ∀ b ∈ blkR P m ++ blkR Q q, b < base ∨ W1.heap.size ≤ b := fun b hb => .inr (by
        rcases List.mem_append.1 hb with hb | hb
        · unfold blkR at hb
          split at hb
          · cases P with
            | none => simp [blkA] at hb
            | some a => simp [blkA] at hb; subst hb; exact hPf a rfl
          · simp at hb
        · unfold blkR at hb
          split at hb
          · cases Q with
            | none => simp [blkA] at hb
            | some a => simp [blkA] at hb; subst hb; exact hQf a rfl
          · simp at hb)
      have hb22 := below_le hb2 hx
      have hcall := fun W (hb : Below (w2.alloc (descO z P m c e Q q f)).heap.size (w2.alloc (descO z P m c e Q q f)) W) => take_any (base := base) (mt := mt) (top := W1.heap.size) (g := g) (line := line + 1) (ds := ds) (z, ps, e, es) P Q m c q f s W (((HT1.out.ext hb22).ext hb).up (by omega)) (by omega) (by have := hb22.size; have := hb.size; omega) hsd (by omega) ((hP.ext hx).ext hb) ((hQ.ext hx).ext hb) hfar hdr HA.out (by omega)
      generalize takeC ds (z, ps, e, es) = tc at *
      generalize (if tc = 0 then ds ++ [(z, ps, e, es)] else ds) = L2 at *
      subst hr
      have HC := Lib.hid hcall
      have HB2 := Lib.hid hb22
      have t0 := fun x : Ext (w2.alloc (descO z P m c e Q q f)) => ext_cell (hbl.at_ (i := 0) rfl) x
      have t1 := fun x : Ext (w2.alloc (descO z P m c e Q q f)) => ext_cell (hbl.at_ (i := 1) rfl) x
      have t2 := fun x : Ext (w2.alloc (descO z P m c e Q q f)) => ext_cell (hbl.at_ (i := 2) rfl) x
      have t3 := fun x : Ext (w2.alloc (descO z P m c e Q q f)) => ext_cell (hbl.at_ (i := 3) rfl) x
      clear hP hQ hPf hQf hb2 hx hbl hfar hb22 hcall hsd hdr
      simp only [dsc0, Option.getD_some, Option.isSome_some, if_true]
      go_wp2_with fail
      generalize w2.alloc (descO z P m c e Q q f) = W2 at *
      refine wp_region_tail 5 (by kernel_rfl) (by kernel_rfl) ?_; simp only [List.take_succ_cons, List.take_zero, List.drop_succ_cons, List.drop_zero]
      repeat (first | (refine head_skip rfl ?_; go_frame) | (refine head_soft rfl (fun K hK => ?_); go_simp; first | (refine hK _ ?_; clear hK K) | (apply Exists.intro; refine ⟨fun x => ?_, hK _ ?_⟩; (· (fail)); clear hK K; try go_frame)))
      refine head_nil fun w3 hb3 => ?_
      clear t0 t1 t2 t3
      have hc3 := HC.out w3 hb3
      have HC3 := Lib.hid hc3
      have HB3 := Lib.hid (below_le HB2.out hb3)
      clear hc3 hb3 HC
      go_wp2_with fail
      refine HC3.out.mono ?_
      rintro y w4 ⟨v, rfl, hv, hT4, hb4, hk4⟩
      have HR : Hid (GivesRd base mt g line (L2, tc) w (.returned v) w4) := Lib.hid ⟨v, rfl, hv, hT4, (HB1.out.trans (HB3.out.mono (by omega))).trans hb4, (HK1.out.trans (keepsT_below HB3.out)).trans hk4⟩
      clear hv hT4 hb4 hk4 HC3
      go_wp2
      go_ret
      exact HR.out
end Go.Proofs.YtmabokmnniiadaaGreatDoor
