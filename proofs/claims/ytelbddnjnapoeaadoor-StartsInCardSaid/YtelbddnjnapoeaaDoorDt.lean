/-
  What is proved: the frame that all rows of this layer share: what the list of variables gives, how a list of words is opened, and the row's last step. No condition beyond those stated.
-/
import Derived.Test.YtelbddnjnapoeaaDoorDs
import Derived.Test.YtelbddnjnapoeaaDoorCards
import Derived.Test.YtelbddnjnapoeaaDoorTie
import Derived.ProofKit
import Derived.OpenShut
import Derived.Below
import Derived.ChangeSame
import Derived.WideKeyArgs
import Derived.LaidMore
import Derived.LaidHandle
import Derived.MakeChecks
import Derived.Stop.Joined
import Derived.Stop.LaidErr
import Derived.Stop.LaidTwo
import Derived.Lib.SmallJoins
import Derived.Deep.DeepHandedRow
import Derived.Deep.DeepWitnessRowRef
namespace Go.Proofs.YtelbddnjnapoeaaDoor
open Go.ChangeShapes Go.WideShapes Go.ChangeAt Go.RowKit

theorem own0 : ownKnob Tryd.prog.godebug = none := by kernel_rfl
theorem laidOut0 : laidOutB Tryd.prog = true := by kernel_rfl
theorem star0 : "*" ++ "errors.errorString" = "*errors.errorString" := by decide
theorem rowErr (u : TypeId) (h : Tryd.prog.typeName? 3 u = some "*errors.errorString") : u = 110 :=
  typeName_ptr_named (nm := "errors.errorString") (by rw [star0]; kernel_rfl) (by kernel_rfl) (by decide) u (by rw [star0]; exact h)
theorem gA0 : Tryd.prog.globalNamed "selion/bits.errArg" = some 0 := by kernel_rfl
theorem gB0 : Tryd.prog.globalNamed "selion/bits.errBits" = some 2 := by kernel_rfl
theorem gP0 : Tryd.prog.globalNamed "selion/bits.errPlace" = some 3 := by kernel_rfl
theorem gA1 : (Tryd.prog.globals[0]?).map (·.type) = some 57 := by kernel_rfl
theorem gB1 : (Tryd.prog.globals[2]?).map (·.type) = some 57 := by kernel_rfl
theorem gP1 : (Tryd.prog.globals[3]?).map (·.type) = some 57 := by kernel_rfl

theorem under_err : ∃ te f, Tryd.prog.underlying 110 = some (.pointer te) ∧ Tryd.prog.underlying te = some (.struct #[f]) ∧ f.type = 9 ∧ f.offset = 0 ∧ Tryd.prog.cellsOf te = 1 :=
  ⟨_, _, Tryd.underlying110, Tryd.underlying131, rfl, rfl, by kernel_rfl⟩
theorem under_iface : ∃ ms, Tryd.prog.underlying 57 = some (.interface ms) := ⟨_, Tryd.underlying57⟩
theorem cells_str : Tryd.prog.cellsOf 9 = 1 := by kernel_rfl

theorem var_inj {W : World} {n : String} {t : TypeId} {a b : Addr} (h : W.var? Tryd.prog n = some #[.iface t (.pointer (some a))]) (k : W.var? Tryd.prog n = some #[.iface t (.pointer (some b))]) : a = b := by
  rw [h] at k
  simpa using k

theorem gQ0 : Tryd.prog.globalNamed "selion/starts.errPlace" = some 1 := by kernel_rfl
theorem gQ1 : (Tryd.prog.globals[1]?).map (·.type) = some 57 := by kernel_rfl
theorem gT0 : Tryd.prog.globalNamed "errors.errorType" = some 4 := by kernel_rfl
theorem rt0 : (Tryd.prog.cutTypes.find? (·.1 == "internal/reflectlite.rtype")).map (·.2) = some 96 := by kernel_rfl
theorem oneRow0 : ((List.range Tryd.prog.types.size).filter fun t => Tryd.prog.rowNamed t [101, 114, 114, 111, 114]) = [57] := by kernel_rfl
theorem hnd0 : typeHandle Tryd.prog 57 = hnd 57 := by kernel_rfl

/-- What the condition gives of errors' own variable: the handle of the type error. -/
theorem handle0 {W : World} (h : laidMetH Tryd.prog Rows.startsBackRow.laid W) : W.cell? ⟨4, 0, none⟩ = some (rty 57) := by
  have h1 := h.filter (fun x => x.1 == "errors.errorType")
  have h' : laidMet Tryd.prog [] W ∧ handlesMet Tryd.prog [("errors.errorType", Rows.laid_errors_errorType)] W := h1
  obtain ⟨name, u, ty, e1, e2, e3, e4, e5⟩ := h'.2 _ (List.mem_singleton.2 rfl)
  have en : name = [101, 114, 114, 111, 114] := (Option.some.inj e1).symm
  subst en
  obtain rfl := Option.some.inj (rt0.symm.trans e2)
  have hm : ty ∈ (List.range Tryd.prog.types.size).filter fun t => Tryd.prog.rowNamed t [101, 114, 114, 111, 114] := List.mem_filter.2 ⟨List.mem_range.2 e3, e4⟩
  rw [oneRow0] at hm
  obtain rfl := List.mem_singleton.1 hm
  rw [hnd0] at e5
  simpa using World.var?_cell gT0 e5 0

/-- WHAT THE ROW's LIST GIVES: the sentinels, each one's own, and the handle. -/
theorem sents {W : World} (h : laidMetH Tryd.prog Rows.startsBackRow.laid W) : ∃ aA aB aP aS, BSent W aA aB aP ∧ SSent W aS := by
  have h' : laidMet Tryd.prog [("selion/bits.errArg", Rows.laid_selion_bits_errArg), ("selion/bits.errBits", Rows.laid_selion_bits_errBits), ("selion/bits.errPlace", Rows.laid_selion_bits_errPlace), ("selion/starts.errPlace", Rows.laid_selion_starts_errPlace)] W := by
    have := h.filter (fun x => x.1 != "errors.errorType")
    rw [MakeChecks.laidMetH_plain _ _ _ (by kernel_rfl)] at this
    exact this
  have h'' : laidMet Tryd.prog [("selion/bits.errArg", Rows.laid_selion_bits_errArg), ("selion/bits.errPlace", Rows.laid_selion_bits_errPlace)] W := by
    have := h.filter (fun x => x.1 == "selion/bits.errArg" || x.1 == "selion/bits.errPlace")
    rw [MakeChecks.laidMetH_plain _ _ _ (by kernel_rfl)] at this
    exact this
  obtain ⟨te, f, hp, he, hft, hfo, hc⟩ := under_err
  obtain ⟨ms, hi⟩ := under_iface
  obtain ⟨a0, a1, _, _, c0, c1, t0, t1, v0, v1, _, _, _, _, _, _, n01, b0, b1⟩ := laid_sentinels2 h' gA0 gA1 gB0 gB1 hi rowErr hp he hft hfo Tryd.underlying9 hc cells_str
  obtain ⟨a1', a2, _, _, _, c2, _, t2, v1', v2, _, _, _, _, _, _, n12, _, b2⟩ := laid_sentinels2 h'.tail gB0 gB1 gP0 gP1 hi rowErr hp he hft hfo Tryd.underlying9 hc cells_str
  obtain ⟨a0', a2', _, _, _, _, _, _, v0', v2', _, _, _, _, _, _, n02, _, _⟩ := laid_sentinels2 h'' gA0 gA1 gP0 gP1 hi rowErr hp he hft hfo Tryd.underlying9 hc cells_str
  obtain ⟨_, a3, _, _, _, c3, _, t3, _, v3, _, _, _, _, _, _, _, _, b3⟩ := laid_sentinels2 h'.tail.tail gP0 gP1 gQ0 gQ1 hi rowErr hp he hft hfo Tryd.underlying9 hc cells_str
  obtain rfl := var_inj v0 v0'
  obtain rfl := var_inj v1 v1'
  obtain rfl := var_inj v2 v2'
  exact ⟨a0, a1, a2, a3, ⟨⟨by simpa using World.var?_cell gA0 v0 0, c0, t0, b0⟩, ⟨by simpa using World.var?_cell gB0 v1 0, c1, t1, b1⟩, ⟨by simpa using World.var?_cell gP0 v2 0, c2, t2, b2⟩, n01, n02, n12⟩,
    ⟨⟨by simpa using World.var?_cell gQ0 v3 0, c3, t3, b3⟩, handle0 h⟩⟩

section
variable {H : Type} {enc : TypeId × Value → H} {P : Program}
theorem trodAll_stays (hl : laidOutB P = true) {W W' : World} (hb : Below W.heap.size W W') (sp : Nat → Bool) : ∀ (ts : List TypeId) (vs : List Value) (ds : List (DataW H)) (ps : List MemPlace),
    (ts.all fun t => P.readableRec t && decide (t < P.types.size)) = true → DataW.TrodAll enc P W 0 (fun _ => true) true ts vs ds ps → (∀ x ∈ ps, x.block < W.heap.size) → (∀ x ∈ ps, sp x.block = true) → DataW.TrodAll enc P W' 0 sp true ts vs ds ps
  | [], vs, ds, ps, _, h, _, _ => by
    obtain ⟨rfl, rfl, rfl⟩ := trodAll_nil h
    exact trodAll_mk0
  | t :: ts, vs, ds, ps, hr, h, hlt, hsp => by
    simp only [List.all_cons, Bool.and_eq_true, decide_eq_true_eq] at hr
    obtain ⟨v, vs', d, ds', p, q, rfl, rfl, rfl, h1, h2⟩ := trodAll_cons h
    exact trodAll_cons_mk (WideElems.Trod_stays hl hr.1.1 hr.1.2 h1 (fun x hx => hb.same (hlt x (List.mem_append_left _ hx))) (fun x hx => hsp x (List.mem_append_left _ hx)))
      (trodAll_stays hl hb sp ts vs' ds' q hr.2 h2 (fun x hx => hlt x (List.mem_append_right _ hx)) (fun x hx => hsp x (List.mem_append_right _ hx)))

theorem post_below {f : Func} {s : ChangeSpec} {apart fresh handsOn again : Bool} {W W' : World} {args : Array Value} {v : Value} {ds gs : List (DataW H)} {before pa pv : List MemPlace}
    (hW : DataW.Whole enc P f.params.toList s.vars apart W args.toList ds gs before)
    (hres : ∀ (b : Nat) (sp : Nat → Bool) (hd : Bool), DataW.TrodAll enc P W' b sp hd f.resultTypes.toList (v.resultList f.resultTypes.size) (s.fn H (ds ++ gs)).results [])
    (hargs : ∀ sp : Nat → Bool, (∀ p ∈ before, sp p.block = true) → DataW.TrodAll enc P W' 0 sp true f.params.toList args.toList (s.fn H (ds ++ gs)).args pa)
    (hvars : ∀ sp : Nat → Bool, (∀ p ∈ before, sp p.block = true) → DataW.TrodVars enc P W' sp s.vars (s.fn H (ds ++ gs)).vars pv)
    (hps : before = pa ++ pv) (hb : Below W.heap.size W W')
    (hok : ∀ (j : Nat) (t : TypeId) (r : Value), f.resultTypes[j]? = some t → (v.resultList f.resultTypes.size)[j]? = some r → Value.okWide P W' .any 0 t r) :
    s.post enc P f apart fresh handsOn again W args v W' := by
  have hlt : ∀ p ∈ before, p.block < W.heap.size := fun p hp => hW.lt p hp
  have hold : ∀ p ∈ before, (fun b => decide (b < W.heap.size)) p.block = true := fun p hp => by simpa using hlt p hp
  refine ⟨ds, gs, before, [], pa, pv, hW, hres _ _ _, hargs _ hold, hvars _ hold, World.keptBut_mono (fun p hp => ⟨hp, ?_⟩) (hb.frame (· ∈ before)), fun _ => ?_⟩
  · rw [hps, List.mem_append] at hp
    exact Or.inr hp
  · obtain ⟨_, _, _, _, _, hz, hn⟩ := hW
    refine ⟨hok, _, _, ([] ++ pa) ++ pv, ⟨[] ++ pa, pv, trodAll_append (hargs _ (fun _ _ => rfl)) (hres _ _ _), hvars _ (fun _ _ => rfl), rfl, ?_, ?_⟩, ?_⟩
    · intro b off hp
      have hin : MemPlace.cell b off ∈ before := by rw [hps]; simpa using hp
      rw [hb.frozen (hlt _ hin)]
      exact hz b off hin
    · intro ha
      have := hn ha
      rw [hps] at this
      simpa using this
    · intro p hp _
      rw [hps]
      simpa using hp

/-- THE ROW's LAST STEP, where the law returned true and what was stays. -/
theorem post_true {f : Func} {s : ChangeSpec} (hl : laidOutB P = true) {tb : TypeId} (htb : P.underlying tb = some .bool) (hrt : f.resultTypes = #[tb]) (hvs : s.vars = []) (hr : (f.params.toList.all fun t => P.readableRec t && decide (t < P.types.size)) = true)
    {W W' : World} {args : Array Value} {ds gs : List (DataW H)} {before : List MemPlace}
    (hW : DataW.Whole enc P f.params.toList s.vars false W args.toList ds gs before) (hfn : s.fn H (ds ++ gs) = { results := [.lit (.bool true)], args := ds }) (hb : Below W.heap.size W W') :
    s.post enc P f false true false false W args (.bool true) W' := by
  have hW' := hW
  have hlt : ∀ p ∈ before, p.block < W.heap.size := fun p hp => hW.lt p hp
  obtain ⟨p, q, hA, hV, rfl, hfz, hnd⟩ := hW
  rw [hvs] at hV
  obtain ⟨rfl, rfl⟩ := trodVars_none hV
  simp only [List.append_nil] at hlt hW' hfn
  refine post_below (pa := p) (pv := []) hW' (fun b sp hd => ?_) (fun sp hsp => ?_) (fun sp _ => ?_) (by simp) hb (ok_one hrt rfl (okWide_bool_mk htb _))
  · rw [List.append_nil, hfn, hrt]
    exact trodAll_cons_mk (shut_bool htb _) trodAll_mk0
  · rw [List.append_nil, hfn]
    exact trodAll_stays hl hb sp _ _ _ _ hr hA (fun x hx => hlt x hx) (fun x hx => hsp x hx)
  · rw [List.append_nil, hfn, hvs]
    rfl
end

set_option maxRecDepth 100000 in
/-- A struct of bits, opened. -/
theorem open_bits {H : Type} {enc : TypeId × Value → H} {W : World} {b : Nat} {v : Value} {d : DataW H} {p : List MemPlace} (hv : Value.okWide Tryd.prog W .any b 24 v) (h : DataW.Trod enc Tryd.prog W 0 (fun _ => true) true 24 v d p) :
    ∃ (n : Int) (A : Option Addr) (m c : Nat) (ws : List Nat), v = .agg #[.int .i64 n, .slice A m c] ∧ Row W A m (ws.map U32) ∧ Fits ws ∧ m ≤ c := by
  obtain ⟨v0, v1, y0, y1, k, rfl, _, _, h0, h1⟩ := Joins.open_agg2 Tryd.underlying24 (by kernel_rfl) (by kernel_rfl) hv h
  obtain ⟨n, hn, _, _⟩ := DataW.trod_int Tryd.underlying3 h0
  obtain rfl : v0 = .int .i64 n := by simpa using hn
  rcases open_ints Tryd.underlying22 Tryd.underlying48 (by kernel_rfl) h1 with ⟨hs, _⟩ | ⟨a, len, cap, zs, hs, _, hl, _, hz, _, hc, hw⟩
  · obtain rfl : v1 = .slice none 0 0 := by simpa using hs
    exact ⟨n, none, 0, 0, [], rfl, Row.none_, by simp [Fits], Nat.le_refl _⟩
  · obtain rfl : v1 = .slice (some a) len cap := by simpa using hs
    rw [if_pos rfl] at hz
    have hz0 : ∀ z ∈ zs, 0 ≤ z ∧ z < 4294967296 := fun z hz => by
      have := bounds_u32 (hw z hz)
      omega
    refine ⟨n, some a, len, cap, (zs.take len).map Int.toNat, rfl, ⟨by simp; omega, fun hp => ?_⟩, fun x hx => ?_, hl⟩
    · have hs0 : a.spot = none := by simpa [Addr.add] using World.cell?_spot (hc 0 (by omega))
      obtain ⟨b, off, spot⟩ := a
      obtain rfl : spot = none := hs0
      refine ⟨b, off, rfl, fun j u hu => ?_⟩
      have hj : j < len := by
        have := (List.getElem?_eq_some_iff.1 hu).1
        simp at this
        omega
      have hjz : j < zs.length := by omega
      have h2 := hc j hjz
      have hzj := hz0 zs[j] (List.getElem_mem _)
      simp [hj, hjz] at hu
      have e : (⟨b, off, none⟩ : Addr).add j = ⟨b, off + j, none⟩ := by
        unfold Addr.add
        by_cases h : j = 0 <;> simp [h]
      rw [e] at h2
      simp [hjz] at h2
      rw [h2, ← hu, U32, Int.toNat_of_nonneg hzj.1]
    · obtain ⟨z, hzm, rfl⟩ := List.mem_map.1 hx
      have := hz0 z (List.mem_of_mem_take hzm)
      omega

/-- THE DOOR's OWN HEAP MEETS THE CONDITION. -/
theorem door_met (os : Os) (args : Array Value) : laidMetH Tryd.prog Rows.startsBackRow.laid ((World.doorLaid Tryd.prog 200 os).forCall (fun _ _ => 0) ⟨#[], args, []⟩).memory :=
  laidMetH_of_parts3 (fuel := 8) (laidMet_of_run' 8 (by kernel_rfl) (by kernel_rfl)) (by kernel_rfl) (by kernel_rfl)

end Go.Proofs.YtelbddnjnapoeaaDoor
