/-
  What is proved: contracts of read and Parse of package desc. No condition beyond those stated.
-/
import Derived.Test.YtmabokmnniiadaaGreatDoorCo
import Derived.Test.YtmabokmnniiadaaGreatDoorCg
import Derived.Deep.Cut
import Derived.Deep.CutRange
namespace Go.Proofs.YtmabokmnniiadaaGreatDoor
open Go.RowKit Go.Stop
attribute [local go_sem] Oper.semAt_some

/-- A value is a descriptor, its lists made since a block. -/
def DescIs (base : Nat) (w : World) (v : Value) (z : Int) (ps : List Int) (e : Int) (es : List Int) : Prop :=
  ∃ P m c Q q f, v = descV z P m c e Q q f ∧ Row w P m (ps.map Iv) ∧ Row w Q q (es.map Iv) ∧ (∀ a, P = some a → base ≤ a.block) ∧ (∀ a, Q = some a → base ≤ a.block)
theorem DescIs.ext {base : Nat} {w w' : World} {v : Value} {z : Int} {ps : List Int} {e : Int} {es : List Int} (h : DescIs base w v z ps e es) (hb : Below w.heap.size w w') : DescIs base w' v z ps e es := by
  obtain ⟨P, m, c, Q, q, f, h1, h2, h3, h4, h5⟩ := h
  exact ⟨P, m, c, Q, q, f, h1, h2.ext hb, h3.ext hb, h4, h5⟩
theorem DescIs.none_ (base : Nat) (w : World) : DescIs base w (descV 0 none 0 0 0 none 0 0) 0 [] 0 [] :=
  ⟨none, 0, 0, none, 0, 0, rfl, Row.none_, Row.none_, (fun _ h => by cases h), (fun _ h => by cases h)⟩
theorem DescIs.less {b1 b2 : Nat} {w : World} {v : Value} {z : Int} {ps : List Int} {e : Int} {es : List Int} (h : DescIs b1 w v z ps e es) (hb : b2 ≤ b1) : DescIs b2 w v z ps e es := by
  obtain ⟨P, m, c, Q, q, f, h1, h2, h3, h4, h5⟩ := h
  exact ⟨P, m, c, Q, q, f, h1, h2, h3, fun a e => Nat.le_trans hb (h4 a e), fun a e => Nat.le_trans hb (h5 a e)⟩

theorem Row.far {w w' : World} {A : Option Addr} {n : Nat} {xs : List Value} {g : Nat} (h : Row w A n xs) (hA : ∀ a, A = some a → a.block ≠ g) (hf : ∀ b, b ≠ g → w'.heap[b]? = w.heap[b]?) : Row w' A n xs :=
  ⟨h.1, fun hn => by
    obtain ⟨b, off, e, hc⟩ := h.2 hn
    exact ⟨b, off, e, fun j u hu => (World.cell?_of_block (w := w) (hf b (hA _ e))).trans (hc j u hu)⟩⟩

theorem ErrV_desc.far4 {w W' : World} {no : Nat} {v : Value} {g : Nat} {t : TypeId} {c2 c3 : Value} {A : Option Addr} {n k : Nat} (h : ErrV_desc w no v) (hg : Blk w g t #[.int .i64 0, .slice A n k, c2, c3]) (hf : ∀ b, b ≠ g → W'.heap[b]? = w.heap[b]?) :
    ErrV_desc W' no v := by
  rcases h with h | ⟨h0, t', u, h1, h2, h3⟩
  · exact .inl h
  · have c0 := hg.at_ (i := 0) rfl
    have c1 := hg.at_ (i := 1) rfl
    have ht : t' ≠ g := by
      rintro rfl
      rw [c1] at h2
      cases h2
    have hu : u ≠ g := by
      rintro rfl
      rw [c0] at h3
      injection h3 with h3
      injection h3 with _ h3
      omega
    exact .inr ⟨h0, t', u, h1, (World.cell?_of_block (w := w) (hf t' ht)).trans h2, (World.cell?_of_block (w := w) (hf u hu)).trans h3⟩
theorem half_len {t : List UInt8} {z : Int} {ps : List Int} (h : readHalfT t = some (z, ps)) : ps.length ≤ t.length := by
  have h1 := (half_some h).1
  have h2 := congrArg List.length h1
  have h3 := words_len (ps.map Lib.itoa)
  unfold halfT at h2
  simp at h2 h3
  omega

abbrev Dsc : Type := Int × List Int × Int × List Int
def joinT (oa ob : Option (Int × List Int)) : Option Dsc := match oa with
  | none => none
  | some zp => match ob with
    | none => none
    | some ep => if dRight zp.1 zp.2 ep.1 ep.2 then some (zp.1, zp.2, ep.1, ep.2) else none
theorem read_join {s a b : List UInt8} {fd : Bool} (hc : Lib.cut s [59, 32] = (a, b, fd)) : readT s = if fd then joinT (readHalfT a) (readHalfT b) else none := by
  unfold readT
  rw [hc]
  cases fd
  · rfl
  · cases h1 : readHalfT a with
    | none => simp only [joinT, if_true, h1]
    | some zp =>
      cases h2 : readHalfT b with
      | none => simp only [joinT, if_true, h1, h2]
      | some ep => simp only [joinT, if_true, h1, h2]
def dsc0 (o : Option Dsc) : Dsc := o.getD (0, [], 0, [])
/-- A descriptor, and an error: what was read. -/
def GivesRead (w : World) (o : Option Dsc) (x : Ending) (w' : World) : Prop :=
  ∃ dv v, x = .returned (.tuple #[dv, v]) ∧ ErrV_desc w' (if o.isSome then 0 else 40) v ∧ DescIs w.heap.size w' dv (dsc0 o).1 (dsc0 o).2.1 (dsc0 o).2.2.1 (dsc0 o).2.2.2 ∧ Below w.heap.size w w'

set_option maxRecDepth 100000 in
set_option maxHeartbeats 8000000 in
theorem read_any (s : ByteArray) (w : World) (hs : s.size ≤ 1000) (hM : MLen w) :
    Calls Tryz.prog 72 #[.string s] w (GivesRead w (readT s.data.toList)) := by
  have hb1 := below_le (below_box w (descO 0 none 0 0 0 none 0 0)) (below_box _ (descO 0 none 0 0 0 none 0 0))
  have h2 : Blk ((w.alloc (descO 0 none 0 0 0 none 0 0)).alloc (descO 0 none 0 0 0 none 0 0)) w.heap.size 35 #[.int .i64 0, .slice none 0 0, .int .i64 0, .slice none 0 0] := Blk.alloc (Blk.new _ _ _) _
  have h4 : Blk ((w.alloc (descO 0 none 0 0 0 none 0 0)).alloc (descO 0 none 0 0 0 none 0 0)) (w.heap.size + 1) 35 #[.int .i64 0, .slice none 0 0, .int .i64 0, .slice none 0 0] := heap_new (by simp) _
  obtain ⟨ml, hml⟩ := hM
  have hm0 := cell_ext hb1 hml
  have hcall := Tryz.strings_Cut s ⟨#[59, 32]⟩ ml _ (by omega) hm0
  have hcl := cut_le s.data.toList [59, 32]
  have hsl : s.data.toList.length = s.size := by simp
  obtain ⟨a, b, fd, hc⟩ : ∃ a b c, Lib.cut s.data.toList [59, 32] = (a, b, c) := ⟨_, _, _, rfl⟩
  have hrd : readT s.data.toList = if fd then joinT (readHalfT a) (readHalfT b) else none := read_join hc
  change Calls _ _ _ _ (fun e w' => e = .returned (.tuple #[.string ⟨(Lib.cut s.data.toList [59, 32]).1.toArray⟩, .string ⟨(Lib.cut s.data.toList [59, 32]).2.1.toArray⟩, .bool (Lib.cut s.data.toList [59, 32]).2.2]) ∧ ∃ n, w' = World.drewN _ n) at hcall
  rw [hc] at hcall hcl
  dsimp only at hcall hcl
  have hr1 : ∀ W, MLen W → Calls Tryz.prog 80 #[.string ⟨a.toArray⟩] W (GivesHalf W (readHalfT a)) := fun W h => readHalf_any ⟨a.toArray⟩ W (by rw [size_list]; omega) h
  have hr2 : ∀ W, MLen W → Calls Tryz.prog 80 #[.string ⟨b.toArray⟩] W (GivesHalf W (readHalfT b)) := fun W h => readHalf_any ⟨b.toArray⟩ W (by rw [size_list]; omega) h
  have hla : ∀ z ps, readHalfT a = some (z, ps) → ps.length ≤ 1000 := fun z ps h => by have := half_len h; omega
  have hlb : ∀ z ps, readHalfT b = some (z, ps) → ps.length ≤ 1000 := fun z ps h => by have := half_len h; omega
  have HLA := Lib.hid hla
  have HLB := Lib.hid hlb
  clear hla hlb
  generalize readT s.data.toList = o at *
  generalize readHalfT a = oa at *
  generalize readHalfT b = ob at *
  have HC := Lib.hid hcall
  have HRD := Lib.hid hrd
  have HR1 := Lib.hid hr1
  have HR2 := Lib.hid hr2
  have HM : Hid (MLen w) := Lib.hid ⟨ml, hml⟩
  have HB := Lib.hid hb1
  have H2 := Lib.hid h2
  have H4 := Lib.hid h4
  clear hcall hcl hrd hml hsl hc hm0 hr1 hr2 hb1 h2 h4
  refine (callsIn_wide (n := 3)).1 ?_
  refine callsIn_of_wp Tryz.func72 rfl trivial ?_ rfl
  simp only [Tryz.ntmps72, List.size_toArray, List.length_cons, List.length_nil, Nat.reduceAdd, Nat.reduceSub, Array.replicate_succ, Array.replicate_zero, List.push_toArray, List.append_toArray, List.nil_append, List.cons_append]
  gi_wp2_with fail
  refine wpIn_scope_ahead 0 (fun a W' => o = none ∧ Blk W' w.heap.size 35 #[.int .i64 0, .slice none 0 0, .int .i64 0, .slice none 0 0] ∧ Below w.heap.size w W' ∧ ∃ v5 v6 v7 v8 v9 v10 v11 v12 v13 v14 v15 v16 v17 v18 v19 v20 v21 v22 v23 v24 v25 v26 v27 v28 v29 v30 v31 v32 v33 v34 v35 v36 v37 v38 v39 v40 v41, a = { tmps := #[.string s, undef, .pointer (some ⟨w.heap.size, 0, none⟩), .nilIface, .pointer (some ⟨w.heap.size + 1, 0, none⟩), v5, v6, v7, v8, v9, v10, v11, v12, v13, v14, v15, v16, v17, v18, v19, v20, v21, v22, v23, v24, v25, v26, v27, v28, v29, v30, v31, v32, v33, v34, v35, v36, v37, v38, v39, v40, v41], defers := [] }) rfl ?first ?pass
  case first =>
    gi_wp2_with fail
    generalize (w.alloc (descO 0 none 0 0 0 none 0 0)).alloc (descO 0 none 0 0 0 none 0 0) = W0 at *
    refine ⟨trivial, (callsIn_wide.2 HC.out).mono ?_⟩
    rintro x w' ⟨rfl, nd, rfl⟩
    have hbn := below_drewN (Below.refl W0.heap.size W0) nd
    have H2X := Lib.hid (H2.out.ext hbn)
    have H4X := Lib.hid (H4.out.ext hbn)
    have HBX := Lib.hid (below_le HB.out hbn)
    generalize W0.drewN nd = w1 at *
    clear hbn HC H2 H4 HB
    cases fd
    · have ho : o = none := HRD.out
      have HO := Lib.hid ho
      clear ho
      gi_wp2
      refine wpIn_goto ?_
      exact ⟨rfl, HO.out, H2X.out, HBX.out, _, _, _, _, _, _, _, _, _, _, _, _, _, _, _, _, _, _, _, _, _, _, _, _, _, _, _, _, _, _, _, _, _, _, _, _, _, rfl⟩
    · have hrd : o = joinT oa ob := HRD.out
      clear HRD
      have HRD2 := Lib.hid hrd
      clear hrd
      gi_wp2_with fail
      refine ⟨trivial, (callsIn_wide.2 (HR1.out w1 (HM.out.ext HBX.out))).mono ?_⟩
      rintro x w2 ⟨P, m, c, rfl, hP, hPf, hb2⟩
      have h4 := H4X.out.ext hb2
      have c0 := h4.at_ (i := 0) rfl
      have c1 := h4.at_ (i := 1) rfl
      have f0 := h4.frozen 0
      have f1 := h4.frozen 1
      have hlt := H4X.out.lt
      have hfar : ∀ (v0 v1 : Value) b, b ≠ w.heap.size + 1 → ((w2.setCell ⟨w.heap.size + 1, 0, none⟩ v0).setCell ⟨w.heap.size + 1, 1, none⟩ v1).heap[b]? = w2.heap[b]? := fun v0 v1 b hb =>
        (Below.heap_setCell _ ⟨w.heap.size + 1, 1, none⟩ _ b hb).trans (Below.heap_setCell _ ⟨w.heap.size + 1, 0, none⟩ _ b hb)
      have HF := Lib.hid hfar
      have H2Y := Lib.hid (H2X.out.ext hb2)
      have HBY := Lib.hid (below_le HBX.out hb2)
      have HP := Lib.hid hP
      have HPF := Lib.hid hPf
      have H4Y := Lib.hid h4
      have HW1 := Lib.hid (show w.heap.size + 2 ≤ w1.heap.size by omega)
      clear hP hPf h4 hfar hb2 H2X HBX H4X hlt
      cases oa with
      | none =>
        have ho : o = none := HRD2.out
        have HO := Lib.hid ho
        clear ho
        have H2X := Lib.hid (show Blk ((w2.setCell ⟨w.heap.size + 1, 0, none⟩ (.int .i64 0)).setCell ⟨w.heap.size + 1, 1, none⟩ (.slice P m c)) w.heap.size 35 #[.int .i64 0, .slice none 0 0, .int .i64 0, .slice none 0 0] from (HF.out _ _ _ (by omega)).trans H2Y.out)
        have HBX := Lib.hid ((HBY.out.setCell (p := ⟨w.heap.size + 1, 0, none⟩) (by show w.heap.size ≤ w.heap.size + 1; omega) (.int .i64 0)).setCell (p := ⟨w.heap.size + 1, 1, none⟩) (by show w.heap.size ≤ w.heap.size + 1; omega) (.slice P m c))
        gi_wp2
        refine wpIn_goto ?_
        exact ⟨rfl, HO.out, H2X.out, HBX.out, _, _, _, _, _, _, _, _, _, _, _, _, _, _, _, _, _, _, _, _, _, _, _, _, _, _, _, _, _, _, _, _, _, _, _, _, _, rfl⟩
      | some zp =>
        obtain ⟨z, ps⟩ := zp
        have hrd : o = joinT (some (z, ps)) ob := HRD2.out
        have HRD3 := Lib.hid hrd
        have hP : Row w2 P m (ps.map Iv) := HP.out
        have H2X := Lib.hid (show Blk ((w2.setCell ⟨w.heap.size + 1, 0, none⟩ (.int .i64 z)).setCell ⟨w.heap.size + 1, 1, none⟩ (.slice P m c)) w.heap.size 35 #[.int .i64 0, .slice none 0 0, .int .i64 0, .slice none 0 0] from (HF.out _ _ _ (by omega)).trans H2Y.out)
        have HBX := Lib.hid ((HBY.out.setCell (p := ⟨w.heap.size + 1, 0, none⟩) (by show w.heap.size ≤ w.heap.size + 1; omega) (.int .i64 z)).setCell (p := ⟨w.heap.size + 1, 1, none⟩) (by show w.heap.size ≤ w.heap.size + 1; omega) (.slice P m c))
        have H4X := Lib.hid (show Blk ((w2.setCell ⟨w.heap.size + 1, 0, none⟩ (.int .i64 z)).setCell ⟨w.heap.size + 1, 1, none⟩ (.slice P m c)) (w.heap.size + 1) 35 #[.int .i64 z, .slice P m c, .int .i64 0, .slice none 0 0] by simpa using (H4Y.out.set_ 0 (.int .i64 z)).set_ 1 (.slice P m c))
        have HPX := Lib.hid (hP.far (fun a e => by have h1 := HPF.out a e; have h2 := HW1.out; omega) (HF.out (.int .i64 z) (.slice P m c)))
        clear hrd HRD2 hP HP H2Y HBY H4Y HF
        gi_wp2_with fail
        generalize (w2.setCell ⟨w.heap.size + 1, 0, none⟩ (.int .i64 z)).setCell ⟨w.heap.size + 1, 1, none⟩ (.slice P m c) = w3 at *
        refine ⟨trivial, (callsIn_wide.2 (HR2.out w3 (HM.out.ext HBX.out))).mono ?_⟩
        rintro x w4 ⟨Q, q, f, rfl, hQ, hQf, hb4⟩
        clear c0 c1 f0 f1
        have h4 := H4X.out.ext hb4
        have c0 := h4.at_ (i := 0) rfl
        have c1 := h4.at_ (i := 1) rfl
        have c2 := h4.at_ (i := 2) rfl
        have c3 := h4.at_ (i := 3) rfl
        have f2 := h4.frozen 2
        have f3 := h4.frozen 3
        have hlt := H4X.out.lt
        have hfar : ∀ (v0 v1 : Value) b, b ≠ w.heap.size + 1 → ((w4.setCell ⟨w.heap.size + 1, 2, none⟩ v0).setCell ⟨w.heap.size + 1, 3, none⟩ v1).heap[b]? = w4.heap[b]? := fun v0 v1 b hb =>
          (Below.heap_setCell _ ⟨w.heap.size + 1, 3, none⟩ _ b hb).trans (Below.heap_setCell _ ⟨w.heap.size + 1, 2, none⟩ _ b hb)
        have HF := Lib.hid hfar
        have H2Y := Lib.hid (H2X.out.ext hb4)
        have HBY := Lib.hid (below_le HBX.out hb4)
        have HPY := Lib.hid (HPX.out.ext hb4)
        have HQ := Lib.hid hQ
        have HQF := Lib.hid hQf
        have H4Y := Lib.hid h4
        have HW3 := Lib.hid (show w.heap.size + 2 ≤ w3.heap.size by omega)
        clear hQ hQf h4 hfar hb4 H2X HBX H4X hlt HPX
        cases ob with
        | none =>
          have ho : o = none := HRD3.out
          have HO := Lib.hid ho
          clear ho
          have H2X := Lib.hid (show Blk ((w4.setCell ⟨w.heap.size + 1, 2, none⟩ (.int .i64 0)).setCell ⟨w.heap.size + 1, 3, none⟩ (.slice Q q f)) w.heap.size 35 #[.int .i64 0, .slice none 0 0, .int .i64 0, .slice none 0 0] from (HF.out _ _ _ (by omega)).trans H2Y.out)
          have HBX := Lib.hid ((HBY.out.setCell (p := ⟨w.heap.size + 1, 2, none⟩) (by show w.heap.size ≤ w.heap.size + 1; omega) (.int .i64 0)).setCell (p := ⟨w.heap.size + 1, 3, none⟩) (by show w.heap.size ≤ w.heap.size + 1; omega) (.slice Q q f))
          gi_wp2
          refine wpIn_goto ?_
          exact ⟨rfl, HO.out, H2X.out, HBX.out, _, _, _, _, _, _, _, _, _, _, _, _, _, _, _, _, _, _, _, _, _, _, _, _, _, _, _, _, _, _, _, _, _, _, _, _, _, rfl⟩
        | some ep =>
          obtain ⟨e, es⟩ := ep
          have hrd : o = (if dRight z ps e es then some (z, ps, e, es) else none) := HRD3.out
          have hQ : Row w4 Q q (es.map Iv) := HQ.out
          have hlq := hQ.1
          have hlp := HPY.out.1
          simp only [List.length_map] at hlq hlp
          have hPq := HLA.out z ps rfl
          have hQq := HLB.out e es rfl
          have hm : m ≤ 1000 := by omega
          have hq : q ≤ 1000 := by omega
          have HRD4 := Lib.hid hrd
          have H2X := Lib.hid (show Blk ((w4.setCell ⟨w.heap.size + 1, 2, none⟩ (.int .i64 e)).setCell ⟨w.heap.size + 1, 3, none⟩ (.slice Q q f)) w.heap.size 35 #[.int .i64 0, .slice none 0 0, .int .i64 0, .slice none 0 0] from (HF.out _ _ _ (by omega)).trans H2Y.out)
          have HBX := Lib.hid ((HBY.out.setCell (p := ⟨w.heap.size + 1, 2, none⟩) (by show w.heap.size ≤ w.heap.size + 1; omega) (.int .i64 e)).setCell (p := ⟨w.heap.size + 1, 3, none⟩) (by show w.heap.size ≤ w.heap.size + 1; omega) (.slice Q q f))
          have H4X := Lib.hid (show Blk ((w4.setCell ⟨w.heap.size + 1, 2, none⟩ (.int .i64 e)).setCell ⟨w.heap.size + 1, 3, none⟩ (.slice Q q f)) (w.heap.size + 1) 35 #[.int .i64 z, .slice P m c, .int .i64 e, .slice Q q f] by simpa using (H4Y.out.set_ 2 (.int .i64 e)).set_ 3 (.slice Q q f))
          have HPX := Lib.hid (HPY.out.far (fun a e => by have h1 := HPF.out a e; have h2 := HW1.out; omega) (HF.out (.int .i64 e) (.slice Q q f)))
          have HQX := Lib.hid (hQ.far (fun a e => by have h1 := HQF.out a e; have h2 := HW3.out; omega) (HF.out (.int .i64 e) (.slice Q q f)))
          clear hrd HRD3 hQ HQ H2Y HBY H4Y HF HPY hlq hlp hPq hQq
          gi_wp2_with fail
          generalize (w4.setCell ⟨w.heap.size + 1, 2, none⟩ (.int .i64 e)).setCell ⟨w.heap.size + 1, 3, none⟩ (.slice Q q f) = w5 at *
          refine ⟨trivial, (callsIn_wide.2 (dright_any z e P Q m c q f ps es w5 HPX.out HQX.out hm hq)).mono ?_⟩
          rintro x w6 ⟨rfl, hb6⟩
          clear c0 c1 c2 c3 f2 f3
          replace H2X := Lib.hid (H2X.out.ext hb6)
          replace HBX := Lib.hid (below_le HBX.out hb6)
          replace HPX := Lib.hid (HPX.out.ext hb6)
          replace HQX := Lib.hid (HQX.out.ext hb6)
          have h4 := H4X.out.ext hb6
          clear hb6 H4X
          cases hd : dRight z ps e es
          · have ho : o = none := by rw [HRD4.out, hd]; rfl
            have HO := Lib.hid ho
            clear ho hd h4
            gi_wp2_with fail
            refine wpIn_label ?_
            gi_wp2_with fail
            refine ⟨trivial, (callsIn_wide.2 (refuse_desc _ 40 (by decide) _)).mono ?_⟩
            rintro x w9 ⟨v, rfl, hv, hb9⟩
            have h2 := H2X.out.ext hb9
            have c0 := h2.at_ (i := 0) rfl
            have c1 := h2.at_ (i := 1) rfl
            have c2 := h2.at_ (i := 2) rfl
            have c3 := h2.at_ (i := 3) rfl
            have f0 := h2.frozen 0
            have f1 := h2.frozen 1
            have f2 := h2.frozen 2
            have f3 := h2.frozen 3
            have H9 := Lib.hid (h2.set4 (.int .i64 0) (.slice none 0 0) (.int .i64 0) (.slice none 0 0))
            have HV := Lib.hid (hv.far4 h2 (fun b hb => heap_set4 w9 hb (.int .i64 0) (.slice none 0 0) (.int .i64 0) (.slice none 0 0)))
            have HB9 := Lib.hid (below_set4 (below_le HBX.out hb9) (Nat.le_refl _) (.int .i64 0) (.slice none 0 0) (.int .i64 0) (.slice none 0 0))
            clear h2 hv hb9
            gi_wp2
            have q0 := H9.out.at_ (i := 0) rfl
            have q1 := H9.out.at_ (i := 1) rfl
            have q2 := H9.out.at_ (i := 2) rfl
            have q3 := H9.out.at_ (i := 3) rfl

            simp only [Exit.jump]
            refine bodyPost_ret (v := .tuple #[descV 0 none 0 0 0 none 0 0, v]) (by simp [results, Tryz.results72, go_sem, q0, q1, q2, q3]) rfl ?_
            rw [HO.out]
            exact ⟨_, _, rfl, HV.out, DescIs.none_ _ _, HB9.out⟩
          · have ho : o = some (z, ps, e, es) := by rw [HRD4.out, hd]; rfl
            have HO := Lib.hid ho
            have d0 := h4.at_ (i := 0) rfl
            have d1 := h4.at_ (i := 1) rfl
            have d2 := h4.at_ (i := 2) rfl
            have d3 := h4.at_ (i := 3) rfl
            have h2 := H2X.out
            have c0 := h2.at_ (i := 0) rfl
            have c1 := h2.at_ (i := 1) rfl
            have c2 := h2.at_ (i := 2) rfl
            have c3 := h2.at_ (i := 3) rfl
            have f0 := h2.frozen 0
            have f1 := h2.frozen 1
            have f2 := h2.frozen 2
            have f3 := h2.frozen 3
            have H9 := Lib.hid (h2.set4 (.int .i64 z) (.slice P m c) (.int .i64 e) (.slice Q q f))
            have HB9 := Lib.hid (below_set4 HBX.out (Nat.le_refl _) (.int .i64 z) (.slice P m c) (.int .i64 e) (.slice Q q f))
            have HPZ := Lib.hid (HPX.out.far (g := w.heap.size) (fun a e => by have h1 := HPF.out a e; have h2 := HW1.out; omega) (fun b hb => heap_set4 w6 hb (.int .i64 z) (.slice P m c) (.int .i64 e) (.slice Q q f)))
            have HQZ := Lib.hid (HQX.out.far (g := w.heap.size) (fun a e => by have h1 := HQF.out a e; have h2 := HW3.out; omega) (fun b hb => heap_set4 w6 hb (.int .i64 z) (.slice P m c) (.int .i64 e) (.slice Q q f)))
            clear ho hd h4 h2
            gi_wp2
            have q0 := H9.out.at_ (i := 0) rfl
            have q1 := H9.out.at_ (i := 1) rfl
            have q2 := H9.out.at_ (i := 2) rfl
            have q3 := H9.out.at_ (i := 3) rfl
            simp only [Exit.jump]
            refine bodyPost_ret (v := .tuple #[descV z P m c e Q q f, .nilIface]) (by simp [results, Tryz.results72, go_sem, q0, q1, q2, q3]) rfl ?_
            rw [HO.out]
            exact ⟨_, _, rfl, .inl ⟨rfl, rfl⟩, ⟨P, m, c, Q, q, f, rfl, HPZ.out, HQZ.out, fun a e => by have h1 := HPF.out a e; have h2 := HW1.out; omega, fun a e => by have h1 := HQF.out a e; have h2 := HW3.out; omega⟩, HB9.out⟩
  case pass =>
    rintro a W' ⟨ho, h2, hb, v5, v6, v7, v8, v9, v10, v11, v12, v13, v14, v15, v16, v17, v18, v19, v20, v21, v22, v23, v24, v25, v26, v27, v28, v29, v30, v31, v32, v33, v34, v35, v36, v37, v38, v39, v40, v41, rfl⟩
    have HO := Lib.hid ho
    have H2X := Lib.hid h2
    have HBX := Lib.hid hb
    clear ho h2 hb
    gi_wp2_with fail
    refine ⟨trivial, (callsIn_wide.2 (refuse_desc _ 40 (by decide) _)).mono ?_⟩
    rintro x w9 ⟨v, rfl, hv, hb9⟩
    have h2 := H2X.out.ext hb9
    have c0 := h2.at_ (i := 0) rfl
    have c1 := h2.at_ (i := 1) rfl
    have c2 := h2.at_ (i := 2) rfl
    have c3 := h2.at_ (i := 3) rfl
    have f0 := h2.frozen 0
    have f1 := h2.frozen 1
    have f2 := h2.frozen 2
    have f3 := h2.frozen 3
    have H9 := Lib.hid (h2.set4 (.int .i64 0) (.slice none 0 0) (.int .i64 0) (.slice none 0 0))
    have HV := Lib.hid (hv.far4 h2 (fun b hb => heap_set4 w9 hb (.int .i64 0) (.slice none 0 0) (.int .i64 0) (.slice none 0 0)))
    have HB9 := Lib.hid (below_set4 (below_le HBX.out hb9) (Nat.le_refl _) (.int .i64 0) (.slice none 0 0) (.int .i64 0) (.slice none 0 0))
    clear h2 hv hb9
    gi_wp2
    have q0 := H9.out.at_ (i := 0) rfl
    have q1 := H9.out.at_ (i := 1) rfl
    have q2 := H9.out.at_ (i := 2) rfl
    have q3 := H9.out.at_ (i := 3) rfl

    refine bodyPost_ret (v := .tuple #[descV 0 none 0 0 0 none 0 0, v]) (by simp [results, Tryz.results72, go_sem, q0, q1, q2, q3]) rfl ?_
    rw [HO.out]
    exact ⟨_, _, rfl, HV.out, DescIs.none_ _ _, HB9.out⟩

/-- A descriptor, and an error's number: what was parsed. -/
def GivesParse (w : World) (o : Option Dsc) (x : Ending) (w' : World) : Prop :=
  ∃ dv, x = .returned (.tuple #[dv, .int .i64 ((if o.isSome then 0 else 40 : Nat) : Int)]) ∧ DescIs w.heap.size w' dv (dsc0 o).1 (dsc0 o).2.1 (dsc0 o).2.2.1 (dsc0 o).2.2.2 ∧ Below w.heap.size w w'

set_option maxRecDepth 100000 in
set_option maxHeartbeats 8000000 in
theorem parse_any (s : ByteArray) (w : World) (hs : s.size ≤ 1000) (hM : MLen w) (hE : EType w) :
    Calls Tryz.prog 59 #[.string s] w (GivesParse w (readT s.data.toList)) := by
  have hb1 := below_box w (descO 0 none 0 0 0 none 0 0)
  have h2 : Blk (w.alloc (descO 0 none 0 0 0 none 0 0)) w.heap.size 35 #[.int .i64 0, .slice none 0 0, .int .i64 0, .slice none 0 0] := Blk.new _ _ _
  have hcall := read_any s (w.alloc (descO 0 none 0 0 0 none 0 0)) hs (hM.ext hb1)
  have hz : w.heap.size + 1 = (w.alloc (descO 0 none 0 0 0 none 0 0)).heap.size := by simp
  generalize readT s.data.toList = o at *
  have HC := Lib.hid hcall
  have HB := Lib.hid hb1
  have H2 := Lib.hid h2
  have HZ := Lib.hid hz
  have HE := Lib.hid hE
  clear hcall hb1 h2 hz hE hM
  go_enter Tryz.func59, Tryz.ntmps59
  go_wp2_with fail
  generalize w.alloc (descO 0 none 0 0 0 none 0 0) = W0 at *
  refine HC.out.mono ?_
  rintro x w1 ⟨dv, v, rfl, hv, hd, hb1⟩
  obtain ⟨P, m, c, Q, q, f, rfl, hP, hQ, hPf, hQf⟩ := hd
  have hx := below_box w1 (descO (dsc0 o).1 P m c (dsc0 o).2.2.1 Q q f)
  have HB1 := Lib.hid (below_le (below_le HB.out hb1) hx)
  have H21 := Lib.hid ((H2.out.ext hb1).ext hx)
  have HP := Lib.hid (hP.ext hx)
  have HQ := Lib.hid (hQ.ext hx)
  have HPF := Lib.hid hPf
  have HQF := Lib.hid hQf
  have HV := Lib.hid (hv.ext hx)
  have HD4 : Hid (Blk (w1.alloc (descO (dsc0 o).1 P m c (dsc0 o).2.2.1 Q q f)) w1.heap.size 35 #[.int .i64 (dsc0 o).1, .slice P m c, .int .i64 (dsc0 o).2.2.1, .slice Q q f]) := Lib.hid (Blk.new _ _ _)
  clear hP hQ hPf hQf hv hx hb1 HC H2 HB
  cases o with
  | none =>
    obtain ⟨t, u, rfl, -⟩ : ∃ t u : Nat, v = .iface 149 (.pointer (some ⟨t, 0, none⟩)) ∧ True := by
      rcases HV.out with h | ⟨_, t, u, h, _⟩
      · exact absurd h.1 (by decide)
      · exact ⟨t, 0, h, trivial⟩
    have hcall := number_desc 40 _ _ HV.out (HE.out.ext HB1.out)
    have HC2 := Lib.hid hcall
    clear hcall HV
    simp only [dsc0, Option.getD_none] at *
    go_wp2_with fail
    generalize w1.alloc (descO 0 P m c 0 Q q f) = W1 at *
    refine HC2.out.mono ?_
    rintro x w2 ⟨rfl, hb2⟩
    have h2 := H21.out.ext hb2
    have c0 := h2.at_ (i := 0) rfl
    have c1 := h2.at_ (i := 1) rfl
    have c2 := h2.at_ (i := 2) rfl
    have c3 := h2.at_ (i := 3) rfl
    have f0 := h2.frozen 0
    have f1 := h2.frozen 1
    have f2 := h2.frozen 2
    have f3 := h2.frozen 3
    have H9 := Lib.hid (h2.set4 (.int .i64 0) (.slice none 0 0) (.int .i64 0) (.slice none 0 0))
    have HB9 := Lib.hid (below_set4 (below_le HB1.out hb2) (Nat.le_refl _) (.int .i64 0) (.slice none 0 0) (.int .i64 0) (.slice none 0 0))
    clear h2 hb2 HC2
    go_wp2
    have q0 := H9.out.at_ (i := 0) rfl
    have q1 := H9.out.at_ (i := 1) rfl
    have q2 := H9.out.at_ (i := 2) rfl
    have q3 := H9.out.at_ (i := 3) rfl
    exact bodyPost_ret (v := .tuple #[descV 0 none 0 0 0 none 0 0, .int .i64 40]) (by simp [results, Tryz.results59, go_sem, q0, q1, q2, q3]) rfl ⟨_, rfl, DescIs.none_ _ _, HB9.out⟩
  | some d =>
    obtain ⟨z, ps, e, es⟩ := d
    obtain rfl : v = .nilIface := by
      rcases HV.out with h | ⟨h, _⟩
      · exact h.2
      · exact absurd rfl h
    simp only [dsc0, Option.getD_some] at *
    have h4 := HD4.out
    have d0 := h4.at_ (i := 0) rfl
    have d1 := h4.at_ (i := 1) rfl
    have d2 := h4.at_ (i := 2) rfl
    have d3 := h4.at_ (i := 3) rfl
    have h2 := H21.out
    have c0 := h2.at_ (i := 0) rfl
    have c1 := h2.at_ (i := 1) rfl
    have c2 := h2.at_ (i := 2) rfl
    have c3 := h2.at_ (i := 3) rfl
    have f0 := h2.frozen 0
    have f1 := h2.frozen 1
    have f2 := h2.frozen 2
    have f3 := h2.frozen 3
    have H9 := Lib.hid (h2.set4 (.int .i64 z) (.slice P m c) (.int .i64 e) (.slice Q q f))
    have HB9 := Lib.hid (below_set4 HB1.out (Nat.le_refl _) (.int .i64 z) (.slice P m c) (.int .i64 e) (.slice Q q f))
    have HPZ := Lib.hid (HP.out.far (g := w.heap.size) (fun a e => by have h1 := HPF.out a e; have h2 := HZ.out; omega) (fun b hb => heap_set4 _ hb (.int .i64 z) (.slice P m c) (.int .i64 e) (.slice Q q f)))
    have HQZ := Lib.hid (HQ.out.far (g := w.heap.size) (fun a e => by have h1 := HQF.out a e; have h2 := HZ.out; omega) (fun b hb => heap_set4 _ hb (.int .i64 z) (.slice P m c) (.int .i64 e) (.slice Q q f)))
    clear h4 h2
    go_upto_region 2 with fail
    generalize w1.alloc (descO z P m c e Q q f) = W1 at *
    go_wp2
    have q0 := H9.out.at_ (i := 0) rfl
    have q1 := H9.out.at_ (i := 1) rfl
    have q2 := H9.out.at_ (i := 2) rfl
    have q3 := H9.out.at_ (i := 3) rfl
    exact bodyPost_ret (v := .tuple #[descV z P m c e Q q f, .int .i64 0]) (by simp [results, Tryz.results59, go_sem, q0, q1, q2, q3]) rfl ⟨_, rfl, ⟨P, m, c, Q, q, f, rfl, HPZ.out, HQZ.out, fun a e => by have h1 := HPF.out a e; have h2 := HZ.out; omega, fun a e => by have h1 := HQF.out a e; have h2 := HZ.out; omega⟩, HB9.out⟩

end Go.Proofs.YtmabokmnniiadaaGreatDoor
