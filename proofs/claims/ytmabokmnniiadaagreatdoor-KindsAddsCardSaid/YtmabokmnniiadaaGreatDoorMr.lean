/-
  What is proved: contracts of Add and Of of package kinds. No condition beyond those stated.
-/
import Derived.Test.YtmabokmnniiadaaGreatDoorMq
import Derived.Test.YtmabokmnniiadaaGreatDoorCg
import Derived.Test.YtmabokmnniiadaaGreatDoorCp
namespace Go.Proofs.YtmabokmnniiadaaGreatDoor
open Go.RowKit

/-- Kinds, a number, and what is told. -/
def GivesK (w : World) (r : List DscK × Nat × Nat) (x : Ending) (w' : World) : Prop :=
  ∃ A n c, x = .returned (.tuple #[.slice A n c, .int .i64 (r.2.1 : Nat), .int .i64 (r.2.2 : Nat)]) ∧ RowD w' A n r.1 ∧ (∀ a, A = some a → w.heap.size ≤ a.block) ∧ Below w.heap.size w w'
theorem GivesK.none_ {w w' : World} (k c : Nat) (hb : Below w.heap.size w w') : GivesK w ([], k, c) (.returned (.tuple #[.slice none 0 0, .int .i64 (k : Nat), .int .i64 (c : Nat)])) w' :=
  ⟨none, 0, 0, rfl, RowD.none_, (fun _ h => by cases h), hb⟩

theorem kNo_iff (ds : List DscK) : (kNo ds = 0 ∧ kRight ds = true) ∨ (kNo ds = 50 ∧ kRight ds = false) := by
  unfold kNo
  cases kRight ds
  · exact .inr ⟨rfl, rfl⟩
  · exact .inl ⟨rfl, rfl⟩
theorem rowD_one (w : World) (z : Int) (P : Option Addr) (m c : Nat) (e : Int) (Q : Option Addr) (q f : Nat) (ps es : List Int) (hP : Row w P m (ps.map Iv)) (hQ : Row w Q q (es.map Iv)) :
    RowD (w.alloc (descO z P m c e Q q f)) (some ⟨w.heap.size, 0, none⟩) 1 [(z, ps, e, es)] := by
  have hx := below_box w (descO z P m c e Q q f)
  have h1 : Blk (w.alloc (descO z P m c e Q q f)) w.heap.size 35 #[.int .i64 z, .slice P m c, .int .i64 e, .slice Q q f] := Blk.new _ _ _
  refine ⟨rfl, fun _ => ⟨w.heap.size, 0, rfl, fun k d hd => ?_⟩⟩
  have hk : k = 0 := by
    have := (List.getElem?_eq_some_iff.1 hd).1
    simp at this
    omega
  subst hk
  simp at hd
  subst hd
  exact ⟨P, m, c, Q, q, f, h1.at_ (i := 0) rfl, h1.at_ (i := 1) rfl, h1.at_ (i := 2) rfl, h1.at_ (i := 3) rfl, hP.ext hx, hQ.ext hx⟩

set_option maxRecDepth 100000 in
set_option maxHeartbeats 4000000 in
/-- Add. -/
theorem add_any (A : Option Addr) (n c : Nat) (ds : List DscK) (d : DscK) (P Q : Option Addr) (m c' q f : Nat) (w : World) (hR : RowD w A n ds) (hs : Sm ds) (hn : n ≤ 1000) (hP : Row w P m (d.2.1.map Iv)) (hQ : Row w Q q (d.2.2.2.map Iv)) (hd : sm1 d) (ht : Tab w) (hE : EType w) :
    Calls Tryz.prog 22 #[.slice A n c, descV d.1 P m c' d.2.2.1 Q q f] w (GivesK w (kAdd ds d)) := by
  obtain ⟨z, ps, e, es⟩ := d
  dsimp only at hP hQ ⊢
  have hlen := hR.1
  have hl1 := hP.1
  have hl2 := hQ.1
  simp at hl1 hl2
  have hm : m ≤ 1000 := by have := hd.1; dsimp only at this; omega
  have hq : q ≤ 1000 := by have := hd.2; dsimp only at this; omega
  have hx := below_box w (descO z P m c' e Q q f)
  have h1 : Blk (w.alloc (descO z P m c' e Q q f)) w.heap.size 35 #[.int .i64 z, .slice P m c', .int .i64 e, .slice Q q f] := Blk.new _ _ _
  have r1 : kRight ds = false → kAdd ds (z, ps, e, es) = ([], 0, 50) := fun h => by unfold kAdd; rw [if_pos h]
  have r2 : kRight ds = true → dRight z ps e es = false → kAdd ds (z, ps, e, es) = ([], 0, 40) := fun h h2 => by unfold kAdd; rw [if_neg (by rw [h]; simp), if_pos (show dR (z, ps, e, es) = false from h2)]
  have r3 : kRight ds = true → dRight z ps e es = true → 0 < kFind ds (z, ps, e, es) → kAdd ds (z, ps, e, es) = (ds, kFind ds (z, ps, e, es), 0) := fun h h2 h3 => by unfold kAdd; rw [if_neg (by rw [h]; simp), if_neg (by rw [show dR (z, ps, e, es) = true from h2]; simp), if_pos (by omega)]
  have r4 : kRight ds = true → dRight z ps e es = true → ¬ 0 < kFind ds (z, ps, e, es) → 60 ≤ n → kAdd ds (z, ps, e, es) = ([], 0, 53) := fun h h2 h3 h4 => by unfold kAdd; rw [if_neg (by rw [h]; simp), if_neg (by rw [show dR (z, ps, e, es) = true from h2]; simp), if_neg (by omega), if_pos (by omega)]
  have r5 : kRight ds = true → dRight z ps e es = true → ¬ 0 < kFind ds (z, ps, e, es) → ¬ 60 ≤ n → kAdd ds (z, ps, e, es) = (ds ++ [(z, ps, e, es)], n + 1, 0) := fun h h2 h3 h4 => by unfold kAdd; rw [if_neg (by rw [h]; simp), if_neg (by rw [show dR (z, ps, e, es) = true from h2]; simp), if_neg (by omega), if_neg (by omega), hlen]
  have hno := kNo_iff ds
  have hchk := check_any A n c ds (w.alloc (descO z P m c' e Q q f)) (hR.ext hx) hs hn (tab_ext ht hx)
  have hright := fun w1 h1 h2 => dright_any z e P Q m c' q f ps es w1 h1 h2 hm hq
  have hfind := fun w1 h0 h1 h2 => kfind_any A n c ds (z, ps, e, es) P Q m c' q f w1 h0 hs hn h1 h2 hd
  have hj0 := fun w1 h0 => join_any A none n c 0 0 ds [] w1 h0 RowD.none_ hs Sm.nil hn (by omega)
  have hj1 := fun B w1 h0 h1 => join_any A B n c 1 1 ds [(z, ps, e, es)] w1 h0 h1 hs (fun x hx => by rw [List.mem_singleton.1 hx]; exact hd) hn (by omega)
  rw [List.append_nil] at hj0
  have hro := rowD_one
  generalize kAdd ds (z, ps, e, es) = r at *
  generalize kFind ds (z, ps, e, es) = kf at *
  generalize dRight z ps e es = rt at *
  have R1 := Lib.hid r1
  have R2 := Lib.hid r2
  have R3 := Lib.hid r3
  have R4 := Lib.hid r4
  have R5 := Lib.hid r5
  have NO := Lib.hid hno
  have HCH := Lib.hid hchk
  have HRI := Lib.hid hright
  have HFI := Lib.hid hfind
  have HJ0 := Lib.hid hj0
  have HJ1 := Lib.hid hj1
  have HT := Lib.hid (tab_ext ht hx)
  have HE := Lib.hid (hE.ext hx)
  have HR := Lib.hid (hR.ext hx)
  have HP := Lib.hid (hP.ext hx)
  have HQ := Lib.hid (hQ.ext hx)
  have HB := Lib.hid hx
  have H1 := Lib.hid h1
  clear r1 r2 r3 r4 r5 hno hchk hright hfind hj0 hj1 ht hE hR hP hQ hx h1 hlen hl1 hl2 hd hs
  go_enter Tryz.func22, Tryz.ntmps22
  go_wp2_with fail
  generalize w.alloc (descO z P m c' e Q q f) = W0 at *
  refine HCH.out.mono ?_
  rintro x w1 ⟨v, rfl, hv, hb1⟩
  replace HE := Lib.hid (HE.out.ext hb1)
  replace HR := Lib.hid (HR.out.ext hb1)
  replace HP := Lib.hid (HP.out.ext hb1)
  replace HQ := Lib.hid (HQ.out.ext hb1)
  replace H1 := Lib.hid (H1.out.ext hb1)
  replace HB := Lib.hid (below_le HB.out hb1)
  clear hb1 HCH HT
  rcases NO.out with ⟨hk, hkr⟩ | ⟨hk, hkr⟩
  case inr =>
    rw [hk] at hv
    obtain rfl := R1.out hkr
    clear hk hkr
    have HV := Lib.hid (number_kinds 50 v w1 hv HE.out)
    rcases hv with ⟨h0, -⟩ | ⟨-, t, u, rfl, -, -⟩
    · cases h0
    · go_wp2_with fail
      refine HV.out.mono ?_
      rintro x w2 ⟨rfl, hb2⟩
      replace HB := Lib.hid (below_le HB.out hb2)
      clear hb2 HV
      go_wp2
      go_ret3
      exact GivesK.none_ 0 50 HB.out
  case inl =>
    rw [hk] at hv
    rcases hv with ⟨-, rfl⟩ | ⟨h0, -⟩
    case inr => exact absurd rfl h0
    have HKR := Lib.hid hkr
    clear hk hkr
    have a0 := H1.out.at_ (i := 0) rfl
    have a1 := H1.out.at_ (i := 1) rfl
    have a2 := H1.out.at_ (i := 2) rfl
    have a3 := H1.out.at_ (i := 3) rfl
    go_wp2_with fail
    refine (HRI.out w1 HP.out HQ.out).mono ?_
    rintro x w2 ⟨rfl, hb2⟩
    replace a0 := cell_ext hb2 a0; replace a1 := cell_ext hb2 a1; replace a2 := cell_ext hb2 a2; replace a3 := cell_ext hb2 a3; replace HR := Lib.hid (HR.out.ext hb2); replace HP := Lib.hid (HP.out.ext hb2); replace HQ := Lib.hid (HQ.out.ext hb2)
    replace HE := Lib.hid (HE.out.ext hb2)
    replace HB := Lib.hid (below_le HB.out hb2)
    clear hb2 HRI H1
    cases rt
    · obtain rfl := R2.out HKR.out rfl
      clear R1 R2 R3 R4 R5 HJ0 HJ1 HFI
      go_wp2_with fail
      refine (refuse_kinds _ 40 (by decide) w2).mono ?_
      rintro x w3 ⟨v, rfl, hv, hb3⟩
      have HV := Lib.hid (number_kinds 40 v w3 hv (HE.out.ext hb3))
      replace HB := Lib.hid (below_le HB.out hb3)
      clear hb3 hv
      go_wp2_with fail
      refine HV.out.mono ?_
      rintro x w4 ⟨rfl, hb4⟩
      replace HB := Lib.hid (below_le HB.out hb4)
      clear hb4 HV
      go_wp2
      go_ret3
      exact GivesK.none_ 0 40 HB.out
    · go_wp2_with fail
      refine (HFI.out w2 HR.out HP.out HQ.out).mono ?_
      rintro x w3 ⟨rfl, hb3⟩
      replace a0 := cell_ext hb3 a0; replace a1 := cell_ext hb3 a1; replace a2 := cell_ext hb3 a2; replace a3 := cell_ext hb3 a3; replace HR := Lib.hid (HR.out.ext hb3); replace HP := Lib.hid (HP.out.ext hb3); replace HQ := Lib.hid (HQ.out.ext hb3)
      replace HE := Lib.hid (HE.out.ext hb3)
      replace HB := Lib.hid (below_le HB.out hb3)
      clear hb3 HFI
      by_cases hf : 0 < kf
      · obtain rfl := R3.out HKR.out trivial hf
        rw [decide_eq_true hf]
        clear R1 R2 R3 R4 R5 HJ1 hf
        go_wp2_with fail
        refine (HJ0.out w3 HR.out).mono ?_
        rintro x w4 ⟨B, k, d, rfl, hB, hfar, hb4, -⟩
        have HF := Lib.hid (show ∀ a, B = some a → w.heap.size ≤ a.block from fun a e => Nat.le_trans HB.out.size (hfar a e))
        have HBR := Lib.hid hB
        replace HB := Lib.hid (below_le HB.out hb4)
        clear hb4 hB hfar HJ0
        go_wp2
        go_ret3
        exact ⟨B, k, d, rfl, HBR.out, HF.out, HB.out⟩
      · rw [decide_eq_false hf]
        by_cases h60 : 60 ≤ n
        · obtain rfl := R4.out HKR.out trivial hf h60
          clear R1 R2 R3 R4 R5 HJ0 HJ1 hf
          go_wp2_with fail
          refine (refuse_kinds _ 53 (by decide) w3).mono ?_
          rintro x w4 ⟨v, rfl, hv, hb4⟩
          have HV := Lib.hid (number_kinds 53 v w4 hv (HE.out.ext hb4))
          replace HB := Lib.hid (below_le HB.out hb4)
          clear hb4 hv
          go_wp2_with fail
          refine HV.out.mono ?_
          rintro x w5 ⟨rfl, hb5⟩
          replace HB := Lib.hid (below_le HB.out hb5)
          clear hb5 HV
          go_wp2
          go_ret3
          exact GivesK.none_ 0 53 HB.out
        · obtain rfl := R5.out HKR.out trivial hf h60
          clear R1 R2 R3 R4 R5 HJ0 hf
          go_wp2_with fail
          have hy := below_box w3 (descO z P m c' e Q q f)
          have hro1 := hro w3 z P m c' e Q q f ps es HP.out HQ.out
          have HRO := Lib.hid hro1
          replace HR := Lib.hid (HR.out.ext hy)
          replace HB := Lib.hid (below_le HB.out hy)
          clear hy hro1 hro
          refine (HJ1.out _ _ HR.out HRO.out).mono ?_
          rintro x w4 ⟨B, k, d, rfl, hB, hfar, hb4, -⟩
          have HF := Lib.hid (show ∀ a, B = some a → w.heap.size ≤ a.block from fun a e => Nat.le_trans HB.out.size (hfar a e))
          have HBR := Lib.hid hB
          replace HB := Lib.hid (below_le HB.out hb4)
          clear hb4 hB hfar HJ1 HRO HR HP HQ
          go_wp2
          go_ret3
          exact ⟨B, k, d, by simp, HBR.out, HF.out, HB.out⟩

/-- A descriptor, and what is told. -/
def GivesOf (w : World) (r : DscK × Nat) (x : Ending) (w' : World) : Prop :=
  ∃ v, x = .returned (.tuple #[v, .int .i64 (r.2 : Nat)]) ∧ DescIs 0 w' v r.1.1 r.1.2.1 r.1.2.2.1 r.1.2.2.2 ∧ Below w.heap.size w w'

set_option maxRecDepth 100000 in
set_option maxHeartbeats 4000000 in
/-- Of. -/
theorem of_any (A : Option Addr) (n c : Nat) (ds : List DscK) (kind : Int) (w : World) (hR : RowD w A n ds) (hs : Sm ds) (hn : n ≤ 1000) (ht : Tab w) (hE : EType w) :
    Calls Tryz.prog 17 #[.slice A n c, .int .i64 kind] w (GivesOf w (kOf ds kind)) := by
  have hlen := hR.1
  have hx := below_box w (descO 0 none 0 0 0 none 0 0)
  have h1 : Blk (w.alloc (descO 0 none 0 0 0 none 0 0)) w.heap.size 35 #[.int .i64 0, .slice none 0 0, .int .i64 0, .slice none 0 0] := Blk.new _ _ _
  have r1 : kRight ds = false → kOf ds kind = (dsc0K, 50) := fun h => by unfold kOf; rw [if_pos h]
  have r2 : kRight ds = true → (kind < 1 ∨ (n : Int) < kind) → kOf ds kind = (dsc0K, 51) := fun h h2 => by unfold kOf; rw [if_neg (by rw [h]; simp), if_pos (by rw [hlen]; exact h2)]
  have r3 : kRight ds = true → ∀ (k : Nat) (d : DscK), kind = (k : Int) + 1 → ds[k]? = some d → kOf ds kind = (d, 0) := fun h k d h2 h3 => by
    rw [h2]
    exact kOf_at (n := k + 1) h (by omega) h3
  have hno := kNo_iff ds
  have hchk := check_any A n c ds (w.alloc (descO 0 none 0 0 0 none 0 0)) (hR.ext hx) hs hn (tab_ext ht hx)
  generalize kOf ds kind = r at *
  have R1 := Lib.hid r1
  have R2 := Lib.hid r2
  have R3 := Lib.hid r3
  have NO := Lib.hid hno
  have HCH := Lib.hid hchk
  have HE := Lib.hid (hE.ext hx)
  have HR := Lib.hid (hR.ext hx)
  have HS := Lib.hid hs
  have HB := Lib.hid hx
  have H1 := Lib.hid h1
  clear r1 r2 r3 hno hchk ht hE hR hx h1 hlen hs
  go_enter Tryz.func17, Tryz.ntmps17
  go_wp2_with fail
  generalize w.alloc (descO 0 none 0 0 0 none 0 0) = W0 at *
  refine HCH.out.mono ?_
  rintro x w1 ⟨v, rfl, hv, hb1⟩
  replace HE := Lib.hid (HE.out.ext hb1)
  replace HR := Lib.hid (HR.out.ext hb1)
  replace H1 := Lib.hid (H1.out.ext hb1)
  replace HB := Lib.hid (below_le HB.out hb1)
  clear hb1 HCH
  rcases NO.out with ⟨hk, hkr⟩ | ⟨hk, hkr⟩
  case inr =>
    rw [hk] at hv
    obtain rfl := R1.out hkr
    clear hk hkr
    have HV := Lib.hid (number_kinds 50 v w1 hv HE.out)
    rcases hv with ⟨h0, -⟩ | ⟨-, t, u, rfl, -, -⟩
    · cases h0
    · go_wp2_with fail
      refine HV.out.mono ?_
      rintro x w2 ⟨rfl, hb2⟩
      have h2 := H1.out.ext hb2
      have HB2 := Lib.hid (below_le HB.out hb2)
      clear hb2 HV HB H1
      have c0 := h2.at_ (i := 0) rfl
      have c1 := h2.at_ (i := 1) rfl
      have c2 := h2.at_ (i := 2) rfl
      have c3 := h2.at_ (i := 3) rfl
      have f0 := h2.frozen 0
      have f1 := h2.frozen 1
      have f2 := h2.frozen 2
      have f3 := h2.frozen 3
      have H9 := Lib.hid (h2.set4 (.int .i64 0) (.slice none 0 0) (.int .i64 0) (.slice none 0 0))
      have HB9 := Lib.hid (below_set4 HB2.out (Nat.le_refl _) (.int .i64 0) (.slice none 0 0) (.int .i64 0) (.slice none 0 0))
      clear h2
      go_wp2
      have q0 := H9.out.at_ (i := 0) rfl
      have q1 := H9.out.at_ (i := 1) rfl
      have q2 := H9.out.at_ (i := 2) rfl
      have q3 := H9.out.at_ (i := 3) rfl
      exact bodyPost_ret (v := .tuple #[descV 0 none 0 0 0 none 0 0, .int .i64 50]) (by simp [results, Tryz.results17, go_sem, q0, q1, q2, q3]) rfl ⟨_, rfl, DescIs.none_ _ _, HB9.out⟩
  case inl =>
    rw [hk] at hv
    rcases hv with ⟨-, rfl⟩ | ⟨h0, -⟩
    case inr => exact absurd rfl h0
    have HKR := Lib.hid hkr
    clear hk hkr
    by_cases hbad : kind < 1 ∨ (n : Int) < kind
    · obtain rfl := R2.out HKR.out hbad
      have hgt : (decide (kind < 1) = true) ∨ (decide (kind < 1) = false ∧ (n : Int) < kind) := by
        by_cases h : kind < 1
        · exact .inl (decide_eq_true h)
        · exact .inr ⟨decide_eq_false h, by omega⟩
      clear hbad
      rcases hgt with hlt | ⟨hlt, hgt⟩
      · go_wp2_with fail
        refine (refuse_kinds _ 51 (by decide) w1).mono ?_
        rintro x w2 ⟨v, rfl, hv, hb2⟩
        have HV := Lib.hid (number_kinds 51 v w2 hv (HE.out.ext hb2))
        have H2 := Lib.hid (H1.out.ext hb2)
        replace HB := Lib.hid (below_le HB.out hb2)
        clear hb2 hv H1
        go_wp2_with fail
        refine HV.out.mono ?_
        rintro x w3 ⟨rfl, hb3⟩
        have h2 := H2.out.ext hb3
        have HB2 := Lib.hid (below_le HB.out hb3)
        clear hb3 HV HB H2
        have c0 := h2.at_ (i := 0) rfl
        have c1 := h2.at_ (i := 1) rfl
        have c2 := h2.at_ (i := 2) rfl
        have c3 := h2.at_ (i := 3) rfl
        have f0 := h2.frozen 0
        have f1 := h2.frozen 1
        have f2 := h2.frozen 2
        have f3 := h2.frozen 3
        have H9 := Lib.hid (h2.set4 (.int .i64 0) (.slice none 0 0) (.int .i64 0) (.slice none 0 0))
        have HB9 := Lib.hid (below_set4 HB2.out (Nat.le_refl _) (.int .i64 0) (.slice none 0 0) (.int .i64 0) (.slice none 0 0))
        clear h2
        go_wp2
        have q0 := H9.out.at_ (i := 0) rfl
        have q1 := H9.out.at_ (i := 1) rfl
        have q2 := H9.out.at_ (i := 2) rfl
        have q3 := H9.out.at_ (i := 3) rfl
        exact bodyPost_ret (v := .tuple #[descV 0 none 0 0 0 none 0 0, .int .i64 51]) (by simp [results, Tryz.results17, go_sem, q0, q1, q2, q3]) rfl ⟨_, rfl, DescIs.none_ _ _, HB9.out⟩
      · go_wp2_with fail
        refine (refuse_kinds _ 51 (by decide) w1).mono ?_
        rintro x w2 ⟨v, rfl, hv, hb2⟩
        have HV := Lib.hid (number_kinds 51 v w2 hv (HE.out.ext hb2))
        have H2 := Lib.hid (H1.out.ext hb2)
        replace HB := Lib.hid (below_le HB.out hb2)
        clear hb2 hv H1
        go_wp2_with fail
        refine HV.out.mono ?_
        rintro x w3 ⟨rfl, hb3⟩
        have h2 := H2.out.ext hb3
        have HB2 := Lib.hid (below_le HB.out hb3)
        clear hb3 HV HB H2
        have c0 := h2.at_ (i := 0) rfl
        have c1 := h2.at_ (i := 1) rfl
        have c2 := h2.at_ (i := 2) rfl
        have c3 := h2.at_ (i := 3) rfl
        have f0 := h2.frozen 0
        have f1 := h2.frozen 1
        have f2 := h2.frozen 2
        have f3 := h2.frozen 3
        have H9 := Lib.hid (h2.set4 (.int .i64 0) (.slice none 0 0) (.int .i64 0) (.slice none 0 0))
        have HB9 := Lib.hid (below_set4 HB2.out (Nat.le_refl _) (.int .i64 0) (.slice none 0 0) (.int .i64 0) (.slice none 0 0))
        clear h2
        go_wp2
        have q0 := H9.out.at_ (i := 0) rfl
        have q1 := H9.out.at_ (i := 1) rfl
        have q2 := H9.out.at_ (i := 2) rfl
        have q3 := H9.out.at_ (i := 3) rfl
        exact bodyPost_ret (v := .tuple #[descV 0 none 0 0 0 none 0 0, .int .i64 51]) (by simp [results, Tryz.results17, go_sem, q0, q1, q2, q3]) rfl ⟨_, rfl, DescIs.none_ _ _, HB9.out⟩
    · obtain ⟨k, rfl⟩ : ∃ k : Nat, kind = (k : Int) + 1 := ⟨(kind - 1).toNat, by omega⟩
      have hkn : k < n := by omega
      obtain ⟨b, off, z, P, m, c', e, Q, q, f, ps, es, rfl, hd, p1, p2, d0, d1, d2, d3⟩ := HR.out.get hkn
      obtain rfl := R3.out HKR.out k _ rfl hd
      have hsm := HS.out _ (List.mem_of_getElem? hd)
      have e1 : (k : Int) + 1 - 1 = (k : Int) := by omega
      have g1 : decide ((k : Int) + 1 < 1) = false := decide_eq_false (by omega)
      have g2 : decide ((n : Int) < (k : Int) + 1) = false := decide_eq_false (by omega)
      have hjn := fun B W h => join_any none B 0 0 1 1 [] [(z, ps, e, es)] W RowD.none_ h Sm.nil (fun x hx => by rw [List.mem_singleton.1 hx]; exact hsm) (by omega) (by omega)
      have HJN := Lib.hid hjn
      have HRO := Lib.hid (rowD_one w1 z P m c' e Q q f ps es p1 p2)
      have HY := Lib.hid (below_box w1 (descO z P m c' e Q q f))
      clear hbad R1 R2 R3 hjn hsm hd p1 p2 HR NO
      go_wp2_with fail
      clear d0 d1 d2 d3
      refine (HJN.out _ _ HRO.out).mono ?_
      rintro x w2 ⟨B, kk, dd, rfl, -, hfar, hb2, ms, hB, hint⟩
      have hk1 : kk = 1 := hB.1.symm
      subst hk1
      rw [List.nil_append] at hB
      obtain ⟨b2, off2, z2, P2, m2, cP, y2, Q2, qq, fQ, ps2, es2, rfl, hms, hd, p1, p2, d0, d1, d2, d3⟩ := hB.get (k := 0) (by omega)
      simp only [List.getElem?_cons_zero, Option.some.injEq, Prod.mk.injEq] at hd
      obtain ⟨rfl, rfl, rfl, rfl⟩ := hd
      have hint2 := hint _ (List.mem_of_getElem? hms)
      simp only [Nat.zero_mul, Nat.add_zero] at d0 d1 d2 d3
      have hne : b2 ≠ w.heap.size := by
        have h1 := hfar _ rfl
        have h2 := HY.out.size
        have h3 := (H1.out.lt : w.heap.size < w1.heap.size)
        dsimp only at h1
        omega
      have h2 := (H1.out.ext (below_le HY.out hb2))
      have HB2 := Lib.hid (below_le HB.out (below_le HY.out hb2))
      have HP1 := Lib.hid p1
      have HP2 := Lib.hid p2
      have HI := Lib.hid (show ∀ b ∈ blkR P2 m2 ++ blkR Q2 qq, b ≠ w.heap.size from fun b hb e => by
        obtain ⟨cs, hcs⟩ := hint2 b hb
        subst e
        unfold Blk at hcs
        have h2' : w2.heap[w.heap.size]? = _ := h2
        rw [hcs] at h2'
        injection h2' with h2'
        injection h2' with _ h2'
        exact absurd h2' (by decide))
      clear hb2 hfar hB HRO HJN HY HB H1 p1 p2 hint hint2 hms
      have c0 := h2.at_ (i := 0) rfl
      have c1 := h2.at_ (i := 1) rfl
      have c2 := h2.at_ (i := 2) rfl
      have c3 := h2.at_ (i := 3) rfl
      have f0 := h2.frozen 0
      have f1 := h2.frozen 1
      have f2 := h2.frozen 2
      have f3 := h2.frozen 3
      have H9 := Lib.hid (h2.set4 (.int .i64 z) (.slice P2 m2 cP) (.int .i64 e) (.slice Q2 qq fQ))
      have HB9 := Lib.hid (below_set4 HB2.out (Nat.le_refl _) (.int .i64 z) (.slice P2 m2 cP) (.int .i64 e) (.slice Q2 qq fQ))
      clear h2
      go_wp2
      have q0 := H9.out.at_ (i := 0) rfl
      have q1 := H9.out.at_ (i := 1) rfl
      have q2 := H9.out.at_ (i := 2) rfl
      have q3 := H9.out.at_ (i := 3) rfl
      have hk : KeepB (blkR P2 m2 ++ blkR Q2 qq) w2 ((((w2.setCell ⟨w.heap.size, 0, none⟩ (.int .i64 z)).setCell ⟨w.heap.size, 1, none⟩ (.slice P2 m2 cP)).setCell ⟨w.heap.size, 2, none⟩ (.int .i64 e)).setCell ⟨w.heap.size, 3, none⟩ (.slice Q2 qq fQ)) := fun b hb => heap_set4 w2 (HI.out b hb) _ _ _ _
      exact bodyPost_ret (v := .tuple #[descV z P2 m2 cP e Q2 qq fQ, .int .i64 0]) (by simp [results, Tryz.results17, go_sem, q0, q1, q2, q3]) rfl ⟨_, rfl, ⟨P2, m2, cP, Q2, qq, fQ, rfl, hk.rowR HP1.out (fun b hb => List.mem_append_left _ hb), hk.rowR HP2.out (fun b hb => List.mem_append_right _ hb), fun _ _ => Nat.zero_le _, fun _ _ => Nat.zero_le _⟩, HB9.out⟩
end Go.Proofs.YtmabokmnniiadaaGreatDoor
