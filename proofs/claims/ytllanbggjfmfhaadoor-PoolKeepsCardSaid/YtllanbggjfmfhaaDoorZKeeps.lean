/-
  What is proved: PoolKeeps returns true. No condition beyond those stated. contracts of those functions that this program has, and plain facts beside them. No condition beyond those stated. the row of PoolKeeps, and its tied card: whatever the input, true; the input reads as it did. No condition beyond the statement's own.
-/
import Derived.Test.YtllanbggjfmfhaaDoorIc
import Derived.Test.YtllanbggjfmfhaaDoorId
import Derived.Test.YtllanbggjfmfhaaDoorIa
import Derived.Test.YtllanbggjfmfhaaDoorCards
import Derived.Test.YtllanbggjfmfhaaDoorTie
import Derived.ProofKit
import Derived.OpenShut
import Derived.Below
import Derived.ChangeSame
import Derived.WideKeyArgs
import Derived.LaidMore
import Derived.LaidHandle
import Derived.MakeChecks
import Derived.Stop.Joined
import Derived.Stop.LaidErr
import Derived.Stop.LaidTwo
import Derived.Lib.SmallJoins
import Derived.Deep.Matrix
import Derived.Deep.DeepHandedRow
import Derived.Deep.DeepWitnessRowRef
namespace Go.Proofs.YtllanbggjfmfhaaDoor
open Go.RowKit Go.Shelf

set_option maxRecDepth 100000 in
set_option maxHeartbeats 4000000 in
theorem poolKeeps_any (S : Option Addr) (m c : Nat) (T : Option Addr) (k d : Nat) (l : List Int) (ts : List (List Int)) (n : Int) (aS aR : Addr) (w : World) (hRS : RSent w aS aR) (hE : EType w) (hmc : m ≤ c) (hS : Row w S m (l.map Iv)) (hT : TabsU w T k ts) (hk : k ≤ 9223372036854775807) :
    Calls Tryd.prog 3 #[.agg #[.slice S m c, .slice T k d], .int .i64 n] w (Holds w) := by
  have hx := below_box w (.cells #[.slice S m c, .slice T k d] 25)
  have hbl : Blk (w.alloc (.cells #[.slice S m c, .slice T k d] 25)) w.heap.size 25 #[.slice S m c, .slice T k d] := heap_new rfl _
  have k0 := pbox0 w 25 (.slice S m c) (.slice T k d)
  have k1 := pbox1 w 25 (.slice S m c) (.slice T k d)
  have HRS := Lib.hid hRS
  have HE := Lib.hid hE
  have HB := Lib.hid hx
  have HBL := Lib.hid hbl
  have HR0 := Lib.hid (row_few hS)
  have HT0 := Lib.hid hT
  have hm34 : min m 34 ≤ 34 := Nat.min_le_right _ _
  clear hRS hE hx hbl hS hT
  go_enter Tryd.func3, Tryd.ntmps3
  go_wp2_with fail
  generalize w.alloc (.cells #[.slice S m c, .slice T k d] 25) = W0 at *
  refine (pshown_any aS aR W0 (HRS.out.ext HB.out) (HE.out.ext HB.out)).mono ?_
  rintro e w1 ⟨rfl, hb1⟩
  replace k0 := cell_ext hb1 k0
  replace k1 := cell_ext hb1 k1
  replace HBL := Lib.hid (HBL.out.ext hb1)
  replace HB := Lib.hid (below_le HB.out hb1)
  clear hb1
  have hlt0 := HBL.out.lt
  go_wp2_with fail
  refine (cut10_any S m c T k d ts w w1 HB.out hmc HT0.out hk).mono ?_
  rintro e w2 ⟨T', k', d', rfl, hk34, htc, hb2⟩
  generalize min m 34 = m' at *
  have h2 := HBL.out.ext hb2
  have f0 := h2.frozen 0
  have f1 := h2.frozen 1
  have d0 := h2.cell 0
  have d1 := h2.cell 1
  have h3 := (h2.set_ 0 (.slice S m' c)).set_ 1 (.slice T' k' d')
  have hb3 : Below w.heap.size w ((w2.setCell ⟨w.heap.size, 0, none⟩ (.slice S m' c)).setCell ⟨w.heap.size, 1, none⟩ (.slice T' k' d')) :=
    ((below_le HB.out hb2).setCell (p := ⟨w.heap.size, 0, none⟩) (Nat.le_refl _) _).setCell (p := ⟨w.heap.size, 1, none⟩) (Nat.le_refl _) _
  have ht3 := ((htc.far (p := ⟨w.heap.size, 0, none⟩) (Nat.le_refl _) hlt0 (.slice S m' c)).far (p := ⟨w.heap.size, 1, none⟩) (Nat.le_refl _) hlt0 (.slice T' k' d')).tabs
  replace k0 := h3.cell 0
  replace k1 := h3.cell 1
  simp at k0 k1 d0 d1
  have HT := Lib.hid ht3
  have HR := Lib.hid (HR0.out.ext hb3)
  replace HB := Lib.hid hb3
  generalize l.take 34 = l at *
  generalize cutTs ts = ts at *
  clear h2 h3 hb2 hb3 htc ht3 HBL HR0 HT0 hlt0 hmc
  go_wp2_with fail
  generalize (w2.setCell ⟨w.heap.size, 0, none⟩ (.slice S m' c)).setCell ⟨w.heap.size, 1, none⟩ (.slice T' k' d') = W3 at *
  clear f0 f1 d0 d1
  have hll : l.length ≤ 34 := by have h := HR.out.1; simp at h; omega
  have htl : ts.length ≤ 34 := by have h := HT.out.1; omega
  refine (takeFree_any S m' c T' k' d' l ts W3 HR.out HT.out (by omega) (by omega)).mono ?_
  rintro e w4 ⟨v_, rfl, hp_, hb_⟩
  obtain ⟨Sa, ma, ca, Ta, ka, da, rfl, hR_, hT_, -⟩ := hp_.read
  have hma : ma ≤ 1000 := by have h_ := hR_.1; rw [List.length_map] at h_; have h2_ := takeL_len l ts 0; omega
  have hka : ka ≤ 1000 := by have h_ := hT_.1; have h2_ := takeT_len l ts 0; omega
  replace k0 := cell_ext hb_ k0
  replace k1 := cell_ext hb_ k1
  replace HR := Lib.hid (HR.out.ext hb_)
  replace HT := Lib.hid (HT.out.ext hb_)
  have Ra := Lib.hid hR_
  have Tah := Lib.hid hT_
  replace HB := Lib.hid (below_le HB.out hb_)
  clear hp_ hR_ hT_ hb_
  have hx_ := below_box w4 (.cells #[.slice Sa ma ca, .slice Ta ka da] 25)
  replace k0 := cell_ext hx_ k0
  replace k1 := cell_ext hx_ k1
  replace HR := Lib.hid (HR.out.ext hx_)
  replace HT := Lib.hid (HT.out.ext hx_)
  replace Ra := Lib.hid (Ra.out.ext hx_)
  replace Tah := Lib.hid (Tah.out.ext hx_)
  have a0 := pbox0 w4 25 (.slice Sa ma ca) (.slice Ta ka da)
  have a1 := pbox1 w4 25 (.slice Sa ma ca) (.slice Ta ka da)
  replace HB := Lib.hid (below_le HB.out hx_)
  clear hx_
  go_wp2_with fail
  generalize w4.alloc (.cells #[.slice Sa ma ca, .slice Ta ka da] 25) = W4 at *
  refine (takeHole_any S m' c T' k' d' l ts W4 HR.out HT.out (by omega) (by omega)).mono ?_
  rintro e w5 ⟨v_, rfl, hp_, hb_⟩
  obtain ⟨Sb, mb, cb, Tb, kb, db, rfl, hR_, hT_, -⟩ := hp_.read
  have hmb : mb ≤ 1000 := by have h_ := hR_.1; rw [List.length_map] at h_; have h2_ := takeL_len l ts 1; omega
  have hkb : kb ≤ 1000 := by have h_ := hT_.1; have h2_ := takeT_len l ts 1; omega
  replace k0 := cell_ext hb_ k0
  replace k1 := cell_ext hb_ k1
  replace a0 := cell_ext hb_ a0
  replace a1 := cell_ext hb_ a1
  replace HR := Lib.hid (HR.out.ext hb_)
  replace HT := Lib.hid (HT.out.ext hb_)
  replace Ra := Lib.hid (Ra.out.ext hb_)
  replace Tah := Lib.hid (Tah.out.ext hb_)
  have Rb := Lib.hid hR_
  have Tbh := Lib.hid hT_
  replace HB := Lib.hid (below_le HB.out hb_)
  clear hp_ hR_ hT_ hb_
  have hx_ := below_box w5 (.cells #[.slice Sb mb cb, .slice Tb kb db] 25)
  replace k0 := cell_ext hx_ k0
  replace k1 := cell_ext hx_ k1
  replace a0 := cell_ext hx_ a0
  replace a1 := cell_ext hx_ a1
  replace HR := Lib.hid (HR.out.ext hx_)
  replace HT := Lib.hid (HT.out.ext hx_)
  replace Ra := Lib.hid (Ra.out.ext hx_)
  replace Tah := Lib.hid (Tah.out.ext hx_)
  replace Rb := Lib.hid (Rb.out.ext hx_)
  replace Tbh := Lib.hid (Tbh.out.ext hx_)
  have b0 := pbox0 w5 25 (.slice Sb mb cb) (.slice Tb kb db)
  have b1 := pbox1 w5 25 (.slice Sb mb cb) (.slice Tb kb db)
  replace HB := Lib.hid (below_le HB.out hx_)
  clear hx_
  go_wp2_with fail
  generalize w5.alloc (.cells #[.slice Sb mb cb, .slice Tb kb db] 25) = W5 at *
  refine (takeRun_any S m' c T' k' d' l ts n aS aR W5 (HRS.out.ext HB.out) HR.out HT.out (by omega) (by omega)).mono ?_
  rintro e w6 ⟨v_, rfl, hp_, hb_⟩
  obtain ⟨Sr, mr, cr, Tr, kr, dr, rfl, hR_, hT_, -⟩ := hp_.read
  have hmr : mr ≤ 1000 := by have h_ := hR_.1; rw [List.length_map] at h_; have h2_ := runL_len l ts n; omega
  have hkr : kr ≤ 1000 := by have h_ := hT_.1; have h2_ := runT_len l ts n; omega
  replace k0 := cell_ext hb_ k0
  replace k1 := cell_ext hb_ k1
  replace a0 := cell_ext hb_ a0
  replace a1 := cell_ext hb_ a1
  replace b0 := cell_ext hb_ b0
  replace b1 := cell_ext hb_ b1
  replace HR := Lib.hid (HR.out.ext hb_)
  replace HT := Lib.hid (HT.out.ext hb_)
  replace Ra := Lib.hid (Ra.out.ext hb_)
  replace Tah := Lib.hid (Tah.out.ext hb_)
  replace Rb := Lib.hid (Rb.out.ext hb_)
  replace Tbh := Lib.hid (Tbh.out.ext hb_)
  have Rr := Lib.hid hR_
  have Trh := Lib.hid hT_
  replace HB := Lib.hid (below_le HB.out hb_)
  clear hp_ hR_ hT_ hb_
  have hx_ := below_box w6 (.cells #[.slice Sr mr cr, .slice Tr kr dr] 25)
  replace k0 := cell_ext hx_ k0
  replace k1 := cell_ext hx_ k1
  replace a0 := cell_ext hx_ a0
  replace a1 := cell_ext hx_ a1
  replace b0 := cell_ext hx_ b0
  replace b1 := cell_ext hx_ b1
  replace HR := Lib.hid (HR.out.ext hx_)
  replace HT := Lib.hid (HT.out.ext hx_)
  replace Ra := Lib.hid (Ra.out.ext hx_)
  replace Tah := Lib.hid (Tah.out.ext hx_)
  replace Rb := Lib.hid (Rb.out.ext hx_)
  replace Tbh := Lib.hid (Tbh.out.ext hx_)
  replace Rr := Lib.hid (Rr.out.ext hx_)
  replace Trh := Lib.hid (Trh.out.ext hx_)
  have r0 := pbox0 w6 25 (.slice Sr mr cr) (.slice Tr kr dr)
  have r1 := pbox1 w6 25 (.slice Sr mr cr) (.slice Tr kr dr)
  replace HB := Lib.hid (below_le HB.out hx_)
  clear hx_
  go_wp2_with fail
  generalize w6.alloc (.cells #[.slice Sr mr cr, .slice Tr kr dr] 25) = W6 at *
  refine (pright_any S m' c T' k' d' l ts W6 HR.out HT.out (by omega) (by omega)).mono ?_
  rintro e w7 ⟨rfl, hb7⟩
  replace HB := Lib.hid (below_le HB.out hb7)
  replace HR := Lib.hid (HR.out.ext hb7)
  replace HT := Lib.hid (HT.out.ext hb7)
  replace Ra := Lib.hid (Ra.out.ext hb7)
  replace Tah := Lib.hid (Tah.out.ext hb7)
  replace Rb := Lib.hid (Rb.out.ext hb7)
  replace Tbh := Lib.hid (Tbh.out.ext hb7)
  replace Rr := Lib.hid (Rr.out.ext hb7)
  replace Trh := Lib.hid (Trh.out.ext hb7)
  replace k0 := cell_ext hb7 k0
  replace k1 := cell_ext hb7 k1
  replace a0 := cell_ext hb7 a0
  replace a1 := cell_ext hb7 a1
  replace b0 := cell_ext hb7 b0
  replace b1 := cell_ext hb7 b1
  replace r0 := cell_ext hb7 r0
  replace r1 := cell_ext hb7 r1
  clear hb7
  have KA := Lib.hid (fun h => take_keeps (l := l) (ts := ts) (s := 0) (.inl rfl) h)
  have KB := Lib.hid (fun h => take_keeps (l := l) (ts := ts) (s := 1) (.inr rfl) h)
  have KR := Lib.hid (fun h => run_keeps (l := l) (ts := ts) (k := n) h)
  cases hp : pRight l ts
  · rw [show takeOk l ts 0 = false by unfold takeOk; rw [hp]; rfl, show takeOk l ts 1 = false by unfold takeOk; rw [hp]; rfl, show runOk l ts n = false by unfold runOk; rw [hp]; rfl]
    clear hp
    go_wp2
    go_ret
    exact ⟨rfl, HB.out⟩
  · clear hp
    cases hA : takeOk l ts 0
    case' true =>
      obtain ⟨-, kp, ko, kn, -⟩ := KA.out hA
      have KP := Lib.hid kp
      have KO := Lib.hid ko
      clear hA kp ko
      go_wp2_with fail
      have h := pright_any Sa ma ca Ta ka da _ _ w7 Ra.out Tah.out hma hka
      rw [KP.out] at h
      refine h.mono ?_
      clear h
      rintro e w8 ⟨rfl, hb8⟩
      replace k0 := cell_ext hb8 k0; replace k1 := cell_ext hb8 k1; replace a0 := cell_ext hb8 a0; replace a1 := cell_ext hb8 a1; replace b0 := cell_ext hb8 b0; replace b1 := cell_ext hb8 b1; replace r0 := cell_ext hb8 r0; replace r1 := cell_ext hb8 r1; replace HR := Lib.hid (HR.out.ext hb8); replace HT := Lib.hid (HT.out.ext hb8); replace Ra := Lib.hid (Ra.out.ext hb8); replace Tah := Lib.hid (Tah.out.ext hb8); replace Rb := Lib.hid (Rb.out.ext hb8); replace Tbh := Lib.hid (Tbh.out.ext hb8); replace Rr := Lib.hid (Rr.out.ext hb8); replace Trh := Lib.hid (Trh.out.ext hb8)
      replace HB := Lib.hid (below_le HB.out hb8)
      clear hb8
      go_wp2_with fail
      have h := others_any S m' c T' k' d' Sa ma ca Ta ka da _ _ _ _ _ 1 w8 HR.out HT.out Ra.out Tah.out (by omega) (by omega) (by omega) KO.out
      rw [show ((1 : Nat) : Int) = 1 from rfl] at h
      refine h.mono ?_
      clear h
      rintro e w9 ⟨rfl, hb9⟩
      replace k0 := cell_ext hb9 k0; replace k1 := cell_ext hb9 k1; replace a0 := cell_ext hb9 a0; replace a1 := cell_ext hb9 a1; replace b0 := cell_ext hb9 b0; replace b1 := cell_ext hb9 b1; replace r0 := cell_ext hb9 r0; replace r1 := cell_ext hb9 r1; replace HR := Lib.hid (HR.out.ext hb9); replace HT := Lib.hid (HT.out.ext hb9); replace Ra := Lib.hid (Ra.out.ext hb9); replace Tah := Lib.hid (Tah.out.ext hb9); replace Rb := Lib.hid (Rb.out.ext hb9); replace Tbh := Lib.hid (Tbh.out.ext hb9); replace Rr := Lib.hid (Rr.out.ext hb9); replace Trh := Lib.hid (Trh.out.ext hb9)
      replace HB := Lib.hid (below_le HB.out hb9)
      clear hb9 KP KO kn
    case' false =>
      clear hA
      generalize w7 = w9 at *
    all_goals
      cases hB : takeOk l ts 1
      case' true =>
        obtain ⟨-, kp, ko, kn, -⟩ := KB.out hB
        have KP := Lib.hid kp
        have KO := Lib.hid ko
        clear hB kp ko
        go_wp2_with fail
        have h := pright_any Sb mb cb Tb kb db _ _ w9 Rb.out Tbh.out hmb hkb
        rw [KP.out] at h
        refine h.mono ?_
        clear h
        rintro e w10 ⟨rfl, hb8⟩
        replace k0 := cell_ext hb8 k0; replace k1 := cell_ext hb8 k1; replace a0 := cell_ext hb8 a0; replace a1 := cell_ext hb8 a1; replace b0 := cell_ext hb8 b0; replace b1 := cell_ext hb8 b1; replace r0 := cell_ext hb8 r0; replace r1 := cell_ext hb8 r1; replace HR := Lib.hid (HR.out.ext hb8); replace HT := Lib.hid (HT.out.ext hb8); replace Ra := Lib.hid (Ra.out.ext hb8); replace Tah := Lib.hid (Tah.out.ext hb8); replace Rb := Lib.hid (Rb.out.ext hb8); replace Tbh := Lib.hid (Tbh.out.ext hb8); replace Rr := Lib.hid (Rr.out.ext hb8); replace Trh := Lib.hid (Trh.out.ext hb8)
        replace HB := Lib.hid (below_le HB.out hb8)
        clear hb8
        go_wp2_with fail
        have h := others_any S m' c T' k' d' Sb mb cb Tb kb db _ _ _ _ _ 1 w10 HR.out HT.out Rb.out Tbh.out (by omega) (by omega) (by omega) KO.out
        rw [show ((1 : Nat) : Int) = 1 from rfl] at h
        refine h.mono ?_
        clear h
        rintro e w11 ⟨rfl, hb9⟩
        replace k0 := cell_ext hb9 k0; replace k1 := cell_ext hb9 k1; replace a0 := cell_ext hb9 a0; replace a1 := cell_ext hb9 a1; replace b0 := cell_ext hb9 b0; replace b1 := cell_ext hb9 b1; replace r0 := cell_ext hb9 r0; replace r1 := cell_ext hb9 r1; replace HR := Lib.hid (HR.out.ext hb9); replace HT := Lib.hid (HT.out.ext hb9); replace Ra := Lib.hid (Ra.out.ext hb9); replace Tah := Lib.hid (Tah.out.ext hb9); replace Rb := Lib.hid (Rb.out.ext hb9); replace Tbh := Lib.hid (Tbh.out.ext hb9); replace Rr := Lib.hid (Rr.out.ext hb9); replace Trh := Lib.hid (Trh.out.ext hb9)
        replace HB := Lib.hid (below_le HB.out hb9)
        clear hb9 KP KO kn
      case' false =>
        clear hB
        generalize w9 = w11 at *
      all_goals
        cases hO : runOk l ts n
        case' true =>
          obtain ⟨-, kn1, kn2, kpi, kp, ko, -⟩ := KR.out hO
          have hrn : runN l ts n ≤ 1000 := by have := kpi.hfk; omega
          have KP := Lib.hid kp
          have KO := Lib.hid ko
          have hge : decide (n ≥ 1) = true := by simpa using kn1
          clear hO kp ko kpi
          go_wp2_with fail
          have h := pright_any Sr mr cr Tr kr dr _ _ w11 Rr.out Trh.out hmr hkr
          rw [KP.out] at h
          refine h.mono ?_
          clear h
          rintro e w12 ⟨rfl, hb8⟩
          replace k0 := cell_ext hb8 k0; replace k1 := cell_ext hb8 k1; replace a0 := cell_ext hb8 a0; replace a1 := cell_ext hb8 a1; replace b0 := cell_ext hb8 b0; replace b1 := cell_ext hb8 b1; replace r0 := cell_ext hb8 r0; replace r1 := cell_ext hb8 r1; replace HR := Lib.hid (HR.out.ext hb8); replace HT := Lib.hid (HT.out.ext hb8); replace Ra := Lib.hid (Ra.out.ext hb8); replace Tah := Lib.hid (Tah.out.ext hb8); replace Rb := Lib.hid (Rb.out.ext hb8); replace Tbh := Lib.hid (Tbh.out.ext hb8); replace Rr := Lib.hid (Rr.out.ext hb8); replace Trh := Lib.hid (Trh.out.ext hb8)
          replace HB := Lib.hid (below_le HB.out hb8)
          clear hb8
          go_wp2_with fail
          have h := others_any S m' c T' k' d' Sr mr cr Tr kr dr _ _ _ _ _ n.toNat w12 HR.out HT.out Rr.out Trh.out (by omega) hrn (by omega) KO.out
          rw [Int.toNat_of_nonneg (by omega)] at h
          refine h.mono ?_
          clear h
          rintro e w13 ⟨rfl, hb9⟩
          replace HB := Lib.hid (below_le HB.out hb9)
          clear hb9 KP KO
        case' false =>
          clear hO
          generalize w11 = w13 at *
        all_goals
          clear k0 k1 a0 a1 b0 b1 r0 r1
          go_wp2
          go_ret
          exact ⟨rfl, HB.out⟩

end Go.Proofs.YtllanbggjfmfhaaDoor
namespace Go.Proofs.YtllanbggjfmfhaaDoor
open Go.ChangeShapes Go.WideShapes Go.ChangeAt Go.RowKit

theorem own0 : ownKnob Tryd.prog.godebug = none := by kernel_rfl
theorem laidOut0 : laidOutB Tryd.prog = true := by kernel_rfl
theorem star0 : "*" ++ "errors.errorString" = "*errors.errorString" := by decide
theorem rowErr (u : TypeId) (h : Tryd.prog.typeName? 3 u = some "*errors.errorString") : u = 139 :=
  typeName_ptr_named (nm := "errors.errorString") (by rw [star0]; kernel_rfl) (by kernel_rfl) (by decide) u (by rw [star0]; exact h)
theorem gS0 : Tryd.prog.globalNamed "selion/run.errState" = some 0 := by kernel_rfl
theorem gR0 : Tryd.prog.globalNamed "selion/run.errRun" = some 1 := by kernel_rfl
theorem gS1 : (Tryd.prog.globals[0]?).map (·.type) = some 50 := by kernel_rfl
theorem gR1 : (Tryd.prog.globals[1]?).map (·.type) = some 50 := by kernel_rfl

theorem under_err : ∃ te f, Tryd.prog.underlying 139 = some (.pointer te) ∧ Tryd.prog.underlying te = some (.struct #[f]) ∧ f.type = 9 ∧ f.offset = 0 ∧ Tryd.prog.cellsOf te = 1 :=
  ⟨_, _, Tryd.underlying139, Tryd.underlying161, rfl, rfl, by kernel_rfl⟩
theorem under_iface : ∃ ms, Tryd.prog.underlying 50 = some (.interface ms) := ⟨_, Tryd.underlying50⟩
theorem cells_str : Tryd.prog.cellsOf 9 = 1 := by kernel_rfl
abbrev row0 : OpenClaim := Rows.poolKeepsRow

theorem gT0 : Tryd.prog.globalNamed "errors.errorType" = some 2 := by kernel_rfl
theorem rt0 : (Tryd.prog.cutTypes.find? (·.1 == "internal/reflectlite.rtype")).map (·.2) = some 124 := by kernel_rfl
theorem oneRow0 : ((List.range Tryd.prog.types.size).filter fun t => Tryd.prog.rowNamed t [101, 114, 114, 111, 114]) = [50] := by kernel_rfl
theorem hnd0 : typeHandle Tryd.prog 50 = hnd 50 := by kernel_rfl

/-- What the condition gives of errors' own variable: the handle of the type error. -/
theorem handle0 {W : World} (h : laidMetH Tryd.prog row0.laid W) : EType W := by
  have h1 := h.filter (fun x => x.1 == "errors.errorType")
  have h' : laidMet Tryd.prog [] W ∧ handlesMet Tryd.prog [("errors.errorType", Rows.laid_errors_errorType)] W := h1
  obtain ⟨name, u, ty, e1, e2, e3, e4, e5⟩ := h'.2 _ (List.mem_singleton.2 rfl)
  have en : name = [101, 114, 114, 111, 114] := (Option.some.inj e1).symm
  subst en
  obtain rfl := Option.some.inj (rt0.symm.trans e2)
  have hm : ty ∈ (List.range Tryd.prog.types.size).filter fun t => Tryd.prog.rowNamed t [101, 114, 114, 111, 114] := List.mem_filter.2 ⟨List.mem_range.2 e3, e4⟩
  rw [oneRow0] at hm
  obtain rfl := List.mem_singleton.1 hm
  rw [hnd0] at e5
  have := World.var?_cell gT0 e5 0
  show W.cell? _ = _
  simpa using this

/-- What the row's list gives: the two sentinels, each one's own, and the handle. -/
theorem sents {W : World} (h : laidMetH Tryd.prog row0.laid W) : ∃ aS aR, RSent W aS aR ∧ EType W := by
  have h' : laidMet Tryd.prog [("selion/run.errState", Rows.laid_selion_run_errState), ("selion/run.errRun", Rows.laid_selion_run_errRun)] W := by
    have := h.filter (fun x => x.1 != "errors.errorType")
    rw [MakeChecks.laidMetH_plain _ _ _ (by kernel_rfl)] at this
    exact this
  obtain ⟨te, f, hp, he, hft, hfo, hc⟩ := under_err
  obtain ⟨ms, hi⟩ := under_iface
  obtain ⟨a0, a1, _, _, c0, c1, t0, t1, v0, v1, _, _, _, _, _, _, n01, b0, b1⟩ := laid_sentinels2 h' gS0 gS1 gR0 gR1 hi rowErr hp he hft hfo Tryd.underlying9 hc cells_str
  exact ⟨a0, a1, ⟨⟨by simpa using World.var?_cell gS0 v0 0, c0, t0, b0⟩, ⟨by simpa using World.var?_cell gR0 v1 0, c1, t1, b1⟩, n01⟩, handle0 h⟩

section
variable {H : Type} {enc : TypeId × Value → H} {P : Program}
theorem trodAll_stays (hl : laidOutB P = true) {W W' : World} (hb : Below W.heap.size W W') (sp : Nat → Bool) : ∀ (ts : List TypeId) (vs : List Value) (ds : List (DataW H)) (ps : List MemPlace),
    (ts.all fun t => P.readableRec t && decide (t < P.types.size)) = true → DataW.TrodAll enc P W 0 (fun _ => true) true ts vs ds ps → (∀ x ∈ ps, x.block < W.heap.size) → (∀ x ∈ ps, sp x.block = true) → DataW.TrodAll enc P W' 0 sp true ts vs ds ps
  | [], vs, ds, ps, _, h, _, _ => by
    obtain ⟨rfl, rfl, rfl⟩ := trodAll_nil h
    exact trodAll_mk0
  | t :: ts, vs, ds, ps, hr, h, hlt, hsp => by
    simp only [List.all_cons, Bool.and_eq_true, decide_eq_true_eq] at hr
    obtain ⟨v, vs', d, ds', p, q, rfl, rfl, rfl, h1, h2⟩ := trodAll_cons h
    exact trodAll_cons_mk (WideElems.Trod_stays hl hr.1.1 hr.1.2 h1 (fun x hx => hb.same (hlt x (List.mem_append_left _ hx))) (fun x hx => hsp x (List.mem_append_left _ hx)))
      (trodAll_stays hl hb sp ts vs' ds' q hr.2 h2 (fun x hx => hlt x (List.mem_append_right _ hx)) (fun x hx => hsp x (List.mem_append_right _ hx)))

theorem post_below {f : Func} {s : ChangeSpec} {apart fresh handsOn again : Bool} {W W' : World} {args : Array Value} {v : Value} {ds gs : List (DataW H)} {before pa pv : List MemPlace}
    (hW : DataW.Whole enc P f.params.toList s.vars apart W args.toList ds gs before)
    (hres : ∀ (b : Nat) (sp : Nat → Bool) (hd : Bool), DataW.TrodAll enc P W' b sp hd f.resultTypes.toList (v.resultList f.resultTypes.size) (s.fn H (ds ++ gs)).results [])
    (hargs : ∀ sp : Nat → Bool, (∀ p ∈ before, sp p.block = true) → DataW.TrodAll enc P W' 0 sp true f.params.toList args.toList (s.fn H (ds ++ gs)).args pa)
    (hvars : ∀ sp : Nat → Bool, (∀ p ∈ before, sp p.block = true) → DataW.TrodVars enc P W' sp s.vars (s.fn H (ds ++ gs)).vars pv)
    (hps : before = pa ++ pv) (hb : Below W.heap.size W W')
    (hok : ∀ (j : Nat) (t : TypeId) (r : Value), f.resultTypes[j]? = some t → (v.resultList f.resultTypes.size)[j]? = some r → Value.okWide P W' .any 0 t r) :
    s.post enc P f apart fresh handsOn again W args v W' := by
  have hlt : ∀ p ∈ before, p.block < W.heap.size := fun p hp => hW.lt p hp
  have hold : ∀ p ∈ before, (fun b => decide (b < W.heap.size)) p.block = true := fun p hp => by simpa using hlt p hp
  refine ⟨ds, gs, before, [], pa, pv, hW, hres _ _ _, hargs _ hold, hvars _ hold, World.keptBut_mono (fun p hp => ⟨hp, ?_⟩) (hb.frame (· ∈ before)), fun _ => ?_⟩
  · rw [hps, List.mem_append] at hp
    exact Or.inr hp
  · obtain ⟨_, _, _, _, _, hz, hn⟩ := hW
    refine ⟨hok, _, _, ([] ++ pa) ++ pv, ⟨[] ++ pa, pv, trodAll_append (hargs _ (fun _ _ => rfl)) (hres _ _ _), hvars _ (fun _ _ => rfl), rfl, ?_, ?_⟩, ?_⟩
    · intro b off hp
      have hin : MemPlace.cell b off ∈ before := by rw [hps]; simpa using hp
      rw [hb.frozen (hlt _ hin)]
      exact hz b off hin
    · intro ha
      have := hn ha
      rw [hps] at this
      simpa using this
    · intro p hp _
      rw [hps]
      simpa using hp

/-- THE ROW's LAST STEP, where the law returned true and what was stays. -/
theorem post_true {f : Func} {s : ChangeSpec} (hl : laidOutB P = true) {tb : TypeId} (htb : P.underlying tb = some .bool) (hrt : f.resultTypes = #[tb]) (hvs : s.vars = []) (hr : (f.params.toList.all fun t => P.readableRec t && decide (t < P.types.size)) = true)
    {W W' : World} {args : Array Value} {ds gs : List (DataW H)} {before : List MemPlace}
    (hW : DataW.Whole enc P f.params.toList s.vars false W args.toList ds gs before) (hfn : s.fn H (ds ++ gs) = { results := [.lit (.bool true)], args := ds }) (hb : Below W.heap.size W W') :
    s.post enc P f false true false false W args (.bool true) W' := by
  have hW' := hW
  have hlt : ∀ p ∈ before, p.block < W.heap.size := fun p hp => hW.lt p hp
  obtain ⟨p, q, hA, hV, rfl, hfz, hnd⟩ := hW
  rw [hvs] at hV
  obtain ⟨rfl, rfl⟩ := trodVars_none hV
  simp only [List.append_nil] at hlt hW' hfn
  refine post_below (pa := p) (pv := []) hW' (fun b sp hd => ?_) (fun sp hsp => ?_) (fun sp _ => ?_) (by simp) hb (ok_one hrt rfl (okWide_bool_mk htb _))
  · rw [List.append_nil, hfn, hrt]
    exact trodAll_cons_mk (shut_bool htb _) trodAll_mk0
  · rw [List.append_nil, hfn]
    exact trodAll_stays hl hb sp _ _ _ _ hr hA (fun x hx => hlt x hx) (fun x hx => hsp x hx)
  · rw [List.append_nil, hfn, hvs]
    rfl
end

theorem row_of_cells {W : World} {a : Addr} {len cap : Nat} {zs : List Int} (hl : len ≤ cap) (hz : zs.length = cap) (hc : ∀ i, i < cap → W.cell? (a.add i) = some (.int .i64 (zs.getD i 0))) : Row W (some a) len ((zs.take len).map Iv) := by
  refine ⟨by simp; omega, fun hp => ?_⟩
  have hs0 : a.spot = none := by simpa [Addr.add] using World.cell?_spot (hc 0 (by omega))
  obtain ⟨b, off, spot⟩ := a
  obtain rfl : spot = none := hs0
  refine ⟨b, off, rfl, fun j u hu => ?_⟩
  have hj : j < len := by
    have := (List.getElem?_eq_some_iff.1 hu).1
    simp at this
    omega
  have h2 := hc j (by omega)
  have e : (⟨b, off, none⟩ : Addr).add j = ⟨b, off + j, none⟩ := by
    unfold Addr.add
    by_cases h : j = 0 <;> simp [h]
  rw [e] at h2
  simp [hj, show j < zs.length by omega, Iv] at hu
  rw [h2, ← hu]
  simp [show j < zs.length by omega]

set_option maxRecDepth 100000 in
/-- A list of numbers, opened. -/
theorem open_list {H : Type} {enc : TypeId × Value → H} {W : World} {b : Nat} {v : Value} {d : DataW H} {p : List MemPlace} (hv : Value.okWide Tryd.prog W .any b 22 v) (h : DataW.Trod enc Tryd.prog W 0 (fun _ => true) true 22 v d p) :
    ∃ (A : Option Addr) (m c : Nat) (l : List Int), v = .slice A m c ∧ Row W A m (l.map Iv) ∧ (∀ x ∈ l, -9223372036854775808 ≤ x ∧ x ≤ 9223372036854775807) ∧ m ≤ c := by
  obtain ⟨A, m, c, rfl⟩ : ∃ A m c, v = .slice A m c := okWide_slice Tryd.underlying22 hv
  obtain ⟨fuel, h1⟩ := h
  rcases open_ints Tryd.underlying22 Tryd.underlying3 (by kernel_rfl) h1 with ⟨hs, _⟩ | ⟨a, len, cap, zs, hs, _, hl, _, hz, _, hc, hw⟩
  · obtain ⟨rfl, rfl, rfl⟩ : A = none ∧ m = 0 ∧ c = 0 := by simpa [Value.cells] using hs
    exact ⟨none, 0, 0, [], rfl, Row.none_, by simp, Nat.le_refl _⟩
  · obtain ⟨rfl, rfl, rfl⟩ : some a = A ∧ len = m ∧ cap = c := by simpa [Value.cells, eq_comm] using hs
    rw [if_pos rfl] at hz
    refine ⟨some a, len, cap, zs.take len, rfl, ⟨by simp; omega, fun hp => ?_⟩, fun x hx => bounds_i64 (hw x (List.mem_of_mem_take hx)), hl⟩
    have hs0 : a.spot = none := by simpa [Addr.add] using World.cell?_spot (hc 0 (by omega))
    obtain ⟨b, off, spot⟩ := a
    obtain rfl : spot = none := hs0
    refine ⟨b, off, rfl, fun j u hu => ?_⟩
    have hj : j < len := by
      have := (List.getElem?_eq_some_iff.1 hu).1
      simp at this
      omega
    have hjz : j < zs.length := by omega
    have h2 := hc j hjz
    simp [hj, hjz] at hu
    rw [addr_add] at h2
    simp [hjz] at h2
    rw [h2, ← hu, Iv]

set_option maxRecDepth 100000 in
/-- A pool, opened. -/
theorem open_pool {H : Type} {enc : TypeId × Value → H} {W : World} {b : Nat} {v : Value} {d : DataW H} {p : List MemPlace} (hv : Value.okWide Tryd.prog W .any b 25 v) (h : DataW.Trod enc Tryd.prog W 0 (fun _ => true) true 25 v d p) :
    ∃ (S : Option Addr) (m c : Nat) (T : Option Addr) (k d : Nat) (l : List Int) (ts : List (List Int)), v = .agg #[.slice S m c, .slice T k d] ∧ Row W S m (l.map Iv) ∧ TabsU W T k ts ∧ m ≤ c ∧ k ≤ 9223372036854775807 := by
  obtain ⟨v0, v1, y0, y1, q, rfl, _, _, h0, h1⟩ := Joins.open_agg2 Tryd.underlying25 (by kernel_rfl) (by kernel_rfl) hv h
  have hs0 : ∃ (S : Option Addr) (m c : Nat) (l : List Int), v0 = .slice S m c ∧ Row W S m (l.map Iv) ∧ m ≤ c := by
    rcases open_ints Tryd.underlying22 Tryd.underlying3 (by kernel_rfl) h0 with ⟨hs, _⟩ | ⟨a, len, cap, zs, hs, _, hl, _, hz, _, hc, hw⟩
    · obtain rfl : v0 = .slice none 0 0 := by simpa using hs
      exact ⟨none, 0, 0, [], rfl, Row.none_, Nat.le_refl _⟩
    · obtain rfl : v0 = .slice (some a) len cap := by simpa using hs
      rw [if_pos rfl] at hz
      exact ⟨some a, len, cap, zs.take len, rfl, row_of_cells hl hz (fun i hi => hc i (by omega)), hl⟩
  obtain ⟨S, m, c, l, rfl, hR, hmc⟩ := hs0
  rcases Deep.open_int_rows Tryd.underlying23 Tryd.underlying22 Tryd.underlying3 (by kernel_rfl) (by kernel_rfl) h1 with ⟨hs, _⟩ | ⟨a, len, cap, A, L, C, Z, hs, _, hl, hcm, _, hr⟩
  · obtain rfl : v1 = .slice none 0 0 := by simpa using hs
    exact ⟨S, m, c, none, 0, 0, l, [], rfl, hR, ⟨rfl, fun h => absurd h (by omega)⟩, hmc, by omega⟩
  · obtain rfl : v1 = .slice (some a) len cap := by simpa using hs
    refine ⟨S, m, c, some a, len, cap, l, (List.range len).map fun r => (Z r).take (L r), rfl, hR, ⟨by simp, fun hp => ?_⟩, hmc, by unfold maxLen at hcm; omega⟩
    have hs0 : a.spot = none := by simpa [Addr.add] using World.cell?_spot (hr 0 (by omega)).1
    obtain ⟨b, off, spot⟩ := a
    obtain rfl : spot = none := hs0
    refine ⟨b, off, rfl, fun j t ht => ?_⟩
    rw [List.getElem?_map] at ht
    have hj : j < len := by
      rcases Nat.lt_or_ge j len with h | h
      · exact h
      · rw [List.getElem?_eq_none (by simpa using h)] at ht; cases ht
    rw [List.getElem?_eq_getElem (by simpa using hj)] at ht
    simp at ht
    subst ht
    obtain ⟨e1, e2, e3, e4, _, e6, e7⟩ := hr j (by omega)
    have e : (⟨b, off, none⟩ : Addr).add j = ⟨b, off + j, none⟩ := by
      unfold Addr.add
      by_cases h : j = 0 <;> simp [h]
    rw [e] at e1
    refine ⟨A j, L j, C j, e1, e2, ?_⟩
    cases hA : A j with
    | none =>
      have := e6 hA
      have hL0 : L j = 0 := by omega
      rw [hL0]
      simpa using Row.none_
    | some a' => exact row_of_cells e2 e4 (e7 a' hA).2

/-- THE DOOR's OWN HEAP MEETS THE CONDITION. -/
theorem door_met (os : Os) (args : Array Value) : laidMetH Tryd.prog row0.laid ((World.doorLaid Tryd.prog 200 os).forCall (fun _ _ => 0) ⟨#[], args, []⟩).memory :=
  laidMetH_of_parts3 (fuel := 8) (laidMet_of_run' 8 (by kernel_rfl) (by kernel_rfl)) (by kernel_rfl) (by kernel_rfl)

end Go.Proofs.YtllanbggjfmfhaaDoor
namespace Go.Proofs.YtllanbggjfmfhaaDoor.PoolKeeps
open Go.ChangeShapes Go.WideShapes Go.ChangeAt Go.RowKit

set_option maxRecDepth 100000 in
theorem contract (H : Type) (enc : TypeId × Value → H) (W : World) (base : Nat) (args : Array Value) (ds gs : List (DataW H)) (before : List MemPlace)
    (hval : ∀ (j : Nat) t v, Tryd.f3.params[j]? = some t → args[j]? = some v → Value.okWide Tryd.prog W .any base t v)
    (hW : DataW.Whole enc Tryd.prog Tryd.f3.params.toList Rows.poolKeepsSpec.vars false W args.toList ds gs before) (hL : laidMetH Tryd.prog Rows.poolKeepsRow.laid W) :
    Calls Tryd.prog 3 args W fun e W' => ∃ v, e = .returned v ∧ Rows.poolKeepsSpec.post enc Tryd.prog Tryd.f3 false true false false W args v W' := by
  have hW' := hW
  obtain ⟨p, q, hA0, hV, rfl, hfz, hnd⟩ := hW
  have hA : DataW.TrodAll enc Tryd.prog W 0 (fun _ => true) true Tryd.f3.params.toList args.toList ds p := hA0
  rw [Tryd.params3] at hA hval
  obtain ⟨v0, vs0, d0, ds0, p0, q0, hargs, rfl, rfl, h0, r0⟩ := trodAll_cons hA
  obtain ⟨v1, vs1, d1, ds1, p1, q1, rfl, rfl, rfl, h1, r1⟩ := trodAll_cons r0
  obtain ⟨rfl, rfl, rfl⟩ := trodAll_nil r1
  obtain rfl : args = #[v0, v1] := by cases args; simp_all
  obtain ⟨rfl, rfl⟩ := trodVars_none hV
  obtain ⟨S0, m0, c0, T0, k0, e0, l0, t0, rfl, hS0, hT0, hc0, hk0⟩ := open_pool (hval 0 _ v0 rfl rfl) h0
  obtain ⟨i1, rfl, rfl, rfl, b1⟩ := open_int Tryd.underlying3 (hval 1 _ v1 rfl rfl) h1
  obtain ⟨aS, aR, hRS, hE⟩ := sents hL
  refine (poolKeeps_any S0 m0 c0 T0 k0 e0 l0 t0 i1 aS aR W hRS hE hc0 hS0 hT0 hk0).mono fun e W' ⟨he, hb⟩ => ?_
  subst he
  exact ⟨_, rfl, post_true laidOut0 Tryd.underlying4 (by kernel_rfl) rfl (by kernel_rfl) hW' rfl hb⟩

noncomputable def wArgs : Array Value := #[.agg #[.slice none 0 0, .slice none 0 0], .int .i64 0]

theorem reads (os : Os) {H : Type} (enc : TypeId × Value → H) : ∃ places, DataW.whole enc Tryd.prog ((World.doorLaid Tryd.prog 200 os).forCall (fun _ _ => 0) ⟨#[], wArgs, []⟩).memory Tryd.f3.params.toList Rows.poolKeepsSpec.vars false wArgs.toList 8 = some ([.agg [.nil, .nil], .lit (.int .i64 0)], [], places) :=
  ⟨[], by kernel_rfl⟩

set_option maxRecDepth 100000 in
theorem lifted (os : Os) (started : os.Started) (H : Type) (enc : TypeId × Value → H) (F : Stop.Interp) :
    ReturnsInHanded {} Tryd.checked os 3 .any ((OpenSpec.ofChange Rows.poolKeepsSpec).preRow enc Tryd.prog Tryd.f3 Rows.poolKeepsRow.domain false Rows.poolKeepsRow.laid) (((OpenSpec.ofChange Rows.poolKeepsSpec).at F).post enc Tryd.prog Tryd.f3 false true false false) := by
  obtain ⟨places, hx⟩ := reads os enc
  refine returnsInHanded_of_row (C := Tryd.checked) (s := OpenSpec.ofChange Rows.poolKeepsSpec) own0 started (by kernel_rfl) Tryd.func3
    (witness_row_atRef (enc := enc) (C := Tryd.checked) false (World.doorLaid Tryd.prog 200 os) wArgs rfl (by kernel_rfl) (by kernel_rfl) (by kernel_rfl)
      (OpenSpec.preRow_of_cond 8 hx (by kernel_rfl) (fun k hk => by cases hk) (by kernel_rfl) (door_met os _))) ?_
  intro W base args ds gs before hval hW _ _ _ hL _ _
  exact contract H enc W base args ds gs before hval hW hL

theorem said : Rows.PoolKeepsSaid :=
  OpenClaim.holds_of_cond 3 Tryd.f3 rfl rfl rfl rfl rfl rfl rfl ⟨rfl, rfl, rfl, rfl, rfl⟩ rfl rfl rfl rfl rfl (by kernel_rfl) Tryd.func3 (by kernel_rfl)
    (of_decide_eq_true (by kernel_rfl)) (by unfold Func.isWrapper; first | (rw [if_pos (by decide +kernel)]; kernel_rfl) | (rw [if_neg (by decide +kernel)]; exact ⟨rfl, rfl⟩))
    (fun os started H enc _ F => by rw [OpenClaim.pre_eq_preRow]; exact lifted os started H enc F)

theorem plain (f : FuncId) (fn : Func) (hf : Tryd.pinned.checked.prog.funcNamed "selion/selionlaw10.PoolKeeps" = some f) (hfn : Tryd.pinned.checked.prog.funcs[f]? = some fn) :
    true = Tryd.pinned.checked.prog.looks [] ∧ ∀ (j : Nat) t, fn.params[j]? = some t → Tryd.pinned.checked.prog.wantsStandIn t = false := by
  obtain rfl : f = 3 := Option.some.inj ((show Tryd.prog.funcNamed "selion/selionlaw10.PoolKeeps" = some 3 by kernel_rfl).symm.trans hf) |>.symm
  obtain rfl : fn = Tryd.f3 := (Option.some.inj (Tryd.func3.symm.trans hfn)).symm
  refine ⟨by kernel_rfl, fun j t ht => ?_⟩
  have h : (Tryd.f3.params.toList.all fun t => !Tryd.prog.wantsStandIn t) = true := by kernel_rfl
  have := List.all_eq_true.1 h t (by simpa using Array.mem_of_getElem? ht)
  show Tryd.prog.wantsStandIn t = false
  simpa using this

/-- THE CARD. -/
theorem card : Rows.PoolKeepsCardSaid :=
  Claim7.holds_tied_plain_at .later [] _ _ _ _ said (fun _ h => by cases h) (by kernel_rfl) (fun _ h => by cases h) poolKeeps_row_tie rfl ⟨rfl, rfl⟩ (by kernel_rfl) rfl plain (by kernel_rfl)
end Go.Proofs.YtllanbggjfmfhaaDoor.PoolKeeps
