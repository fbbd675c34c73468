/-
  What is proved: the contract of Print of package desc. No condition beyond those stated.
-/
import Derived.Test.YtmabokmnniiadaaGreatDoorCw
import Derived.Test.YtmabokmnniiadaaGreatDoorCg
import Derived.Deep.RegionWith
namespace Go.Proofs.YtmabokmnniiadaaGreatDoor
open Go.RowKit

/-- A descriptor's text, if it is right; and the number that is told. -/
def prText (z : Int) (ps : List Int) (e : Int) (es : List Int) : List UInt8 := if dRight z ps e es = true then printT z ps e es else []
def prNo (z : Int) (ps : List Int) (e : Int) (es : List Int) : Nat := if dRight z ps e es = true then 0 else 40
def GivesPr (w : World) (z : Int) (ps : List Int) (e : Int) (es : List Int) (x : Ending) (w' : World) : Prop := x = .returned (.tuple #[.string ⟨(prText z ps e es).toArray⟩, .int .i64 (prNo z ps e es : Nat)]) ∧ Below w.heap.size w w'
theorem GivesPr.yes {w w' : World} {z e : Int} {ps es : List Int} {s : ByteArray} (hd : dRight z ps e es = true) (hs : (⟨(printT z ps e es).toArray⟩ : ByteArray) = s) (hb : Below w.heap.size w w') : GivesPr w z ps e es (.returned (.tuple #[.string s, .int .i64 0])) w' := by
  subst hs
  unfold GivesPr prText prNo
  rw [if_pos hd, if_pos hd]
  exact ⟨rfl, hb⟩
theorem GivesPr.no {w w' : World} {z e : Int} {ps es : List Int} (hd : dRight z ps e es = false) (hb : Below w.heap.size w w') : GivesPr w z ps e es (.returned (.tuple #[.string ⟨#[]⟩, .int .i64 40])) w' := by
  unfold GivesPr prText prNo
  rw [if_neg (by rw [hd]; exact Bool.false_ne_true), if_neg (by rw [hd]; exact Bool.false_ne_true)]
  exact ⟨rfl, hb⟩
theorem half_lenw {z : Int} {ps : List Int} (hz : 0 ≤ z ∧ z ≤ 1024) (hp : smallB ps) (hl : ps.length ≤ 1000) : (halfT z ps).length ≤ 30000 := by
  have := halfK_len hz hp ps.length
  rw [halfK_all (Nat.le_refl _)] at this
  omega

/-- The two halves, put together. -/
theorem print_adds {X Y : List UInt8} (hx : X.length ≤ 30000) (hy : Y.length ≤ 30000) : ∃ sX sY sM sT : ByteArray, (⟨X.toArray⟩ : ByteArray) = sX ∧ (⟨Y.toArray⟩ : ByteArray) = sY ∧ (∀ W : World, (Op.stringOp .add sX ⟨#[59, 32]⟩).run Tryz.prog W = .ok (.string sM) W) ∧ (∀ W : World, (Op.stringOp .add sM sY).run Tryz.prog W = .ok (.string sT) W) ∧ (⟨(X ++ ([59, 32] ++ Y)).toArray⟩ : ByteArray) = sT :=
  ⟨_, _, _, _, rfl, rfl, fun W => run_string_add_lists W X [59, 32] (by omega) (by simp), fun W => run_string_add_lists W (X ++ [59, 32]) Y (by simp; omega) (by omega), by rw [List.append_assoc]⟩
theorem bounds_of {z e : Int} {ps es : List Int} (hd : dRight z ps e es = true) : (0 ≤ z ∧ z ≤ 1024) ∧ (0 ≤ e ∧ e ≤ 1024) := by
  obtain ⟨⟨h1, h2, -⟩, ⟨h3, h4, -⟩, -, -⟩ := right_of hd
  exact ⟨⟨h1, h2⟩, h3, by omega⟩

set_option maxRecDepth 100000 in
set_option maxHeartbeats 4000000 in
/-- Print. -/
theorem print_any (z e : Int) (P Q : Option Addr) (m c q f : Nat) (ps es : List Int) (w : World) (hP : Row w P m (ps.map Iv)) (hQ : Row w Q q (es.map Iv)) (hm : m ≤ 1000) (hq : q ≤ 1000) (ht : Tab w) :
    Calls Tryz.prog 33 #[descV z P m c e Q q f] w (GivesPr w z ps e es) := by
  have hb1 := below_box w (descO z P m c e Q q f)
  have h1 : Blk (w.alloc (descO z P m c e Q q f)) w.heap.size 35 #[.int .i64 z, .slice P m c, .int .i64 e, .slice Q q f] := Blk.new _ _ _
  have hcall := dright_any z e P Q m c q f ps es _ (hP.ext hb1) (hQ.ext hb1) hm hq
  have a0 := h1.at_ (i := 0) rfl
  have a1 := h1.at_ (i := 1) rfl
  have a2 := h1.at_ (i := 2) rfl
  have a3 := h1.at_ (i := 3) rfl
  have HC := Lib.hid hcall
  have HB := Lib.hid hb1
  have HP := Lib.hid hP
  have HQ := Lib.hid hQ
  have HT := Lib.hid ht
  clear hcall hb1 h1 hP hQ ht
  go_enter Tryz.func33, Tryz.ntmps33
  go_wp2_with fail
  generalize w.alloc (descO z P m c e Q q f) = W0 at *
  refine HC.out.mono ?_
  rintro x w1 ⟨rfl, hb1⟩
  replace a0 := cell_ext hb1 a0; replace a1 := cell_ext hb1 a1; replace a2 := cell_ext hb1 a2; replace a3 := cell_ext hb1 a3
  replace HB := Lib.hid (below_le HB.out hb1)
  clear hb1 HC
  cases hd : dRight z ps e es
  · have HD := Lib.hid hd
    clear hd
    go_wp2
    go_ret2
    exact GivesPr.no HD.out HB.out
  · have hz := bounds_of hd
    have hs := small_of hd
    have hpl := HP.out.1
    have hql := HQ.out.1
    simp at hpl hql
    obtain ⟨sX, sY, sM, sT, eX, eY, A1, A2, eT⟩ := print_adds (half_lenw hz.1 hs.1 (by omega)) (half_lenw hz.2 hs.2 (by omega))
    have C1 : Hid (∀ W : World, Row W P m (ps.map Iv) → Tab W → Calls Tryz.prog 54 #[.int .i64 z, .slice P m c] W fun x w' => x = .returned (.string sX) ∧ Below W.heap.size W w') := Lib.hid fun W h t => by rw [← eX]; exact half_any z P m c ps W h hz.1 hs.1 hm t
    have C2 : Hid (∀ W : World, Row W Q q (es.map Iv) → Tab W → Calls Tryz.prog 54 #[.int .i64 e, .slice Q q f] W fun x w' => x = .returned (.string sY) ∧ Below W.heap.size W w') := Lib.hid fun W h t => by rw [← eY]; exact half_any e Q q f es W h hz.2 hs.2 hq t
    have HD := Lib.hid hd
    have HE := Lib.hid eT
    have t0 := ext_cell a0
    have t1 := ext_cell a1
    have t2 := ext_cell a2
    have t3 := ext_cell a3
    clear hd hz hs hpl hql eX eY eT a0 a1 a2 a3
    go_wp2
    refine wp_region_plan [(0, true), (1, true), (2, true), (3, true), (4, true), (5, true), (6, true), (7, true), (8, true), (9, true), (10, true), (11, true), (12, true), (13, true)] (by kernel_rfl) (by kernel_rfl) ?_
    repeat (first | (refine plan_skip rfl rfl ?_; go_frame) | (refine plan_soft rfl rfl (fun K hK => ?_); go_simp; first | (refine hK _ ?_; clear hK K) | (apply Exists.intro; refine ⟨fun x => ?_, hK _ ?_⟩; (· (first | (go_at_call_of 54 z; exact C1.out x.val (HP.out.ext (below_le HB.out x.below)) (tab_ext HT.out (below_le HB.out x.below))) | (go_at_call_of 54 e; exact C2.out x.val (HQ.out.ext (below_le HB.out x.below)) (tab_ext HT.out (below_le HB.out x.below))))); clear hK K; try go_frame)))
    refine plan_nil ?_; intro w2 h0b; have Hb2 := Lib.hid h0b; clear h0b
    go_wp2
    go_ret2
    exact GivesPr.yes HD.out HE.out (below_le HB.out Hb2.out)
end Go.Proofs.YtmabokmnniiadaaGreatDoor
