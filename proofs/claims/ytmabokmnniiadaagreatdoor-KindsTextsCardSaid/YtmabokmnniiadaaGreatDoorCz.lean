/-
  What is proved: contracts of part and Print of the reference of descriptors. No condition beyond those stated.
-/
import Derived.Test.YtmabokmnniiadaaGreatDoorCy
import Derived.Test.YtmabokmnniiadaaGreatDoorCx
import Derived.Test.YtmabokmnniiadaaGreatDoorCj
namespace Go.Proofs.YtmabokmnniiadaaGreatDoor
open Go.RowKit

theorem rnumz_any (x : Int) (h : 0 ≤ x ∧ x ≤ 1024) (w : World) : Calls Tryz.prog 70 #[.int .i64 x] w fun e w' => e = .returned (.string ⟨(Lib.itoa x).toArray⟩) ∧ Below w.heap.size w w' := by
  obtain ⟨n, rfl⟩ := Int.eq_ofNat_of_zero_le h.1
  refine (rnum_any n w (by omega)).mono ?_
  rintro e w' ⟨rfl, hb⟩
  exact ⟨by rw [itoa_nat], hb⟩

theorem part_head {z : Int} {ps : List Int} (hz : 0 ≤ z ∧ z ≤ 1024) : ∃ sX sT : ByteArray, (⟨(Lib.itoa z).toArray⟩ : ByteArray) = sX ∧ (∀ W : World, (Op.stringOp .add sX ⟨#[58]⟩).run Tryz.prog W = .ok (.string sT) W) ∧ (⟨(halfK z ps 0).toArray⟩ : ByteArray) = sT :=
  ⟨_, _, rfl, fun W => run_string_add_lists W (Lib.itoa z) [58] (by have := itoa_len hz; omega) (by simp), by simp [halfK, wordsT]⟩
theorem part_adds {X Y : List UInt8} (hx : X.length ≤ 30000) (hy : Y.length ≤ 30000) : ∃ sX sY sM sT : ByteArray, (⟨X.toArray⟩ : ByteArray) = sX ∧ (⟨Y.toArray⟩ : ByteArray) = sY ∧ (∀ W : World, (Op.stringOp .add sX ⟨#[32]⟩).run Tryz.prog W = .ok (.string sM) W) ∧ (∀ W : World, (Op.stringOp .add sM sY).run Tryz.prog W = .ok (.string sT) W) ∧ (⟨(X ++ (32 :: Y)).toArray⟩ : ByteArray) = sT :=
  ⟨_, _, _, _, rfl, rfl, fun W => run_string_add_lists W X [32] (by omega) (by simp), fun W => run_string_add_lists W (X ++ [32]) Y (by simp; omega) (by omega), by rw [List.append_assoc, List.singleton_append]⟩

set_option maxRecDepth 100000 in
set_option maxHeartbeats 4000000 in
/-- part. -/
theorem rpart_any (z : Int) (A : Option Addr) (m c : Nat) (ps : List Int) (w : World) (hR : Row w A m (ps.map Iv)) (hz : 0 ≤ z ∧ z ≤ 1024) (hp : smallB ps) (hm : m ≤ 1000) :
    Calls Tryz.prog 56 #[.int .i64 z, .slice A m c] w fun e w' => e = .returned (.string ⟨(halfT z ps).toArray⟩) ∧ Below w.heap.size w w' := by
  have hl := hR.1
  simp at hl
  obtain ⟨sX, sT, eX, hA, eT⟩ := part_head (ps := ps) hz
  have hcall : Calls Tryz.prog 70 #[.int .i64 z] w fun e w' => e = .returned (.string sX) ∧ Below w.heap.size w w' := by rw [← eX]; exact rnumz_any z hz w
  have HC := Lib.hid hcall
  have HR := Lib.hid hR
  have HP := Lib.hid hp
  have HZ := Lib.hid hz
  have HL := Lib.hid hl
  have HE := Lib.hid eT
  clear hR hp hl hcall eX eT
  go_enter Tryz.func56, Tryz.ntmps56
  go_wp2_with fail
  refine HC.out.mono ?_
  rintro x w1 ⟨rfl, hb1⟩
  have HB := Lib.hid hb1
  clear hb1 HC
  go_wp2
  clear hA
  go_loopw [5, 6] (fun v i wr => ∃ k : Nat, k ≤ m ∧ i = .int .i64 k ∧ v = .string ⟨(halfK z ps k).toArray⟩ ∧ Below w.heap.size w wr) (fun _ i _ => m - (intOf i).toNat)
  case atStart => exact ⟨0, Nat.zero_le _, rfl, by rw [HE.out], HB.out⟩
  case round =>
    clear HB HE
    obtain ⟨k, hk, rfl, rfl, hb⟩ := hrel
    have HB := Lib.hid hb
    clear hb
    by_cases hlt : k < m
    · obtain ⟨b1, o1, x, rfl, c1, e1, e2⟩ := num_at (HR.out.ext HB.out) hlt
      have hx := HP.out x (List.mem_of_getElem? e2)
      obtain ⟨sX', sY, sM, sT', eX, eY, A1, A2, eT⟩ := part_adds (X := halfK z ps k) (Y := Lib.itoa x) (by have := halfK_len HZ.out HP.out k; omega) (by have := itoa_len hx; omega)
      have hcall : ∀ W : World, Calls Tryz.prog 70 #[.int .i64 x] W fun e w' => e = .returned (.string sY) ∧ Below W.heap.size W w' := fun W => by rw [← eY]; exact rnumz_any x hx W
      have hT : Value.string sT' = .string ⟨(halfK z ps (k + 1)).toArray⟩ := by rw [halfK_succ e2, eT]
      have HT := Lib.hid hT
      have HC := Lib.hid hcall
      rw [eX]
      have t1 := ext_cell c1
      clear hT hcall eX eY eT e1 e2 hx
      go_wp2_with fail
      refine (HC.out wr).mono ?_
      rintro y w2 ⟨rfl, hb2⟩
      replace HB := Lib.hid (below_le HB.out hb2)
      clear hb2 c1 t1
      go_wp2
      go_roundw
      case rel => exact ⟨k + 1, by omega, by go_num, HT.out, HB.out⟩
      case measure => simp [intOf]; omega
    · have HE := Lib.hid (show (⟨(halfT z ps).toArray⟩ : ByteArray) = ⟨(halfK z ps k).toArray⟩ by rw [halfK_all (z := z) (ps := ps) (k := k) (by have := HL.out; omega)])
      go_wp2
      go_ret
      exact ⟨by rw [HE.out]; rfl, HB.out⟩
set_option maxRecDepth 100000 in
set_option maxHeartbeats 4000000 in
/-- The reference's Print. -/
theorem rprint_any (z e : Int) (P Q : Option Addr) (m c q f : Nat) (ps es : List Int) (w : World) (hP : Row w P m (ps.map Iv)) (hQ : Row w Q q (es.map Iv)) (hm : m ≤ 1000) (hq : q ≤ 1000) :
    Calls Tryz.prog 37 #[descV z P m c e Q q f] w (GivesPr w z ps e es) := by
  have hb1 := below_box w (descO z P m c e Q q f)
  have h1 : Blk (w.alloc (descO z P m c e Q q f)) w.heap.size 35 #[.int .i64 z, .slice P m c, .int .i64 e, .slice Q q f] := Blk.new _ _ _
  have hcall := rright_any z e P Q m c q f ps es _ (hP.ext hb1) (hQ.ext hb1) hm hq
  have a0 := h1.at_ (i := 0) rfl
  have a1 := h1.at_ (i := 1) rfl
  have a2 := h1.at_ (i := 2) rfl
  have a3 := h1.at_ (i := 3) rfl
  have HC := Lib.hid hcall
  have HB := Lib.hid hb1
  have HP := Lib.hid hP
  have HQ := Lib.hid hQ
  clear hcall hb1 h1 hP hQ
  go_enter Tryz.func37, Tryz.ntmps37
  go_wp2_with fail
  generalize w.alloc (descO z P m c e Q q f) = W0 at *
  refine HC.out.mono ?_
  rintro x w1 ⟨rfl, hb1⟩
  replace a0 := cell_ext hb1 a0; replace a1 := cell_ext hb1 a1; replace a2 := cell_ext hb1 a2; replace a3 := cell_ext hb1 a3
  replace HB := Lib.hid (below_le HB.out hb1)
  clear hb1 HC
  cases hd : dRight z ps e es
  · have HD := Lib.hid hd
    clear hd
    go_wp2
    go_ret2
    exact GivesPr.no HD.out HB.out
  · have hz := bounds_of hd
    have hs := small_of hd
    have hpl := HP.out.1
    have hql := HQ.out.1
    simp at hpl hql
    obtain ⟨sX, sY, sM, sT, eX, eY, A1, A2, eT⟩ := print_adds (half_lenw hz.1 hs.1 (by omega)) (half_lenw hz.2 hs.2 (by omega))
    have C1 : Hid (∀ W : World, Row W P m (ps.map Iv) → Calls Tryz.prog 56 #[.int .i64 z, .slice P m c] W fun x w' => x = .returned (.string sX) ∧ Below W.heap.size W w') := Lib.hid fun W h => by rw [← eX]; exact rpart_any z P m c ps W h hz.1 hs.1 hm
    have C2 : Hid (∀ W : World, Row W Q q (es.map Iv) → Calls Tryz.prog 56 #[.int .i64 e, .slice Q q f] W fun x w' => x = .returned (.string sY) ∧ Below W.heap.size W w') := Lib.hid fun W h => by rw [← eY]; exact rpart_any e Q q f es W h hz.2 hs.2 hq
    have HD := Lib.hid hd
    have HE := Lib.hid eT
    have t0 := ext_cell a0
    have t1 := ext_cell a1
    have t2 := ext_cell a2
    have t3 := ext_cell a3
    clear hd hz hs hpl hql eX eY eT a0 a1 a2 a3
    go_wp2
    refine wp_region_plan [(0, true), (1, true), (2, true), (3, true), (4, true), (5, true), (6, true), (7, true), (8, true), (9, true), (10, true), (11, true), (12, true), (13, true)] (by kernel_rfl) (by kernel_rfl) ?_
    repeat (first | (refine plan_skip rfl rfl ?_; go_frame) | (refine plan_soft rfl rfl (fun K hK => ?_); go_simp; first | (refine hK _ ?_; clear hK K) | (apply Exists.intro; refine ⟨fun x => ?_, hK _ ?_⟩; (· (first | (go_at_call_of 56 z; exact C1.out x.val (HP.out.ext (below_le HB.out x.below))) | (go_at_call_of 56 e; exact C2.out x.val (HQ.out.ext (below_le HB.out x.below))))); clear hK K; try go_frame)))
    refine plan_nil ?_; intro w2 h0b; have Hb2 := Lib.hid h0b; clear h0b
    go_wp2
    go_ret2
    exact GivesPr.yes HD.out HE.out (below_le HB.out Hb2.out)
end Go.Proofs.YtmabokmnniiadaaGreatDoor
