/-
  What is proved: the contract of shown of the laws of layer 5. No condition beyond those stated. the contract of Few of the laws of layer 5. No condition beyond those stated. KindsAll returns true. No condition beyond those stated. KindsBack returns true. No condition beyond those stated. the frame that all rows of layer 5 share: what the list of variables gives, how descriptors and texts are opened, and the row's last step. No condition beyond those stated. the row of KindsBack, and its tied card: whatever the input, true; the input reads as it did. No condition beyond the statement's own.
-/
import Derived.Test.YtmabokmnniiadaaGreatDoorMy
import Derived.Test.YtmabokmnniiadaaGreatDoorMu
import Derived.Test.YtmabokmnniiadaaGreatDoorCq
import Derived.Test.YtmabokmnniiadaaGreatDoorCards
import Derived.Test.YtmabokmnniiadaaGreatDoorTie
import Derived.ProofKit
import Derived.OpenShut
import Derived.Below
import Derived.ChangeSame
import Derived.WideKeyArgs
import Derived.LaidMore
import Derived.LaidHandle
import Derived.MakeChecks
import Derived.Lay
import Derived.Stop.Joined
import Derived.Stop.LaidErr
import Derived.Stop.LaidTwo
import Derived.Lib.SmallJoins
import Derived.Deep.DeepHandedRow
import Derived.Deep.DeepWitnessRowRef
import Derived.Lib.LaidTab
import Derived.ChangeArms
import Derived.Deep.Slices
namespace Go.Proofs.YtmabokmnniiadaaGreatDoor
open Go.RowKit

/-- What a law's walk has of the world. -/
def DK (w : World) : Prop := EType w ∧ MLen w ∧ Tab w
theorem DK.ext {w w' : World} (h : DK w) (hb : Below w.heap.size w w') : DK w' := ⟨h.1.ext hb, h.2.1.ext hb, tab_ext h.2.2 hb⟩
/-- The law returned true, and what was there stays. -/
def Holds (w : World) (e : Ending) (w' : World) : Prop := e = .returned (.bool true) ∧ Below w.heap.size w w'
/-- No list of places is longer than what it may grow to. -/
def CapsOk (w : World) (A : Option Addr) (n : Nat) : Prop :=
  0 < n → ∃ g off, A = some ⟨g, off, none⟩ ∧ ∀ k, k < n → ∃ P m c Q q f, w.cell? ⟨g, off + 4 * k + 1, none⟩ = some (.slice P m c) ∧ m ≤ c ∧ w.cell? ⟨g, off + 4 * k + 3, none⟩ = some (.slice Q q f) ∧ q ≤ f

instance (d : DscK) : Decidable (sm1 d) := by unfold sm1; infer_instance
/-! ### What shown comes by -/
def shA : DscK := (8, [4], 0, [])
def shB : DscK := (8, [], 0, [])
theorem sh_add1 : kAdd [] shA = ([shA], 1, 0) := by decide
theorem sh_add2 : kAdd [shA] shB = ([shA, shB], 2, 0) := by decide
theorem sh_add3 : kAdd [shA, shB] shA = ([shA, shB], 1, 0) := by decide
theorem sh_no : kNo [shA, shB] = 0 := by decide
theorem sh_of : kOf [shA, shB] 1 = (shA, 0) := by decide
theorem sh_p1 : ([56, 58, 32, 52, 59, 32, 48, 58] : List UInt8) = printT 8 [4] 0 [] := by
  simp [printT, halfT, wordsT, Lib.itoa, Lib.decDigits]
theorem sh_p2 : ([56, 58, 59, 32, 48, 58] : List UInt8) = printT 8 [] 0 [] := by
  simp [printT, halfT, wordsT, Lib.itoa, Lib.decDigits]
theorem sh_text : kText [shA, shB] = [56, 58, 32, 52, 59, 32, 48, 58, 10, 56, 58, 59, 32, 48, 58, 10] := by
  rw [show kText [shA, shB] = linesT [shA, shB] by unfold kText; rw [if_pos (by decide)]]
  rw [linesT_cons, linesT_cons, show dP shA = printT 8 [4] 0 [] from rfl, show dP shB = printT 8 [] 0 [] from rfl, ← sh_p1, ← sh_p2]
  rfl
theorem sh_twice : ([56, 58, 32, 52, 59, 32, 48, 58, 10, 56, 58, 32, 52, 59, 32, 48, 58, 10] : List UInt8) = linesT [shA, shA] := by
  rw [linesT_cons, linesT_cons, show dP shA = printT 8 [4] 0 [] from rfl, ← sh_p1]
  rfl
theorem sh_parse : kParse [56, 58, 32, 52, 59, 32, 48, 58, 10, 56, 58, 32, 52, 59, 32, 48, 58, 10] = ([], 2, 52) := by
  have hr : dR shA = true := by decide
  rw [sh_twice]
  unfold kParse
  rw [linesOf_lines _ _ (by simp [hr])]
  have hl := linesT_len [shA, shA]
  rw [List.take_of_length_le (by simp at hl ⊢; omega)]
  simp [parseL, readK, read_dP hr]

/-- Kinds, a number and a code, as a walk wants them. -/
theorem GivesK.int {w : World} {r : List DscK × Nat × Nat} {x : Ending} {w' : World} (h : GivesK w r x w') : ∃ A n c, x = .returned (.tuple #[.slice A n c, .int .i64 (r.2.1 : Nat), .int .i64 (r.2.2 : Nat)]) ∧ RowD w' A n r.1 ∧ Below w.heap.size w w' := by
  obtain ⟨A, n, c, h1, h2, -, h4⟩ := h
  exact ⟨A, n, c, h1, h2, h4⟩
theorem run_one (x : Int) (W : World) : (Instr.buildSlice 33 1 #[(0, .int .i64 x)]).run Tryz.prog W = .ok (.slice (some ⟨W.heap.size, 0, none⟩) 1 1) (W.alloc (.cells #[.int .i64 x] 3)) := by go_simp
theorem Sm.of_len {ds : List DscK} (h : ∀ d ∈ ds, d.2.1.length ≤ 20 ∧ d.2.2.2.length ≤ 20) : Sm ds := fun d hd => ⟨by have := (h d hd).1; omega, by have := (h d hd).2; omega⟩

set_option maxRecDepth 100000 in
set_option maxHeartbeats 4000000 in
/-- shown. -/
theorem kshown_any (w : World) (hD : DK w) : Calls Tryz.prog 9 #[] w fun e w' => e = .returned (.bool true) ∧ Below w.heap.size w w' := by
  have hro := run_one 4
  have hb0 := below_le (below_box w (.cells #[.int .i64 4] 3)) (below_box _ (descO 8 (some ⟨w.heap.size, 0, none⟩) 1 1 0 none 0 0))
  have h0 : Blk ((w.alloc (.cells #[.int .i64 4] 3)).alloc (descO 8 (some ⟨w.heap.size, 0, none⟩) 1 1 0 none 0 0)) w.heap.size 3 #[.int .i64 4] := Blk.alloc (Blk.new _ _ _) _
  have h1 : Blk ((w.alloc (.cells #[.int .i64 4] 3)).alloc (descO 8 (some ⟨w.heap.size, 0, none⟩) 1 1 0 none 0 0)) (w.heap.size + 1) 35 #[.int .i64 8, .slice (some ⟨w.heap.size, 0, none⟩) 1 1, .int .i64 0, .slice none 0 0] := heap_new (by simp) _
  have HD := Lib.hid hD
  have HB := Lib.hid hb0
  have HP : Hid (Row _ _ _ (([4] : List Int).map Iv)) := Lib.hid h0.row
  have a0 := h1.at_ (i := 0) rfl
  have a1 := h1.at_ (i := 1) rfl
  have a2 := h1.at_ (i := 2) rfl
  have a3 := h1.at_ (i := 3) rfl
  clear hD hb0 h0 h1
  go_enter Tryz.func9, Tryz.ntmps9
  go_wp2_with fail
  generalize (w.alloc (.cells #[.int .i64 4] 3)).alloc (descO 8 (some ⟨w.heap.size, 0, none⟩) 1 1 0 none 0 0) = W0 at *
  clear hro
  have h := add_any none 0 0 [] shA (some ⟨w.heap.size, 0, none⟩) none 1 1 0 0 W0 RowD.none_ Sm.nil (by omega) HP.out Row.none_ (by decide) (tab_ext HD.out.2.2 HB.out) (HD.out.1.ext HB.out)
  rw [sh_add1] at h
  refine h.mono ?_
  clear h
  intro x w1 h
  obtain ⟨A1, n1, c1, rfl, hR1, hb1⟩ := h.int
  dsimp only at hR1 ⊢
  replace a0 := cell_ext hb1 a0; replace a1 := cell_ext hb1 a1; replace a2 := cell_ext hb1 a2; replace a3 := cell_ext hb1 a3; replace HP := Lib.hid (HP.out.ext hb1)
  replace HB := Lib.hid (below_le HB.out hb1)
  have HR1 := Lib.hid hR1
  clear h hb1 hR1
  go_wp2_with fail
  have h := add_any A1 n1 c1 [shA] shB none none 0 0 0 0 w1 HR1.out (by intro d hd; rw [List.mem_singleton.1 hd]; decide) (by have := HR1.out.1; simp at this; omega) Row.none_ Row.none_ (by decide) (tab_ext HD.out.2.2 HB.out) (HD.out.1.ext HB.out)
  rw [sh_add2] at h
  refine h.mono ?_
  clear h
  intro x w2 h
  obtain ⟨A2, n2, c2, rfl, hR2, hb2⟩ := h.int
  dsimp only at hR2 ⊢
  replace a0 := cell_ext hb2 a0; replace a1 := cell_ext hb2 a1; replace a2 := cell_ext hb2 a2; replace a3 := cell_ext hb2 a3; replace HP := Lib.hid (HP.out.ext hb2)
  replace HB := Lib.hid (below_le HB.out hb2)
  have HR2 := Lib.hid hR2
  have hn2 : n2 ≤ 1000 := by have := hR2.1; simp at this; omega
  have hs2 : Sm [shA, shB] := by
    intro d hd
    rcases List.mem_cons.1 hd with rfl | hd
    · decide
    · rw [List.mem_singleton.1 hd]; decide
  have HS2 := Lib.hid hs2
  clear h hb2 hR2 HR1 hs2
  go_wp2_with fail
  have h := add_any A2 n2 c2 [shA, shB] shA (some ⟨w.heap.size, 0, none⟩) none 1 1 0 0 w2 HR2.out HS2.out hn2 HP.out Row.none_ (by decide) (tab_ext HD.out.2.2 HB.out) (HD.out.1.ext HB.out)
  rw [sh_add3] at h
  refine h.mono ?_
  clear h
  intro x w3 h
  obtain ⟨A3, n3, c3, rfl, hR3, hb3⟩ := h.int
  dsimp only
  replace a0 := cell_ext hb3 a0; replace a1 := cell_ext hb3 a1; replace a2 := cell_ext hb3 a2; replace a3 := cell_ext hb3 a3; replace HP := Lib.hid (HP.out.ext hb3); replace HR2 := Lib.hid (HR2.out.ext hb3)
  replace HB := Lib.hid (below_le HB.out hb3)
  clear h hb3 hR3
  go_wp2_with fail
  have h := kprint_any A2 n2 c2 [shA, shB] w3 HR2.out HS2.out hn2 (tab_ext HD.out.2.2 HB.out) (HD.out.1.ext HB.out)
  rw [sh_text, sh_no] at h
  refine h.mono ?_
  clear h
  rintro x w4 ⟨rfl, hb4⟩
  replace a0 := cell_ext hb4 a0; replace a1 := cell_ext hb4 a1; replace a2 := cell_ext hb4 a2; replace a3 := cell_ext hb4 a3; replace HP := Lib.hid (HP.out.ext hb4); replace HR2 := Lib.hid (HR2.out.ext hb4)
  replace HB := Lib.hid (below_le HB.out hb4)
  clear hb4
  go_wp2_with fail
  have h := kparse_any ⟨#[56, 58, 32, 52, 59, 32, 48, 58, 10, 56, 58, 32, 52, 59, 32, 48, 58, 10]⟩ w4 (by decide) (shortL_of _ _ (by decide)) (HD.out.2.1.ext HB.out) (HD.out.1.ext HB.out)
  rw [show kParse (⟨#[56, 58, 32, 52, 59, 32, 48, 58, 10, 56, 58, 32, 52, 59, 32, 48, 58, 10]⟩ : ByteArray).data.toList = ([], 2, 52) from sh_parse] at h
  refine h.mono ?_
  clear h
  intro x w5 h
  obtain ⟨A5, n5, c5, rfl, -, hb5⟩ := h.int
  dsimp only
  replace a0 := cell_ext hb5 a0; replace a1 := cell_ext hb5 a1; replace a2 := cell_ext hb5 a2; replace a3 := cell_ext hb5 a3; replace HP := Lib.hid (HP.out.ext hb5); replace HR2 := Lib.hid (HR2.out.ext hb5)
  replace HB := Lib.hid (below_le HB.out hb5)
  clear h hb5
  go_wp2_with fail
  have h := of_any A2 n2 c2 [shA, shB] 1 w5 HR2.out HS2.out hn2 (tab_ext HD.out.2.2 HB.out) (HD.out.1.ext HB.out)
  rw [sh_of] at h
  refine h.mono ?_
  clear h
  rintro x w6 ⟨v, rfl, ⟨P, m, c, Q, q, f, rfl, hP, hQ, -, -⟩, hb6⟩
  have hP : Row w6 P m (([4] : List Int).map Iv) := hP
  have hQ : Row w6 Q q (([] : List Int).map Iv) := hQ
  obtain rfl : m = 1 := hP.1.symm
  obtain rfl : q = 0 := hQ.1.symm
  have hx := below_box w6 (descO 8 P 1 c 0 Q 0 f)
  have h1 : Blk (w6.alloc (descO 8 P 1 c 0 Q 0 f)) w6.heap.size 35 #[.int .i64 8, .slice P 1 c, .int .i64 0, .slice Q 0 f] := Blk.new _ _ _
  replace a0 := cell_ext hb6 a0; replace a1 := cell_ext hb6 a1; replace a2 := cell_ext hb6 a2; replace a3 := cell_ext hb6 a3; replace HP := Lib.hid (HP.out.ext hb6)
  replace a0 := cell_ext hx a0; replace a1 := cell_ext hx a1; replace a2 := cell_ext hx a2; replace a3 := cell_ext hx a3; replace HP := Lib.hid (HP.out.ext hx)
  have HP2 := Lib.hid (hP.ext hx)
  have HQ2 := Lib.hid (hQ.ext hx)
  have b0 := h1.at_ (i := 0) rfl
  have b1 := h1.at_ (i := 1) rfl
  have b2 := h1.at_ (i := 2) rfl
  have b3 := h1.at_ (i := 3) rfl
  replace HB := Lib.hid (below_le (below_le HB.out hb6) hx)
  clear hP hQ hx hb6 h1 HR2
  dsimp only [shA]
  go_wp2_with fail
  generalize w6.alloc (descO 8 P 1 c 0 Q 0 f) = W6 at *
  have h := dsame_any 8 0 P Q 1 c 0 f [4] [] 8 0 (some ⟨w.heap.size, 0, none⟩) none 1 1 0 0 [4] [] W6 HP2.out HQ2.out HP.out Row.none_ (by omega) (by omega) (by omega) (by omega)
  rw [show dSame 8 0 [4] [] 8 0 [4] [] = true by decide] at h
  refine h.mono ?_
  clear h
  rintro x w7 ⟨rfl, hb7⟩
  replace HB := Lib.hid (below_le HB.out hb7)
  clear hb7
  go_wp2
  go_ret
  exact ⟨rfl, HB.out⟩
end Go.Proofs.YtmabokmnniiadaaGreatDoor
namespace Go.Proofs.YtmabokmnniiadaaGreatDoor
open Go.RowKit

def cutK (d : DscK) : DscK := (d.1, d.2.1.take 20, d.2.2.1, d.2.2.2.take 20)
def kFew (ds : List DscK) : List DscK := (ds.take 62).map cutK
theorem kFew_len (ds : List DscK) : (kFew ds).length ≤ 62 := by simp [kFew]; omega
theorem kFew_sm (ds : List DscK) : Sm (kFew ds) := Sm.of_len fun d hd => by
  obtain ⟨x, -, rfl⟩ := List.mem_map.1 hd
  simp [cutK]
  omega
theorem kFew_places (ds : List DscK) : ∀ d ∈ kFew ds, d.2.1.length ≤ 20 ∧ d.2.2.2.length ≤ 20 := fun d hd => by
  obtain ⟨x, -, rfl⟩ := List.mem_map.1 hd
  simp [cutK]
  omega
theorem kFew_get {ds : List DscK} {k : Nat} {d : DscK} (h : ds[k]? = some d) (hk : k < 62) : (kFew ds)[k]? = some (cutK d) := by
  simp [kFew, List.getElem?_map, hk, h]
theorem kFew_all {ds : List DscK} : (kFew ds).length = min ds.length 62 := by simp [kFew, Nat.min_comm]
theorem get_caps {w : World} {A : Option Addr} {n k : Nat} {ms : List MD} {ds : List DscK} (h : RowM w A n ms ds) (hC : CapsOk w A n) (hk : k < n) : ∃ b off z P m c e Q q f ps es, A = some ⟨b, off, none⟩ ∧ ms[k]? = some (z, (P, m, c), e, (Q, q, f)) ∧ ds[k]? = some (z, ps, e, es) ∧ Row w P m (ps.map Iv) ∧ Row w Q q (es.map Iv) ∧ m ≤ c ∧ q ≤ f ∧
    w.cell? ⟨b, off + k * 4, none⟩ = some (.int .i64 z) ∧ w.cell? ⟨b, off + k * 4 + 1, none⟩ = some (.slice P m c) ∧ w.cell? ⟨b, off + k * 4 + 2, none⟩ = some (.int .i64 e) ∧ w.cell? ⟨b, off + k * 4 + 3, none⟩ = some (.slice Q q f) := by
  obtain ⟨b, off, z, P, m, c, e, Q, q, f, ps, es, rfl, hms, hd, r1, r2, d0, d1, d2, d3⟩ := h.get hk
  obtain ⟨g, o, hA, hc⟩ := hC (by omega)
  obtain ⟨P', m', c', Q', q', f', e1, l1, e3, l3⟩ := hc k hk
  simp only [Option.some.injEq, Addr.mk.injEq, and_true] at hA
  obtain ⟨rfl, rfl⟩ := hA
  rw [Nat.mul_comm 4 k] at e1 e3
  rw [d1] at e1
  rw [d3] at e3
  injection e1 with e1
  injection e3 with e3
  injection e1 with _ e1 e2
  injection e3 with _ e3 e4
  subst e1 e2 e3 e4
  exact ⟨b, off, z, P, m, c, e, Q, q, f, ps, es, rfl, hms, hd, r1, r2, l1, l3, d0, d1, d2, d3⟩

/-- The blocks of the lists of some are among those of others. -/
def Among (ms ms0 : List MD) : Prop := ∀ d ∈ ms, ∀ b ∈ blkM d, ∃ d0 ∈ ms0, b ∈ blkM d0
theorem blkM_cut {z e : Int} {P Q : Option Addr} {m c q f : Nat} : ∀ b ∈ blkM (z, (P, min m 20, c), e, (Q, min q 20, f)), b ∈ blkM (z, (P, m, c), e, (Q, q, f)) := by
  intro b hb
  have h1 : ∀ (A : Option Addr) (k : Nat), b ∈ blkR A (min k 20) → b ∈ blkR A k := fun A k h => by
    unfold blkR at h ⊢
    split at h
    · rw [if_pos (by omega)]; exact h
    · simp at h
  exact List.mem_append.2 ((List.mem_append.1 hb).imp (h1 P m) (h1 Q q))
/-- A list that the call owns, as far as it is made. -/
def FList (w0 w : World) (ms0 : List MD) (v : Value) (k : Nat) (L : List DscK) : Prop :=
  ∃ ms, w.ownsRow w0.heap.size 35 4 v k (cellsD ms) ∧ ms.length = k ∧ (∀ (j : Nat) (d : MD) (x : DscK), ms[j]? = some d → L[j]? = some x → Fits w0 d x) ∧ Among ms ms0

set_option maxRecDepth 100000 in
set_option maxHeartbeats 4000000 in
/-- Few. -/
theorem few_all (A : Option Addr) (n c : Nat) (ms0 : List MD) (ds : List DscK) (w : World) (hR : RowM w A n ms0 ds) (hC : CapsOk w A n) :
    Calls Tryz.prog 10 #[.slice A n c] w fun x w' => ∃ B m d ms, x = .returned (.slice B m d) ∧ m ≤ 62 ∧ RowM w' B m ms (kFew ds) ∧ Among ms ms0 ∧ (∀ a, B = some a → w.heap.size ≤ a.block) ∧ Below w.heap.size w w' := by
  obtain ⟨inf, hi, hi0, hi1, hi2⟩ := info_parts desc_info
  have hlen := hR.1
  have HR := Lib.hid hR
  have HC := Lib.hid hC
  have HLEN := Lib.hid hlen
  have h0 : FList w w ms0 (.slice none 0 0) 0 (kFew ds) := ⟨[], ⟨rfl, .inl ⟨rfl, rfl⟩⟩, rfl, fun j d x h => by simp at h, fun d h => by simp at h⟩
  have H0 := Lib.hid h0
  clear hR hC hlen h0
  go_enter Tryz.func10, Tryz.ntmps10
  go_wp2
  go_loopw [3, 4] (fun v i wr => ∃ k : Nat, k ≤ n ∧ k ≤ 62 ∧ i = .int .i64 k ∧ FList w wr ms0 v k (kFew ds) ∧ Below w.heap.size w wr) (fun _ i _ => 62 - (intOf i).toNat)
  case atStart => exact ⟨0, Nat.zero_le _, Nat.zero_le _, rfl, H0.out, Below.refl _ _⟩
  case round =>
    clear H0
    obtain ⟨k, hkn, hk62, rfl, hF, hb⟩ := hrel
    obtain ⟨ms, hown, hml, hfit, ham⟩ := hF
    obtain ⟨av, cv, rfl⟩ := own_shape hown
    by_cases hlt : k < n ∧ k < 62
    · obtain ⟨hl1, hl2⟩ := hlt
      obtain ⟨b, off, z, P, m, c', e, Q, q, f, ps, es, rfl, hms, hd, r1, r2, hmc, hqf, d0, d1, d2, d3⟩ := get_caps HR.out HC.out hl1
      have ham2 : Among (ms ++ [(z, (P, min m 20, c'), e, (Q, min q 20, f))]) ms0 := fun d hd b hb => by
        rcases List.mem_append.1 hd with hd | hd
        · exact ham d hd b hb
        · rw [List.mem_singleton.1 hd] at hb
          exact ⟨_, List.mem_of_getElem? hms, blkM_cut b hb⟩
      have e0 := cell_ext hb d0
      have e1 := cell_ext hb d1
      have e2 := cell_ext hb d2
      have e3 := cell_ext hb d3
      have hcut := dcut_any z e P Q m c' q f wr hmc hqf
      have r1' := row_cut r1
      have r2' := row_cut r2
      have hnew := kFew_get hd hl2
      unfold cutK at hnew
      dsimp only at hnew
      generalize min m 20 = m' at *
      generalize min q 20 = q' at *
      have HAM := Lib.hid ham2
      have HN := Lib.hid hnew
      have HR1 := Lib.hid r1'
      have HR2 := Lib.hid r2'
      have HCUT := Lib.hid hcut
      have HB := Lib.hid hb
      have HO := Lib.hid hown
      have HML := Lib.hid hml
      have HF := Lib.hid hfit
      have hki : ((k : Nat) : Int) < 62 := by omega
      have hkj : ((k : Nat) : Int) < (n : Int) := by omega
      clear ham ham2 hms hnew r1 r2 r1' r2' hcut hb hown hml hfit d0 d1 d2 d3 hd
      go_wp2_with fail
      refine HCUT.out.mono ?_
      rintro x w2 ⟨rfl, hb2⟩
      have hown2 := own_extD hb2 HO.out
      have HO2 := Lib.hid hown2
      have HB2 := Lib.hid (below_le HB.out hb2)
      clear hown2 hb2 HCUT e0 e1 e2 e3 HO
      go_wp2_with (at_builtin; refine stop_hereK ?_)
      intro _
      refine wpList_pushD (w0 := w) w2 rfl (.tmp 15) (.tmp 21) 22 rfl w.heap.size 35 inf (.agg #[.int .i64 0, .slice none 0 0, .int .i64 0, .slice none 0 0]) 64 Tryz.underlying22 hi hi0 hi1 hi2 rfl (.slice av k cv) k ms rfl HO2.out
        (z, (P, m', c'), e, (Q, q', f)) rfl (by unfold maxLen; omega) (by omega) (Nat.le_refl _) HB2.out.size HB2.out (fun k e => own_baseD HO2.out e) ?_
      intro v' w3 hown3 hb3 hk3
      have HF3 : Hid (FList w w3 ms0 v' (k + 1) (kFew ds)) := Lib.hid ⟨_, hown3, by simp [HML.out], fun j d x h1 h2 => (show Fits w d x by
        have hml := HML.out
        by_cases hj : j < ms.length
        · rw [List.getElem?_append_left hj] at h1
          exact HF.out j d x h1 h2
        · rw [List.getElem?_append_right (by omega)] at h1
          have hj0 : j - ms.length = 0 := by
            have := (List.getElem?_eq_some_iff.1 h1).1
            simp at this
            omega
          rw [hj0] at h1
          simp at h1
          subst h1
          have : j = k := by omega
          subst this
          rw [HN.out] at h2
          cases h2
          exact ⟨rfl, rfl, HR1.out, HR2.out⟩), HAM.out⟩
      have HB3 := Lib.hid hb3
      clear hown3 hb3 hk3 HO2 HB2 HB HF HML HN
      go_wp2
      go_roundw
      case rel => exact ⟨k + 1, by omega, by omega, by go_num, HF3.out, HB3.out⟩
      case measure => simp [intOf]; omega
    · have hkf : (kFew ds).length = k := by
        rw [kFew_all, HLEN.out]
        omega
      have hres := rowM_of_owns (ds := kFew ds) hown (by rw [hml, hkf]) (fun j d x h1 h2 => (hfit j d x h1 h2).ext hb)
      have HFR := Lib.hid (show ∀ a, av = some a → w.heap.size ≤ a.block from fun a e => by
        subst e
        rcases hown.2 with ⟨he, _⟩ | ⟨g, cap, cur, he, hg, _⟩
        · cases he
        · injection he with he
          injection he with he
          rw [he]
          exact hg)
      have HAM := Lib.hid ham
      have HRES := Lib.hid hres
      have HB := Lib.hid hb
      clear hres hb hown hml hfit hkf ham
      by_cases h : k < n
      · obtain rfl : k = 62 := by omega
        have h1 : (62 : Int) < (n : Int) := by omega
        clear hlt h
        go_wp2
        go_ret
        exact ⟨_, _, _, ms, rfl, hk62, HRES.out, HAM.out, HFR.out, HB.out⟩
      · obtain rfl : k = n := by omega
        clear hlt h
        go_wp2
        go_ret
        exact ⟨_, _, _, ms, rfl, hk62, HRES.out, HAM.out, HFR.out, HB.out⟩

theorem few_any (A : Option Addr) (n c : Nat) (ds : List DscK) (w : World) (hR : RowD w A n ds) (hC : CapsOk w A n) :
    Calls Tryz.prog 10 #[.slice A n c] w fun x w' => ∃ B m d, x = .returned (.slice B m d) ∧ m ≤ 62 ∧ RowD w' B m (kFew ds) ∧ Below w.heap.size w w' := by
  obtain ⟨ms, hM⟩ := hR.ms
  exact (few_all A n c ms ds w hM hC).mono fun x w' ⟨B, m, d, ms2, h1, h2, h3, _, _, h4⟩ => ⟨B, m, d, h1, h2, h3.rowD, h4⟩
end Go.Proofs.YtmabokmnniiadaaGreatDoor
namespace Go.Proofs.YtmabokmnniiadaaGreatDoor
open Go.RowKit

theorem CapsOk.ext {w w' : World} {A : Option Addr} {n : Nat} (h : CapsOk w A n) (hb : Below w.heap.size w w') : CapsOk w' A n := fun hn => by
  obtain ⟨g, off, e, hc⟩ := h hn
  refine ⟨g, off, e, fun k hk => ?_⟩
  obtain ⟨P, m, c, Q, q, f, h1, h2, h3, h4⟩ := hc k hk
  exact ⟨P, m, c, Q, q, f, cell_ext hb h1, h2, cell_ext hb h3, h4⟩
theorem kOf_cases (l : List DscK) (n : Int) : ((kOf l n).2 = 50 ∧ kRight l = false) ∨ ((kOf l n).2 = 51 ∧ kRight l = true) ∨ ((kOf l n).2 = 0 ∧ kRight l = true ∧ 1 ≤ n ∧ n ≤ l.length ∧ (kOf l n).1 ∈ l ∧ dR (kOf l n).1 = true ∧ (kFind l (kOf l n).1 : Int) = n) := by
  cases hr : kRight l
  · exact .inl ⟨by unfold kOf; rw [if_pos hr], rfl⟩
  · by_cases hn : n < 1 ∨ (l.length : Int) < n
    · exact .inr (.inl ⟨by unfold kOf; rw [if_neg (by rw [hr]; simp), if_pos hn], rfl⟩)
    · have h0 : (kOf l n).2 = 0 := by unfold kOf; rw [if_neg (by rw [hr]; simp), if_neg hn]
      obtain ⟨h1, h2, h3, h4, h5⟩ := kOf_ok h0
      have hk := kRight_iff.1 h1
      refine .inr (.inr ⟨h0, rfl, h2, h3, h5, hk.2.1 _ h5, ?_⟩)
      rw [kFind_of hk.2.2 h4]
      omega

set_option maxRecDepth 100000 in
set_option maxHeartbeats 4000000 in
theorem kindsAll_any (A : Option Addr) (n c : Nat) (ds : List DscK) (nn : Int) (w : World) (hD : DK w) (hR : RowD w A n ds) (hC : CapsOk w A n) :
    Calls Tryz.prog 4 #[.slice A n c, .int .i64 nn] w (Holds w) := by
  have HD := Lib.hid hD
  have HR0 := Lib.hid hR
  have HC0 := Lib.hid hC
  clear hD hR hC
  go_enter Tryz.func4, Tryz.ntmps4
  go_wp2_with fail
  refine (kshown_any w HD.out).mono ?_
  rintro x w1 ⟨rfl, hb1⟩
  have HB := Lib.hid hb1
  have HR1 := Lib.hid (HR0.out.ext hb1)
  have HC1 := Lib.hid (HC0.out.ext hb1)
  clear hb1 HR0 HC0
  go_wp2_with fail
  refine (few_any A n c ds w1 HR1.out HC1.out).mono ?_
  rintro x w2 ⟨A2, m, c2, rfl, hm, hR2, hb2⟩
  have HR := Lib.hid hR2
  have HS := Lib.hid (kFew_sm ds)
  have HPL := Lib.hid (kFew_places ds)
  have hlen := hR2.1
  replace HB := Lib.hid (below_le HB.out hb2)
  clear hR2 hb2 HR1 HC1
  generalize kFew ds = l at *
  have HLEN := Lib.hid hlen
  clear hlen
  go_wp2_with fail
  have h := of_any A2 m c2 l nn w2 HR.out HS.out (by omega) (tab_ext HD.out.2.2 HB.out) (HD.out.1.ext HB.out)
  have hcs := kOf_cases l nn
  unfold GivesOf at h
  generalize kOf l nn = r at *
  obtain ⟨⟨z, ps, e, es⟩, cc⟩ := r
  dsimp only at h hcs
  refine h.mono ?_
  clear h
  rintro x w3 ⟨v, rfl, ⟨P, p, cp, Q, q, f, rfl, hP, hQ, -, -⟩, hb3⟩
  have hx := below_box w3 (descO z P p cp e Q q f)
  have h1 : Blk (w3.alloc (descO z P p cp e Q q f)) w3.heap.size 35 #[.int .i64 z, .slice P p cp, .int .i64 e, .slice Q q f] := Blk.new _ _ _
  have HP := Lib.hid (hP.ext hx)
  have HQ := Lib.hid (hQ.ext hx)
  replace HR := Lib.hid ((HR.out.ext hb3).ext hx)
  replace HB := Lib.hid (below_le (below_le HB.out hb3) hx)
  have a0 := h1.at_ (i := 0) rfl
  have a1 := h1.at_ (i := 1) rfl
  have a2 := h1.at_ (i := 2) rfl
  have a3 := h1.at_ (i := 3) rfl
  clear hP hQ hx hb3 h1
  rcases hcs with ⟨rfl, hr⟩ | ⟨rfl, hr⟩ | ⟨rfl, hr, hn1, hn2, hmem, hdr, hfd⟩
  · go_wp2_with fail
    generalize w3.alloc (descO z P p cp e Q q f) = W3 at *
    have h := kright_any A2 m c2 l W3 HR.out HS.out (by omega) (tab_ext HD.out.2.2 HB.out)
    rw [hr] at h
    refine h.mono ?_
    clear h
    rintro x w4 ⟨rfl, hb4⟩
    replace HB := Lib.hid (below_le HB.out hb4)
    clear hb4
    go_wp2
    go_ret
    exact ⟨rfl, HB.out⟩
  · go_wp2_with fail
    generalize w3.alloc (descO z P p cp e Q q f) = W3 at *
    have h := kright_any A2 m c2 l W3 HR.out HS.out (by omega) (tab_ext HD.out.2.2 HB.out)
    rw [hr] at h
    refine h.mono ?_
    clear h
    rintro x w4 ⟨rfl, hb4⟩
    replace HB := Lib.hid (below_le HB.out hb4)
    clear hb4
    go_wp2
    go_ret
    exact ⟨rfl, HB.out⟩
  · go_wp2_with fail
    generalize w3.alloc (descO z P p cp e Q q f) = W3 at *
    have hsm := HS.out _ hmem
    have hpl := HP.out.1
    have hql := HQ.out.1
    simp at hpl hql
    have hp : p ≤ 1000 := by have := hsm.1; dsimp only at this; omega
    have hq : q ≤ 1000 := by have := hsm.2; dsimp only at this; omega
    have h := kfind_any A2 m c2 l (z, ps, e, es) P Q p cp q f W3 HR.out HS.out (by omega) HP.out HQ.out hsm
    have hpos : 0 < kFind l (z, ps, e, es) := by omega
    rw [decide_eq_true hpos, hfd] at h
    refine h.mono ?_
    clear h
    rintro x w4 ⟨rfl, hb4⟩
    replace a0 := cell_ext hb4 a0; replace a1 := cell_ext hb4 a1; replace a2 := cell_ext hb4 a2; replace a3 := cell_ext hb4 a3; replace HP := Lib.hid (HP.out.ext hb4); replace HQ := Lib.hid (HQ.out.ext hb4)
    replace HB := Lib.hid (below_le HB.out hb4)
    have hml : nn ≤ (m : Int) := by have := HLEN.out; omega
    clear hb4 hpos hfd hmem hsm hpl hql
    go_wp2_with fail
    have h := dright_any z e P Q p cp q f ps es w4 HP.out HQ.out hp hq
    rw [show dRight z ps e es = true from hdr] at h
    refine h.mono ?_
    clear h
    rintro x w5 ⟨rfl, hb5⟩
    replace HB := Lib.hid (below_le HB.out hb5)
    clear hb5
    go_wp2
    go_ret
    exact ⟨rfl, HB.out⟩
end Go.Proofs.YtmabokmnniiadaaGreatDoor
namespace Go.Proofs.YtmabokmnniiadaaGreatDoor
open Go.RowKit

/-- The first eight hundred bytes. -/
theorem kcut_any (s : ByteArray) : ∃ s' : ByteArray, s'.size ≤ 800 ∧ ∀ W : World, Calls Tryz.prog 14 #[.string s] W fun e w' => e = .returned (.string s') ∧ Below W.heap.size W w' := by
  have hmin : (min (s.size : Int) 800).toNat ≤ 800 := by omega
  refine ⟨s.extract 0 (min (s.size : Int) 800).toNat, by rw [ByteArray.size_extract]; omega, fun W => ?_⟩
  clear hmin
  go_enter Tryz.func14, Tryz.ntmps14
  go_wp2
  go_ret
  exact ⟨rfl, Below.refl _ _⟩
theorem dP_short {d : DscK} (h : dR d = true) (h1 : d.2.1.length ≤ 20) (h2 : d.2.2.2.length ≤ 20) : (dP d).length ≤ 1000 := by
  have hz := bounds_of h
  have hs := small_of h
  have l1 := halfK_len hz.1 hs.1 d.2.1.length
  have l2 := halfK_len hz.2 hs.2 d.2.2.2.length
  rw [halfK_all (Nat.le_refl _)] at l1 l2
  unfold dP printT
  simp only [List.length_append, List.length_cons, List.length_nil]
  omega
theorem linesT_short : ∀ {l : List DscK}, (∀ d ∈ l, (dP d).length ≤ 1000) → (linesT l).length ≤ l.length * 1001
  | [], _ => by simp [linesT]
  | d :: l, h => by
    have h1 := linesT_short (l := l) fun x hx => h x (by simp [hx])
    have h2 := h d (by simp)
    rw [linesT_cons]
    simp
    omega
/-- What is printed is parsed. -/
theorem back_one {l : List DscK} (hp : ∀ d ∈ l, d.2.1.length ≤ 20 ∧ d.2.2.2.length ≤ 20) : ∃ (t : ByteArray) (no : Nat), (⟨(kText l).toArray⟩ : ByteArray) = t ∧ kNo l = no ∧ t.size ≤ 1000000 ∧ shortL (linesOf (t.data.toList.length + 1) t.data.toList) ∧
    ((no = 0 ∧ kRight l = true ∧ kParse t.data.toList = (l, 0, 0)) ∨ (no = 50 ∧ kRight l = false)) := by
  refine ⟨_, _, rfl, rfl, ?_⟩
  cases hr : kRight l
  · refine ⟨?_, ?_, .inr ⟨by unfold kNo; rw [hr]; rfl, rfl⟩⟩
    · unfold kText
      rw [hr]
      exact Nat.zero_le _
    · unfold kText
      rw [hr]
      exact shortL_of _ _ (Nat.zero_le _)
  · have hk := kRight_iff.1 hr
    have hs : ∀ d ∈ l, (dP d).length ≤ 1000 := fun d hd => dP_short (hk.2.1 d hd) (hp d hd).1 (hp d hd).2
    have hl := linesT_short hs
    have e : kText l = linesT l := by unfold kText; rw [if_pos hr]
    rw [e]
    refine ⟨by rw [size_list]; omega, shortL_lines _ hk.2.1 hs, .inl ⟨by unfold kNo; rw [if_pos hr], rfl, kParse_lines hr⟩⟩
/-- What is parsed has that text. -/
theorem back_two (s : ByteArray) : ∃ o k g, kParse s.data.toList = (o, k, g) ∧ o.length ≤ 60 ∧ Sm o ∧ k ≤ s.size ∧ ((g = 0 ∧ k = 0 ∧ kNo o = 0 ∧ (⟨(kText o).toArray⟩ : ByteArray) = s) ∨ (g ≠ 0 ∧ o = [] ∧ 0 < k)) := by
  obtain ⟨o, k, g, h⟩ : ∃ o k g, kParse s.data.toList = (o, k, g) := ⟨_, _, _, rfl⟩
  have hl := kParse_len s.data.toList
  rw [h] at hl
  refine ⟨o, k, g, h, hl.1, ?_⟩
  have hk : k ≤ s.size := by have := hl.2; simpa using this
  by_cases hg : g = 0
  · subst hg
    obtain ⟨h1, h2, h3⟩ := kParse_some h
    refine ⟨Sm.of_right (kRight_iff.1 h3).2.1, hk, .inl ⟨rfl, h2, by unfold kNo; rw [if_pos h3], ?_⟩⟩
    unfold kText
    rw [if_pos h3, ← h1]
  · obtain ⟨rfl, h2⟩ := kParse_bad h hg
    exact ⟨Sm.nil, hk, .inr ⟨hg, rfl, h2⟩⟩

set_option maxRecDepth 100000 in
set_option maxHeartbeats 8000000 in
theorem kindsBack_any (A : Option Addr) (n c : Nat) (ds : List DscK) (s : ByteArray) (w : World) (hD : DK w) (hR : RowD w A n ds) (hC : CapsOk w A n) :
    Calls Tryz.prog 7 #[.slice A n c, .string s] w (Holds w) := by
  obtain ⟨s', hs', hcut⟩ := kcut_any s
  have HCUT := Lib.hid hcut
  have HS8 := Lib.hid hs'
  clear hcut hs'
  have HD := Lib.hid hD
  have HR0 := Lib.hid hR
  have HC0 := Lib.hid hC
  clear hD hR hC
  go_enter Tryz.func7, Tryz.ntmps7
  go_wp2_with fail
  refine (kshown_any w HD.out).mono ?_
  rintro x w1 ⟨rfl, hb1⟩
  have HB := Lib.hid hb1
  have HR1 := Lib.hid (HR0.out.ext hb1)
  have HC1 := Lib.hid (HC0.out.ext hb1)
  clear hb1 HR0 HC0
  go_wp2_with fail
  refine (few_any A n c ds w1 HR1.out HC1.out).mono ?_
  rintro x w2 ⟨A2, m, c2, rfl, hm, hR2, hb2⟩
  have HR := Lib.hid hR2
  have HS := Lib.hid (kFew_sm ds)
  have HPL := Lib.hid (kFew_places ds)
  have hlen := hR2.1
  replace HB := Lib.hid (below_le HB.out hb2)
  clear hR2 hb2 HR1 HC1
  generalize kFew ds = l at *
  have HLEN := Lib.hid hlen
  clear hlen
  obtain ⟨t, no, ht, hno, ht1, ht2, hcs⟩ := back_one HPL.out
  have h := kprint_any A2 m c2 l w2 HR.out HS.out (by omega) (tab_ext HD.out.2.2 HB.out) (HD.out.1.ext HB.out)
  unfold GivesT at h
  rw [ht, hno] at h
  have HT1 := Lib.hid ht1
  have HT2 := Lib.hid ht2
  have HCS := Lib.hid hcs
  clear ht hno ht1 ht2 hcs
  go_wp2_with fail
  refine h.mono ?_
  clear h
  rintro x w3 ⟨rfl, hb3⟩
  replace HR := Lib.hid (HR.out.ext hb3)
  replace HB := Lib.hid (below_le HB.out hb3)
  clear hb3
  go_wp2_with fail
  have h := kparse_any t w3 HT1.out HT2.out (HD.out.2.1.ext HB.out) (HD.out.1.ext HB.out)
  have hpl := kParse_len t.data.toList
  have hcs := HCS.out
  generalize kParse t.data.toList = r at *
  obtain ⟨M, k, g⟩ := r
  dsimp only at hpl hcs
  have HCS2 := Lib.hid hcs
  clear hcs HCS
  refine h.mono ?_
  clear h
  intro x w4 h
  obtain ⟨B, bn, bc, rfl, hB, hb4⟩ := h.int
  dsimp only at hB ⊢
  have HBM := Lib.hid hB
  replace HR := Lib.hid (HR.out.ext hb4)
  replace HB := Lib.hid (below_le HB.out hb4)
  have hbn : bn ≤ 60 := by have := hB.1; omega
  have hk9 : k ≤ 1000000 := by have := HT1.out; have h2 := hpl.2; simp at h2; omega
  clear h hB hb4 hpl
  obtain ⟨o, k2, g2, hpo, ho60, hso, hk2, hcs2⟩ := back_two s'
  have HPO := Lib.hid hpo
  have HSO := Lib.hid hso
  have HC2 := Lib.hid hcs2
  have hk29 : k2 ≤ 800 := by have := HS8.out; omega
  clear hpo hso hcs2 hk2
  have hsT : (s'.toList == s'.toList) = true := beq_self_eq_true _
  rcases HCS2.out with ⟨rfl, hr, hM⟩ | ⟨rfl, hr⟩
  · obtain ⟨rfl, rfl, rfl⟩ : M = l ∧ k = 0 ∧ g = 0 := by simpa using hM
    have HRT := Lib.hid hr
    clear hM HCS2 hr
    go_wp2_with fail
    have h := ksame_any A2 B m c2 bn bc M M w4 HR.out HBM.out HS.out HS.out (by omega) (by omega)
    rw [decide_eq_true rfl] at h
    refine h.mono ?_
    clear h
    rintro x w5 ⟨rfl, hb5⟩
    replace HR := Lib.hid (HR.out.ext hb5)
    replace HB := Lib.hid (below_le HB.out hb5)
    clear hb5 HBM
    go_wp2_with fail
    refine (HCUT.out _).mono ?_
    rintro x w6 ⟨rfl, hb6⟩
    replace HR := Lib.hid (HR.out.ext hb6)
    replace HB := Lib.hid (below_le HB.out hb6)
    clear hb6
    go_wp2_with fail
    have h := kparse_any s' w6 (by have := HS8.out; omega) (shortL_of _ _ (by have := HS8.out; simp; omega)) (HD.out.2.1.ext HB.out) (HD.out.1.ext HB.out)
    rw [HPO.out] at h
    refine h.mono ?_
    clear h
    intro x w7 h
    obtain ⟨G, gn, gc, rfl, hG, hb7⟩ := h.int
    dsimp only at hG ⊢
    have HG := Lib.hid hG
    have hgn : gn ≤ 60 := by have := hG.1; omega
    have hgl := hG.1
    replace HR := Lib.hid (HR.out.ext hb7)
    replace HB := Lib.hid (below_le HB.out hb7)
    have HGL := Lib.hid hgl
    clear h hG hb7 hgl
    go_wp2_with fail
    have h := kprint_any G gn gc o w7 HG.out HSO.out (by omega) (tab_ext HD.out.2.2 HB.out) (HD.out.1.ext HB.out)
    unfold GivesT at h
    rcases HC2.out with ⟨rfl, rfl, hno, hte⟩ | ⟨hg, rfl, hk0⟩
    · rw [hte, hno] at h
      refine h.mono ?_
      clear h hte hno
      rintro x w8 ⟨rfl, hb8⟩
      replace HR := Lib.hid (HR.out.ext hb8)
      replace HB := Lib.hid (below_le HB.out hb8)
      clear hb8
      go_wp2_with fail
      have h := kright_any A2 m c2 _ w8 HR.out HS.out (by omega) (tab_ext HD.out.2.2 HB.out)
      rw [HRT.out] at h
      refine h.mono ?_
      clear h
      rintro x w9 ⟨rfl, hb9⟩
      replace HB := Lib.hid (below_le HB.out hb9)
      clear hb9
      go_wp2_with fail
      refine (HCUT.out _).mono ?_
      rintro x w10 ⟨rfl, hb10⟩
      replace HB := Lib.hid (below_le HB.out hb10)
      clear hb10
      go_wp2
      go_ret
      exact ⟨rfl, HB.out⟩
    · obtain rfl : gn = 0 := HGL.out.symm
      have h1 : (((g2 : Nat) : Int) == 0) = false := beq_eq_false_iff_ne.2 (by omega)
      have h2 : ¬ ((g2 : Nat) : Int) = 0 := by omega
      have h3 : (0 : Int) < (k2 : Int) := by omega
      rw [show kNo [] = 0 by decide] at h
      refine h.mono ?_
      clear h
      rintro x w8 ⟨rfl, hb8⟩
      replace HR := Lib.hid (HR.out.ext hb8)
      replace HB := Lib.hid (below_le HB.out hb8)
      clear hb8
      go_wp2_with fail
      have h := kright_any A2 m c2 _ w8 HR.out HS.out (by omega) (tab_ext HD.out.2.2 HB.out)
      rw [HRT.out] at h
      refine h.mono ?_
      clear h
      rintro x w9 ⟨rfl, hb9⟩
      replace HB := Lib.hid (below_le HB.out hb9)
      clear hb9
      go_wp2
      go_ret
      exact ⟨rfl, HB.out⟩
  · have HRT := Lib.hid hr
    clear HCS2 hr HBM
    generalize w4 = w5 at *
    go_wp2_with fail
    refine (HCUT.out _).mono ?_
    rintro x w6 ⟨rfl, hb6⟩
    replace HR := Lib.hid (HR.out.ext hb6)
    replace HB := Lib.hid (below_le HB.out hb6)
    clear hb6
    go_wp2_with fail
    have h := kparse_any s' w6 (by have := HS8.out; omega) (shortL_of _ _ (by have := HS8.out; simp; omega)) (HD.out.2.1.ext HB.out) (HD.out.1.ext HB.out)
    rw [HPO.out] at h
    refine h.mono ?_
    clear h
    intro x w7 h
    obtain ⟨G, gn, gc, rfl, hG, hb7⟩ := h.int
    dsimp only at hG ⊢
    have HG := Lib.hid hG
    have hgn : gn ≤ 60 := by have := hG.1; omega
    have hgl := hG.1
    replace HR := Lib.hid (HR.out.ext hb7)
    replace HB := Lib.hid (below_le HB.out hb7)
    have HGL := Lib.hid hgl
    clear h hG hb7 hgl
    go_wp2_with fail
    have h := kprint_any G gn gc o w7 HG.out HSO.out (by omega) (tab_ext HD.out.2.2 HB.out) (HD.out.1.ext HB.out)
    unfold GivesT at h
    rcases HC2.out with ⟨rfl, rfl, hno, hte⟩ | ⟨hg, rfl, hk0⟩
    · rw [hte, hno] at h
      refine h.mono ?_
      clear h hte hno
      rintro x w8 ⟨rfl, hb8⟩
      replace HR := Lib.hid (HR.out.ext hb8)
      replace HB := Lib.hid (below_le HB.out hb8)
      clear hb8
      go_wp2_with fail
      have h := kright_any A2 m c2 _ w8 HR.out HS.out (by omega) (tab_ext HD.out.2.2 HB.out)
      rw [HRT.out] at h
      refine h.mono ?_
      clear h
      rintro x w9 ⟨rfl, hb9⟩
      replace HB := Lib.hid (below_le HB.out hb9)
      clear hb9
      go_wp2_with fail
      refine (HCUT.out _).mono ?_
      rintro x w10 ⟨rfl, hb10⟩
      replace HB := Lib.hid (below_le HB.out hb10)
      clear hb10
      go_wp2
      go_ret
      exact ⟨rfl, HB.out⟩
    · obtain rfl : gn = 0 := HGL.out.symm
      have h1 : (((g2 : Nat) : Int) == 0) = false := beq_eq_false_iff_ne.2 (by omega)
      have h2 : ¬ ((g2 : Nat) : Int) = 0 := by omega
      have h3 : (0 : Int) < (k2 : Int) := by omega
      rw [show kNo [] = 0 by decide] at h
      refine h.mono ?_
      clear h
      rintro x w8 ⟨rfl, hb8⟩
      replace HR := Lib.hid (HR.out.ext hb8)
      replace HB := Lib.hid (below_le HB.out hb8)
      clear hb8
      go_wp2_with fail
      have h := kright_any A2 m c2 _ w8 HR.out HS.out (by omega) (tab_ext HD.out.2.2 HB.out)
      rw [HRT.out] at h
      refine h.mono ?_
      clear h
      rintro x w9 ⟨rfl, hb9⟩
      replace HB := Lib.hid (below_le HB.out hb9)
      clear hb9
      go_wp2
      go_ret
      exact ⟨rfl, HB.out⟩
end Go.Proofs.YtmabokmnniiadaaGreatDoor
namespace Go.Proofs.YtmabokmnniiadaaGreatDoor
open Go.ChangeShapes Go.WideShapes Go.ChangeAt Go.RowKit

theorem own0 : ownKnob Tryz.prog.godebug = none := by kernel_rfl
theorem laidOut0 : laidOutB Tryz.prog = true := by kernel_rfl
abbrev row0 : OpenClaim := Rows.kindsTextsRow

theorem gT0 : Tryz.prog.globalNamed "errors.errorType" = some 0 := by kernel_rfl
theorem rt0 : (Tryz.prog.cutTypes.find? (·.1 == "internal/reflectlite.rtype")).map (·.2) = some 122 := by kernel_rfl
theorem oneRow0 : ((List.range Tryz.prog.types.size).filter fun t => Tryz.prog.rowNamed t [101, 114, 114, 111, 114]) = [49] := by kernel_rfl
theorem hnd0 : typeHandle Tryz.prog 49 = hnd 49 := by kernel_rfl

/-- What the condition gives of errors' own variable: the handle of the type error. -/
theorem handle0 {W : World} (h : laidMetH Tryz.prog row0.laid W) : EType W := by
  have h1 := h.filter (fun x => x.1 == "errors.errorType")
  have h' : laidMet Tryz.prog [] W ∧ handlesMet Tryz.prog [("errors.errorType", Rows.laid_errors_errorType)] W := h1
  obtain ⟨name, u, ty, e1, e2, e3, e4, e5⟩ := h'.2 _ (List.mem_singleton.2 rfl)
  have en : name = [101, 114, 114, 111, 114] := (Option.some.inj e1).symm
  subst en
  obtain rfl := Option.some.inj (rt0.symm.trans e2)
  have hm : ty ∈ (List.range Tryz.prog.types.size).filter fun t => Tryz.prog.rowNamed t [101, 114, 114, 111, 114] := List.mem_filter.2 ⟨List.mem_range.2 e3, e4⟩
  rw [oneRow0] at hm
  obtain rfl := List.mem_singleton.1 hm
  rw [hnd0] at e5
  have := World.var?_cell gT0 e5 0
  show W.cell? _ = _
  simpa using this

theorem gP1 : (Tryz.prog.globals[2]?).map (·.type) = some 163 := by kernel_rfl
theorem under_tab : ∃ n, Tryz.prog.underlying 163 = some (.array n 153) ∧ Tryz.prog.cellsOf 163 = n := ⟨20, by kernel_rfl, by kernel_rfl⟩
theorem under_u64 : Tryz.prog.underlying 153 = some (.int .u64) := by kernel_rfl
theorem cells_u64 : Tryz.prog.cellsOf 153 = 1 := by kernel_rfl

theorem tabs {W : World} (h : laidMetH Tryz.prog row0.laid W) : Tab W := by
  have h' : laidMet Tryz.prog [("internal/strconv.uint64pow10", Rows.laid_internal_strconv_uint64pow10)] W := by
    have := h.filter (fun x => x.1 == "internal/strconv.uint64pow10")
    rw [MakeChecks.laidMetH_plain _ _ _ (by kernel_rfl)] at this
    exact this
  obtain ⟨n, h1, h2⟩ := under_tab
  exact Lib.tabIs_of_head (zs := Lib.pow10Tab) gP0 gP1 h1 under_u64 cells_u64 h2 h'

/-- What the row's list gives, and the world's shape. -/
theorem sents {W : World} (hsh : W.ShapedOpen Tryz.prog) (h : laidMetH Tryz.prog row0.laid W) : DK W := ⟨handle0 h, Tryz.laysM146.s1_3 W hsh, tabs h⟩

section
variable {H : Type} {enc : TypeId × Value → H} {P : Program}
theorem trodAll_stays (hl : laidOutB P = true) {W W' : World} (hb : Below W.heap.size W W') (sp : Nat → Bool) : ∀ (ts : List TypeId) (vs : List Value) (ds : List (DataW H)) (ps : List MemPlace),
    (ts.all fun t => P.readableRec t && decide (t < P.types.size)) = true → DataW.TrodAll enc P W 0 (fun _ => true) true ts vs ds ps → (∀ x ∈ ps, x.block < W.heap.size) → (∀ x ∈ ps, sp x.block = true) → DataW.TrodAll enc P W' 0 sp true ts vs ds ps
  | [], vs, ds, ps, _, h, _, _ => by
    obtain ⟨rfl, rfl, rfl⟩ := trodAll_nil h
    exact trodAll_mk0
  | t :: ts, vs, ds, ps, hr, h, hlt, hsp => by
    simp only [List.all_cons, Bool.and_eq_true, decide_eq_true_eq] at hr
    obtain ⟨v, vs', d, ds', p, q, rfl, rfl, rfl, h1, h2⟩ := trodAll_cons h
    exact trodAll_cons_mk (WideElems.Trod_stays hl hr.1.1 hr.1.2 h1 (fun x hx => hb.same (hlt x (List.mem_append_left _ hx))) (fun x hx => hsp x (List.mem_append_left _ hx)))
      (trodAll_stays hl hb sp ts vs' ds' q hr.2 h2 (fun x hx => hlt x (List.mem_append_right _ hx)) (fun x hx => hsp x (List.mem_append_right _ hx)))

theorem post_below {f : Func} {s : ChangeSpec} {apart fresh handsOn again : Bool} {W W' : World} {args : Array Value} {v : Value} {ds gs : List (DataW H)} {before pa pv : List MemPlace}
    (hW : DataW.Whole enc P f.params.toList s.vars apart W args.toList ds gs before)
    (hres : ∀ (b : Nat) (sp : Nat → Bool) (hd : Bool), DataW.TrodAll enc P W' b sp hd f.resultTypes.toList (v.resultList f.resultTypes.size) (s.fn H (ds ++ gs)).results [])
    (hargs : ∀ sp : Nat → Bool, (∀ p ∈ before, sp p.block = true) → DataW.TrodAll enc P W' 0 sp true f.params.toList args.toList (s.fn H (ds ++ gs)).args pa)
    (hvars : ∀ sp : Nat → Bool, (∀ p ∈ before, sp p.block = true) → DataW.TrodVars enc P W' sp s.vars (s.fn H (ds ++ gs)).vars pv)
    (hps : before = pa ++ pv) (hb : Below W.heap.size W W')
    (hok : ∀ (j : Nat) (t : TypeId) (r : Value), f.resultTypes[j]? = some t → (v.resultList f.resultTypes.size)[j]? = some r → Value.okWide P W' .any 0 t r) :
    s.post enc P f apart fresh handsOn again W args v W' := by
  have hlt : ∀ p ∈ before, p.block < W.heap.size := fun p hp => hW.lt p hp
  have hold : ∀ p ∈ before, (fun b => decide (b < W.heap.size)) p.block = true := fun p hp => by simpa using hlt p hp
  refine ⟨ds, gs, before, [], pa, pv, hW, hres _ _ _, hargs _ hold, hvars _ hold, World.keptBut_mono (fun p hp => ⟨hp, ?_⟩) (hb.frame (· ∈ before)), fun _ => ?_⟩
  · rw [hps, List.mem_append] at hp
    exact Or.inr hp
  · obtain ⟨_, _, _, _, _, hz, hn⟩ := hW
    refine ⟨hok, _, _, ([] ++ pa) ++ pv, ⟨[] ++ pa, pv, trodAll_append (hargs _ (fun _ _ => rfl)) (hres _ _ _), hvars _ (fun _ _ => rfl), rfl, ?_, ?_⟩, ?_⟩
    · intro b off hp
      have hin : MemPlace.cell b off ∈ before := by rw [hps]; simpa using hp
      rw [hb.frozen (hlt _ hin)]
      exact hz b off hin
    · intro ha
      have := hn ha
      rw [hps] at this
      simpa using this
    · intro p hp _
      rw [hps]
      simpa using hp

/-- THE ROW's LAST STEP, where the law returned true and what was stays. -/
theorem post_true {f : Func} {s : ChangeSpec} (hl : laidOutB P = true) {tb : TypeId} (htb : P.underlying tb = some .bool) (hrt : f.resultTypes = #[tb]) (hvs : s.vars = []) (hr : (f.params.toList.all fun t => P.readableRec t && decide (t < P.types.size)) = true)
    {W W' : World} {args : Array Value} {ds gs : List (DataW H)} {before : List MemPlace}
    (hW : DataW.Whole enc P f.params.toList s.vars false W args.toList ds gs before) (hfn : s.fn H (ds ++ gs) = { results := [.lit (.bool true)], args := ds }) (hb : Below W.heap.size W W') :
    s.post enc P f false true false false W args (.bool true) W' := by
  have hW' := hW
  have hlt : ∀ p ∈ before, p.block < W.heap.size := fun p hp => hW.lt p hp
  obtain ⟨p, q, hA, hV, rfl, hfz, hnd⟩ := hW
  rw [hvs] at hV
  obtain ⟨rfl, rfl⟩ := trodVars_none hV
  simp only [List.append_nil] at hlt hW' hfn
  refine post_below (pa := p) (pv := []) hW' (fun b sp hd => ?_) (fun sp hsp => ?_) (fun sp _ => ?_) (by simp) hb (ok_one hrt rfl (okWide_bool_mk htb _))
  · rw [List.append_nil, hfn, hrt]
    exact trodAll_cons_mk (shut_bool htb _) trodAll_mk0
  · rw [List.append_nil, hfn]
    exact trodAll_stays hl hb sp _ _ _ _ hr hA (fun x hx => hlt x hx) (fun x hx => hsp x hx)
  · rw [List.append_nil, hfn, hvs]
    rfl
end

theorem row_of_cells {W : World} {a : Addr} {len cap : Nat} {zs : List Int} (hl : len ≤ cap) (hz : zs.length = cap) (hc : ∀ i, i < cap → W.cell? (a.add i) = some (.int .i64 (zs.getD i 0))) : Row W (some a) len ((zs.take len).map Iv) := by
  refine ⟨by simp; omega, fun hp => ?_⟩
  have hs0 : a.spot = none := by simpa [Addr.add] using World.cell?_spot (hc 0 (by omega))
  obtain ⟨b, off, spot⟩ := a
  obtain rfl : spot = none := hs0
  refine ⟨b, off, rfl, fun j u hu => ?_⟩
  have hj : j < len := by
    have := (List.getElem?_eq_some_iff.1 hu).1
    simp at this
    omega
  have h2 := hc j (by omega)
  have e : (⟨b, off, none⟩ : Addr).add j = ⟨b, off + j, none⟩ := by
    unfold Addr.add
    by_cases h : j = 0 <;> simp [h]
  rw [e] at h2
  simp [hj, show j < zs.length by omega, Iv] at hu
  rw [h2, ← hu]
  simp [show j < zs.length by omega]

set_option maxRecDepth 100000 in
/-- A descriptor, opened. -/
theorem open_desc {H : Type} {enc : TypeId × Value → H} {W : World} {b : Nat} {v : Value} {d : DataW H} {p : List MemPlace} (hv : Value.okWide Tryz.prog W .any b 35 v) (h : DataW.Trod enc Tryz.prog W 0 (fun _ => true) true 35 v d p) :
    ∃ (z : Int) (P : Option Addr) (m c : Nat) (e : Int) (Q : Option Addr) (q f : Nat) (ps es : List Int), v = .agg #[.int .i64 z, .slice P m c, .int .i64 e, .slice Q q f] ∧ Row W P m (ps.map Iv) ∧ Row W Q q (es.map Iv) ∧ m ≤ c ∧ q ≤ f ∧ True := by
  obtain ⟨v0, v1, v2, v3, y0, y1, y2, y3, n, rfl, -, -, h0, h1, h2, h3⟩ := Joins.open_agg4 Tryz.underlying35 (by kernel_rfl) (by kernel_rfl) hv h
  obtain ⟨z, hz, -, -⟩ := DataW.trod_int Tryz.underlying3 h0
  obtain rfl : v0 = .int .i64 z := by simpa using hz
  obtain ⟨e, he, -, -⟩ := DataW.trod_int Tryz.underlying3 h2
  obtain rfl : v2 = .int .i64 e := by simpa using he
  have hs1 : ∃ (S : Option Addr) (m c : Nat) (l : List Int), v1 = .slice S m c ∧ Row W S m (l.map Iv) ∧ m ≤ c := by
    rcases open_ints Tryz.underlying33 Tryz.underlying3 (by kernel_rfl) h1 with ⟨hs, _⟩ | ⟨a, len, cap, zs, hs, _, hl, _, hz, _, hc, hw⟩
    · obtain rfl : v1 = .slice none 0 0 := by simpa using hs
      exact ⟨none, 0, 0, [], rfl, Row.none_, Nat.le_refl _⟩
    · obtain rfl : v1 = .slice (some a) len cap := by simpa using hs
      rw [if_pos rfl] at hz
      exact ⟨some a, len, cap, zs.take len, rfl, row_of_cells hl hz (fun i hi => hc i (by omega)), hl⟩
  have hs3 : ∃ (S : Option Addr) (m c : Nat) (l : List Int), v3 = .slice S m c ∧ Row W S m (l.map Iv) ∧ m ≤ c := by
    rcases open_ints Tryz.underlying33 Tryz.underlying3 (by kernel_rfl) h3 with ⟨hs, _⟩ | ⟨a, len, cap, zs, hs, _, hl, _, hz, _, hc, hw⟩
    · obtain rfl : v3 = .slice none 0 0 := by simpa using hs
      exact ⟨none, 0, 0, [], rfl, Row.none_, Nat.le_refl _⟩
    · obtain rfl : v3 = .slice (some a) len cap := by simpa using hs
      rw [if_pos rfl] at hz
      exact ⟨some a, len, cap, zs.take len, rfl, row_of_cells hl hz (fun i hi => hc i (by omega)), hl⟩
  obtain ⟨P, m, c, ps, rfl, hP, hm⟩ := hs1
  obtain ⟨Q, q, f, es, rfl, hQ, hq⟩ := hs3
  exact ⟨z, P, m, c, e, Q, q, f, ps, es, rfl, hP, hQ, hm, hq, trivial⟩

/-- The witness: the door's own heap, and the pinned table laid into it. -/
noncomputable def wit (os : Os) : World := (World.doorLaid Tryz.prog 200 os).layVars Tryz.prog [("unicode/utf8.first", Rows.laid_unicode_utf8_first)]
theorem wit_os (os : Os) : (wit os).os = os := World.layVars_os _ _ _
noncomputable def witB (os : Os) : List Nat := (List.range (World.doorLaid Tryz.prog 200 os).heap.size).filter (· != 5)

set_option maxRecDepth 100000 in
/-- IT MEETS THE CONDITION. -/
theorem door_met (os : Os) (args : Array Value) : laidMetH Tryz.prog row0.laid ((wit os).forCall (fun _ _ => 0) ⟨#[], args, []⟩).memory :=
  laidMetH_of_parts3 (fuel := 8) (laidMet_layVars (w0 := World.doorLaid Tryz.prog 200 os) ["unicode/utf8.first"] (witB os) (by simp [World.memory, World.forCall, Input.heap]; rfl) (by kernel_rfl) (by kernel_rfl)
    (LaidIn.of_run (witB os) 8 (by kernel_rfl) (by kernel_rfl) (by kernel_rfl) (by kernel_rfl))) (by kernel_rfl) (by kernel_rfl)

section
variable {H : Type} {enc : TypeId × Value → H} {P : Program} {w : World} {base : Nat} {spare : Nat → Bool} {held : Bool}
theorem open_text {r : Reach} {b0 : Nat} {t : TypeId} {v : Value} {d : DataW H} {ps : List MemPlace} (ht : P.underlying t = some .string) (hval : Value.okWide P w r b0 t v) (hd : DataW.Trod enc P w base spare held t v d ps) :
    ∃ s : ByteArray, v = .string s ∧ d = .lit (.string s.data.toList) ∧ ps = [] ∧ s.size ≤ maxLen := by
  obtain ⟨s, rfl⟩ := okWide_string ht hval
  obtain ⟨fuel, hf⟩ := hd
  obtain ⟨s', h, hx, hw⟩ := DataW.trod_string ht hf
  simp [Value.cells] at h
  subst h
  simp only [Prod.mk.injEq] at hx
  exact ⟨s, rfl, hx.1, hx.2, hw⟩
end

theorem hone4 : ∃ f0 f1 f2 f3 : Field, Tryz.prog.underlying 35 = some (.struct #[f0, f1, f2, f3]) ∧ f0.type = 3 ∧ f1.type = 33 ∧ f2.type = 3 ∧ f3.type = 33 ∧ f0.offset = 0 ∧ f1.offset = 1 ∧ f2.offset = 2 ∧ f3.offset = 3 ∧
    Tryz.prog.cellsOf 3 = 1 ∧ Tryz.prog.cellsOf 33 = 1 ∧ Tryz.prog.cellsOf 35 = 4 := ⟨_, _, _, _, Tryz.underlying35, rfl, rfl, rfl, rfl, rfl, rfl, rfl, rfl, by kernel_rfl, by kernel_rfl, by kernel_rfl⟩

theorem add_none (b off i : Nat) : (⟨b, off, none⟩ : Addr).add i = ⟨b, off + i, none⟩ := by
  unfold Addr.add
  by_cases h : i = 0 <;> simp [h]

section
variable {H : Type} {enc : TypeId × Value → H} {W : World} {n : Nat} {v : Value} {x : DataW H × List MemPlace}
theorem ints_of (h : DataW.trod enc Tryz.prog W 0 (fun _ => true) true n 33 [v] = some x) : ∃ (S : Option Addr) (m c : Nat) (l : List Int), v = .slice S m c ∧ Row W S m (l.map Iv) ∧ m ≤ c := by
  rcases open_ints Tryz.underlying33 Tryz.underlying3 (by kernel_rfl) h with ⟨hs, _⟩ | ⟨a, len, cap, zs, hs, _, hl, _, hz, _, hc, hw⟩
  · obtain rfl : v = .slice none 0 0 := by simpa using hs
    exact ⟨none, 0, 0, [], rfl, Row.none_, Nat.le_refl _⟩
  · obtain rfl : v = .slice (some a) len cap := by simpa using hs
    rw [if_pos rfl] at hz
    exact ⟨some a, len, cap, zs.take len, rfl, row_of_cells hl hz (fun i hi => hc i (by omega)), hl⟩
theorem int_of (h : DataW.trod enc Tryz.prog W 0 (fun _ => true) true n 3 [v] = some x) : ∃ z : Int, v = .int .i64 z := by
  obtain ⟨z, hz, -, -⟩ := DataW.trod_int Tryz.underlying3 h
  exact ⟨z, by simpa using hz⟩
end

set_option maxRecDepth 100000 in
/-- A list of descriptors, opened. -/
theorem open_descs {H : Type} {enc : TypeId × Value → H} {W : World} {b : Nat} {v : Value} {d : DataW H} {p : List MemPlace} (hv : Value.okWide Tryz.prog W .any b 22 v) (h : DataW.Trod enc Tryz.prog W 0 (fun _ => true) true 22 v d p) :
    ∃ (A : Option Addr) (n c : Nat) (ds : List DscK), v = .slice A n c ∧ RowD W A n ds ∧ n ≤ c ∧ CapsOk W A n := by
  obtain ⟨A, n, c, rfl⟩ := okWide_slice Tryz.underlying22 hv
  obtain ⟨fuel, hf⟩ := h
  obtain ⟨f0, f1, f2, f3, hs, t0, t1, t2, t3, o0, o1, o2, o3, k0, k1, k4⟩ := hone4
  rcases Deep.open_slice Tryz.underlying22 hf with ⟨hs0, -⟩ | ⟨a, len, cap, m, n', D, Pl, hs0, -, hl, -, hm, -, hx⟩
  · have : A = none ∧ n = 0 ∧ c = 0 := by simpa [Value.cells] using hs0
    obtain ⟨rfl, rfl, rfl⟩ := this
    exact ⟨none, 0, 0, [], rfl, RowD.none_, Nat.le_refl _, fun h => absurd h (by omega)⟩
  · have : A = some a ∧ n = len ∧ c = cap := by simpa [Value.cells] using hs0
    obtain ⟨rfl, rfl, rfl⟩ := this
    rw [if_pos rfl] at hm
    subst hm
    rw [k4] at hx
    have each : ∀ i, i < n → ∃ q : MD × DscK, W.cell? (a.add (i * 4)) = some (.int .i64 q.1.1) ∧ W.cell? (a.add (i * 4 + 1)) = some (.slice q.1.2.1.1 q.1.2.1.2.1 q.1.2.1.2.2) ∧ W.cell? (a.add (i * 4 + 2)) = some (.int .i64 q.1.2.2.1) ∧ W.cell? (a.add (i * 4 + 3)) = some (.slice q.1.2.2.2.1 q.1.2.2.2.2.1 q.1.2.2.2.2.2) ∧ Fits W q.1 q.2 ∧ q.1.2.1.2.1 ≤ q.1.2.1.2.2 ∧ q.1.2.2.2.2.1 ≤ q.1.2.2.2.2.2 := by
      intro i hi
      obtain ⟨cs', h1, h2⟩ := hx i (by omega)
      obtain ⟨_, hlen, hcell⟩ := World.cells?_some h1
      obtain ⟨xs, k, -, -, -, hxl, hfs⟩ := DataW.trod_struct hs h2
      match xs, hxl, cs', hlen with
      | [y0, y1, y2, y3], _, [v0, v1, v2, v3], _ =>
        have g0 := hfs 0 f0 rfl
        have g1 := hfs 1 f1 rfl
        have g2 := hfs 2 f2 rfl
        have g3 := hfs 3 f3 rfl
        simp [o0, o1, o2, o3, t0, t1, t2, t3, k0, k1] at g0 g1 g2 g3
        have e0 := hcell 0 (by omega)
        have e1 := hcell 1 (by omega)
        have e2 := hcell 2 (by omega)
        have e3 := hcell 3 (by omega)
        rw [Deep.add_add] at e0 e1 e2 e3
        obtain ⟨z, rfl⟩ := int_of g0
        obtain ⟨y, rfl⟩ := int_of g2
        obtain ⟨P, m, c', ps, rfl, r1, l1⟩ := ints_of g1
        obtain ⟨Q, q, f, es, rfl, r2, l2⟩ := ints_of g3
        exact ⟨((z, (P, m, c'), y, (Q, q, f)), (z, ps, y, es)), by simpa using e0, by simpa using e1, by simpa using e2, by simpa using e3, ⟨rfl, rfl, r1, r2⟩, l1, l2⟩
    letI : Inhabited (MD × DscK) := ⟨(md0, dsc0K)⟩
    obtain ⟨q, hq⟩ := Deep.choose_lt each
    rcases Nat.eq_zero_or_pos n with hn | hn
    · subst hn
      exact ⟨some a, 0, _, [], rfl, RowD.none_, hl, fun h => absurd h (by omega)⟩
    have hsp : a.spot = none := by
      have := World.cell?_spot (hq 0 hn).1
      simpa [Addr.add] using this
    obtain ⟨g, off, spot⟩ := a
    obtain rfl : spot = none := hsp
    have hall : ∀ k, k < n → W.cell? ⟨g, off + 4 * k, none⟩ = some (.int .i64 (q k).1.1) ∧ W.cell? ⟨g, off + 4 * k + 1, none⟩ = some (.slice (q k).1.2.1.1 (q k).1.2.1.2.1 (q k).1.2.1.2.2) ∧ W.cell? ⟨g, off + 4 * k + 2, none⟩ = some (.int .i64 (q k).1.2.2.1) ∧ W.cell? ⟨g, off + 4 * k + 3, none⟩ = some (.slice (q k).1.2.2.2.1 (q k).1.2.2.2.2.1 (q k).1.2.2.2.2.2) ∧ Fits W (q k).1 (q k).2 ∧ (q k).1.2.1.2.1 ≤ (q k).1.2.1.2.2 ∧ (q k).1.2.2.2.2.1 ≤ (q k).1.2.2.2.2.2 := fun k hk => by
      obtain ⟨c0, c1, c2, c3, hF, l1, l2⟩ := hq k hk
      rw [add_none] at c0 c1 c2 c3
      rw [show off + k * 4 = off + 4 * k by omega] at c0
      rw [show off + (k * 4 + 1) = off + 4 * k + 1 by omega] at c1
      rw [show off + (k * 4 + 2) = off + 4 * k + 2 by omega] at c2
      rw [show off + (k * 4 + 3) = off + 4 * k + 3 by omega] at c3
      exact ⟨c0, c1, c2, c3, hF, l1, l2⟩
    refine ⟨some ⟨g, off, none⟩, n, _, (List.range n).map fun i => (q i).2, rfl, ⟨by simp, fun _ => ⟨g, off, rfl, fun k x hx => ?_⟩⟩, hl, fun _ => ⟨g, off, rfl, fun k hk => ?_⟩⟩
    · have hk : k < n := by
        have := (List.getElem?_eq_some_iff.1 hx).1
        simpa using this
      have hxe : (q k).2 = x := by
        rw [List.getElem?_map, List.getElem?_range hk] at hx
        exact Option.some.inj hx
      obtain ⟨c0, c1, c2, c3, ⟨e1, e2, r1, r2⟩, l1, l2⟩ := hall k hk
      rw [hxe] at e1 e2 r1 r2
      exact ⟨_, _, _, _, _, _, by rw [← e1]; exact c0, c1, by rw [← e2]; exact c2, c3, r1, r2⟩
    · obtain ⟨c0, c1, c2, c3, -, l1, l2⟩ := hall k hk
      exact ⟨_, _, _, _, _, _, c1, l1, c3, l2⟩

end Go.Proofs.YtmabokmnniiadaaGreatDoor
namespace Go.Proofs.YtmabokmnniiadaaGreatDoor.KindsBack
open Go.ChangeShapes Go.WideShapes Go.ChangeAt Go.RowKit

set_option maxRecDepth 100000 in
theorem contract (H : Type) (enc : TypeId × Value → H) (W : World) (base : Nat) (args : Array Value) (ds gs : List (DataW H)) (before : List MemPlace)
    (hval : ∀ (j : Nat) t v, Tryz.f7.params[j]? = some t → args[j]? = some v → Value.okWide Tryz.prog W .any base t v)
    (hW : DataW.Whole enc Tryz.prog Tryz.f7.params.toList Rows.kindsBackSpec.vars false W args.toList ds gs before) (hsh : W.ShapedOpen Tryz.prog) (hL : laidMetH Tryz.prog Rows.kindsBackRow.laid W) :
    Calls Tryz.prog 7 args W fun e W' => ∃ v, e = .returned v ∧ Rows.kindsBackSpec.post enc Tryz.prog Tryz.f7 false true false false W args v W' := by
  have hW' := hW
  obtain ⟨p, q, hA0, hV, rfl, hfz, hnd⟩ := hW
  have hA : DataW.TrodAll enc Tryz.prog W 0 (fun _ => true) true Tryz.f7.params.toList args.toList ds p := hA0
  rw [Tryz.params7] at hA hval
  obtain ⟨v0, vs0, d0, ds0, p0, q0, hargs, rfl, rfl, h0, r0⟩ := trodAll_cons hA
  obtain ⟨v1, vs1, d1, ds1, p1, q1, rfl, rfl, rfl, h1, r1⟩ := trodAll_cons r0
  obtain ⟨rfl, rfl, rfl⟩ := trodAll_nil r1
  obtain rfl : args = #[v0, v1] := by cases args; simp_all
  obtain ⟨rfl, rfl⟩ := trodVars_none hV
  obtain ⟨A0, n0, c0, l0, rfl, hR0, hnc0, hC0⟩ := open_descs (hval 0 _ v0 rfl rfl) h0
  obtain ⟨s1, rfl, rfl, rfl, hs1⟩ := open_text Tryz.underlying9 (hval 1 _ v1 rfl rfl) h1
  have hDK := sents hsh hL
  refine (kindsBack_any A0 n0 c0 l0 s1 W hDK hR0 hC0).mono fun e W' ⟨he, hb⟩ => ?_
  subst he
  exact ⟨_, rfl, post_true laidOut0 Tryz.underlying4 (by kernel_rfl) rfl (by kernel_rfl) hW' rfl hb⟩

noncomputable def wArgs : Array Value := #[.slice none 0 0, .string ⟨#[]⟩]

theorem reads (os : Os) {H : Type} (enc : TypeId × Value → H) : ∃ places, DataW.whole enc Tryz.prog ((wit os).forCall (fun _ _ => 0) ⟨#[], wArgs, []⟩).memory Tryz.f7.params.toList Rows.kindsBackSpec.vars false wArgs.toList 8 = some ([.nil, .lit (.string [])], [], places) :=
  ⟨[], by kernel_rfl⟩

set_option maxRecDepth 100000 in
theorem lifted (os : Os) (started : os.Started) (H : Type) (enc : TypeId × Value → H) (F : Stop.Interp) :
    ReturnsInHanded {} Tryz.checked os 7 .any ((OpenSpec.ofChange Rows.kindsBackSpec).preRow enc Tryz.prog Tryz.f7 Rows.kindsBackRow.domain false Rows.kindsBackRow.laid) (((OpenSpec.ofChange Rows.kindsBackSpec).at F).post enc Tryz.prog Tryz.f7 false true false false) := by
  obtain ⟨places, hx⟩ := reads os enc
  refine returnsInHanded_of_row (C := Tryz.checked) (s := OpenSpec.ofChange Rows.kindsBackSpec) own0 started (by kernel_rfl) Tryz.func7
    (witness_row_atRef (enc := enc) (C := Tryz.checked) false (wit os) wArgs (wit_os os) (by kernel_rfl) (by kernel_rfl) (by kernel_rfl)
      (OpenSpec.preRow_of_cond 8 hx (by kernel_rfl) (fun k hk => by cases hk) (by kernel_rfl) (door_met os _))) ?_
  intro W base args ds gs before hval hW _ _ _ hL hsh _
  exact contract H enc W base args ds gs before hval hW hsh hL

theorem said : Rows.KindsBackSaid :=
  OpenClaim.holds_of_cond 7 Tryz.f7 rfl rfl rfl rfl rfl rfl rfl ⟨rfl, rfl, rfl, rfl, rfl⟩ rfl rfl rfl rfl rfl (by kernel_rfl) Tryz.func7 (by kernel_rfl)
    (of_decide_eq_true (by kernel_rfl)) (by unfold Func.isWrapper; first | (rw [if_pos (by decide +kernel)]; kernel_rfl) | (rw [if_neg (by decide +kernel)]; exact ⟨rfl, rfl⟩))
    (fun os started H enc _ F => by rw [OpenClaim.pre_eq_preRow]; exact lifted os started H enc F)

theorem plain (f : FuncId) (fn : Func) (hf : Tryz.pinned.checked.prog.funcNamed "selion/selionlaw05.KindsBack" = some f) (hfn : Tryz.pinned.checked.prog.funcs[f]? = some fn) :
    true = Tryz.pinned.checked.prog.looks [] ∧ ∀ (j : Nat) t, fn.params[j]? = some t → Tryz.pinned.checked.prog.wantsStandIn t = false := by
  obtain rfl : f = 7 := Option.some.inj ((show Tryz.prog.funcNamed "selion/selionlaw05.KindsBack" = some 7 by kernel_rfl).symm.trans hf) |>.symm
  obtain rfl : fn = Tryz.f7 := (Option.some.inj (Tryz.func7.symm.trans hfn)).symm
  refine ⟨by kernel_rfl, fun j t ht => ?_⟩
  have h : (Tryz.f7.params.toList.all fun t => !Tryz.prog.wantsStandIn t) = true := by kernel_rfl
  have := List.all_eq_true.1 h t (by simpa using Array.mem_of_getElem? ht)
  show Tryz.prog.wantsStandIn t = false
  simpa using this

/-- THE CARD. -/
theorem card : Rows.KindsBackCardSaid :=
  Claim7.holds_tied_plain_at .later [] _ _ _ _ said (fun _ h => by cases h) (by kernel_rfl) (fun _ h => by cases h) kindsBack_row_tie rfl ⟨rfl, rfl⟩ (by kernel_rfl) rfl plain (by kernel_rfl)
end Go.Proofs.YtmabokmnniiadaaGreatDoor.KindsBack
