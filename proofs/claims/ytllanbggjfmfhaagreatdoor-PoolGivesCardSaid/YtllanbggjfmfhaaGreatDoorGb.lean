/-
  What is proved: contracts of Make, Right and kept of package marks. No condition beyond those stated.
-/
import Derived.Test.YtllanbggjfmfhaaGreatDoorGa
namespace Go.Proofs.YtllanbggjfmfhaaGreatDoor
open Go.RowKit Go.Shelf
attribute [local go_sem] Oper.semAt_some

set_option maxHeartbeats 400000 in
/-- marks.Make. -/
theorem make_any (w : World) : Calls Tryz.prog 46 #[] w (GivesBlk w (List.replicate 32 0)) := by
  have hmk := run_make_ints 32 (by omega) (by omega)
  go_enter Tryz.func46, Tryz.ntmps46
  go_wp2
  go_ret
  refine ⟨w.heap.size, rfl, Nat.le_refl _, ?_, below_box _ _⟩
  have := Blk.new w 3 (zerosI 32)
  exact this

set_option maxHeartbeats 1000000 in
/-- A table's kept. -/
theorem kept_any (A : Option Addr) (m c : Nat) (t : List Int) (i : Nat) (w : World) (hR : Row w A m (t.map Iv)) (hi : i < m) (hm : m ≤ 1000) :
    Calls Tryz.prog 92 #[.slice A m c, .int .i64 (i : Int)] w fun e w' => e = .returned (.bool (keptB t i)) ∧ w = w' := by
  obtain ⟨b, off, x, rfl, hcx, hx, -⟩ := num_at hR hi
  by_cases h0 : x = 0
  · by_cases hi0 : 0 < i
    · obtain ⟨b', off', y, e', hcy, hy, -⟩ := num_at (k := i - 1) hR (by omega)
      cases e'
      have hk : keptB t i = (y == 2) := by unfold keptB; rw [hx, hy]; simp [h0, hi0]
      have HK := Lib.hid hk
      have hd : (x != 0) = false := by simpa using h0
      have hp : decide ((i : Int) > 0) = true := by simp; omega
      have hsub : ((i : Int) - 1).toNat = i - 1 := by omega
      have hin : ((i : Int) - 1) < m := by omega
      have h1i : 1 ≤ i := by omega
      clear hk hx hy h0 hR
      by_cases hy2 : y = 2
      · subst hy2
        go_enter Tryz.func92, Tryz.ntmps92
        go_wp2
        go_ret
        exact ⟨ret_bool (by rw [HK.out]; rfl), rfl⟩
      · have hyd : (y == 2) = false := by simpa using hy2
        clear hy2
        go_enter Tryz.func92, Tryz.ntmps92
        go_wp2
        go_ret
        exact ⟨ret_bool (by rw [HK.out]; exact hyd.symm), rfl⟩
    · have hk : keptB t i = false := by unfold keptB; rw [hx]; simp [h0, hi0]
      have HK := Lib.hid hk
      have hd : (x != 0) = false := by simpa using h0
      have hp : decide ((i : Int) > 0) = false := by simp; omega
      clear hk hx h0 hR
      go_enter Tryz.func92, Tryz.ntmps92
      go_wp2
      go_ret
      exact ⟨ret_bool (by rw [HK.out]), rfl⟩
  · have hk : keptB t i = true := by unfold keptB; rw [hx]; simp [h0]
    have HK := Lib.hid hk
    have hd : (x != 0) = true := by simpa using h0
    clear hk hx h0 hR
    go_enter Tryz.func92, Tryz.ntmps92
    go_wp2
    go_ret
    exact ⟨ret_bool (by rw [HK.out]), rfl⟩

/-! ### Right -/
def MRI (w W1 : World) (A : Option Addr) (m c : Nat) (t : List Int) (L : List Int) (pre : List (Fin L.length)) (W' : World) : Prop :=
  W1.heap.size ≤ W'.heap.size ∧ Below w.heap.size w W' ∧ Blk W' w.heap.size 22 #[.slice A m c] ∧ Blk W' (w.heap.size + 1) 4 #[.bool true] ∧ ∀ x ∈ cameI L pre, lineB (t.getD x.toNat 0) = true
def MRX (w W1 : World) (t : List Int) (c : Code) {β : Type} (_ : β) (W' : World) : Prop :=
  W1.heap.size ≤ W'.heap.size ∧ c = .exit 0 ∧ Below w.heap.size w W' ∧ Blk W' (w.heap.size + 1) 4 #[.bool false] ∧ t.all lineB = false
theorem MRI.low {w W1 X Y : World} {A : Option Addr} {m c : Nat} {t L : List Int} {pre : List (Fin L.length)} (h : MRI w W1 A m c t L pre X) (hb : Below W1.heap.size X Y) (hw : w.heap.size + 2 ≤ W1.heap.size) : MRI w W1 A m c t L pre Y :=
  ⟨Nat.le_trans h.1 hb.size, h.2.1.trans (hb.mono (by omega)), h.2.2.1.below hb (by omega), h.2.2.2.1.below hb (by omega), h.2.2.2.2⟩
theorem MRX.low {w W1 X Y : World} {t : List Int} {c : Code} {β : Type} {pre : β} (h : MRX w W1 t c pre X) (hb : Below W1.heap.size X Y) (hw : w.heap.size + 2 ≤ W1.heap.size) : MRX w W1 t c pre Y :=
  ⟨Nat.le_trans h.1 hb.size, h.2.1, h.2.2.1.trans (hb.mono (by omega)), h.2.2.2.1.below hb (by omega), h.2.2.2.2⟩

def mrF (w : World) (A : Option Addr) (m c : Nat) (x : Int) : Act :=
  { tmps := #[.slice A m c, .pointer (some ⟨w.heap.size, 0, none⟩), .bool false, .pointer (some ⟨w.heap.size + 1, 0, none⟩), .int .i64 x, .slice A m c, .int .i64 32, .bool false,
      .func (.func 81) #[] #[.pointer (some ⟨w.heap.size + 2, 0, none⟩), .pointer (some ⟨w.heap.size + 2 + 1, 0, none⟩)], .int .i64 x, undef, undef, undef, undef, undef, undef, undef, undef, undef, undef, undef, undef, undef], defers := [] }

def mrW (w : World) (A : Option Addr) (m c : Nat) : World := (w.alloc (.cells #[.slice A m c] 22)).alloc (.cells #[.bool true] 4)

set_option maxRecDepth 100000 in
set_option maxHeartbeats 2000000 in
theorem mright_len (A : Option Addr) (c : Nat) (t : List Int) (w : World) (hR : Row w A 32 (t.map Iv)) :
    Calls Tryz.prog 39 #[.slice A 32 c] w fun e w' => e = .returned (.bool (tabB t)) ∧ Below w.heap.size w w' := by
  have hl := hR.1
  simp at hl
  have hb0 : Below w.heap.size w (mrW w A 32 c) := below_le (below_box _ _) (below_box _ _)
  have hz0 : (mrW w A 32 c).heap.size = w.heap.size + 2 := by simp [mrW]
  have h1 : Blk (mrW w A 32 c) w.heap.size 22 #[.slice A 32 c] := Blk.alloc (heap_new rfl _) _
  have h2 : Blk (mrW w A 32 c) (w.heap.size + 1) 4 #[.bool true] := heap_new (by simp) _
  have HR := Lib.hid hR
  have HL := Lib.hid hl
  have HB := Lib.hid hb0
  have H1 := Lib.hid h1
  have H2 := Lib.hid h2
  have HT : Hid (tabB t = t.all lineB) := Lib.hid (by unfold tabB; rw [decide_eq_true HL.out]; rfl)
  clear hR hl hb0 h1 h2
  refine (callsIn_wide (n := 3)).1 ?_
  refine callsIn_of_wp_marks Tryz.func39 rfl trivial ?_ rfl
  simp only [Tryz.ntmps39, List.size_toArray, List.length_cons, List.length_nil, Nat.reduceAdd, Nat.reduceSub, Array.replicate_succ, Array.replicate_zero, List.push_toArray, List.append_toArray, List.nil_append, List.cons_append]
  gi_wp2_with fail
  refine wpIn_scope_ahead 0 (fun _ _ => False) rfl ?_ (fun _ _ h => h.elim)
  gi_wp2_with fail
  refine wpIn_label ?_
  gi_wp2_with fail
  change _ ∧ CallsIn _ _ _ _ _ (mrW w A 32 c) _
  generalize mrW w A 32 c = W0 at *
  refine ⟨trivial, (callsIn_wide.2 (lines_any 0 31 W0)).mono ?_⟩
  rintro e w' ⟨rfl, rfl⟩
  rw [hz0]
  have hb1 : Below W0.heap.size W0 ((W0.alloc (.cells #[.int .i64 0] 3)).alloc (.cells #[.int .i64 31] 3)) := below_le (below_box _ _) (below_box _ _)
  have hz1 : ((W0.alloc (.cells #[.int .i64 0] 3)).alloc (.cells #[.int .i64 31] 3)).heap.size = w.heap.size + 4 := by simp; omega
  have e1 : ((W0.alloc (.cells #[.int .i64 0] 3)).alloc (.cells #[.int .i64 31] 3)).cell? ⟨w.heap.size + 2, 0, none⟩ = some (.int .i64 0) := by rw [← hz0]; simp [go_sem]
  have e2 : ((W0.alloc (.cells #[.int .i64 0] 3)).alloc (.cells #[.int .i64 31] 3)).cell? ⟨w.heap.size + 2 + 1, 0, none⟩ = some (.int .i64 31) := by rw [← hz0]; simp [go_sem]
  generalize (W0.alloc (.cells #[.int .i64 0] 3)).alloc (.cells #[.int .i64 31] 3) = W1 at *
  have hst := lines1_stops (3 - 1) (w.heap.size + 2) (w.heap.size + 2 + 1) 32 (by omega) W1 e1 e2
  have hlen := upL_len 32
  have hget := upL_get 32
  generalize upL 32 = L at *
  have HG := Lib.hid hget
  have hI0 : MRI w W1 A 32 c t L [] W1 := ⟨Nat.le_refl _, below_le HB.out hb1, H1.out.ext hb1, H2.out.ext hb1, by simp [cameI]⟩
  clear e1 e2 hb1 hget
  gi_wp2_with fail
  refine wpIn_rangeFunc_ownG (F := Fence.wide) (n := 3) rfl (by omega) (gf := 81) (lb := #[.pointer (some ⟨w.heap.size + 2, 0, none⟩), .pointer (some ⟨w.heap.size + 2 + 1, 0, none⟩)]) rfl trivial (enters_of Tryz.func81 (by kernel_rfl) rfl)
    hst (fun h k => h.t k) (KeepB.b (by simp; omega)) (Below.refl _ _) (fun _ => rfl)
    (MRI w W1 A 32 c t L) (fun c pre => MRX w W1 t c pre)
    (ownFrom_low _ _ (fun _ _ h => h.1) (fun _ X Y h hb => h.low hb (by omega)))
    (fun c => ownFrom_low _ _ (fun _ _ h => h.1) (fun _ X Y h hb => h.low hb (by omega)))
    hI0
    (fun x' => mrF w A 32 c L[x'.1]) ?assign ?body ?done ?stop
  case assign =>
    intro l x1 W' K hK
    gi_wp2
    exact hK
  case body =>
    rintro l pre x W' ⟨s1, s2, s3, s4, s5⟩ hpre
    have hsn := cameI_snoc L pre x
    have hxv := HG.out x.1 x.2
    rw [hxv] at hsn ⊢
    obtain ⟨i, hi⟩ := x
    dsimp only at hxv hsn ⊢
    have hxl : i < 32 := by omega
    obtain ⟨b, off, y, rfl, hcy, hy, hmem⟩ := num_at (HR.out.ext s2) hxl
    have c3 := s3.cell 0
    have c4 := s4.cell 0
    have f4 := s4.frozen 0
    simp at c3 c4
    have S2 := Lib.hid s2
    have S3 := Lib.hid s3
    have S4 := Lib.hid s4
    have S5 := Lib.hid s5
    have HSN := Lib.hid hsn
    have HY := Lib.hid hy
    have HM := Lib.hid hmem
    clear s2 s3 s4 s5 hsn hy hmem hI0 hst hxv hpre
    simp only [mrF]
    have hgood : lineB y = true → ∀ x ∈ cameI L (pre ++ [⟨i, hi⟩]), lineB (t.getD x.toNat 0) = true := fun h x hx => by
      rw [HSN.out] at hx
      rcases List.mem_append.1 hx with hx | hx
      · exact S5.out x hx
      · rw [List.mem_singleton.1 hx, Int.toNat_natCast, HY.out]; exact h
    have hbad : lineB y = false → t.all lineB = false := fun h => List.all_eq_false.2 ⟨y, List.mem_of_getElem? HM.out, by rw [h]; exact Bool.false_ne_true⟩
    have HGOOD := Lib.hid hgood
    have HBAD := Lib.hid hbad
    clear hgood hbad
    have hset : Blk (W'.setCell ⟨w.heap.size + 1, 0, none⟩ (.bool false)) (w.heap.size + 1) 4 #[.bool false] := S4.out.set_ 0 (.bool false)
    have HSET := Lib.hid hset
    clear hset
    have g2 := grown_set W' (w.heap.size + 1) 0 (.bool false)
    have G2 := Lib.hid g2
    clear g2
    by_cases hy0 : y < 0
    · have HLB := Lib.hid (show lineB y = false by simp [lineB]; omega)
      gi_wp2
      exact ⟨KeepsFrom.of_grownBy G2.out (fun j e => by cases e; omega), Nat.le_trans s1 G2.out.size, rfl, S2.out.setCell (p := ⟨w.heap.size + 1, 0, none⟩) (by show w.heap.size ≤ w.heap.size + 1; omega) _, HSET.out, HBAD.out HLB.out⟩
    · by_cases hy2 : 2 < y
      · have HLB := Lib.hid (show lineB y = false by simp [lineB]; omega)
        have hd : decide (y > 2) = true := by simpa using hy2
        gi_wp2
        exact ⟨KeepsFrom.of_grownBy G2.out (fun j e => by cases e; omega), Nat.le_trans s1 G2.out.size, rfl, S2.out.setCell (p := ⟨w.heap.size + 1, 0, none⟩) (by show w.heap.size ≤ w.heap.size + 1; omega) _, HSET.out, HBAD.out HLB.out⟩
      · have HLB := Lib.hid (show lineB y = true by simp [lineB]; omega)
        have hd : decide (y > 2) = false := by simpa using hy2
        gi_wp2
        exact ⟨KeepsFrom.refl _ _, KeepB.refl _ _, s1, S2.out, S3.out, S4.out, HGOOD.out HLB.out⟩
  case done =>
    rintro D ys W' hD rfl ⟨s1, s2, s3, s4, s5⟩ hK
    rw [cameI_all] at s5
    have c4 := s4.cell 0
    simp at c4
    have S2 := Lib.hid s2
    have hall : t.all lineB = true := List.all_eq_true.2 fun x hx => by
      obtain ⟨j, hj, rfl⟩ := List.mem_iff_getElem.1 hx
      have hjL : j < L.length := by have := HL.out; omega
      have := s5 L[j] (List.getElem_mem _)
      rw [HG.out j hjL, Int.toNat_natCast] at this
      simpa [hj] using this
    have HA := Lib.hid hall
    clear s2 s3 s4 s5 hI0 hst hall
    gi_wp2
    simp only [Exit.jump]
    refine ⟨by simp, .inl ⟨_, _, rfl, run_takeDeferred hK, ?_⟩⟩
    refine ⟨.bool true, by simp [results, Tryz.results39, go_sem], ret_bool (by rw [HT.out, HA.out]), ?_⟩
    exact S2.out.trans (belowK_b (w := W1) (by omega) W' D _ _ hD hK rfl rfl)
  case stop =>
    rintro D c pre W' hD ⟨j, hj, rfl⟩ ⟨s1, rfl, s2, h7, h8⟩ hK
    have c5 := h7.cell 0
    simp at c5
    have S2 := Lib.hid s2
    have H8 := Lib.hid h8
    clear s2 h7 h8 hI0 hst
    gi_wp2
    simp only [Exit.jump]
    gi_wp2
    refine ⟨by simp, .inl ⟨_, _, rfl, run_takeDeferred hK, ?_⟩⟩
    refine ⟨.bool false, by simp [results, Tryz.results39, go_sem], ret_bool (by rw [HT.out, H8.out]), ?_⟩
    exact S2.out.trans (belowK_b (w := W1) (by omega) W' D _ _ hD hK rfl rfl)

set_option maxHeartbeats 1000000 in
/-- marks.Right. -/
theorem mright_any (A : Option Addr) (m c : Nat) (t : List Int) (w : World) (hR : Row w A m (t.map Iv)) (hm : m ≤ 100000) :
    Calls Tryz.prog 39 #[.slice A m c] w fun e w' => e = .returned (.bool (tabB t)) ∧ Below w.heap.size w w' := by
  by_cases h : m = 32
  · subst h
    exact mright_len A c t w hR
  · have hl := hR.1
    simp at hl
    have HT : Hid (tabB t = false) := Lib.hid (by unfold tabB; rw [decide_eq_false (by omega)]; rfl)
    have hd : ((m : Int) != 32) = true := by simp; omega
    clear hR hl h
    refine (callsIn_wide (n := 3)).1 ?_
    refine callsIn_of_wp_marks Tryz.func39 rfl trivial ?_ rfl
    simp only [Tryz.ntmps39, List.size_toArray, List.length_cons, List.length_nil, Nat.reduceAdd, Nat.reduceSub, Array.replicate_succ, Array.replicate_zero, List.push_toArray, List.append_toArray, List.nil_append, List.cons_append]
    gi_wp2_with fail
    refine wpIn_scope_ahead 0 (fun _ _ => False) rfl ?_ (fun _ _ h => h.elim)
    gi_wp2
    exact ⟨.bool false, by simp [results, Tryz.results39, go_sem], ret_bool HT.out.symm, below_box _ _⟩

end Go.Proofs.YtllanbggjfmfhaaGreatDoor
