/-
  What is proved: the contract of Parse of package kinds. No condition beyond those stated.
-/
import Derived.Test.YtmabokmnniiadaaGreatDoorMx
namespace Go.Proofs.YtmabokmnniiadaaGreatDoor
open Go.RowKit Go.Shelf
attribute [local go_sem] Oper.semAt_some

/-! ### Lines that were met -/
def lnsK (L : List (List UInt8 × Bool)) (pre : List (Fin L.length)) : List (List UInt8 × Bool) := pre.map fun x => L.getD x.1 ([], false)
theorem lnsK_snoc (L : List (List UInt8 × Bool)) (pre : List (Fin L.length)) (x : Fin L.length) : lnsK L (pre ++ [x]) = lnsK L pre ++ [L.getD x.1 ([], false)] := by simp [lnsK]
theorem lnsK_take (L : List (List UInt8 × Bool)) (k : Nat) : lnsK L ((List.finRange L.length).take k) = L.take k := by
  unfold lnsK
  rw [List.map_take]
  congr 1
  refine List.ext_getElem (by simp) fun i h1 h2 => ?_
  simp [List.getD_eq_getElem?_getD]
theorem lnsK_all (L : List (List UInt8 × Bool)) : lnsK L (List.finRange L.length) = L := by
  have h := lnsK_take L L.length
  rwa [List.take_of_length_le (by simp), List.take_of_length_le (Nat.le_refl _)] at h
theorem readK_all {acc : List DscK} (x : List UInt8 × Bool) (ha : ∀ d ∈ acc, dR d = true) (hl : acc.length ≤ 60) : (∀ d ∈ (readK acc x).1, dR d = true) ∧ (readK acc x).1.length ≤ 60 := by
  unfold readK
  split
  · exact ⟨ha, hl⟩
  · cases hr : readT x.1 with
    | none => exact ⟨ha, hl⟩
    | some d =>
      simp only
      split
      · exact ⟨ha, hl⟩
      · split
        · exact ⟨ha, hl⟩
        · refine ⟨fun y hy => ?_, by simp; omega⟩
          rcases List.mem_append.1 hy with hy | hy
          · exact ha y hy
          · rw [List.mem_singleton.1 hy]
            exact (read_dR hr).2
theorem goK_all : ∀ (L : List (List UInt8 × Bool)) {acc : List DscK}, (∀ d ∈ acc, dR d = true) → acc.length ≤ 60 → (∀ d ∈ (goK acc L).1, dR d = true) ∧ (goK acc L).1.length ≤ 60
  | [], acc, ha, hl => ⟨ha, hl⟩
  | x :: L, acc, ha, hl => by
    have h := readK_all x ha hl
    rw [goK]
    split
    · exact goK_all L h.1 h.2
    · exact h
theorem goK_more {L : List (List UInt8 × Bool)} {x : List UInt8 × Bool} (h : (goK [] L).2 = 0) : goK [] (L ++ [x]) = readK (goK [] L).1 x := by rw [goK_snoc, if_pos h]
/-- All lines were read. -/
theorem parse_whole {s : List UInt8} {L : List (List UInt8 × Bool)} (hL : L = linesOf (s.length + 1) s) (h : (goK [] L).2 = 0) : kParse s = ((goK [] L).1, 0, 0) := by
  have e : goK [] L = ((goK [] L).1, 0) := by rw [← h]
  have h1 := parseL_go L [] [] _ 0 e
  rw [List.append_nil] at h1
  unfold kParse
  rw [← hL, h1]
  rfl
/-- A line was refused. -/
theorem parse_stop {s : List UInt8} {L : List (List UInt8 × Bool)} (hL : L = linesOf (s.length + 1) s) {k : Nat} (hk : k < L.length) (h : (goK [] (L.take k)).2 = 0) (hc : (readK (goK [] (L.take k)).1 (L.getD k ([], false))).2 ≠ 0) :
    kParse s = ([], k + 1, (readK (goK [] (L.take k)).1 (L.getD k ([], false))).2) := by
  have e : goK [] (L.take k) = ((goK [] (L.take k)).1, 0) := by rw [← h]
  have hg : L.getD k ([], false) = L[k] := by rw [List.getD_eq_getElem?_getD, List.getElem?_eq_getElem hk]; rfl
  have hs : L.take k ++ L[k] :: L.drop (k + 1) = L := by rw [← List.drop_eq_getElem_cons hk, List.take_append_drop]
  have h1 := parseL_go (L.take k) (L[k] :: L.drop (k + 1)) [] _ 0 e
  rw [hs] at h1
  rw [hg] at hc ⊢
  unfold kParse
  rw [← hL, h1, parseL, if_neg hc, List.length_take]
  simp
  omega

/-! ### What a table is beside -/
theorem cell_own {w w' : World} {a : Addr} {v : Value} {row : Option Nat} {n : Nat} (h : w.cell? a = some v) (hg : w.grownBy w' row) (hr : ∀ r, row = some r → n ≤ r ∧ ∃ o : Obj, w.heap[r]? = some o ∧ o.isCells = false) : w'.cell? a = some v := by
  have hlt := lt_of_cell h
  refine (World.cell?_of_block (w := w) (hg.block a.block hlt fun e2 => ?_)).trans h
  obtain ⟨_, o, ho, hcs⟩ := hr a.block e2.symm
  cases o <;> simp [World.cell?, ho, Obj.isCells] at h hcs
theorem RowD.own {w w' : World} {A : Option Addr} {m : Nat} {ds : List DscK} {row : Option Nat} {n : Nat} (h : RowD w A m ds) (hg : w.grownBy w' row) (hr : ∀ r, row = some r → n ≤ r ∧ ∃ o : Obj, w.heap[r]? = some o ∧ o.isCells = false) : RowD w' A m ds :=
  ⟨h.1, fun hm => by
    obtain ⟨g, off, e, hc⟩ := h.2 hm
    refine ⟨g, off, e, fun k d hk => ?_⟩
    obtain ⟨P, m, c, Q, q, f, h1, h2, h3, h4, h5, h6⟩ := hc k d hk
    exact ⟨P, m, c, Q, q, f, cell_own h1 hg hr, cell_own h2 hg hr, cell_own h3 hg hr, cell_own h4 hg hr, h5.own hg hr, h6.own hg hr⟩⟩
theorem ErrV_kinds.own {w w' : World} {no : Nat} {v : Value} {row : Option Nat} {n : Nat} (h : ErrV_kinds w no v) (hg : w.grownBy w' row) (hr : ∀ r, row = some r → n ≤ r ∧ ∃ o : Obj, w.heap[r]? = some o ∧ o.isCells = false) : ErrV_kinds w' no v := by
  rcases h with h | ⟨h0, t, u, h1, h2, h3⟩
  · exact .inl h
  · exact .inr ⟨h0, t, u, h1, cell_own h2 hg hr, cell_own h3 hg hr⟩
theorem TabAt.own {w w' : World} {base mt top g n : Nat} {line : Int} {ds : List DscK} {row : Option Nat} (h : TabAt w base mt top g line ds) (hg : w.grownBy w' row) (hr : ∀ r, row = some r → n ≤ r ∧ ∃ o : Obj, w.heap[r]? = some o ∧ o.isCells = false) (hn : mt ≤ n) : TabAt w' base mt top g line ds := by
  obtain ⟨lv, M, ms, D, h1, h2, h3, h4, h5, h6, h7, h8, h9, h10, h11, h12⟩ := h
  refine ⟨lv, M, ms, D, h1.own hg hr, h2.kept hg ?_, h3, fun k d x a b => ?_, h5, h6.kept hg (fun e => by have := (hr M e.symm).1; omega), h7, h8, h9, h10, h11, h12⟩
  · cases hv : lv.ownBlock with
    | none => exact .inl rfl
    | some b =>
      refine .inr fun e => ?_
      obtain ⟨_, o, ho, hc⟩ := hr b e.symm
      rcases h2.2 with ⟨rfl, _⟩ | ⟨g', cap, cur, rfl, _, h1, _⟩
      · cases hv
      · injection hv with hv
        simp at hv
        subst hv
        rw [h1] at ho
        cases ho
        simp [Obj.isCells] at hc
  · obtain ⟨f1, f2, f3, f4⟩ := h4 k d x a b
    exact ⟨f1, f2, f3.own hg hr, f4.own hg hr⟩
/-- A list of numbers lies in no block of one cell that holds none. -/
theorem row_ne {w : World} {A : Option Addr} {m eb : Nat} {l : List Int} {t : TypeId} {v : Value} (hR : Row w A m (l.map Iv)) (hb : Blk w eb t #[v]) (hv : ∀ z, v ≠ .int .i64 z) : ∀ b ∈ blkR A m, b ≠ eb := by
  intro b hm e
  unfold blkR at hm
  split at hm
  · rename_i hp
    obtain ⟨b0, off, rfl, hc⟩ := hR.2 hp
    simp [blkA] at hm
    subst hm
    have hl := hR.1
    simp at hl
    have h1 := hc 0 (Iv (l[0]'(by omega))) (by simp [show 0 < l.length by omega])
    rw [Nat.add_zero, e, hb.cell] at h1
    cases off with
    | zero => simp at h1; exact hv _ h1
    | succ o => simp at h1
  · simp at hm
/-- The error's own variable is set. -/
theorem TabAt.err {w : World} {base mt top g eb : Nat} {line : Int} {ds : List DscK} {v : Value} (h : TabAt w base mt top g line ds) (hb : Blk w eb 49 #[v]) (hv : ∀ z, v ≠ .int .i64 z) (v' : Value) : TabAt (w.setCell ⟨eb, 0, none⟩ v') base mt top g line ds := by
  obtain ⟨lv, M, ms, D, h1, h2, h3, h4, h5, h6, h7, h8⟩ := h
  have hs := grown_set w eb 0 v'
  have hge : g ≠ eb := by
    rintro rfl
    unfold Blk at h1 hb
    rw [h1] at hb
    cases hb
  refine ⟨lv, M, ms, D, h1.far (p := ⟨eb, 0, none⟩) hge v', own_grown h2 hs (own_neD h2 hb (by decide)), h3, fun k d x a b => (h4 k d x a b).grown hs (fun b' hb' e => ?_), h5, h6.kept hs (by intro e; injection e with e; exact map_ne h6 hb e.symm), h7, h8⟩
  have e' := Option.some.inj e
  rcases List.mem_append.1 hb' with hb' | hb'
  · exact row_ne (h4 k d x a b).2.2.1 hb hv b' hb' e'
  · exact row_ne (h4 k d x a b).2.2.2 hb hv b' hb' e'
theorem ErrV_kinds.far {w : World} {no eb : Nat} {v u : Value} (h : ErrV_kinds w no v) (hb : Blk w eb 49 #[u]) (hu : ∀ z, u ≠ .int .i64 z) (v' : Value) : ErrV_kinds (w.setCell ⟨eb, 0, none⟩ v') no v := by
  have hs := grown_set w eb 0 v'
  rcases h with h | ⟨h0, t, f, h1, h2, h3⟩
  · exact .inl h
  · have ht : t ≠ eb := by
      rintro rfl
      rw [hb.cell] at h2
      simp at h2
    have hf : f ≠ eb := by
      rintro rfl
      rw [hb.cell] at h3
      simp at h3
      exact hu _ h3
    exact .inr ⟨h0, t, f, h1, (World.cell?_of_block (w := w) (hs.block t (lt_of_cell h2) (fun e => ht (Option.some.inj e)))).trans h2, (World.cell?_of_block (w := w) (hs.block f (lt_of_cell h3) (fun e => hf (Option.some.inj e)))).trans h3⟩
theorem ErrV_kinds.no {w : World} {no : Nat} {v : Value} (h : ErrV_kinds w no v) : ∀ z, v ≠ .int .i64 z := by
  rcases h with ⟨_, rfl⟩ | ⟨_, _, _, rfl, _⟩
  · intro z e; cases e
  · intro z e; cases e

/-- All read till now. -/
def PaI (W1 : World) (base mt g eb : Nat) (L : List (List UInt8 × Bool)) (pre : List (Fin L.length)) (W' : World) : Prop :=
  W1.heap.size ≤ W'.heap.size ∧ Below base W1 W' ∧ Blk W' eb 49 #[.nilIface] ∧ (goK [] (lnsK L pre)).2 = 0 ∧ TabAt W' base mt W'.heap.size g pre.length (goK [] (lnsK L pre)).1
/-- A line was refused. -/
def PaX (W1 : World) (base g eb : Nat) (L : List (List UInt8 × Bool)) (c : Code) (pre : List (Fin L.length)) (W' : World) : Prop :=
  W1.heap.size ≤ W'.heap.size ∧ c = .exit 0 ∧ Below base W1 W' ∧ (∃ lv mv, Blk W' g 68 #[lv, mv, .int .i64 (pre.length : Nat)]) ∧ ∃ v cc, Blk W' eb 49 #[v] ∧ cc ≠ 0 ∧ ErrV_kinds W' cc v ∧
    ∃ pre' x, pre = pre' ++ [x] ∧ (goK [] (lnsK L pre')).2 = 0 ∧ (readK (goK [] (lnsK L pre')).1 (L.getD x.1 ([], false))).2 = cc
theorem PaI.own {W1 X Y : World} {base mt g eb : Nat} {L : List (List UInt8 × Bool)} {pre : List (Fin L.length)} {row : Option Nat} (hb : base ≤ W1.heap.size) (hm : mt ≤ W1.heap.size) (h : PaI W1 base mt g eb L pre X) (hg : X.grownBy Y row) (hr : ∀ r, row = some r → W1.heap.size ≤ r ∧ ∃ o : Obj, X.heap[r]? = some o ∧ o.isCells = false) : PaI W1 base mt g eb L pre Y := by
  obtain ⟨h1, h2, h3, h4, h5⟩ := h
  exact ⟨Nat.le_trans h1 hg.size, h2.grown hg (Nat.le_trans hb h1) (fun k e => Nat.le_trans hb (hr k e).1), h3.own hg hr, h4, (h5.own hg hr hm).up hg.size⟩
theorem PaX.own {W1 X Y : World} {base g eb : Nat} {L : List (List UInt8 × Bool)} {c : Code} {pre : List (Fin L.length)} {row : Option Nat} (hb : base ≤ W1.heap.size) (h : PaX W1 base g eb L c pre X) (hg : X.grownBy Y row) (hr : ∀ r, row = some r → W1.heap.size ≤ r ∧ ∃ o : Obj, X.heap[r]? = some o ∧ o.isCells = false) : PaX W1 base g eb L c pre Y := by
  obtain ⟨h1, h2, h3, ⟨lv, mv, h4⟩, v, cc, h5, h6, h7, h8⟩ := h
  exact ⟨Nat.le_trans h1 hg.size, h2, h3.grown hg (Nat.le_trans hb h1) (fun k e => Nat.le_trans hb (hr k e).1), ⟨lv, mv, h4.own hg hr⟩, v, cc, h5.own hg hr, h6, h7.own hg hr, h8⟩

def parF (s : ByteArray) (w1 : World) (M : Nat) (a : List UInt8) (b : Bool) : Act :=
  { tmps := #[.string s, undef, .slice none 0 0, .int .i64 0, .int .i64 0, .pointer (some ⟨w1.heap.size, 0, none⟩), .pointer (some ⟨w1.heap.size + 1, 0, none⟩), .string ⟨a.toArray⟩, .bool b, .agg #[.slice none 0 0, .map (some M), .int .i64 0], .string s,
      .func (.func 57) #[] #[.pointer (some ⟨w1.heap.size + 2, 0, none⟩)], .string ⟨a.toArray⟩, .bool b, undef, undef, undef, undef, undef, undef, undef, undef, undef, undef, undef, undef, undef, undef, undef, undef, undef, undef, undef, undef, undef, undef, undef], defers := [] }

set_option maxRecDepth 100000 in
set_option maxHeartbeats 4000000 in
/-- Parse. -/
theorem kparse_any (s : ByteArray) (w : World) (hs : s.size ≤ 1000000) (hsh : shortL (linesOf (s.data.toList.length + 1) s.data.toList)) (hM : MLen w) (hE : EType w) :
    Calls Tryz.prog 13 #[.string s] w (GivesK w (kParse s.data.toList)) := by
  obtain ⟨L, hL⟩ : ∃ L, L = linesOf (s.data.toList.length + 1) s.data.toList := ⟨_, rfl⟩
  rw [← hL] at hsh
  have hLl : L.length ≤ 1000000 := by
    rw [hL]
    have := linesOf_len (s.data.toList.length + 1) s.data.toList
    simp at this ⊢
    omega
  have p1 : (goK [] L).2 = 0 → kParse s.data.toList = ((goK [] L).1, 0, 0) := parse_whole hL
  have p2 : ∀ k, k < L.length → (goK [] (L.take k)).2 = 0 → (readK (goK [] (L.take k)).1 (L.getD k ([], false))).2 ≠ 0 → kParse s.data.toList = ([], k + 1, (readK (goK [] (L.take k)).1 (L.getD k ([], false))).2) := fun k h1 h2 h3 => parse_stop hL h1 h2 h3
  generalize kParse s.data.toList = r at *
  have HL := Lib.hid hL
  have HSH := Lib.hid hsh
  have P1 := Lib.hid p1
  have P2 := Lib.hid p2
  have HM := Lib.hid hM
  have HE := Lib.hid hE
  clear hL hsh p1 p2 hM hE
  refine (callsIn_wide (n := 3)).1 ?_
  refine callsIn_of_wp_marks Tryz.func13 rfl trivial ?_ rfl
  simp only [Tryz.ntmps13, List.size_toArray, List.length_cons, List.length_nil, Nat.reduceAdd, Nat.reduceSub, Array.replicate_succ, Array.replicate_zero, List.push_toArray, List.append_toArray, List.nil_append, List.cons_append]
  gi_wp2_with fail
  refine wpIn_scope_ahead 0 (fun _ _ => False) rfl ?_ (fun _ _ h => h.elim)
  gi_wp2_with fail
  refine ⟨trivial, (callsIn_wide.2 (start_any w)).mono ?_⟩
  rintro x w1 ⟨M, rfl, hb1, hM1, hM2, hM3⟩
  have hx := below_box w1 (.cells #[.slice none 0 0, .map (some M), .int .i64 0] 68)
  have hg : Blk (w1.alloc (.cells #[.slice none 0 0, .map (some M), .int .i64 0] 68)) w1.heap.size 68 #[.slice none 0 0, .map (some M), .int .i64 0] := Blk.new _ _ _
  have hT := tab_new (base := w.heap.size) (mt := w1.heap.size + 1) (top := w1.heap.size + 1) hg ((hx.block M hM2).trans hM3) hb1.size hM1 (by omega) (by omega)
  have hy := below_box (w1.alloc (.cells #[.slice none 0 0, .map (some M), .int .i64 0] 68)) (.cells #[.nilIface] 49)
  have heb : Blk ((w1.alloc (.cells #[.slice none 0 0, .map (some M), .int .i64 0] 68)).alloc (.cells #[.nilIface] 49)) (w1.heap.size + 1) 49 #[.nilIface] := heap_new (by simp) _
  have hz : ((w1.alloc (.cells #[.slice none 0 0, .map (some M), .int .i64 0] 68)).alloc (.cells #[.nilIface] 49)).heap.size = w1.heap.size + 2 := by simp
  have HT := Lib.hid (hT.ext hy)
  have HEB := Lib.hid heb
  have HB := Lib.hid (below_le (below_le hb1 hx) hy)
  have HZ := Lib.hid hz
  have HW1 := Lib.hid hb1.size
  clear hx hg hT hy heb hz hb1 hM1 hM2 hM3
  gi_wp2_with fail
  generalize (w1.alloc (.cells #[.slice none 0 0, .map (some M), .int .i64 0] 68)).alloc (.cells #[.nilIface] 49) = W0 at *
  refine wpIn_label ?_
  gi_wp2_with fail
  refine ⟨trivial, (callsIn_wide.2 (lines_any _ _)).mono ?_⟩
  rintro x w' ⟨rfl, rfl⟩
  have hb1 := below_box W0 (.cells #[.string s] 9)
  have hz : (W0.alloc (.cells #[.string s] 9)).heap.size = w1.heap.size + 3 := by simp [HZ.out]
  have e1 := cell_one (w := W0) (t := 9) (v := .string s)
  have HT1 := Lib.hid (HT.out.ext hb1)
  have HEB1 := Lib.hid (HEB.out.ext hb1)
  have HHB := Lib.hid (below_le HB.out hb1)
  rw [HZ.out] at e1 ⊢
  generalize W0.alloc (.cells #[.string s] 9) = W1 at *
  have hst := lines1_stops (3 - 1) s L (w1.heap.size + 2) hs HL.out W1 e1 (HM.out.ext HHB.out)
  have HZ1 := Lib.hid (show w1.heap.size + 3 ≤ W1.heap.size by omega)
  have hlt : ∀ b ∈ [1], b < w.heap.size := fun b hb => by
    obtain ⟨m, hm⟩ := HM.out
    rw [List.mem_singleton.1 hb]
    exact lt_of_cell hm
  have HLT := Lib.hid hlt
  clear HT HEB HB HZ hb1 e1 hz
  gi_wp2_with fail
  refine wpIn_rangeFunc_ownH (F := Fence.wide) (n := 3) rfl (by omega) (gf := 57) (lb := #[.pointer (some ⟨w1.heap.size + 2, 0, none⟩)]) rfl trivial (enters_of Tryz.func57 (by kernel_rfl) rfl)
    hst (fun h k => h.t k) (KeepB.b (fun b hb => by have := HLT.out b hb; have := HW1.out; have := HZ1.out; omega)) (Below.refl _ _) (fun _ => rfl)
    (PaI W1 w.heap.size (w1.heap.size + 1) w1.heap.size (w1.heap.size + 1) L) (fun c => PaX W1 w.heap.size w1.heap.size (w1.heap.size + 1) L c)
    (fun s X Y row hs hg hr => PaI.own (by have := HW1.out; have := HZ1.out; omega) (by have := HZ1.out; omega) hs hg hr)
    (fun c s X Y row hs hg hr => PaX.own (by have := HW1.out; have := HZ1.out; omega) hs hg hr)
    ⟨Nat.le_refl _, Below.refl _ _, HEB1.out, rfl, HT1.out.up (by have := HZ1.out; omega)⟩
    (fun x a' _ => a' = parF s w1 M (L.getD x.1 ([], false)).1 (L.getD x.1 ([], false)).2)
    (fun x a' _ X Y row hs hg hr => hs)
    ?assign ?body ?done ?stop
  case assign =>
    intro l0 pre x W' K hI hK
    dsimp only [lineV]
    generalize (L.getD x.1 ([], false)).1 = la at *
    generalize (L.getD x.1 ([], false)).2 = lb at *
    have HK := Lib.hid hK
    have HI := Lib.hid hI
    clear hK hI hst
    gi_wp2
    exact HK.out _ _ (KeepsFrom.refl _ _) (KeepB.refl _ _) HI.out rfl
  case body =>
    rintro l0 pre x a' W' - - ⟨s1, s2, s3, s4, s5⟩ rfl hpl
    have hln : (L.getD x.1 ([], false)).1.length ≤ 1000 := by
      have hx : L[x.1]? = some (L[x.1]) := List.getElem?_eq_getElem x.2
      rw [List.getD_eq_getElem?_getD, hx]
      exact HSH.out _ (List.mem_of_getElem? hx)
    have hga := goK_all (lnsK L pre) (acc := []) (fun d h => by simp at h) (by simp)
    have hmo := goK_more (x := L.getD x.1 ([], false)) s4
    have hsn := lnsK_snoc L pre x
    have hbw : Below w.heap.size w W' := HHB.out.trans (s2.mono (Nat.le_refl _))
    have hcall := kread_any (base := w.heap.size) (mt := w1.heap.size + 1) (top := W'.heap.size) (g := w1.heap.size) (line := (pre.length : Nat)) (ds := (goK [] (lnsK L pre)).1) (L.getD x.1 ([], false)) ⟨(L.getD x.1 ([], false)).1.toArray⟩ W' s5 (by have := HZ1.out; omega) (Nat.le_refl _) (by simp) (by rw [size_list]; exact hln) hga.1 hga.2 (by omega) (by omega) (fun W hb => HM.out.ext (hbw.trans hb)) (fun W hb => HE.out.ext (hbw.trans hb))
    have hrx : ∀ cc, (readK (goK [] (lnsK L pre)).1 (L.getD x.1 ([], false))).2 = cc → ∃ pre' x', pre ++ [x] = pre' ++ [x'] ∧ (goK [] (lnsK L pre')).2 = 0 ∧ (readK (goK [] (lnsK L pre')).1 (L.getD x'.1 ([], false))).2 = cc := fun cc h => ⟨pre, x, rfl, s4, h⟩
    rw [← hsn] at hmo
    rw [← hmo] at hcall hrx
    have HRX := Lib.hid hrx
    have HC := Lib.hid hcall
    have S1 := Lib.hid s1
    have S2 := Lib.hid s2
    have S3 := Lib.hid s3
    have HPL := Lib.hid (show (pre ++ [x]).length = pre.length + 1 by simp)
    clear hcall s1 s2 s3 s4 s5 hga hmo hsn hbw hrx hln hst
    simp only [parF]
    generalize (L.getD x.1 ([], false)).1 = la at *
    generalize (L.getD x.1 ([], false)).2 = lb at *
    gi_wp2_with fail
    refine ⟨trivial, (CallsIn.inRound _ (callsIn_wide.2 HC.out)).mono ?_⟩
    rintro y w4 ⟨v, rfl, hv, hT4, hb4, hk4⟩
    have h3 := hk4.blk S3.out (by decide) (by decide)
    have c6 := h3.at_ (i := 0) rfl
    have f6 := h3.frozen 0
    have q6 := (h3.set_ 0 v).at_ (i := 0) rfl
    have hvn := hv.no
    have hT5 := hT4.err h3 (fun z e => by cases e) v
    have hv5 := hv.far h3 (fun z e => by cases e) v
    have hb5 := (S2.out.trans hb4).setCell (p := ⟨w1.heap.size + 1, 0, none⟩) (by show w.heap.size ≤ w1.heap.size + 1; have := HW1.out; omega) v
    have h5 : Blk (w4.setCell ⟨w1.heap.size + 1, 0, none⟩ v) (w1.heap.size + 1) 49 #[v] := by simpa using h3.set_ 0 v
    have hkf : KeepsFrom W1.heap.size W' (w4.setCell ⟨w1.heap.size + 1, 0, none⟩ v) := (hk4.from (by have := HZ1.out; omega)).trans ((KeepsOthers.setCell w4 ⟨w1.heap.size + 1, 0, none⟩ v).from _)
    have hsz5 : W1.heap.size ≤ (w4.setCell ⟨w1.heap.size + 1, 0, none⟩ v).heap.size := Nat.le_trans S1.out hkf.size
    have hkb : KeepB [1] W' (w4.setCell ⟨w1.heap.size + 1, 0, none⟩ v) := KeepB.of_below (hb4.setCell (p := ⟨w1.heap.size + 1, 0, none⟩) (by show w.heap.size ≤ w1.heap.size + 1; have := HW1.out; omega) v) HLT.out
    have hs5 : w4.heap.size ≤ (w4.setCell ⟨w1.heap.size + 1, 0, none⟩ v).heap.size := (KeepsOthers.setCell w4 _ v).size
    have HKF := Lib.hid hkf
    have HKB := Lib.hid hkb
    have HT5 := Lib.hid (hT5.up hs5)
    have HV5 := Lib.hid hv5
    have HB5 := Lib.hid hb5
    have H5 := Lib.hid h5
    have HS5 := Lib.hid hsz5
    clear hv5 hT5 hb5 h5 hkf hsz5 hkb hs5 hT4 hb4 hk4 h3 HC hvn
    rcases hv with ⟨hc0, rfl⟩ | ⟨hc0, t, u, rfl, -, -⟩
    · have HC0 := Lib.hid hc0
      clear hc0
      gi_wp2
      exact ⟨HKF.out, HKB.out, HS5.out, HB5.out, H5.out, HC0.out, by rw [HPL.out]; exact HT5.out⟩
    · have HC0 := Lib.hid hc0
      clear hc0
      obtain ⟨lv, mv, hrd, -, -⟩ := HT5.out.own_
      have HRD := Lib.hid hrd
      clear hrd
      gi_wp2
      exact ⟨HKF.out, HS5.out, rfl, HB5.out, ⟨lv, _, by rw [HPL.out]; exact HRD.out⟩, _, _, H5.out, HC0.out, HV5.out, HRX.out _ rfl⟩
  case done =>
    rintro D ys W' hD rfl ⟨s1, s2, s3, s4, s5⟩ hK
    rw [lnsK_all] at s4 s5
    have hr := P1.out s4
    subst hr
    obtain ⟨ds, hds⟩ : ∃ ds, (goK [] L).1 = ds := ⟨_, rfl⟩
    have HDS := Lib.hid hds
    rw [hds] at s5
    clear hds
    have c6 := s3.at_ (i := 0) rfl
    obtain ⟨lv, M', ms, DD, h1, h2, h3, h4, h5, h6, h7, h8, h9, h10, h11, h12⟩ := s5
    obtain ⟨A, c, he, hR, hnc, hbA⟩ := rowD_of_owns h2 h3 h4
    subst he
    have d0 := h1.at_ (i := 0) rfl
    have d1 := h1.at_ (i := 1) rfl
    have d2 := h1.at_ (i := 2) rfl
    have HR := Lib.hid hR
    have HBA := Lib.hid hbA
    have HBB := Lib.hid (HHB.out.trans (s2.mono (Nat.le_refl _)))
    have HK := Lib.hid hK
    clear s1 s2 s3 s4 h1 h2 h3 h4 h5 h6 h7 h12 hR hbA hK hst P1 P2
    generalize ds.length = n at *
    gi_wp2
    simp only [Exit.jump]
    refine ⟨by simp, .inl ⟨_, _, rfl, run_takeDeferred HK.out, ?_⟩⟩
    have hbD := belowK_b (w := W1) (n₀ := W1.heap.size) (Nat.le_refl _) W' D _ (.deferred none) hD HK.out rfl rfl
    refine ⟨.tuple #[.slice A n n, .int .i64 0, .int .i64 0], by simp [results, Tryz.results13, go_sem], A, n, n, rfl, ?_, HBA.out, HBB.out.trans (hbD.mono (by have := HW1.out; have := HZ1.out; omega))⟩
    rw [HDS.out]
    exact HR.out.own (n := W1.heap.size) (grownBy_putObj' W' D _) (fun r e => by cases e; exact ⟨hD, _, HK.out, rfl⟩)
  case stop =>
    rintro D cd pre W' hD ⟨j, hj, rfl⟩ ⟨s1, rfl, s2, ⟨lv, mv, s3⟩, v, cc, s4, s5, s6, pre', x, hpre, s7, s8⟩ hK
    have hk0 : j ≠ 0 := by rintro rfl; simp at hpre
    obtain ⟨k, rfl⟩ : ∃ k, j = k + 1 := ⟨j - 1, by omega⟩
    rw [fin_take_succ _ _ (by omega)] at hpre
    obtain ⟨e1, e2⟩ := List.append_inj' hpre rfl
    have hx : x.1 = k := by
      injection e2 with e2
      rw [← e2]
    rw [← e1, lnsK_take] at s7 s8
    rw [hx] at s8
    have hlk : ((List.finRange L.length).take (k + 1)).length = k + 1 := by simp; omega
    rw [hlk] at s3
    have hr := P2.out k (by omega) s7 (by rw [s8]; exact s5)
    rw [s8] at hr
    subst hr
    have hbb := HHB.out.trans (s2.mono (Nat.le_refl _))
    have HV := Lib.hid (fun x : Ext W' => number_kinds cc v x.val (s6.ext x.below) ((HE.out.ext hbb).ext x.below))
    have t2 := fun x : Ext W' => ext_cell (s3.at_ (i := 2) rfl) x
    have t6 := fun x : Ext W' => ext_cell (s4.at_ (i := 0) rfl) x
    have c6 := s4.at_ (i := 0) rfl
    have HBB := Lib.hid hbb
    have HK := Lib.hid hK
    rcases s6 with ⟨h0, -⟩ | ⟨-, t, u, rfl, -, -⟩
    · exact absurd h0 s5
    clear s1 s2 s3 s4 s5 s7 s8 hbb hK hst hpre e1 e2 P1 P2 hlk
    gi_wp2_with fail
    refine wpIn_wide.2 ?_
    clear c6
    refine wp_region_plan [(0, true), (1, true), (2, true), (3, true), (4, true), (5, true), (6, true)] (by kernel_rfl) (by kernel_rfl) ?_
    repeat (first | (refine plan_skip rfl rfl ?_; go_frame) | (refine plan_soft rfl rfl (fun K hK => ?_); go_simp; first | (refine hK _ ?_; clear hK K) | (apply Exists.intro; refine ⟨fun x => ?_, hK _ ?_⟩; (· (exact HV.out x)); clear hK K; try go_frame)))
    refine plan_nil ?_; intro w5 h0b; have Hb5 := Lib.hid h0b; clear h0b
    have hK5 := (Hb5.out.block D (Array.getElem?_eq_some_iff.1 HK.out).1).trans HK.out
    clear t2 t6
    gi_wp2
    simp only [Exit.jump]
    refine ⟨by simp, .inl ⟨_, _, rfl, run_takeDeferred hK5, ?_⟩⟩
    have hbD := belowK_b (w := W1) (n₀ := W1.heap.size) (Nat.le_refl _) w5 D _ (.deferred none) hD hK5 rfl rfl
    refine ⟨.tuple #[.slice none 0 0, .int .i64 ((k : Int) + 1), .int .i64 cc], by simp [results, Tryz.results13, go_sem], none, 0, 0, by simp, RowD.none_, (fun _ h => by cases h), (below_le HBB.out Hb5.out).trans (hbD.mono (by have := HW1.out; have := HZ1.out; omega))⟩
end Go.Proofs.YtmabokmnniiadaaGreatDoor
