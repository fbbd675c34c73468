/-
  What is proved: contracts of start and take of package kinds: a table of descriptors in memory. No condition beyond those stated.
-/
import Derived.Test.YtmabokmnniiadaaGreatDoorMe
import Derived.Test.YtmabokmnniiadaaGreatDoorMi
import Derived.Test.YtmabokmnniiadaaGreatDoorMg
import Derived.Test.YtmabokmnniiadaaGreatDoorMk
import Derived.Test.YtmabokmnniiadaaGreatDoorCc
import Derived.Test.YtmabokmnniiadaaGreatDoorApp
import Derived.Test.YtmabokmnniiadaaGreatDoorMixd
import Derived.Test.YtmabokmnniiadaaGreatDoorTail
import Derived.Maps.OwnOps
import Derived.Maps.Own
import Derived.Maps.OwnSet
import Derived.Maps.Views
namespace Go.Proofs.YtmabokmnniiadaaGreatDoor
open Go.RowKit Go.Maps

theorem stop_hereK {p : Prop} (h : True → p) : p := h trivial
theorem zero_intK (w : World) : (zeroValue 3).run Tryz.prog w = .ok (.int .i64 0) w := by
  obtain ⟨i, hi, hz0, -, -⟩ := info_parts (show (Tryz.prog.info? 3).map (fun i => (i.zero, i.size, i.bytes)) = some (some (.int .i64 0), 1, 8) by kernel_rfl)
  simp [zeroValue, typeInfo, hi, hz0]
theorem lawS : Keyed Tryz.prog 9 := string_keyed Tryz.underlying9
theorem desc_info : (Tryz.prog.info? 35).map (fun i => (i.zero, i.size, i.bytes)) = some (some (.agg #[.int .i64 0, .slice none 0 0, .int .i64 0, .slice none 0 0]), 4, 64) := by kernel_rfl

theorem own_baseD {W : World} {base size : Nat} {e : TypeId} {v : Value} {n g : Nat} {xs : List Value} (h : W.ownsRow base e size v n xs) (hv : v.ownBlock = some g) : base ≤ g := by
  rcases h.2 with ⟨rfl, _⟩ | ⟨g', cap, cur, rfl, hb, _⟩
  · cases hv
  · injection hv with hv
    simp at hv
    omega
theorem own_neD {W : World} {base size : Nat} {e t : TypeId} {v : Value} {n g : Nat} {xs : List Value} {cs : Array Value} (h : W.ownsRow base e size v n xs) (hg : Blk W g t cs) (hne : e ≠ t) : some g ≠ v.ownBlock := by
  intro hv
  rcases h.2 with ⟨rfl, _⟩ | ⟨g', cap, cur, rfl, _, h1, _⟩
  · cases hv
  · injection hv with hv
    simp at hv
    subst hv
    unfold Blk at hg
    rw [h1] at hg
    injection hg with hg
    injection hg
    contradiction
theorem own_extD {w w' : World} {base size : Nat} {e : TypeId} {v : Value} {n : Nat} {xs : List Value} (hb : Below w.heap.size w w') (h : w.ownsRow base e size v n xs) : w'.ownsRow base e size v n xs :=
  h.kept (row := none) ⟨hb.os, hb.tape, hb.output, hb.size, fun i hi _ => hb.block i hi⟩ (by cases v.ownBlock <;> simp)
theorem own_lt {W : World} {base size : Nat} {e : TypeId} {v : Value} {n g : Nat} {xs : List Value} (h : W.ownsRow base e size v n xs) (hv : v.ownBlock = some g) : g < W.heap.size := by
  rcases h.2 with ⟨rfl, _⟩ | ⟨g', cap, cur, rfl, hb, h1, _⟩
  · cases hv
  · injection hv with hv
    simp at hv
    subst hv
    exact Blk.lt h1
theorem own_shape {W : World} {base size : Nat} {e : TypeId} {v : Value} {n : Nat} {xs : List Value} (h : W.ownsRow base e size v n xs) : ∃ A c, v = .slice A n c := by
  rcases h.2 with ⟨rfl, rfl⟩ | ⟨g', cap, cur, rfl, _⟩
  · exact ⟨_, _, rfl⟩
  · exact ⟨_, _, rfl⟩
theorem map_ext {H : Type} {w w' : World} {P : Program} {k : TypeId} {R : Value → Option (DataW H × List MemPlace)} {b n : Nat} {D : DataW H} (hb : Below w.heap.size w w') (h : w.ownsMap P k R b n D) : w'.ownsMap P k R b n D :=
  h.kept (row := none) ⟨hb.os, hb.tape, hb.output, hb.size, fun i hi _ => hb.block i hi⟩ (by simp)
theorem map_ne {H : Type} {w : World} {P : Program} {k : TypeId} {R : Value → Option (DataW H × List MemPlace)} {b n g : Nat} {D : DataW H} {t : TypeId} {cs : Array Value} (h : w.ownsMap P k R b n D) (hg : Blk w g t cs) : g ≠ b := by
  rintro rfl
  obtain ⟨es, clock, hm, -⟩ := h
  unfold Blk at hg
  rw [hm] at hg
  cases hg
theorem map_own_ne {H : Type} {w : World} {P : Program} {k : TypeId} {R : Value → Option (DataW H × List MemPlace)} {b n base size m : Nat} {D : DataW H} {e : TypeId} {v : Value} {xs : List Value} (h : w.ownsMap P k R b n D) (ho : w.ownsRow base e size v m xs) : some b ≠ v.ownBlock := by
  intro hv
  rcases ho.2 with ⟨rfl, _⟩ | ⟨g', cap, cur, rfl, _, h1, _⟩
  · cases hv
  · injection hv with hv
    simp at hv
    subst hv
    obtain ⟨es, clock, hm, -⟩ := h
    rw [h1] at hm
    cases hm

theorem own_grown {w w' : World} {base size g : Nat} {e : TypeId} {v : Value} {n : Nat} {xs : List Value} (h : w.ownsRow base e size v n xs) (hg : w.grownBy w' (some g)) (hne : some g ≠ v.ownBlock) : w'.ownsRow base e size v n xs := by
  refine h.kept hg ?_
  cases hv : v.ownBlock with
  | none => exact .inl rfl
  | some b => exact .inr fun e => hne (by rw [hv]; exact e.symm)
theorem Fits.grown {w w' : World} {d : MD} {x : DscK} {row : Option Nat} (h : Fits w d x) (hg : w.grownBy w' row) (hne : ∀ b ∈ blkM d, some b ≠ row) : Fits w' d x :=
  h.keep (S := blkM d) (KeepB.of_grown hg fun b hb => ⟨h.lt b hb, hne b hb⟩) fun _ hb => hb
/-- What a table's change leaves: all that is no cells from block mt on; all cells of other types. -/
def KeepsT (mt : Nat) (w w' : World) : Prop :=
  w.heap.size ≤ w'.heap.size ∧ ∀ (k : Nat) (o : Obj), w.heap[k]? = some o → ((o.isCells = false ∧ mt ≤ k) ∨ (∃ cs t f, o = .cells cs t f ∧ t ≠ 68 ∧ t ≠ 35)) → w'.heap[k]? = some o
theorem KeepsT.refl (mt : Nat) (w : World) : KeepsT mt w w := ⟨Nat.le_refl _, fun _ _ h _ => h⟩
theorem KeepsT.trans {mt : Nat} {a b c : World} (h : KeepsT mt a b) (k : KeepsT mt b c) : KeepsT mt a c := ⟨Nat.le_trans h.1 k.1, fun i o hi ho => k.2 i o (h.2 i o hi ho) ho⟩
theorem keepsT_below {mt : Nat} {w w' : World} (h : Below w.heap.size w w') : KeepsT mt w w' := ⟨h.size, fun k _ hk _ => (h.block k (Array.getElem?_eq_some_iff.1 hk).1).trans hk⟩
theorem keepsT_own {mt : Nat} {w w' : World} {base n : Nat} {v : Value} {xs : List Value} (ho : w.ownsRow base 35 4 v n xs) (hg : w.grownBy w' v.ownBlock) : KeepsT mt w w' :=
  ⟨hg.size, fun k o hk hc => (hg.block k (Array.getElem?_eq_some_iff.1 hk).1 fun e => by
    rcases ho.2 with ⟨rfl, _⟩ | ⟨g, cap, cur, rfl, _, h1, _⟩
    · cases e
    · injection e with e
      simp at e
      subst e
      rw [h1] at hk
      cases hk
      rcases hc with ⟨hc, _⟩ | ⟨cs, t, f, hc, _, ht⟩
      · simp [Obj.isCells] at hc
      · cases hc
        exact ht rfl).trans hk⟩
theorem keepsT_set {mt : Nat} {w : World} {g i : Nat} {cs : Array Value} {v : Value} (hb : Blk w g 68 cs) : KeepsT mt w (w.setCell ⟨g, i, none⟩ v) :=
  ⟨(grown_set w g i v).size, fun k o hk hc => ((grown_set w g i v).block k (Array.getElem?_eq_some_iff.1 hk).1 fun e => by
    injection e with e
    subst e
    unfold Blk at hb
    rw [hb] at hk
    cases hk
    rcases hc with ⟨hc, _⟩ | ⟨cs, t, f, hc, ht, _⟩
    · simp [Obj.isCells] at hc
    · cases hc
      exact ht rfl).trans hk⟩
theorem keepsT_map {mt M n : Nat} {w w' : World} {R : Value → Option (DataW Unit × List MemPlace)} {D : DataW Unit} (hm : w.ownsMap Tryz.prog 9 R M n D) (hM : M < mt) (hg : w.grownBy w' (some M)) : KeepsT mt w w' :=
  ⟨hg.size, fun k o hk hc => (hg.block k (Array.getElem?_eq_some_iff.1 hk).1 fun e => by
    injection e with e
    subst e
    obtain ⟨es, cl, hm, -⟩ := hm
    rw [hm] at hk
    cases hk
    rcases hc with ⟨_, hc⟩ | ⟨cs, t, f, hc, _⟩
    · omega
    · cases hc).trans hk⟩
theorem KeepsT.blk {mt : Nat} {w w' : World} {g : Nat} {t : TypeId} {cs : Array Value} (h : KeepsT mt w w') (hb : Blk w g t cs) (h1 : t ≠ 68) (h2 : t ≠ 35) : Blk w' g t cs := h.2 _ _ hb (.inr ⟨_, _, _, rfl, h1, h2⟩)
theorem KeepsT.from {mt : Nat} {w w' : World} (h : KeepsT mt w w') {B : Nat} (hB : mt ≤ B) : KeepsFrom B w w' := ⟨h.1, fun k o hk ho hc => h.2 k o ho (.inl ⟨hc, Nat.le_trans hB hk⟩)⟩

/-- A reader in memory: what it has, and its map of their texts; all from block base on; itself and the map below mt, its list below top. -/
def TabAt (w : World) (base mt top g : Nat) (line : Int) (ds : List DscK) : Prop :=
  ∃ (lv : Value) (M : Nat) (ms : List MD) (D : DataW Unit), Blk w g 68 #[lv, .map (some M), .int .i64 line] ∧
    w.ownsRow base 35 4 lv ds.length (cellsD ms) ∧ ms.length = ds.length ∧ (∀ (k : Nat) (d : MD) (x : DscK), ms[k]? = some d → ds[k]? = some x → Fits w d x) ∧
    (∀ d ∈ ms, ∀ b ∈ blkM d, b ≠ g ∧ b ≠ M ∧ some b ≠ lv.ownBlock) ∧
    w.ownsMap Tryz.prog 9 (plainElem Tryz.prog 3) M ds.length D ∧ (∀ t : List UInt8, Maps.has D (.string t) = decide (t ∈ ds.map dP)) ∧
    base ≤ g ∧ base ≤ M ∧ g < mt ∧ M < mt ∧ (∀ b, lv.ownBlock = some b → b < top)
theorem TabAt.ext {w w' : World} {base mt top g : Nat} {line : Int} {ds : List DscK} (hb : Below w.heap.size w w') (h : TabAt w base mt top g line ds) : TabAt w' base mt top g line ds := by
  obtain ⟨lv, M, ms, D, h1, h2, h3, h4, h5, h6, h7, h8⟩ := h
  exact ⟨lv, M, ms, D, h1.ext hb, own_extD hb h2, h3, fun k d x a b => (h4 k d x a b).ext hb, h5, map_ext hb h6, h7, h8⟩
theorem TabAt.up {w : World} {base mt top top' g : Nat} {line : Int} {ds : List DscK} (h : TabAt w base mt top g line ds) (ht : top ≤ top') : TabAt w base mt top' g line ds := by
  obtain ⟨lv, M, ms, D, h1, h2, h3, h4, h5, h6, h7, h8, h9, h10, h11, h12⟩ := h
  exact ⟨lv, M, ms, D, h1, h2, h3, h4, h5, h6, h7, h8, h9, h10, h11, fun b hb => by have := h12 b hb; omega⟩

/-- append of one descriptor onto a list that the call owns. -/
theorem wp_appendD {P : Program} {o : Oper} {a : Act} {K : Act → World → Prop} {Q : Exit → Act → World → Prop} (w : World) (s x : Operand) (t : TypeId)
    (ho : o.op = .call { callee := .builtin .append, args := #[s, x], argTypes := #[t, t] })
    (base : Nat) (e : TypeId) (i : TypeInfo) (z : Value) (bytes : Nat) (ht : P.underlying t = some (.slice e)) (hi : P.info? e = some i) (hz : i.zero = some z)
    (hsize : i.size = 4) (hby : i.bytes = bytes) (hzs : z.cells.size = 4) (v : Value) (n : Nat) (ms : List MD) (hs : a.eval s = v) (hown : w.ownsRow base e 4 v n (cellsD ms))
    (b : Nat) (d : MD) (hx : a.eval x = .slice (some ⟨b, 0, none⟩) 1 1) (hblk : Blk w b e (cells4 d).toArray)
    (h63 : n + 1 ≤ maxLen) (hbytes : (n + 1) * bytes ≤ 140737488355328) (hbase : base ≤ w.heap.size)
    (h : ∀ v' w', w'.ownsRow base e 4 v' (n + 1) (cellsD (ms ++ [d])) → w.grownBy w' v.ownBlock → (v'.ownBlock = v.ownBlock ∨ v'.ownBlock = some w.heap.size) → K (a.put o.dst v') w') : o.wp P a w K Q := by
  obtain ⟨v', w', hrun, h2, h3, -, h5⟩ := run_append_own_at (P := P) w base t o.type e i z 4 bytes ht hi hz hsize hby hzs (by omega) v n (cellsD ms) hown ⟨b, 0, none⟩ 1 1 (cells4 d) rfl (fun j u hu => by
    rw [addr_add, Nat.zero_add, hblk.cell]
    simpa using hu) (cells4_one d) h63 hbytes hbase
  unfold Oper.wp execOp
  simp only [ho, resolve, invoke, builtin, Sem.run_bind, Sem.run_pure, Result.andThen_ok, List.map_toArray, List.map_cons, List.map_nil, hs, hx, hrun]
  exact h v' w' (by rw [cellsD_snoc]; exact h2) h3 h5

set_option maxHeartbeats 400000 in
/-- start. -/
theorem start_any (w : World) : Calls Tryz.prog 38 #[] w fun e w' => ∃ M, e = .returned (.agg #[.slice none 0 0, .map (some M), .int .i64 0]) ∧ Below w.heap.size w w' ∧ w.heap.size ≤ M ∧ M < w'.heap.size ∧ w'.heap[M]? = some (.map #[] 0) := by
  have hmm := @run_makeMap Tryz.prog
  have hb := below_le (below_box w (.cells #[.slice none 0 0, .map (some (w.heap.size + 1)), .int .i64 0] 68)) (below_box _ (.map #[] 0))
  have hm : ((w.alloc (.cells #[.slice none 0 0, .map (some (w.heap.size + 1)), .int .i64 0] 68)).alloc (.map #[] 0)).heap[w.heap.size + 1]? = some (.map #[] 0) := heap_new (by simp) _
  have h2 : Blk ((w.alloc (.cells #[.slice none 0 0, .map (some (w.heap.size + 1)), .int .i64 0] 68)).alloc (.map #[] 0)) w.heap.size 68 #[.slice none 0 0, .map (some (w.heap.size + 1)), .int .i64 0] := Blk.alloc (Blk.new _ _ _) _
  have c0 := h2.at_ (i := 0) rfl
  have c1 := h2.at_ (i := 1) rfl
  have c2 := h2.at_ (i := 2) rfl
  have HN := Lib.hid (show ((w.alloc (.cells #[.slice none 0 0, .map (some (w.heap.size + 1)), .int .i64 0] 68)).alloc (.map #[] 0)).heap.size = w.heap.size + 2 by simp)
  go_enter Tryz.func38, Tryz.ntmps38
  go_wp2
  refine bodyPost_ret (v := .agg #[.slice none 0 0, .map (some (w.heap.size + 1)), .int .i64 0]) (by simp [results, Tryz.results38, go_sem, c0, c1, c2]) rfl ⟨_, rfl, hb, by omega, ?_, hm⟩
  rw [HN.out]
  omega

/-- What take tells. -/
def takeC (ds : List DscK) (d : DscK) : Nat := if d ∈ ds then 52 else if 60 ≤ ds.length then 53 else 0
theorem dP_mem {ds : List DscK} {d : DscK} (hd : dR d = true) (ha : ∀ x ∈ ds, dR x = true) : (dP d ∈ ds.map dP) ↔ d ∈ ds := by
  constructor
  · intro h
    obtain ⟨x, hx, e⟩ := List.mem_map.1 h
    rwa [← dP_inj (ha x hx) hd e]
  · intro h
    exact List.mem_map.2 ⟨d, h, rfl⟩

/-- What the table's own block and the box hold. -/
def TakC (g b : Nat) (cs : Array Value) (ds : Array Value) (x : World) : Prop := Blk x g 68 cs ∧ Blk x b 35 ds
theorem takC_stays (g b : Nat) (cs ds : Array Value) : Stays (TakC g b cs ds) := fun _ _ h hb => ⟨h.1.ext hb, h.2.ext hb⟩

set_option maxRecDepth 100000 in
set_option maxHeartbeats 4000000 in
/-- take. -/
theorem take_any {base mt top g : Nat} {line : Int} {ds : List DscK} (d : DscK) (P Q : Option Addr) (m c q f : Nat) (sx : ByteArray) (w : World) (hT : TabAt w base mt top g line ds) (hmt : mt ≤ top) (htop : top ≤ w.heap.size) (hsx : sx.data.toList = dP d) (hsl : sx.size ≤ 100000)
    (hP : Row w P m (d.2.1.map Iv)) (hQ : Row w Q q (d.2.2.2.map Iv)) (hfar : ∀ b ∈ blkR P m ++ blkR Q q, b < base ∨ top ≤ b) (hd : dR d = true) (ha : ∀ x ∈ ds, dR x = true) (hn : ds.length ≤ 1000) :
    Calls Tryz.prog 51 #[.pointer (some ⟨g, 0, none⟩), .string sx, descV d.1 P m c d.2.2.1 Q q f] w fun x w' => ∃ v, x = .returned v ∧ ErrV_kinds w' (takeC ds d) v ∧ TabAt w' base mt w'.heap.size g line (if takeC ds d = 0 then ds ++ [d] else ds) ∧ Below base w w' ∧ KeepsT mt w w' := by
  obtain ⟨z, ps, e, es⟩ := d
  dsimp only at hP hQ ⊢
  obtain ⟨inf, hi, hi0, hi1, hi2⟩ := info_parts desc_info
  have hb0 := below_box w (descO z P m c e Q q f)
  have hbx : Blk (w.alloc (descO z P m c e Q q f)) w.heap.size 35 #[.int .i64 z, .slice P m c, .int .i64 e, .slice Q q f] := Blk.new _ _ _
  have hTW := hT.ext hb0
  have hs0 : (w.alloc (descO z P m c e Q q f)).heap.size = w.heap.size + 1 := by simp
  have hPW := hP.ext hb0
  have hQW := hQ.ext hb0
  have hmem : (dP (z, ps, e, es) ∈ ds.map dP) ↔ (z, ps, e, es) ∈ ds := dP_mem hd ha
  have hFX : Fits (w.alloc (descO z P m c e Q q f)) (z, (P, m, c), e, (Q, q, f)) (z, ps, e, es) := ⟨rfl, rfl, hPW, hQW⟩
  have hFL := hFX.lt
  have hPl := fun b hb => blkR_lt hP (b := b) hb
  have hQl := fun b hb => blkR_lt hQ (b := b) hb
  obtain ⟨lv, M, ms, D, h1, h2, h3, h4, h5, h6, h7, g1, g2, g3, g4, g5⟩ := hTW
  obtain ⟨A, cp, rfl⟩ := own_shape h2
  have c0 := h1.at_ (i := 0) rfl
  have c1 := h1.at_ (i := 1) rfl
  have hh : Maps.has D (.string (dP (z, ps, e, es))) = decide ((z, ps, e, es) ∈ ds) := (h7 _).trans (decide_eq_decide.2 hmem)
  have hkey : keyOf Tryz.prog 9 (.string sx) = some (.string (dP (z, ps, e, es))) := by
    rw [← hsx]
    exact WideMaps.keyOf_string_mk Tryz.underlying9 (by unfold maxLen; omega)
  have HPL := Lib.hid hPl
  have HQL := Lib.hid hQl
  have HFX := Lib.hid hFX
  have HFL := Lib.hid hFL
  have HMEM := Lib.hid hmem
  have HD := Lib.hid hd
  have HA := Lib.hid ha
  have HFAR := Lib.hid hfar
  have HB := Lib.hid hb0
  have H1 := Lib.hid h1
  have H2 := Lib.hid h2
  have H3 := Lib.hid h3
  have H4 := Lib.hid h4
  have H5 := Lib.hid h5
  have H6 := Lib.hid h6
  have H7 := Lib.hid h7
  have G5 := Lib.hid g5
  have HBX := Lib.hid hbx
  have HHAS := Lib.hid hh
  have HS0 := Lib.hid hs0
  have HT := Lib.hid hT
  clear hPl hQl hFX hFL hmem hd ha hfar hb0 h1 h2 h3 h4 h5 h6 h7 g5 hbx hh hP hQ hPW hQW hs0 hsx hT
  have ht1 : (z, ps, e, es) ∈ ds → takeC ds (z, ps, e, es) = 52 := fun h => if_pos h
  have ht2 : (z, ps, e, es) ∉ ds → 60 ≤ ds.length → takeC ds (z, ps, e, es) = 53 := fun h h6 => (if_neg h).trans (if_pos h6)
  have ht3 : (z, ps, e, es) ∉ ds → ¬ 60 ≤ ds.length → takeC ds (z, ps, e, es) = 0 := fun h h6 => (if_neg h).trans (if_neg h6)
  generalize takeC ds (z, ps, e, es) = tc at *
  go_enter Tryz.func51, Tryz.ntmps51
  go_wp2_with (at_lookup; refine stop_hereK ?_)
  intro _
  refine wpList_lookup_own_ok_int _ rfl (.tmp 13) (.tmp 14) 64 rfl 9 3 .i64 lawS Tryz.underlying64 Tryz.underlying3 (zero_intK _) M ds.length D rfl H6.out _ _ rfl hkey ?_
  intro c' hat' _
  rw [HHAS.out]
  clear hat' HHAS
  generalize w.alloc (descO z P m c e Q q f) = W0 at *
  by_cases hin : (z, ps, e, es) ∈ ds
  · obtain rfl := ht1 hin
    rw [decide_eq_true hin]
    have HIN := Lib.hid hin
    clear hin ht1 ht2 ht3
    go_wp2_with fail
    refine (refuse_kinds _ 52 (by decide) W0).mono ?_
    rintro x w1 ⟨v, rfl, hE, hb1⟩
    have HE := Lib.hid hE
    have HB1 := Lib.hid hb1
    have HTT := Lib.hid ((HT.out.ext (below_le HB.out hb1)).up (Nat.le_trans htop (below_le HB.out hb1).size))
    clear hE hb1
    go_wp2
    go_ret
    exact ⟨_, rfl, HE.out, HTT.out, (below_le HB.out HB1.out).mono (by omega), keepsT_below (below_le HB.out HB1.out)⟩
  · rw [decide_eq_false hin]
    have HIN := Lib.hid hin
    have ht2 := ht2 hin
    have ht3 := ht3 hin
    clear hin ht1
    by_cases h60 : 60 ≤ ds.length
    · obtain rfl := ht2 h60
      clear ht2 ht3
      obtain ⟨n, hdl⟩ : ∃ n, ds.length = n := ⟨_, rfl⟩
      rw [hdl] at h60 hn c0
      have HDL := Lib.hid hdl
      clear hdl
      go_wp2_with fail
      refine (refuse_kinds _ 53 (by decide) W0).mono ?_
      rintro x w1 ⟨v, rfl, hE, hb1⟩
      have HE := Lib.hid hE
      have HB1 := Lib.hid hb1
      have HTT := Lib.hid ((HT.out.ext (below_le HB.out hb1)).up (Nat.le_trans htop (below_le HB.out hb1).size))
      clear hE hb1
      go_wp2
      go_ret
      exact ⟨_, rfl, HE.out, HTT.out, (below_le HB.out HB1.out).mono (by omega), keepsT_below (below_le HB.out HB1.out)⟩
    · obtain rfl := ht3 h60
      clear ht2 ht3
      obtain ⟨n, hdl⟩ : ∃ n, ds.length = n := ⟨_, rfl⟩
      rw [hdl] at h60 hn c0
      have HDL := Lib.hid hdl
      clear hdl
      go_wp2_with fail
      clear c0 c1
      have hbg : TakC g w.heap.size #[.slice A n cp, .map (some M), .int .i64 line] #[.int .i64 z, .slice P m c, .int .i64 e, .slice Q q f] W0 := ⟨by have := H1.out; rwa [HDL.out] at this, HBX.out⟩
      have hCst := takC_stays g w.heap.size #[.slice A n cp, .map (some M), .int .i64 line] #[.int .i64 z, .slice P m c, .int .i64 e, .slice Q q f]
      have tg := fun x : Of (TakC g w.heap.size #[.slice A n cp, .map (some M), .int .i64 line] #[.int .i64 z, .slice P m c, .int .i64 e, .slice Q q f]) => x.ok.1.at_ (i := 0) rfl
      have td0 := fun x : Of (TakC g w.heap.size #[.slice A n cp, .map (some M), .int .i64 line] #[.int .i64 z, .slice P m c, .int .i64 e, .slice Q q f]) => x.ok.2.at_ (i := 0) rfl
      have td1 := fun x : Of (TakC g w.heap.size #[.slice A n cp, .map (some M), .int .i64 line] #[.int .i64 z, .slice P m c, .int .i64 e, .slice Q q f]) => x.ok.2.at_ (i := 1) rfl
      have td2 := fun x : Of (TakC g w.heap.size #[.slice A n cp, .map (some M), .int .i64 line] #[.int .i64 z, .slice P m c, .int .i64 e, .slice Q q f]) => x.ok.2.at_ (i := 2) rfl
      have td3 := fun x : Of (TakC g w.heap.size #[.slice A n cp, .map (some M), .int .i64 line] #[.int .i64 z, .slice P m c, .int .i64 e, .slice Q q f]) => x.ok.2.at_ (i := 3) rfl
      have hNE : Nonempty (Of (TakC g w.heap.size #[.slice A n cp, .map (some M), .int .i64 line] #[.int .i64 z, .slice P m c, .int .i64 e, .slice Q q f])) := ⟨⟨W0, hbg⟩⟩
      refine wp_region_mixd (C := TakC g w.heap.size #[.slice A n cp, .map (some M), .int .i64 line] #[.int .i64 z, .slice P m c, .int .i64 e, .slice Q q f]) 10 hCst hbg (by kernel_rfl) ?_
      first | (refine mixd_skip 0 hCst rfl (by kernel_rfl) rfl ?_; go_frame) | (refine mixd_soft 0 hCst rfl (by kernel_rfl) rfl (fun K hK => ?_); go_simp; first | (refine hK _ ?_; clear hK K) | (apply Exists.intro; refine ⟨fun x => ?_, hK _ ?_⟩; (· (fail)); clear hK K; try go_frame))
      first | (refine mixd_skip 1 hCst rfl (by kernel_rfl) rfl ?_; go_frame) | (refine mixd_soft 1 hCst rfl (by kernel_rfl) rfl (fun K hK => ?_); go_simp; first | (refine hK _ ?_; clear hK K) | (apply Exists.intro; refine ⟨fun x => ?_, hK _ ?_⟩; (· (fail)); clear hK K; try go_frame))
      first | (refine mixd_skip 2 hCst rfl (by kernel_rfl) rfl ?_; go_frame) | (refine mixd_soft 2 hCst rfl (by kernel_rfl) rfl (fun K hK => ?_); go_simp; first | (refine hK _ ?_; clear hK K) | (apply Exists.intro; refine ⟨fun x => ?_, hK _ ?_⟩; (· (fail)); clear hK K; try go_frame))
      first | (refine mixd_skip 3 hCst rfl (by kernel_rfl) rfl ?_; go_frame) | (refine mixd_soft 3 hCst rfl (by kernel_rfl) rfl (fun K hK => ?_); go_simp; first | (refine hK _ ?_; clear hK K) | (apply Exists.intro; refine ⟨fun x => ?_, hK _ ?_⟩; (· (fail)); clear hK K; try go_frame))
      first | (refine mixd_skip 4 hCst rfl (by kernel_rfl) rfl ?_; go_frame) | (refine mixd_soft 4 hCst rfl (by kernel_rfl) rfl (fun K hK => ?_); go_simp; first | (refine hK _ ?_; clear hK K) | (apply Exists.intro; refine ⟨fun x => ?_, hK _ ?_⟩; (· (fail)); clear hK K; try go_frame))
      first | (refine mixd_skip 5 hCst rfl (by kernel_rfl) rfl ?_; go_frame) | (refine mixd_soft 5 hCst rfl (by kernel_rfl) rfl (fun K hK => ?_); go_simp; first | (refine hK _ ?_; clear hK K) | (apply Exists.intro; refine ⟨fun x => ?_, hK _ ?_⟩; (· (fail)); clear hK K; try go_frame))
      clear tg td0 td1 td2 td3 hbg
      refine mixd_one 6 (by decide) (by kernel_rfl) rfl rfl ?_
      intro w5 hb5 hC5 K hK
      go_simp
      have hx5 := below_box w5 (descO z P m c e Q q f)
      have hn5 : Blk (w5.alloc (descO z P m c e Q q f)) w5.heap.size 35 (cells4 (z, (P, m, c), e, (Q, q, f))).toArray := Blk.new _ _ _
      have HN5 := Lib.hid hn5
      have HBW := Lib.hid (below_le (below_le HB.out hb5) hx5)
      have hbe := below_le hb5 hx5
      have HO5 := Lib.hid (own_extD hbe H2.out)
      have HM5 := Lib.hid (map_ext hbe H6.out)
      have H45 := Lib.hid (show ∀ (k : Nat) (d : MD) (x : DscK), ms[k]? = some d → ds[k]? = some x → Fits (w5.alloc (descO z P m c e Q q f)) d x from fun k d x a b => (H4.out k d x a b).ext hbe)
      have HF5 := Lib.hid (HFX.out.ext hbe)
      have hz5 := hbe.size
      have hc5 := hCst _ _ hC5 hx5
      have HC5 := Lib.hid hc5
      refine hK _ _ hc5 ?_
      clear hK K hb5 hC5 hx5 hn5 hbe H2 H6 H4 HFX hc5 H1 HBX HB
      try go_frame
      generalize w5.alloc (descO z P m c e Q q f) = W5 at *
      refine mixd_one 7 (by decide) (by kernel_rfl) rfl rfl ?_
      intro w6 hb6 hC6 K hK
      have ho6 := own_extD hb6 HO5.out
      have hm6 := map_ext hb6 HM5.out
      have hbase : base ≤ w6.heap.size := by have := (below_le HBW.out hb6).size; omega
      have hG5 := G5.out
      have hH5 := H5.out
      rw [HDL.out] at ho6 hm6 hG5 hH5
      refine wp_appendD w6 (.tmp 31) (.tmp 33) 22 rfl base 35 inf (.agg #[.int .i64 0, .slice none 0 0, .int .i64 0, .slice none 0 0]) 64 Tryz.underlying22 hi hi0 hi1 hi2 rfl (.slice A n cp) n ms rfl ho6 w5.heap.size (z, (P, m, c), e, (Q, q, f)) rfl (HN5.out.ext hb6) (by unfold maxLen; omega) (by omega) hbase fun v' w7 hown hgr hvb => ?_
      have hC7 : TakC g w.heap.size #[.slice A n cp, .map (some M), .int .i64 line] #[.int .i64 z, .slice P m c, .int .i64 e, .slice Q q f] w7 := ⟨hC6.1.grown hgr (own_neD ho6 hC6.1 (by decide)), hC6.2.grown hgr (fun e => by have := hG5 _ e.symm; omega)⟩
      have hB7 : Below base w w7 := ((below_le HBW.out hb6).mono (by omega)).grown hgr hbase (fun k e => own_baseD ho6 e)
      have hKT7 : KeepsT mt w w7 := (keepsT_below (below_le HBW.out hb6)).trans (keepsT_own ho6 hgr)
      have HKT7 := Lib.hid hKT7
      have hm7 : w7.ownsMap Tryz.prog 9 (plainElem Tryz.prog 3) M n D := hm6.kept hgr (map_own_ne hm6 ho6)
      have h47 : ∀ (k : Nat) (d : MD) (x : DscK), ms[k]? = some d → ds[k]? = some x → Fits w7 d x := fun k d x a b => ((H45.out k d x a b).ext hb6).grown hgr fun b' hb' => (hH5 d (List.mem_of_getElem? a) b' hb').2.2
      have hfx6 := HF5.out.ext hb6
      have hf7 : Fits w7 (z, (P, m, c), e, (Q, q, f)) (z, ps, e, es) := hfx6.grown hgr fun b' hb' e' => by
        have h1 := HFAR.out b' hb'
        have h2 := hG5 _ e'.symm
        have h3 := own_baseD ho6 e'.symm
        omega
      have hsz7 := hgr.size
      have hne7 : ∀ d ∈ ms ++ [(z, (P, m, c), e, (Q, q, f))], ∀ b ∈ blkM d, b ≠ g ∧ b ≠ M ∧ some b ≠ v'.ownBlock := fun d hd b hb => by
        have hlt : b < w6.heap.size := by
          rcases List.mem_append.1 hd with hd | hd
          · obtain ⟨k, hk, e⟩ := List.getElem_of_mem hd
            have hx : ds[k]? = some (ds[k]'(by have := H3.out; omega)) := List.getElem?_eq_getElem (by have := H3.out; omega)
            exact ((H45.out k d _ (by rw [← e]; exact List.getElem?_eq_getElem hk) hx).ext hb6).lt b hb
          · rw [List.mem_singleton.1 hd] at hb
            exact hfx6.lt b hb
        have hold : b ≠ g ∧ b ≠ M ∧ some b ≠ (Value.slice A n cp).ownBlock := by
          rcases List.mem_append.1 hd with hd | hd
          · exact hH5 d hd b hb
          · rw [List.mem_singleton.1 hd] at hb
            have h1 := HFAR.out b hb
            refine ⟨by omega, by omega, fun e' => ?_⟩
            have h2 := hG5 _ e'.symm
            have h3 := own_baseD ho6 e'.symm
            omega
        refine ⟨hold.1, hold.2.1, fun e' => ?_⟩
        rcases hvb with hvb | hvb
        · exact hold.2.2 (e'.trans hvb)
        · rw [hvb] at e'
          injection e' with e'
          omega
      have htop7 : ∀ b, v'.ownBlock = some b → b < w7.heap.size := fun b hb => own_lt hown hb
      have hgv : some g ≠ v'.ownBlock := own_neD hown hC7.1 (by decide)
      obtain ⟨A', cp', rfl⟩ := own_shape hown
      have HO7 := Lib.hid hown
      have HB7 := Lib.hid hB7
      have HM7 := Lib.hid hm7
      have H47 := Lib.hid h47
      have HF7 := Lib.hid hf7
      have HNE7 := Lib.hid hne7
      have HTO7 := Lib.hid htop7
      have HGV := Lib.hid hgv
      have HC7 := Lib.hid hC7
      have HSZ := Lib.hid (show top ≤ w7.heap.size by have := hB7.size; omega)
      refine hK _ _ hC7 ?_
      clear hKT7 hK K hb6 hC6 hgr hown hC7 HN5 HO5 HC5 hB7 hm7 h47 hf7 hne7 htop7 hgv hfx6 hvb ho6 hm6 hbase hG5 hH5 hsz7 HBW HM5 H45 HF5 hz5 H5 G5
      try go_frame
      refine mixd_one 8 (by decide) (by kernel_rfl) rfl rfl ?_
      intro w6 hb6 hC6 K hK
      go_simp
      refine hK _ _ hC6 ?_
      clear hK K hC6
      try go_frame
      refine mixd_one 9 (by decide) (by kernel_rfl) rfl rfl ?_
      intro w8 hb8 hC6 K hK
      go_simp
      refine hK _ _ hC6 ?_
      clear hK K hC6 hCst
      replace hb6 := below_le hb6 hb8
      clear hb8
      try go_frame
      refine mixd_last 10 (by kernel_rfl) (by kernel_rfl) rfl rfl ?_
      intro w8 hb8 hC8 K hK
      replace hb8 := below_le hb6 hb8
      clear hb6
      have k0 := hC8.1.at_ (i := 0) rfl
      have f0 := hC8.1.frozen 0
      have hs8 := grown_set w8 g 0 (.slice A' (n + 1) cp')
      have b9 : Blk (w8.setCell ⟨g, 0, none⟩ (.slice A' (n + 1) cp')) g 68 #[.slice A' (n + 1) cp', .map (some M), .int .i64 line] := by simpa using hC8.1.set_ 0 (.slice A' (n + 1) cp')
      have ho9 := own_grown (own_extD hb8 HO7.out) hs8 HGV.out
      have hm9 := (map_ext hb8 HM7.out).kept hs8 (by intro e; injection e with e; exact map_ne (map_ext hb8 HM7.out) hC8.1 e.symm)
      have h49 : ∀ (k : Nat) (d : MD) (x : DscK), ms[k]? = some d → ds[k]? = some x → Fits (w8.setCell ⟨g, 0, none⟩ (.slice A' (n + 1) cp')) d x := fun k d x a b => ((H47.out k d x a b).ext hb8).grown hs8 fun b' hb' e => (HNE7.out d (List.mem_append_left _ (List.mem_of_getElem? a)) b' hb').1 (Option.some.inj e)
      have hf9 := (HF7.out.ext hb8).grown hs8 fun b' hb' e => (HNE7.out _ (List.mem_append_right _ (List.mem_singleton.2 rfl)) b' hb').1 (Option.some.inj e)
      have hB9 : Below base w (w8.setCell ⟨g, 0, none⟩ (.slice A' (n + 1) cp')) := (HB7.out.trans (hb8.mono (by have := HSZ.out; omega))).setCell (p := ⟨g, 0, none⟩) g1 _
      have hKT9 : KeepsT mt w (w8.setCell ⟨g, 0, none⟩ (.slice A' (n + 1) cp')) := (HKT7.out.trans (keepsT_below hb8)).trans (keepsT_set hC8.1)
      have hs9 : w7.heap.size ≤ (w8.setCell ⟨g, 0, none⟩ (.slice A' (n + 1) cp')).heap.size := Nat.le_trans hb8.size hs8.size
      go_simp
      refine hK _ _ fun w9 hb9 => ?_
      have B9 := Lib.hid (b9.ext hb9)
      have O9 := Lib.hid (own_extD hb9 ho9)
      have M9 := Lib.hid (map_ext hb9 hm9)
      have F49 := Lib.hid (show ∀ (k : Nat) (d : MD) (x : DscK), ms[k]? = some d → ds[k]? = some x → Fits w9 d x from fun k d x a b => (h49 k d x a b).ext hb9)
      have F9 := Lib.hid (hf9.ext hb9)
      have BB9 := Lib.hid (hB9.trans (hb9.mono (by have := HSZ.out; omega)))
      have S9 := Lib.hid (Nat.le_trans hs9 hb9.size)
      have KT9 := Lib.hid (hKT9.trans (keepsT_below hb9))
      clear hKT9 hK K k0 f0 b9 ho9 hm9 h49 hf9 hB9 hs9 hb9 hs8 hb8 hC8 HO7 HB7 HM7 H47 HF7 HC7
      go_wp2_with fail
      have t0 := fun x : Ext w9 => ext_cell (B9.out.at_ (i := 0) rfl) x
      have t1 := fun x : Ext w9 => ext_cell (B9.out.at_ (i := 1) rfl) x
      refine wp_region_tail 10 (by kernel_rfl) (by kernel_rfl) ?_; simp only [List.take_succ_cons, List.take_zero, List.drop_succ_cons, List.drop_zero]
      repeat (first | (refine head_skip rfl ?_; go_frame) | (refine head_soft rfl (fun K hK => ?_); go_simp; first | (refine hK _ ?_; clear hK K) | (apply Exists.intro; refine ⟨fun x => ?_, hK _ ?_⟩; (· (fail)); clear hK K; try go_frame)))
      refine head_nil fun w10 hb10 => ?_
      clear t0 t1
      refine wpList_mapUpdate_own _ rfl (.tmp 40) (.tmp 41) (.tmp 46) 64 rfl 9 3 lawS Tryz.underlying64 _ M n D rfl (map_ext hb10 M9.out) (by unfold maxLen; omega) _ _ _ rfl rfl hkey _ [] (plainElem_int Tryz.underlying3 (WalkArith.wf_i64 (by omega))) ?_
      intro w11 hown11 hg11
      have b10 := B9.out.ext hb10
      have hMg : g ≠ M := map_ne (map_ext hb10 M9.out) b10
      have b11 := b10.grown hg11 (by intro e; injection e with e; exact hMg e)
      have o11 := (own_extD hb10 O9.out).kept hg11 (by
        cases hv : (Value.slice A' (n + 1) cp').ownBlock with
        | none => exact .inl rfl
        | some b => exact .inr fun e => map_own_ne (map_ext hb10 M9.out) (own_extD hb10 O9.out) (by rw [hv]; exact e.symm))
      have f411 : ∀ (k : Nat) (d : MD) (x : DscK), ms[k]? = some d → ds[k]? = some x → Fits w11 d x := fun k d x a b => ((F49.out k d x a b).ext hb10).grown hg11 fun b' hb' e => (HNE7.out d (List.mem_append_left _ (List.mem_of_getElem? a)) b' hb').2.1 (Option.some.inj e)
      have f11 := (F9.out.ext hb10).grown hg11 fun b' hb' e => (HNE7.out _ (List.mem_append_right _ (List.mem_singleton.2 rfl)) b' hb').2.1 (Option.some.inj e)
      have hB11 : Below base w w11 := (BB9.out.trans (hb10.mono (by have := S9.out; have := HSZ.out; omega))).grown hg11 (by have := S9.out; have := HSZ.out; have := hb10.size; omega) (fun k e => by cases e; exact g2)
      have HKT11 := Lib.hid ((KT9.out.trans (keepsT_below hb10)).trans (keepsT_map (map_ext hb10 M9.out) g4 hg11))
      have hs11 : w7.heap.size ≤ w11.heap.size := Nat.le_trans S9.out (Nat.le_trans hb10.size hg11.size)
      have hTF : TabAt w11 base mt w11.heap.size g line (ds ++ [(z, ps, e, es)]) := by
        refine ⟨_, M, ms ++ [(z, (P, m, c), e, (Q, q, f))], D.put (.string (dP (z, ps, e, es))) (.lit (.int .i64 ((n + 1 : Nat) : Int))), b11, ?_, by simp [H3.out], fun k d x h1 h2 => ?_, HNE7.out, ?_, fun t => ?_, g1, g2, g3, g4, fun b hb => by have := HTO7.out b hb; omega⟩
        · rw [List.length_append, HDL.out]
          exact o11
        · have h3 := H3.out
          by_cases hk : k < ms.length
          · rw [List.getElem?_append_left hk] at h1
            rw [List.getElem?_append_left (by omega)] at h2
            exact f411 k d x h1 h2
          · rw [List.getElem?_append_right (by omega)] at h1
            rw [List.getElem?_append_right (by omega)] at h2
            have hk0 : k - ms.length = 0 := by
              have := (List.getElem?_eq_some_iff.1 h1).1
              simp at this
              omega
            rw [hk0] at h1
            rw [← h3, hk0] at h2
            simp at h1 h2
            subst h1 h2
            exact f11
        · rw [List.length_append, HDL.out]
          exact hown11
        · by_cases ht : t = dP (z, ps, e, es)
          · subst ht
            rw [has_put_same M9.out.isMap (by simp [WideAt.IsKeyLit])]
            simp
          · rw [has_put_other (fun h => ht (by injection h)), H7.out t]
            simp [ht]
      have HTF := Lib.hid hTF
      have HBF := Lib.hid hB11
      clear hTF hB11 f411 f11 o11 b11 b10 hown11 hg11 hb10 hs11 B9 O9 M9 F49 F9 BB9
      go_wp2
      go_ret
      exact ⟨_, rfl, .inl ⟨rfl, rfl⟩, HTF.out, HBF.out, HKT11.out⟩
end Go.Proofs.YtmabokmnniiadaaGreatDoor
