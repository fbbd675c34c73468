/-
  What is proved: contracts of errors.As at a wrong one of package kinds, of refuse and number. No condition beyond those stated.
-/
import Derived.Test.YtmabokmnniiadaaGreatDoorAs
namespace Go.Proofs.YtmabokmnniiadaaGreatDoor
open Go.RowKit Go.Extern.Stop Go.Stop Go.Extern

theorem valueOfP_kinds (p : Option Addr) (w : World) : (extOf Tryz.f64 #[.iface 83 (.pointer p)]).run Tryz.prog w = .ok (.agg #[hnd 83, .pointer (some ⟨w.heap.size, 0, none⟩), .int .u64 150]) (w.alloc (.cells #[.pointer p] 83)) := by kernel_rfl
theorem valueOfF_kinds (p : Option Addr) (w : World) : (extOf Tryz.f64 #[.iface 81 (.pointer p)]).run Tryz.prog w = .ok (.agg #[hnd 81, .pointer (some ⟨w.heap.size, 0, none⟩), .int .u64 150]) (w.alloc (.cells #[.pointer p] 81)) := by kernel_rfl
theorem typeP_kinds (a : Addr) (w : World) : (extOf Tryz.f65 #[.agg #[hnd 83, .pointer (some a), .int .u64 150]]).run Tryz.prog w = .ok (rty 83) w := by kernel_rfl
theorem kindP_kinds (w : World) : (extOf Tryz.f124 #[hnd 83]).run Tryz.prog w = .ok (.int .u8 22) w := by kernel_rfl
theorem kindF_kinds (w : World) : (extOf Tryz.f124 #[hnd 81]).run Tryz.prog w = .ok (.int .u8 22) w := by kernel_rfl
theorem elemP_kinds (w : World) : (extOf Tryz.f137 #[.agg #[hnd 83]]).run Tryz.prog w = .ok (rty 81) w := by kernel_rfl
theorem implF_kinds (w : World) : (extOf Tryz.f138 #[.agg #[hnd 81], rty 49]).run Tryz.prog w = .ok (.bool true) w := by kernel_rfl
theorem assignT_kinds (w : World) : (extOf Tryz.f135 #[.agg #[hnd 95], rty 81]).run Tryz.prog w = .ok (.bool false) w := by kernel_rfl
theorem assignF_kinds (w : World) : (extOf Tryz.f135 #[.agg #[hnd 81], rty 81]).run Tryz.prog w = .ok (.bool true) w := by kernel_rfl
theorem typeOfT_kinds (v : Value) (w : World) : (Extern.ReflectliteType.typeOf #[.iface 95 v]).run Tryz.prog w = .ok (rty 95) w := by kernel_rfl
theorem typeOfF_kinds (v : Value) (w : World) : (Extern.ReflectliteType.typeOf #[.iface 81 v]).run Tryz.prog w = .ok (rty 81) w := by kernel_rfl
theorem noAsT_kinds (v : Value) (xT : TypeId) (w : World) : (Instr.typeAssert (.iface 95 v) xT 127 true).run Tryz.prog w = .ok (.tuple #[.nilIface, .bool false]) w := run_typeAssert_lacksB Tryz.underlying127 (by kernel_rfl) (by kernel_rfl) v xT w
theorem hasUnwrapT_kinds (v : Value) (xT : TypeId) (w : World) : (Instr.typeAssert (.iface 95 v) xT 130 true).run Tryz.prog w = .ok (.tuple #[.iface 95 v, .bool true]) w := run_typeAssert_hasB Tryz.underlying130 (by kernel_rfl) v xT w
theorem methodUnwrap_kinds (v : Value) (w : World) : (Go.method 305 95 v "Unwrap").run Tryz.prog w = .ok (130, v) w := by kernel_rfl

set_option maxHeartbeats 400000 in
theorem unwrap_kinds (t : Nat) (why : Value) (w : World) (hc : w.cell? ⟨t, 1, none⟩ = some why) :
    Calls Tryz.prog 130 #[.pointer (some ⟨t, 0, none⟩)] w fun e w' => e = .returned why ∧ w = w' := by
  go_enter Tryz.func130, Tryz.ntmps130
  go_wp2
  go_ret
  exact ⟨rfl, rfl⟩

theorem isNil0_kinds (a : Addr) (w : World) : (extOf Tryz.f66 #[.agg #[hnd 83, .pointer (some a), .int .u64 150]]).run Tryz.prog w = (do
    match ← load a with
    | .chan none | .nilFunc | .nilIface | .map none | .pointer none | .slice none _ _ => pure (.bool true)
    | _ => pure (.bool false) : Sem Value).run Tryz.prog w := by kernel_rfl
theorem isNilP_kinds (a q : Addr) (w : World) (hc : w.cell? a = some (.pointer (some q))) : (extOf Tryz.f66 #[.agg #[hnd 83, .pointer (some a), .int .u64 150]]).run Tryz.prog w = .ok (.bool false) w := by
  rw [isNil0_kinds]
  simp [hc, Result.andThen]
theorem vElem0_kinds (a : Addr) (w : World) : (extOf Tryz.f76 #[.agg #[hnd 83, .pointer (some a), .int .u64 150]]).run Tryz.prog w = (do
    match ← load a with
    | .pointer none => pure Extern.ReflectliteValue.zeroV
    | .pointer (some p) => Extern.ReflectliteValue.mk 81 p 256
    | _ => Extern.ReflectliteValue.valueError "reflectlite.Value.Elem" 22).run Tryz.prog w := by kernel_rfl
theorem mkF_kinds (q : Addr) (w : World) : (Extern.ReflectliteValue.mk 81 q 256).run Tryz.prog w = .ok (.agg #[hnd 81, .pointer (some q), .int .u64 406]) w := by kernel_rfl
theorem vElemP_kinds (a q : Addr) (w : World) (hc : w.cell? a = some (.pointer (some q))) : (extOf Tryz.f76 #[.agg #[hnd 83, .pointer (some a), .int .u64 150]]).run Tryz.prog w = .ok (.agg #[hnd 81, .pointer (some q), .int .u64 406]) w := by
  rw [vElem0_kinds]
  simp [hc, Result.andThen, mkF_kinds]
theorem set0_kinds (q b : Addr) (w : World) : (extOf Tryz.f77 #[.agg #[hnd 81, .pointer (some q), .int .u64 406], .agg #[hnd 81, .pointer (some b), .int .u64 150]]).run Tryz.prog w = (do
    let v ← load b
    storeVar 81 q v
    pure (.tuple #[]) : Sem Value).run Tryz.prog w := by kernel_rfl
theorem setF_kinds (q b : Addr) (x : Value) (k : Option Addr) (w : World) (hb : w.cell? b = some (.pointer k)) (hq : w.cell? q = some x) (hf : w.frozen? q = false) : (extOf Tryz.f77 #[.agg #[hnd 81, .pointer (some q), .int .u64 406], .agg #[hnd 81, .pointer (some b), .int .u64 150]]).run Tryz.prog w = .ok (.tuple #[]) (w.setCell q (.pointer k)) := by
  rw [set0_kinds]
  have hi : (Tryz.prog.info? 81).map (·.size) = some 1 := by kernel_rfl
  obtain ⟨i, hi, hs⟩ := Option.map_eq_some_iff.1 hi
  have hst := Lib.rl_storeVar_one (P := Tryz.prog) 81 i hi hs q (.pointer k) x rfl w hq hf
  simp [hb, Result.andThen, hst]

/-- What errors.As leaves: the pointer in the variable; all else below it as it was. -/
def AsDone_kinds (b : Nat) (k : Option Addr) (w w' : World) : Prop := Below b w w' ∧ w'.cell? ⟨b, 0, none⟩ = some (.pointer k)

set_option maxRecDepth 100000 in
set_option maxHeartbeats 2000000 in
/-- errors.as, of an error whose reason is a fault. -/
theorem as_low_kinds (t b g : Nat) (k : Option Addr) (x : Value) (w : World) (hc : w.cell? ⟨t, 1, none⟩ = some (.iface 81 (.pointer k))) (hb : w.heap[b]? = some (.cells #[x] 81 (0, 0)))
    (hg : w.heap[g]? = some (.cells #[.pointer (some ⟨b, 0, none⟩)] 83 (0, 0))) :
    Calls Tryz.prog 67 #[.iface 95 (.pointer (some ⟨t, 0, none⟩)), .iface 83 (.pointer (some ⟨b, 0, none⟩)), .agg #[hnd 83, .pointer (some ⟨g, 0, none⟩), .int .u64 150], rty 81] w fun e w' => e = .returned (.bool true) ∧ AsDone_kinds b k w w' := by
  have h8 := @run_callFunc_extern Tryz.prog 75 _ Extern.ReflectliteType.typeOf Tryz.func75 (by kernel_rfl) (by kernel_rfl) (by kernel_rfl) (by kernel_rfl)
  have hA := @run_callFunc_extern Tryz.prog 135 _ _ Tryz.func135 (by kernel_rfl) (by kernel_rfl) (by kernel_rfl) fnAssign
  have hE := @run_callFunc_extern Tryz.prog 76 _ _ Tryz.func76 (by kernel_rfl) (by kernel_rfl) (by kernel_rfl) fnVElem
  have hS := @run_callFunc_extern Tryz.prog 77 _ _ Tryz.func77 (by kernel_rfl) (by kernel_rfl) (by kernel_rfl) fnSet
  have hV := @run_callFunc_extern Tryz.prog 64 _ _ Tryz.func64 (by kernel_rfl) (by kernel_rfl) (by kernel_rfl) fnValueOf
  have tT := typeOfT_kinds
  have tF := typeOfF_kinds
  have mA := mAssign
  have aT := assignT_kinds
  have aF := assignF_kinds
  have nT := noAsT_kinds
  have uT := hasUnwrapT_kinds
  have mU := methodUnwrap_kinds
  have vF := valueOfF_kinds
  go_enter Tryz.func67, Tryz.ntmps67
  go_wp2
  have HB := box_below w (.cells #[hnd 83, .pointer (some ⟨g, 0, none⟩), .int .u64 150] 108)
  have hs : (w.alloc (.cells #[hnd 83, .pointer (some ⟨g, 0, none⟩), .int .u64 150] 108)).heap[w.heap.size]? = some (.cells #[hnd 83, .pointer (some ⟨g, 0, none⟩), .int .u64 150] 108 (0, 0)) := heap_alloc_new w _
  have hc' := cell_ext HB hc
  have hbl : b < w.heap.size := (Array.getElem?_eq_some_iff.1 hb).1
  have hgl : g < w.heap.size := (Array.getElem?_eq_some_iff.1 hg).1
  have hb' := (HB.block b hbl).trans hb
  have hg' := (HB.block g hgl).trans hg
  generalize w.alloc (.cells #[hnd 83, .pointer (some ⟨g, 0, none⟩), .int .u64 150] 108) = W at *
  have HB2 := box_below W (.cells #[.pointer k] 81)
  have hs0 : W.cell? ⟨w.heap.size, 0, none⟩ = some (hnd 83) := by simp [World.cell?, hs]
  have hs1 : W.cell? ⟨w.heap.size, 1, none⟩ = some (.pointer (some ⟨g, 0, none⟩)) := by simp [World.cell?, hs]
  have hs2 : W.cell? ⟨w.heap.size, 2, none⟩ = some (.int .u64 150) := by simp [World.cell?, hs]
  have hgc : W.cell? ⟨g, 0, none⟩ = some (.pointer (some ⟨b, 0, none⟩)) := by simp [World.cell?, hg']
  have hbc : W.cell? ⟨b, 0, none⟩ = some x := by simp [World.cell?, hb']
  have hbf : W.frozen? ⟨b, 0, none⟩ = false := by simp [World.frozen?, hb']
  have hs0' := cell_ext HB2 hs0
  have hs1' := cell_ext HB2 hs1
  have hs2' := cell_ext HB2 hs2
  have eP := vElemP_kinds _ _ _ hgc
  have eP' := vElemP_kinds _ _ _ (cell_ext HB2 hgc)
  have hnc : (W.alloc (.cells #[.pointer k] 81)).cell? ⟨W.heap.size, 0, none⟩ = some (.pointer k) := by rw [World.cell?, heap_alloc_new]; rfl
  have hbl2 : b < W.heap.size := (Array.getElem?_eq_some_iff.1 hb').1
  have sF := setF_kinds ⟨b, 0, none⟩ ⟨W.heap.size, 0, none⟩ _ k _ hnc (cell_ext HB2 hbc) ((HB2.frozen (p := ⟨b, 0, none⟩) hbl2).trans hbf)
  have hD : AsDone_kinds b k w ((W.setCell ⟨b, 0, none⟩ (.pointer k)).alloc (.cells #[.pointer k] 81)) := by
    have h1 : Below b w (W.setCell ⟨b, 0, none⟩ (.pointer k)) := (HB.mono (Nat.le_of_lt hbl)).setCell (Nat.le_refl _) _
    have h2 := World.cell?_setCell_same W ⟨b, 0, none⟩ (.pointer k) hbc
    exact ⟨h1.trans ((box_below _ _).mono (Nat.le_of_lt (lt_of_cell h2))), cell_ext (box_below _ _) h2⟩
  refine wp_loop_rounds 2 ?_
  rw [rounds_succ]
  go_wp2_with (go_at_call 130; refine (unwrap_kinds _ _ _ hc').mono ?_; rintro e w' ⟨rfl, rfl⟩)
  rw [rounds_succ]
  go_wp2
  go_ret
  exact ⟨rfl, hD⟩

set_option maxRecDepth 100000 in
set_option maxHeartbeats 2000000 in
/-- errors.As, of an error whose reason is a fault. -/
theorem as_fault_kinds (t b : Nat) (k : Option Addr) (x : Value) (w : World) (hc : w.cell? ⟨t, 1, none⟩ = some (.iface 81 (.pointer k))) (hb : w.heap[b]? = some (.cells #[x] 81 (0, 0)))
    (hE : w.cell? ⟨0, 0, none⟩ = some (rty 49)) :
    Calls Tryz.prog 52 #[.iface 95 (.pointer (some ⟨t, 0, none⟩)), .iface 83 (.pointer (some ⟨b, 0, none⟩))] w fun e w' => e = .returned (.bool true) ∧ AsDone_kinds b k w w' := by
  have hV := @run_callFunc_extern Tryz.prog 64 _ _ Tryz.func64 (by kernel_rfl) (by kernel_rfl) (by kernel_rfl) fnValueOf
  have hT := @run_callFunc_extern Tryz.prog 65 _ _ Tryz.func65 (by kernel_rfl) (by kernel_rfl) (by kernel_rfl) fnVType
  have hN := @run_callFunc_extern Tryz.prog 66 _ _ Tryz.func66 (by kernel_rfl) (by kernel_rfl) (by kernel_rfl) fnIsNil
  have hK := @run_callFunc_extern Tryz.prog 124 _ _ Tryz.func124 (by kernel_rfl) (by kernel_rfl) (by kernel_rfl) fnKind
  have hL := @run_callFunc_extern Tryz.prog 137 _ _ Tryz.func137 (by kernel_rfl) (by kernel_rfl) (by kernel_rfl) fnElem
  have hI := @run_callFunc_extern Tryz.prog 138 _ _ Tryz.func138 (by kernel_rfl) (by kernel_rfl) (by kernel_rfl) fnImpl
  have vP := valueOfP_kinds
  have tP := typeP_kinds
  have mK := mKind
  have mE := mElem
  have mI := mImpl
  have kP := kindP_kinds
  have kF := kindF_kinds
  have eP := elemP_kinds
  have iF := implF_kinds
  have iN := isNilP_kinds
  have hgl : 0 < w.heap.size := lt_of_cell hE
  have hgz : ¬ w.heap.size = 0 := by omega
  have hE2 : ∀ o1 o2, ((w.alloc o1).alloc o2).cell? ⟨0, 0, none⟩ = some (rty 49) := fun _ _ => cell_ext (below_le (box_below _ _) (box_below _ _)) hE
  go_enter Tryz.func52, Tryz.ntmps52
  go_wp2_with fail
  go_at_call 67
  refine Calls.mono (as_low_kinds t b w.heap.size k x _ ?_ ?_ ?_) ?_
  · exact cell_ext (below_le (box_below _ _) (box_below _ _)) hc
  · exact ((below_le (box_below _ _) (box_below _ _)).block b (Array.getElem?_eq_some_iff.1 hb).1).trans hb
  · exact Blk.alloc (Blk.new _ _ _) _
  · rintro e w' ⟨rfl, hD⟩
    have hD2 : AsDone_kinds b k w w' := ⟨((below_le (box_below _ _) (box_below _ _)).mono (Nat.le_of_lt (Array.getElem?_eq_some_iff.1 hb).1)).trans hD.1, hD.2⟩
    clear hD
    go_wp2
    go_ret
    exact ⟨rfl, hD2⟩

set_option maxHeartbeats 400000 in
theorem as_nil_kinds (v : Value) (w : World) : Calls Tryz.prog 52 #[.nilIface, v] w fun e w' => e = .returned (.bool false) ∧ w = w' := by
  go_enter Tryz.func52, Tryz.ntmps52
  go_wp2
  go_ret
  exact ⟨rfl, rfl⟩

/-- The error of a number, in this package: none, or a wrong one whose reason is a fault of that number. -/
def ErrV_kinds (w : World) (no : Nat) (v : Value) : Prop :=
  (no = 0 ∧ v = .nilIface) ∨ (no ≠ 0 ∧ ∃ t u : Nat, v = .iface 95 (.pointer (some ⟨t, 0, none⟩)) ∧ w.cell? ⟨t, 1, none⟩ = some (.iface 81 (.pointer (some ⟨u, 0, none⟩))) ∧ w.cell? ⟨u, 0, none⟩ = some (.int .i64 no))
theorem ErrV_kinds.ext {w w' : World} {no : Nat} {v : Value} (hb : Below w.heap.size w w') (h : ErrV_kinds w no v) : ErrV_kinds w' no v := by
  rcases h with h | ⟨h0, t, u, h1, h2, h3⟩
  · exact .inl h
  · exact .inr ⟨h0, t, u, h1, cell_ext hb h2, cell_ext hb h3⟩

set_option maxRecDepth 100000 in
set_option maxHeartbeats 1000000 in
theorem refuse_kinds (s : ByteArray) (no : Nat) (hno : no ≠ 0) (w : World) :
    Calls Tryz.prog 42 #[.string s, .int .i64 no] w fun e w' => ∃ v, e = .returned v ∧ ErrV_kinds w' no v ∧ Below w.heap.size w w' := by
  have hb1 := box_below w (.cells #[.int .i64 no] 85)
  have hb2 := box_below (w.alloc (.cells #[.int .i64 no] 85)) (.cells #[.string s, .iface 81 (.pointer (some ⟨w.heap.size, 0, none⟩))] 97)
  have h1 : ((w.alloc (.cells #[.int .i64 no] 85)).alloc (.cells #[.string s, .iface 81 (.pointer (some ⟨w.heap.size, 0, none⟩))] 97)).cell? ⟨w.heap.size + 1, 1, none⟩ = some (.iface 81 (.pointer (some ⟨w.heap.size, 0, none⟩))) := by simp [go_sem]
  have h2 : ((w.alloc (.cells #[.int .i64 no] 85)).alloc (.cells #[.string s, .iface 81 (.pointer (some ⟨w.heap.size, 0, none⟩))] 97)).cell? ⟨w.heap.size, 0, none⟩ = some (.int .i64 no) := by simp [go_sem]
  go_enter Tryz.func42, Tryz.ntmps42
  go_wp2
  go_ret
  exact ⟨_, rfl, .inr ⟨hno, _, _, rfl, h1, h2⟩, below_le hb1 hb2⟩

set_option maxRecDepth 100000 in
set_option maxHeartbeats 1000000 in
/-- number. -/
theorem number_kinds (no : Nat) (v : Value) (w : World) (hv : ErrV_kinds w no v) (hE : w.cell? ⟨0, 0, none⟩ = some (rty 49)) :
    Calls Tryz.prog 31 #[v] w fun e w' => e = .returned (.int .i64 no) ∧ Below w.heap.size w w' := by
  rcases hv with ⟨rfl, rfl⟩ | ⟨h0, t, u, rfl, h2, h3⟩
  · have HB := box_below w (.cells #[.pointer none] 81)
    go_enter Tryz.func31, Tryz.ntmps31
    go_wp2_with fail
    go_at_call 52
    refine (as_nil_kinds _ _).mono ?_
    rintro e w' ⟨rfl, rfl⟩
    go_wp2
    go_ret
    exact ⟨rfl, HB⟩
  · go_enter Tryz.func31, Tryz.ntmps31
    go_wp2_with fail
    go_at_call 52
    refine Calls.mono (as_fault_kinds t w.heap.size (some ⟨u, 0, none⟩) (.pointer none) _ ?_ ?_ ?_) ?_
    · exact cell_ext (box_below _ _) h2
    · exact Blk.new _ _ _
    · exact cell_ext (box_below _ _) hE
    · rintro e w' ⟨rfl, hD⟩
      have hb : Below w.heap.size w w' := (box_below _ _).trans hD.1
      have hcell := hD.2
      have h3' := cell_ext hb h3
      clear hD
      go_wp2
      go_ret
      exact ⟨rfl, hb⟩

end Go.Proofs.YtmabokmnniiadaaGreatDoor
