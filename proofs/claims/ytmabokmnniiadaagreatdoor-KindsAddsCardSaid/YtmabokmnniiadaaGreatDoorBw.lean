/-
  What is proved: contracts of copyCheck, WriteByte and WriteString of strings.Builder. No condition beyond those stated.
-/
import Derived.Test.YtmabokmnniiadaaGreatDoorIt
import Derived.Lib.Builder
import Derived.Lib.AppendStr
import Derived.Lib.Strings
import Derived.Laws.Externs
import Derived.RangeFuncOwn
namespace Go.Proofs.YtmabokmnniiadaaGreatDoor
open Go.RowKit

abbrev IsB (B b : Nat) (bs : List Value) (w : World) : Prop := Lib.IsBuilder 55 5 B b bs w
abbrev IsBAt (B b : Nat) (p : Value) (bs : List Value) (w : World) : Prop := Lib.BuilderAt 55 5 B b p bs w

theorem b_info : ∃ j, Tryz.prog.info? 55 = some j ∧ j.size ≠ 0 := by
  have h : (Tryz.prog.info? 55).map (·.size) = some 2 := by kernel_rfl
  obtain ⟨j, h1, h2⟩ := Option.map_eq_some_iff.1 h
  exact ⟨j, h1, by omega⟩
theorem u8_info : (Tryz.prog.info? 5).map (fun i => (i.zero, i.size, i.bytes)) = some (some (.int .u8 0), 1, 1) := by kernel_rfl
theorem b_lies : liesAt Tryz.prog Tryz.prog.depth 55 (2 / Tryz.prog.cellsOf 55) 0 55 1 = true := by kernel_rfl

set_option maxRecDepth 100000 in
set_option maxHeartbeats 2000000 in
theorem copyCheck_used (b : Nat) (w : World) (h0 : w.cell? ⟨b, 0, none⟩ = some (.pointer (some ⟨b, 0, none⟩))) :
    Calls Tryz.prog 55 #[.pointer (some ⟨b, 0, none⟩)] w fun e w' => e = .returned (.tuple #[]) ∧ w = w' := by
  obtain ⟨j, hj, -⟩ := b_info
  have hne := fun W => Lib.run_neq_ptr_same (w := W) (⟨b, 0, none⟩ : Addr) Tryz.underlying52 hj
  go_enter Tryz.func55, Tryz.ntmps55
  go_wp2
  go_end0
  exact ⟨rfl, rfl⟩

set_option maxRecDepth 100000 in
set_option maxHeartbeats 2000000 in
theorem copyCheck_fresh (b : Nat) (v : Value) (w : World) (hb : w.heap[b]? = some (.cells #[.pointer none, v] 55 (0, 0))) :
    Calls Tryz.prog 55 #[.pointer (some ⟨b, 0, none⟩)] w fun e w' => e = .returned (.tuple #[]) ∧ w.setCell ⟨b, 0, none⟩ (.pointer (some ⟨b, 0, none⟩)) = w' := by
  obtain ⟨j, hj, hj0⟩ := b_info
  have hne := fun W => Lib.run_neq_ptr_same (w := W) (⟨b, 0, none⟩ : Addr) Tryz.underlying52 hj
  have hE := @run_callFunc_extern Tryz.prog 69 _ Extern.AbiNoEscape.same Tryz.func69 (by kernel_rfl) (by kernel_rfl) (by kernel_rfl) (by kernel_rfl)
  have hs := fun X : Value => Lib.run_noEscape (P := Tryz.prog) (w := w) X
  have c0 : w.cell? ⟨b, 0, none⟩ = some (.pointer none) := by simp [World.cell?, hb]
  have f0 : w.frozen? ⟨b, 0, none⟩ = false := by simp [World.frozen?, hb]
  have hsh : w.shape? b = some (55, 2) := by simp [World.shape?, hb]
  have hto := Lib.run_to_unsafe (P := Tryz.prog) (w := w) (⟨b, 0, none⟩ : Addr) Tryz.underlying52 Tryz.underlying105 hj hj0 hsh
  have hfr := Lib.run_from_unsafe (P := Tryz.prog) (w := w) (⟨b, 0, none⟩ : Addr) Tryz.underlying105 Tryz.underlying52 hj hsh b_lies
  have q0 := World.cell?_setCell_same w ⟨b, 0, none⟩ (.pointer (some ⟨b, 0, none⟩)) c0
  go_enter Tryz.func55, Tryz.ntmps55
  go_wp2
  go_end0
  exact ⟨rfl, rfl⟩

theorem copyCheck_all (B b : Nat) (bs : List Value) (w : World) (h : IsB B b bs w) :
    Calls Tryz.prog 55 #[.pointer (some ⟨b, 0, none⟩)] w fun e w' => e = .returned (.tuple #[]) ∧ IsBAt B b (.pointer (some ⟨b, 0, none⟩)) bs w' ∧ Below B w w' ∧ KeepsOthers w w' := by
  rcases h with h | h
  · have h' := h
    obtain ⟨hB, v, hb, -, -⟩ := h'
    refine (copyCheck_fresh b v w hb).mono fun e w' ⟨he, hw⟩ => ?_
    subst hw
    exact ⟨he, h.used _, (Below.refl _ _).setCell (p := ⟨b, 0, none⟩) hB _, KeepsOthers.setCell _ _ _⟩
  · exact (copyCheck_used b w h.cell0).mono fun e w' ⟨he, hw⟩ => by subst hw; exact ⟨he, h, Below.refl _ _, KeepsOthers.refl _⟩
theorem copyCheck_any (B b : Nat) (bs : List Value) (w : World) (h : IsB B b bs w) :
    Calls Tryz.prog 55 #[.pointer (some ⟨b, 0, none⟩)] w fun e w' => e = .returned (.tuple #[]) ∧ IsBAt B b (.pointer (some ⟨b, 0, none⟩)) bs w' ∧ Below B w w' :=
  (copyCheck_all B b bs w h).mono fun _ _ h => ⟨h.1, h.2.1, h.2.2.1⟩
theorem keepsO_grown {w w' : World} {base size n : Nat} {e : TypeId} {v : Value} {xs : List Value} (ho : w.ownsRow base e size v n xs) (hg : w.grownBy w' v.ownBlock) : KeepsOthers w w' :=
  ⟨hg.size, fun k o hk hc => (hg.block k (Array.getElem?_eq_some_iff.1 hk).1 fun e => by
    rcases ho.2 with ⟨rfl, _⟩ | ⟨g, cap, cur, rfl, _, h1, _⟩
    · cases e
    · injection e with e
      simp at e
      subst e
      rw [h1] at hk
      cases hk
      simp [Obj.isCells] at hc).trans hk⟩
theorem keepsO_below {w w' : World} (hb : Below w.heap.size w w') : KeepsOthers w w' := ⟨hb.size, fun k _ hk _ => (hb.block k (Array.getElem?_eq_some_iff.1 hk).1).trans hk⟩

theorem b_stop {p : Prop} (h : True → p) : p := h trivial
theorem b_ne : (55 : TypeId) ≠ 5 := by decide

/-- A builder's own cells. -/
theorem b_cells {B b : Nat} {bs : List Value} {w : World} (h : IsBAt B b (.pointer (some ⟨b, 0, none⟩)) bs w) : ∃ v, w.heap[b]? = some (.cells #[.pointer (some ⟨b, 0, none⟩), v] 55 (0, 0)) ∧ w.ownsRow B 5 1 v bs.length bs ∧ v.ownBlock ≠ some b ∧ B ≤ b := by
  obtain ⟨hB, v, hb, hown, hne⟩ := h
  exact ⟨v, hb, hown, hne, hB⟩

set_option maxRecDepth 100000 in
set_option maxHeartbeats 2000000 in
theorem writeString_all (B b : Nat) (bs : List Value) (s : ByteArray) (w : World) (h : IsB B b bs w) (hlen : bs.length + s.size ≤ 140737488355328) (hBw : B ≤ w.heap.size) :
    Calls Tryz.prog 34 #[.pointer (some ⟨b, 0, none⟩), .string s] w fun e w' => e = .returned (.tuple #[.int .i64 s.size, .nilIface]) ∧ IsB B b (bs ++ Lib.strCells s) w' ∧ Below B w w' ∧ KeepsOthers w w' := by
  obtain ⟨i, hi, hz0, hz1, hz2⟩ := info_parts u8_info
  have HI := Lib.hid h
  clear h
  go_enter Tryz.func34, Tryz.ntmps34
  go_wp2_with fail
  refine (copyCheck_all B b bs w HI.out).mono ?_
  rintro e w1 ⟨rfl, h1, hb1, hko⟩
  obtain ⟨v, hbk, hown, hne, hBb⟩ := b_cells h1
  have c1 : w1.cell? ⟨b, 1, none⟩ = some v := by simp [World.cell?, hbk]
  have HO := Lib.hid hown
  have HK := Lib.hid hbk
  have HN := Lib.hid hne
  have HB := Lib.hid hb1
  have hbl : b < w1.heap.size := h1.lt
  clear hown hbk hne h1 hb1 HI
  go_wp2_with (at_builtin; refine b_stop ?_)
  intro _
  refine Lib.wpList_append_own_string _ rfl _ _ 53 9 rfl B 5 i Tryz.underlying53 Tryz.underlying9 hi hz0 hz1 hz2 v bs.length bs rfl HO.out s rfl ?b1 hlen ?b2 ?_
  case b1 => unfold maxLen; omega
  case b2 => have := HB.out.size; omega
  intro v' w3 hown3 hgr _
  have hb3 : w3.heap[b]? = some (.cells #[.pointer (some ⟨b, 0, none⟩), v] 55 (0, 0)) := (hgr.block b hbl (fun e => HN.out e.symm)).trans HK.out
  have c3 : w3.cell? ⟨b, 1, none⟩ = some v := by simp [World.cell?, hb3]
  have f3 : w3.frozen? ⟨b, 1, none⟩ = false := by simp [World.frozen?, hb3]
  have hput := Lib.BuilderAt.put (T := 55) (e := 5) (bs' := bs ++ Lib.strCells s) hBb hb3 (by rw [List.length_append, Lib.strCells_length]; exact hown3) b_ne
  have hbw : Below B w (w3.setCell ⟨b, 1, none⟩ v') := (HB.out.trans ((Below.refl B w1).grown hgr (by have := HB.out.size; omega) (fun k e => by
    rcases HO.out.2 with ⟨rfl, _⟩ | ⟨g, cap, cur, rfl, hg, _⟩
    · cases e
    · cases e; exact hg))).setCell (p := ⟨b, 1, none⟩) hBb _
  have HKO := Lib.hid ((hko.trans (keepsO_grown HO.out hgr)).trans (KeepsOthers.setCell w3 ⟨b, 1, none⟩ v'))
  have HW := Lib.hid hown3
  have HP := Lib.hid hput
  have HBW := Lib.hid hbw
  clear hko hown3 hgr hb3 hput hbw HO HK HN HB c1
  obtain ⟨ao, n', cap, rfl⟩ : ∃ ao n' cap, v' = .slice ao n' cap := by
    rcases HW.out.2 with ⟨hv, _⟩ | ⟨g, cap, cur, hv, _⟩
    · exact ⟨_, _, _, hv⟩
    · exact ⟨_, _, _, hv⟩
  go_wp2
  go_ret2
  exact ⟨rfl, .inr HP.out, HBW.out, HKO.out⟩

theorem writeString_any (B b : Nat) (bs : List Value) (s : ByteArray) (w : World) (h : IsB B b bs w) (hlen : bs.length + s.size ≤ 140737488355328) (hBw : B ≤ w.heap.size) :
    Calls Tryz.prog 34 #[.pointer (some ⟨b, 0, none⟩), .string s] w fun e w' => e = .returned (.tuple #[.int .i64 s.size, .nilIface]) ∧ IsB B b (bs ++ Lib.strCells s) w' ∧ Below B w w' :=
  (writeString_all B b bs s w h hlen hBw).mono fun _ _ h => ⟨h.1, h.2.1, h.2.2.1⟩

set_option maxRecDepth 100000 in
set_option maxHeartbeats 2000000 in
theorem writeByte_all (B b : Nat) (bs : List Value) (x : Nat) (w : World) (h : IsB B b bs w) (hlen : bs.length + 1 ≤ 140737488355328) (hBw : B ≤ w.heap.size) :
    Calls Tryz.prog 35 #[.pointer (some ⟨b, 0, none⟩), .int .u8 x] w fun e w' => e = .returned .nilIface ∧ IsB B b (bs ++ [.int .u8 x]) w' ∧ Below B w w' ∧ KeepsOthers w w' := by
  obtain ⟨i, hi, hz0, hz1, hz2⟩ := info_parts u8_info
  have HI := Lib.hid h
  clear h
  go_enter Tryz.func35, Tryz.ntmps35
  go_wp2_with fail
  refine (copyCheck_all B b bs w HI.out).mono ?_
  rintro e w1 ⟨rfl, h1, hb1, hko⟩
  obtain ⟨v, hbk, hown, hne, hBb⟩ := b_cells h1
  have c1 : w1.cell? ⟨b, 1, none⟩ = some v := by simp [World.cell?, hbk]
  have HO := Lib.hid hown
  have HK := Lib.hid hbk
  have HN := Lib.hid hne
  have HB := Lib.hid hb1
  have hbl : b < w1.heap.size := h1.lt
  clear hown hbk hne h1 hb1 HI
  go_wp2_with (at_builtin; refine b_stop ?_)
  intro _
  refine (wpList_append_own_at _ rfl _ _ 53 rfl B 5 i (.int .u8 0) 1 1 Tryz.underlying53 hi hz0 hz1 hz2 rfl (by omega) v bs.length bs rfl ?own ⟨w1.heap.size, 0, none⟩ 1 1 [.int .u8 x] rfl rfl ?news ?one ?b1 ?b2 ?b3 ?_)
  case own => exact HO.out.alloc _
  case news =>
    intro k u hu
    match k with
    | 0 => simp [Addr.add, go_sem] at hu ⊢; exact hu
    | k + 1 => simp at hu
  case one => intro u hu; rw [List.mem_singleton.1 hu]; rfl
  case b1 => unfold maxLen; omega
  case b2 => omega
  case b3 => have := HB.out.size; simp; omega
  intro v' w3 hown3 hgr _ hat
  have hbk := below_box w1 (.cells #[.int .u8 x] 5)
  have hb3 : w3.heap[b]? = some (.cells #[.pointer (some ⟨b, 0, none⟩), v] 55 (0, 0)) := (hgr.block b (by simp; omega) (fun e => HN.out e.symm)).trans ((hbk.block b hbl).trans HK.out)
  have c3 : w3.cell? ⟨b, 1, none⟩ = some v := by simp [World.cell?, hb3]
  have f3 : w3.frozen? ⟨b, 1, none⟩ = false := by simp [World.frozen?, hb3]
  have hput := Lib.BuilderAt.put (T := 55) (e := 5) (bs' := bs ++ [.int .u8 x]) hBb hb3 (by rw [List.length_append]; exact hown3) b_ne
  have hbw : Below B w (w3.setCell ⟨b, 1, none⟩ v') := ((HB.out.trans (hbk.mono (by have := HB.out.size; omega))).trans ((Below.refl B _).grown hgr (by have := HB.out.size; simp; omega) (fun k e => by
    rcases HO.out.2 with ⟨rfl, _⟩ | ⟨g, cap, cur, rfl, hg, _⟩
    · cases e
    · cases e; exact hg))).setCell (p := ⟨b, 1, none⟩) hBb _
  have HKO := Lib.hid (((hko.trans (keepsO_below hbk)).trans (keepsO_grown (HO.out.alloc _) hgr)).trans (KeepsOthers.setCell w3 ⟨b, 1, none⟩ v'))
  have HW := Lib.hid hown3
  have HP := Lib.hid hput
  have HBW := Lib.hid hbw
  clear hko hown3 hgr hb3 hput hbw HO HK HN HB c1 hat hbk
  obtain ⟨ao, n', cap, rfl⟩ : ∃ ao n' cap, v' = .slice ao n' cap := by
    rcases HW.out.2 with ⟨hv, _⟩ | ⟨g, cap, cur, hv, _⟩
    · exact ⟨_, _, _, hv⟩
    · exact ⟨_, _, _, hv⟩
  go_wp2
  go_ret
  exact ⟨rfl, .inr HP.out, HBW.out, HKO.out⟩

theorem writeByte_any (B b : Nat) (bs : List Value) (x : Nat) (w : World) (h : IsB B b bs w) (hlen : bs.length + 1 ≤ 140737488355328) (hBw : B ≤ w.heap.size) :
    Calls Tryz.prog 35 #[.pointer (some ⟨b, 0, none⟩), .int .u8 x] w fun e w' => e = .returned .nilIface ∧ IsB B b (bs ++ [.int .u8 x]) w' ∧ Below B w w' :=
  (writeByte_all B b bs x w h hlen hBw).mono fun _ _ h => ⟨h.1, h.2.1, h.2.2.1⟩

theorem isBAt_ext {B b : Nat} {p : Value} {bs : List Value} {w w' : World} (hb : Below w.heap.size w w') (h : IsBAt B b p bs w) : IsBAt B b p bs w' := by
  have hlt := h.lt
  obtain ⟨hB, v, hbk, hown, hne⟩ := h
  exact ⟨hB, v, (hb.block b hlt).trans hbk, hown.kept (row := none) ⟨hb.os, hb.tape, hb.output, hb.size, fun i hi _ => hb.block i hi⟩ (by cases v.ownBlock <;> simp), hne⟩
theorem isB_ext {B b : Nat} {bs : List Value} {w w' : World} (hb : Below w.heap.size w w') (h : IsB B b bs w) : IsB B b bs w' := h.imp (isBAt_ext hb) (isBAt_ext hb)
/-- A builder stays where only what is no cells is changed. -/
theorem isBAt_own {B b n : Nat} {p : Value} {bs : List Value} {w w' : World} {row : Option Nat} (hg : w.grownBy w' row) (hr : ∀ r, row = some r → n ≤ r ∧ ∃ o : Obj, w.heap[r]? = some o ∧ o.isCells = false) (h : IsBAt B b p bs w) : IsBAt B b p bs w' := by
  have hlt := h.lt
  obtain ⟨hB, v, hbk, hown, hne⟩ := h
  refine ⟨hB, v, (hg.block b hlt fun e => ?_).trans hbk, hown.kept hg ?_, hne⟩
  · obtain ⟨_, o, ho, hc⟩ := hr b e.symm
    rw [hbk] at ho
    cases ho
    simp [Obj.isCells] at hc
  · cases hv : v.ownBlock with
    | none => exact .inl rfl
    | some g =>
      refine .inr fun e => ?_
      obtain ⟨_, o, ho, hc⟩ := hr g e.symm
      rcases hown.2 with ⟨rfl, _⟩ | ⟨g', cap, cur, rfl, _, h1, _⟩
      · cases hv
      · injection hv with hv
        simp at hv
        subst hv
        rw [h1] at ho
        cases ho
        simp [Obj.isCells] at hc
theorem isB_own {B b n : Nat} {bs : List Value} {w w' : World} {row : Option Nat} (hg : w.grownBy w' row) (hr : ∀ r, row = some r → n ≤ r ∧ ∃ o : Obj, w.heap[r]? = some o ∧ o.isCells = false) (h : IsB B b bs w) : IsB B b bs w' := h.imp (isBAt_own hg hr) (isBAt_own hg hr)
end Go.Proofs.YtmabokmnniiadaaGreatDoor
