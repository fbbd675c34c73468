/-
  What is proved: contracts of copyCheck, WriteByte and WriteString of strings.Builder. No condition beyond those stated.
-/
import Derived.Test.YtepnamlcofmccaaGreatDoorIt
import Derived.Lib.Builder
import Derived.Lib.AppendStr
import Derived.Lib.Strings
import Derived.Laws.Externs
namespace Go.Proofs.YtepnamlcofmccaaGreatDoor
open Go.RowKit

abbrev IsB (B b : Nat) (bs : List Value) (w : World) : Prop := Lib.IsBuilder 66 5 B b bs w
abbrev IsBAt (B b : Nat) (p : Value) (bs : List Value) (w : World) : Prop := Lib.BuilderAt 66 5 B b p bs w

theorem b_info : ∃ j, Tryz.prog.info? 66 = some j ∧ j.size ≠ 0 := by
  have h : (Tryz.prog.info? 66).map (·.size) = some 2 := by kernel_rfl
  obtain ⟨j, h1, h2⟩ := Option.map_eq_some_iff.1 h
  exact ⟨j, h1, by omega⟩
theorem u8_info : (Tryz.prog.info? 5).map (fun i => (i.zero, i.size, i.bytes)) = some (some (.int .u8 0), 1, 1) := by kernel_rfl
theorem b_lies : liesAt Tryz.prog Tryz.prog.depth 66 (2 / Tryz.prog.cellsOf 66) 0 66 1 = true := by kernel_rfl

set_option maxRecDepth 100000 in
set_option maxHeartbeats 2000000 in
theorem copyCheck_used (b : Nat) (w : World) (h0 : w.cell? ⟨b, 0, none⟩ = some (.pointer (some ⟨b, 0, none⟩))) :
    Calls Tryz.prog 50 #[.pointer (some ⟨b, 0, none⟩)] w fun e w' => e = .returned (.tuple #[]) ∧ w = w' := by
  obtain ⟨j, hj, -⟩ := b_info
  have hne := fun W => Lib.run_neq_ptr_same (w := W) (⟨b, 0, none⟩ : Addr) Tryz.underlying63 hj
  go_enter Tryz.func50, Tryz.ntmps50
  go_wp2
  go_end0
  exact ⟨rfl, rfl⟩

set_option maxRecDepth 100000 in
set_option maxHeartbeats 2000000 in
theorem copyCheck_fresh (b : Nat) (v : Value) (w : World) (hb : w.heap[b]? = some (.cells #[.pointer none, v] 66 (0, 0))) :
    Calls Tryz.prog 50 #[.pointer (some ⟨b, 0, none⟩)] w fun e w' => e = .returned (.tuple #[]) ∧ w.setCell ⟨b, 0, none⟩ (.pointer (some ⟨b, 0, none⟩)) = w' := by
  obtain ⟨j, hj, hj0⟩ := b_info
  have hne := fun W => Lib.run_neq_ptr_same (w := W) (⟨b, 0, none⟩ : Addr) Tryz.underlying63 hj
  have hE := @run_callFunc_extern Tryz.prog 63 _ Extern.AbiNoEscape.same Tryz.func63 (by kernel_rfl) (by kernel_rfl) (by kernel_rfl) (by kernel_rfl)
  have hs := fun X : Value => Lib.run_noEscape (P := Tryz.prog) (w := w) X
  have c0 : w.cell? ⟨b, 0, none⟩ = some (.pointer none) := by simp [World.cell?, hb]
  have f0 : w.frozen? ⟨b, 0, none⟩ = false := by simp [World.frozen?, hb]
  have hsh : w.shape? b = some (66, 2) := by simp [World.shape?, hb]
  have hto := Lib.run_to_unsafe (P := Tryz.prog) (w := w) (⟨b, 0, none⟩ : Addr) Tryz.underlying63 Tryz.underlying98 hj hj0 hsh
  have hfr := Lib.run_from_unsafe (P := Tryz.prog) (w := w) (⟨b, 0, none⟩ : Addr) Tryz.underlying98 Tryz.underlying63 hj hsh b_lies
  have q0 := World.cell?_setCell_same w ⟨b, 0, none⟩ (.pointer (some ⟨b, 0, none⟩)) c0
  go_enter Tryz.func50, Tryz.ntmps50
  go_wp2
  go_end0
  exact ⟨rfl, rfl⟩

theorem copyCheck_any (B b : Nat) (bs : List Value) (w : World) (h : IsB B b bs w) :
    Calls Tryz.prog 50 #[.pointer (some ⟨b, 0, none⟩)] w fun e w' => e = .returned (.tuple #[]) ∧ IsBAt B b (.pointer (some ⟨b, 0, none⟩)) bs w' ∧ Below B w w' := by
  rcases h with h | h
  · have h' := h
    obtain ⟨hB, v, hb, -, -⟩ := h'
    refine (copyCheck_fresh b v w hb).mono fun e w' ⟨he, hw⟩ => ?_
    subst hw
    exact ⟨he, h.used _, (Below.refl _ _).setCell (p := ⟨b, 0, none⟩) hB _⟩
  · exact (copyCheck_used b w h.cell0).mono fun e w' ⟨he, hw⟩ => by subst hw; exact ⟨he, h, Below.refl _ _⟩

theorem b_stop {p : Prop} (h : True → p) : p := h trivial
theorem b_ne : (66 : TypeId) ≠ 5 := by decide

/-- A builder's own cells. -/
theorem b_cells {B b : Nat} {bs : List Value} {w : World} (h : IsBAt B b (.pointer (some ⟨b, 0, none⟩)) bs w) : ∃ v, w.heap[b]? = some (.cells #[.pointer (some ⟨b, 0, none⟩), v] 66 (0, 0)) ∧ w.ownsRow B 5 1 v bs.length bs ∧ v.ownBlock ≠ some b ∧ B ≤ b := by
  obtain ⟨hB, v, hb, hown, hne⟩ := h
  exact ⟨v, hb, hown, hne, hB⟩

set_option maxRecDepth 100000 in
set_option maxHeartbeats 2000000 in
theorem writeString_any (B b : Nat) (bs : List Value) (s : ByteArray) (w : World) (h : IsB B b bs w) (hlen : bs.length + s.size ≤ 140737488355328) (hBw : B ≤ w.heap.size) :
    Calls Tryz.prog 33 #[.pointer (some ⟨b, 0, none⟩), .string s] w fun e w' => e = .returned (.tuple #[.int .i64 s.size, .nilIface]) ∧ IsB B b (bs ++ Lib.strCells s) w' ∧ Below B w w' := by
  obtain ⟨i, hi, hz0, hz1, hz2⟩ := info_parts u8_info
  have HI := Lib.hid h
  clear h
  go_enter Tryz.func33, Tryz.ntmps33
  go_wp2_with fail
  refine (copyCheck_any B b bs w HI.out).mono ?_
  rintro e w1 ⟨rfl, h1, hb1⟩
  obtain ⟨v, hbk, hown, hne, hBb⟩ := b_cells h1
  have c1 : w1.cell? ⟨b, 1, none⟩ = some v := by simp [World.cell?, hbk]
  have HO := Lib.hid hown
  have HK := Lib.hid hbk
  have HN := Lib.hid hne
  have HB := Lib.hid hb1
  have hbl : b < w1.heap.size := h1.lt
  clear hown hbk hne h1 hb1 HI
  go_wp2_with (at_builtin; refine b_stop ?_)
  intro _
  refine Lib.wpList_append_own_string _ rfl _ _ 64 9 rfl B 5 i Tryz.underlying64 Tryz.underlying9 hi hz0 hz1 hz2 v bs.length bs rfl HO.out s rfl ?b1 hlen ?b2 ?_
  case b1 => unfold maxLen; omega
  case b2 => have := HB.out.size; omega
  intro v' w3 hown3 hgr _
  have hb3 : w3.heap[b]? = some (.cells #[.pointer (some ⟨b, 0, none⟩), v] 66 (0, 0)) := (hgr.block b hbl (fun e => HN.out e.symm)).trans HK.out
  have c3 : w3.cell? ⟨b, 1, none⟩ = some v := by simp [World.cell?, hb3]
  have f3 : w3.frozen? ⟨b, 1, none⟩ = false := by simp [World.frozen?, hb3]
  have hput := Lib.BuilderAt.put (T := 66) (e := 5) (bs' := bs ++ Lib.strCells s) hBb hb3 (by rw [List.length_append, Lib.strCells_length]; exact hown3) b_ne
  have hbw : Below B w (w3.setCell ⟨b, 1, none⟩ v') := (HB.out.trans ((Below.refl B w1).grown hgr (by have := HB.out.size; omega) (fun k e => by
    rcases HO.out.2 with ⟨rfl, _⟩ | ⟨g, cap, cur, rfl, hg, _⟩
    · cases e
    · cases e; exact hg))).setCell (p := ⟨b, 1, none⟩) hBb _
  have HW := Lib.hid hown3
  have HP := Lib.hid hput
  have HBW := Lib.hid hbw
  clear hown3 hgr hb3 hput hbw HO HK HN HB c1
  obtain ⟨ao, n', cap, rfl⟩ : ∃ ao n' cap, v' = .slice ao n' cap := by
    rcases HW.out.2 with ⟨hv, _⟩ | ⟨g, cap, cur, hv, _⟩
    · exact ⟨_, _, _, hv⟩
    · exact ⟨_, _, _, hv⟩
  go_wp2
  go_ret2
  exact ⟨rfl, .inr HP.out, HBW.out⟩

set_option maxRecDepth 100000 in
set_option maxHeartbeats 2000000 in
theorem writeByte_any (B b : Nat) (bs : List Value) (x : Nat) (w : World) (h : IsB B b bs w) (hlen : bs.length + 1 ≤ 140737488355328) (hBw : B ≤ w.heap.size) :
    Calls Tryz.prog 35 #[.pointer (some ⟨b, 0, none⟩), .int .u8 x] w fun e w' => e = .returned .nilIface ∧ IsB B b (bs ++ [.int .u8 x]) w' ∧ Below B w w' := by
  obtain ⟨i, hi, hz0, hz1, hz2⟩ := info_parts u8_info
  have HI := Lib.hid h
  clear h
  go_enter Tryz.func35, Tryz.ntmps35
  go_wp2_with fail
  refine (copyCheck_any B b bs w HI.out).mono ?_
  rintro e w1 ⟨rfl, h1, hb1⟩
  obtain ⟨v, hbk, hown, hne, hBb⟩ := b_cells h1
  have c1 : w1.cell? ⟨b, 1, none⟩ = some v := by simp [World.cell?, hbk]
  have HO := Lib.hid hown
  have HK := Lib.hid hbk
  have HN := Lib.hid hne
  have HB := Lib.hid hb1
  have hbl : b < w1.heap.size := h1.lt
  clear hown hbk hne h1 hb1 HI
  go_wp2_with (at_builtin; refine b_stop ?_)
  intro _
  refine (wpList_append_own_at _ rfl _ _ 64 rfl B 5 i (.int .u8 0) 1 1 Tryz.underlying64 hi hz0 hz1 hz2 rfl (by omega) v bs.length bs rfl ?own ⟨w1.heap.size, 0, none⟩ 1 1 [.int .u8 x] rfl rfl ?news ?one ?b1 ?b2 ?b3 ?_)
  case own => exact HO.out.alloc _
  case news =>
    intro k u hu
    match k with
    | 0 => simp [Addr.add, go_sem] at hu ⊢; exact hu
    | k + 1 => simp at hu
  case one => intro u hu; rw [List.mem_singleton.1 hu]; rfl
  case b1 => unfold maxLen; omega
  case b2 => omega
  case b3 => have := HB.out.size; simp; omega
  intro v' w3 hown3 hgr _ hat
  have hbk := below_box w1 (.cells #[.int .u8 x] 5)
  have hb3 : w3.heap[b]? = some (.cells #[.pointer (some ⟨b, 0, none⟩), v] 66 (0, 0)) := (hgr.block b (by simp; omega) (fun e => HN.out e.symm)).trans ((hbk.block b hbl).trans HK.out)
  have c3 : w3.cell? ⟨b, 1, none⟩ = some v := by simp [World.cell?, hb3]
  have f3 : w3.frozen? ⟨b, 1, none⟩ = false := by simp [World.frozen?, hb3]
  have hput := Lib.BuilderAt.put (T := 66) (e := 5) (bs' := bs ++ [.int .u8 x]) hBb hb3 (by rw [List.length_append]; exact hown3) b_ne
  have hbw : Below B w (w3.setCell ⟨b, 1, none⟩ v') := ((HB.out.trans (hbk.mono (by have := HB.out.size; omega))).trans ((Below.refl B _).grown hgr (by have := HB.out.size; simp; omega) (fun k e => by
    rcases HO.out.2 with ⟨rfl, _⟩ | ⟨g, cap, cur, rfl, hg, _⟩
    · cases e
    · cases e; exact hg))).setCell (p := ⟨b, 1, none⟩) hBb _
  have HW := Lib.hid hown3
  have HP := Lib.hid hput
  have HBW := Lib.hid hbw
  clear hown3 hgr hb3 hput hbw HO HK HN HB c1 hat hbk
  obtain ⟨ao, n', cap, rfl⟩ : ∃ ao n' cap, v' = .slice ao n' cap := by
    rcases HW.out.2 with ⟨hv, _⟩ | ⟨g, cap, cur, hv, _⟩
    · exact ⟨_, _, _, hv⟩
    · exact ⟨_, _, _, hv⟩
  go_wp2
  go_ret
  exact ⟨rfl, .inr HP.out, HBW.out⟩

end Go.Proofs.YtepnamlcofmccaaGreatDoor
