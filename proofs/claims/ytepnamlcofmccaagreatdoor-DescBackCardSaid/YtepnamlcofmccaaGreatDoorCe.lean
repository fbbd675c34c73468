/-
  What is proved: contracts of end and teller of package desc. No condition beyond those stated.
-/
import Derived.Test.YtepnamlcofmccaaGreatDoorCd
import Derived.Test.YtepnamlcofmccaaGreatDoorCt
namespace Go.Proofs.YtepnamlcofmccaaGreatDoor
open Go.RowKit

set_option maxHeartbeats 1000000 in
theorem end_any (z e n : Int) (P Q : Option Addr) (m c q f : Nat) (w : World) (hz : 0 ≤ z ∧ z ≤ 1024) (he : 0 ≤ e ∧ e ≤ 256) (hn : 0 ≤ n ∧ n ≤ 131072) (hne : 0 ≤ n * e ∧ n * e ≤ 131072) :
    Calls Tryz.prog 30 #[shapeV z P m c e Q q f n] w fun x w' => x = .returned (.int .i64 (z + n * e)) ∧ Below w.heap.size w w' := by
  have hb := below_box w (shapeO z P m c e Q q f n)
  obtain ⟨hz1, hz2⟩ := hz
  obtain ⟨he1, he2⟩ := he
  obtain ⟨hn1, hn2⟩ := hn
  obtain ⟨hne1, hne2⟩ := hne
  have hw : wrap64 (n * e) = n * e := IntWalk.wrap64_in _ (by omega)
  generalize hM : n * e = M at *
  go_enter Tryz.func30, Tryz.ntmps30
  go_wp2
  go_ret
  exact ⟨rfl, hb⟩

/-- A function value that tells what is at a place: over a box of the end, and one of the shape. -/
def GivesTeller (w : World) (en : Int) (cs : Array Value) (x : Ending) (w' : World) : Prop :=
  ∃ g h : Nat, x = .returned (.func (.func 48) #[] #[.pointer (some ⟨g, 0, none⟩), .pointer (some ⟨h, 0, none⟩)]) ∧ w'.cell? ⟨g, 0, none⟩ = some (.int .i64 en) ∧ Blk w' h 53 cs ∧ Below w.heap.size w w'

set_option maxHeartbeats 1000000 in
theorem teller_any (z e n : Int) (P Q : Option Addr) (m c q f : Nat) (w : World) (hz : 0 ≤ z ∧ z ≤ 1024) (he : 0 ≤ e ∧ e ≤ 256) (hn : 0 ≤ n ∧ n ≤ 131072) (hne : 0 ≤ n * e ∧ n * e ≤ 131072) :
    Calls Tryz.prog 32 #[shapeV z P m c e Q q f n] w (GivesTeller w (z + n * e) #[.int .i64 z, .slice P m c, .int .i64 e, .slice Q q f, .int .i64 n]) := by
  have hb := below_box w (shapeO z P m c e Q q f n)
  have h2 : Blk (w.alloc (shapeO z P m c e Q q f n)) w.heap.size 53 #[.int .i64 z, .slice P m c, .int .i64 e, .slice Q q f, .int .i64 n] := Blk.new _ _ _
  have hcall := end_any z e n P Q m c q f (w.alloc (shapeO z P m c e Q q f n)) hz he hn hne
  have HC := Lib.hid hcall
  have HB := Lib.hid hb
  have H2 := Lib.hid h2
  clear hcall hb h2 hz he hn hne
  generalize z + n * e = en at *
  go_enter Tryz.func32, Tryz.ntmps32
  go_wp2_with fail
  generalize w.alloc (shapeO z P m c e Q q f n) = W0 at *
  refine HC.out.mono ?_
  rintro x w1 ⟨rfl, hb1⟩
  have hx := below_box w1 (.cells #[.int .i64 en] 3)
  have hc := cell_one (w := w1) (t := 3) (v := .int .i64 en)
  have H3 := Lib.hid ((H2.out.ext hb1).ext hx)
  have HB1 := Lib.hid (below_le (below_le HB.out hb1) hx)
  have HCC := Lib.hid hc
  clear hb1 hx hc HC HB H2
  go_wp2
  go_ret
  exact ⟨_, _, rfl, HCC.out, H3.out, HB1.out⟩

end Go.Proofs.YtepnamlcofmccaaGreatDoor
