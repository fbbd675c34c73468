/-
  What is proved: what the rows of DescTexts and DescBack have beside the frame. No condition beyond those stated.
-/
import Derived.Test.YtepnamlcofmccaaGreatDoorCs
import Derived.Test.YtepnamlcofmccaaGreatDoorBz
import Derived.Lib.LaidTab
import Derived.ChangeArms
namespace Go.Proofs.YtepnamlcofmccaaGreatDoor
open Go.ChangeShapes Go.WideShapes Go.ChangeAt Go.RowKit

theorem gP1 : (Tryz.prog.globals[5]?).map (·.type) = some 144 := by kernel_rfl
theorem under_tab : ∃ n, Tryz.prog.underlying 144 = some (.array n 132) ∧ Tryz.prog.cellsOf 144 = n := ⟨20, by kernel_rfl, by kernel_rfl⟩
theorem under_u64 : Tryz.prog.underlying 132 = some (.int .u64) := by kernel_rfl
theorem cells_u64 : Tryz.prog.cellsOf 132 = 1 := by kernel_rfl

theorem tabs {W : World} (h : laidMetH Tryz.prog row0.laid W) : Tab W := by
  have h' : laidMet Tryz.prog [("internal/strconv.uint64pow10", Rows.laid_internal_strconv_uint64pow10)] W := by
    have := h.filter (fun x => x.1 == "internal/strconv.uint64pow10")
    rw [MakeChecks.laidMetH_plain _ _ _ (by kernel_rfl)] at this
    exact this
  obtain ⟨n, h1, h2⟩ := under_tab
  exact Lib.tabIs_of_head (zs := Lib.pow10Tab) gP0 gP1 h1 under_u64 cells_u64 h2 h'

/-- The law returned true, and what was there stays. -/
def Holds (w : World) (e : Ending) (w' : World) : Prop := e = .returned (.bool true) ∧ Below w.heap.size w w'

/-- What the law's walk has of the world. -/
def DT (w : World) : Prop := DE w ∧ Tab w
theorem sentsT {W : World} (hsh : W.ShapedOpen Tryz.prog) (h : laidMetH Tryz.prog row0.laid W) : DT W := ⟨sents hsh h, tabs h⟩

section
variable {H : Type} {enc : TypeId × Value → H} {P : Program} {w : World} {base : Nat} {spare : Nat → Bool} {held : Bool}
theorem open_text {r : Reach} {b0 : Nat} {t : TypeId} {v : Value} {d : DataW H} {ps : List MemPlace} (ht : P.underlying t = some .string) (hval : Value.okWide P w r b0 t v) (hd : DataW.Trod enc P w base spare held t v d ps) :
    ∃ s : ByteArray, v = .string s ∧ d = .lit (.string s.data.toList) ∧ ps = [] ∧ s.size ≤ maxLen := by
  obtain ⟨s, rfl⟩ := okWide_string ht hval
  obtain ⟨fuel, hf⟩ := hd
  obtain ⟨s', h, hx, hw⟩ := DataW.trod_string ht hf
  simp [Value.cells] at h
  subst h
  simp only [Prod.mk.injEq] at hx
  exact ⟨s, rfl, hx.1, hx.2, hw⟩
end

/-- The first two hundred bytes. -/
theorem lcut_any (s : ByteArray) : ∃ s' : ByteArray, s'.size ≤ 200 ∧ ∀ W : World, Calls Tryz.prog 10 #[.string s] W fun e w' => e = .returned (.string s') ∧ Below W.heap.size W w' := by
  have hmin : (min (s.size : Int) 200).toNat ≤ 200 := by omega
  refine ⟨s.extract 0 (min (s.size : Int) 200).toNat, by rw [ByteArray.size_extract]; omega, fun W => ?_⟩
  clear hmin
  go_enter Tryz.func10, Tryz.ntmps10
  go_wp2
  go_ret
  exact ⟨rfl, Below.refl _ _⟩
end Go.Proofs.YtepnamlcofmccaaGreatDoor
