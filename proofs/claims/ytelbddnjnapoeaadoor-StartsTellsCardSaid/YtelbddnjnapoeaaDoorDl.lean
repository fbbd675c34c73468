/-
  What is proved: contracts of package starts' check and number, in one form. No condition beyond those stated.
-/
import Derived.Test.YtelbddnjnapoeaaDoorDj
namespace Go.Proofs.YtelbddnjnapoeaaDoor
open Go.RowKit

/-- What package starts' variables hold. -/
structure SSent (w : World) (aS : Addr) : Prop where
  hS : Held w 1 aS
  hE : w.cell? ⟨4, 0, none⟩ = some (rty 57)
theorem SSent.ext {w w1 : World} {aS : Addr} (hb : Below w.heap.size w w1) (h : SSent w aS) : SSent w1 aS := ⟨h.hS.ext hb, cell_ext hb h.hE⟩

/-- The reason of a number. -/
def why (aS : Addr) (code : Nat) : Value := bif code == 10 then .iface 110 (.pointer (some aS)) else .iface 67 (.int .i64 code)
/-- The error of a number. -/
def ErrV (w : World) (aS : Addr) (code : Nat) (v : Value) : Prop := (code = 0 ∧ v = .nilIface) ∨ (code ≠ 0 ∧ ∃ t, v = .iface 70 (.pointer (some ⟨t, 0, none⟩)) ∧ w.cell? ⟨t, 1, none⟩ = some (why aS code))

theorem number_any (aS : Addr) (code : Nat) (v : Value) (w : World) (hS : SSent w aS) (h : ErrV w aS code v) :
    Calls Tryd.prog 46 #[v] w fun e w' => e = .returned (.int .i64 code) ∧ Below w.heap.size w w' := by
  rcases h with ⟨rfl, rfl⟩ | ⟨_, t, rfl, hc⟩
  · refine (number_nil w).mono ?_
    rintro e w' ⟨rfl, rfl⟩
    exact ⟨rfl, Below.refl _ _⟩
  · by_cases h10 : code = 10
    · subst h10
      refine (number_place t aS w hc hS.hS.1).mono ?_
      rintro e w' ⟨rfl, rfl⟩
      exact ⟨rfl, Below.refl _ _⟩
    · have he : (code == 10) = false := by simpa using h10
      rw [why, he] at hc
      exact number_fault t aS code w hc hS.hS.1 hS.hE

/-- The number of check. -/
def chkCode (n : Int) (ws : List Nat) (r : Bool) (a : Int) (there : Bool) : Nat :=
  bif r then bif placeB n a then bif hasB n ws (a / 8) == there then 0 else bif there then 131 else 52 else 10 else 130

theorem check_any (A : Option Addr) (m c : Nat) (n a : Int) (ws : List Nat) (r there : Bool) (aS : Addr) (w : World) (ha : a ≤ 9223372036854775807) (hS : SSent w aS) (hR : Row w A m (ws.map U32)) (hF : Fits ws) :
    Calls Tryd.prog 47 #[startsV n A m c r, .int .i64 a, .bool there] w fun e w' => ∃ v, e = .returned v ∧ ErrV w' aS (chkCode n ws r a there) v ∧ Below w.heap.size w w' := by
  cases r
  · refine (check_wrong A m c n a there w).mono ?_
    rintro e w' ⟨t, rfl, hb, _, hc⟩
    exact ⟨_, rfl, .inr ⟨by simp [chkCode], t, rfl, hc⟩, hb⟩
  · cases hp : placeB n a
    · refine (check_place A m c n a there aS w ha hS.hS.1 hp).mono ?_
      rintro e w' ⟨t, rfl, hb, _, hc⟩
      exact ⟨_, rfl, .inr ⟨by simp [chkCode, hp], t, rfl, by simpa [chkCode, hp, why] using hc⟩, hb⟩
    · by_cases hh : hasB n ws (a / 8) = there
      · refine (check_same A m c n a ws there aS w ha hS.hS.1 hp hR hF hh).mono ?_
        rintro e w' ⟨rfl, hb⟩
        exact ⟨_, rfl, .inl ⟨by simp [chkCode, hp, hh], rfl⟩, hb⟩
      · have h2 : hasB n ws (a / 8) = !there := by cases there <;> simpa using hh
        refine (check_other A m c n a ws there aS w ha hS.hS.1 hp hR hF h2).mono ?_
        rintro e w' ⟨t, rfl, hb, _, hc⟩
        refine ⟨_, rfl, .inr ⟨?_, t, rfl, ?_⟩, hb⟩
        · cases there <;> simp [chkCode, hp, h2]
        · cases there <;> simpa [chkCode, hp, h2, why] using hc

end Go.Proofs.YtelbddnjnapoeaaDoor
