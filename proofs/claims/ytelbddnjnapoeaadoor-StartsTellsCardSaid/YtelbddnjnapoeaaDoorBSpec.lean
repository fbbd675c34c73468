/-
  What is proved: plain facts on words and their binary digits. No condition beyond those stated.
-/
import Derived.Test.YtelbddnjnapoeaaDoorLib
namespace Go.Proofs.YtelbddnjnapoeaaDoor
open Go.RowKit

def U32 (x : Nat) : Value := .int .u32 (x : Int)
/-- All words fit. -/
def Fits (ws : List Nat) : Prop := ∀ x ∈ ws, x < 4294967296
/-- The digit at a place. -/
def tb (ws : List Nat) (i : Nat) : Bool := (ws.getD (i / 32) 0).testBit (i % 32)
def rightB (n : Int) (ws : List Nat) : Bool :=
  decide (0 ≤ n) && decide (n ≤ 20000) && (ws.length == (n.toNat + 31) / 32) && (n.toNat % 32 == 0 || (ws.getD (ws.length - 1) 0 / 2 ^ (n.toNat % 32) == 0))
def hasB (n : Int) (ws : List Nat) (i : Int) : Bool := rightB n ws && decide (0 ≤ i) && decide (i < n) && tb ws i.toNat
def setW (ws : List Nat) (i : Nat) (on : Bool) : List Nat :=
  ws.set (i / 32) (if on then ws.getD (i / 32) 0 ||| 2 ^ (i % 32) else ws.getD (i / 32) 0 &&& (4294967295 - 2 ^ (i % 32)))
def fillW (ws : List Nat) (l : List Nat) (on : Bool) : List Nat := l.foldl (fun u i => setW u i on) ws
def orW (as bs : List Nat) : List Nat := List.zipWith (· ||| ·) as bs
def onesN (x : Nat) : Nat := ((List.range 32).filter x.testBit).length
def countN (n : Int) (ws : List Nat) : Nat := if rightB n ws then (ws.map onesN).sum else 0
def listN (n : Int) (ws : List Nat) : List Nat := if rightB n ws then (List.range n.toNat).filter (tb ws) else []
/-- The places from 'from' on, below n. -/
def placesN (a b : Int) : List Nat := List.range' a.toNat (b.toNat - a.toNat)
def nextN (n : Int) (ws : List Nat) (a : Int) (on : Bool) : Option Nat := if rightB n ws then (placesN (max a 0) n).find? (fun i => tb ws i == on) else none

theorem getD_lt {ws : List Nat} (h : Fits ws) (i : Nat) : ws.getD i 0 < 4294967296 := by
  rw [List.getD_eq_getElem?_getD]
  cases e : ws[i]? with
  | none => simp
  | some x => exact h x (List.mem_of_getElem? e)

theorem and_one (x k : Nat) : ((x / 2 ^ k) &&& 1 == 1) = x.testBit k := by
  rw [Nat.testBit_eq_decide_div_mod_eq, Nat.and_one_is_mod]
  rfl
theorem div_mod_two (x k : Nat) : (x / 2 ^ k % 2 == 1) = x.testBit k := by
  rw [Nat.testBit_eq_decide_div_mod_eq]
  rfl

theorem rightB_elim {n : Int} {ws : List Nat} (h : rightB n ws = true) : 0 ≤ n ∧ n ≤ 20000 ∧ ws.length = (n.toNat + 31) / 32 ∧ (n.toNat % 32 = 0 ∨ ws.getD (ws.length - 1) 0 / 2 ^ (n.toNat % 32) = 0) := by
  simpa [rightB, and_assoc] using h

end Go.Proofs.YtelbddnjnapoeaaDoor
