/-
  What is proved: plain laws of kinds: lists of descriptors, their texts. No program in sight. No condition beyond those stated.
-/
import Derived.Test.YtmabokmnniiadaaGreatDoorC3
namespace Go.Proofs.YtmabokmnniiadaaGreatDoor
open Go.RowKit Go.Lib

/-- A plain descriptor. -/
abbrev DscK : Type := Int × List Int × Int × List Int
def dR (d : DscK) : Bool := dRight d.1 d.2.1 d.2.2.1 d.2.2.2
def dP (d : DscK) : List UInt8 := printT d.1 d.2.1 d.2.2.1 d.2.2.2
theorem read_dP {d : DscK} (h : dR d = true) : readT (dP d) = some d := read_print h
theorem dP_inj {a b : DscK} (ha : dR a = true) (hb : dR b = true) (h : dP a = dP b) : a = b := by
  have h1 := read_dP ha
  rw [h, read_dP hb] at h1
  exact (Option.some.inj h1).symm
theorem read_dR {s : List UInt8} {d : DscK} (h : readT s = some d) : s = dP d ∧ dR d = true := by
  obtain ⟨z, ps, e, es⟩ := d
  exact read_some h

/-- Which lists are kinds. -/
def kRight (l : List DscK) : Bool := decide (l.length ≤ 60) && l.all dR && decide l.Nodup
theorem kRight_iff {l : List DscK} : kRight l = true ↔ l.length ≤ 60 ∧ (∀ d ∈ l, dR d = true) ∧ l.Nodup := by
  simp [kRight, and_assoc]

/-- The number of the first one that is the same; 0, if none is. -/
def kFind : List DscK → DscK → Nat
  | [], _ => 0
  | x :: l, d => if x = d then 1 else if kFind l d = 0 then 0 else kFind l d + 1
theorem kFind_zero {d : DscK} : ∀ {l : List DscK}, kFind l d = 0 ↔ d ∉ l
  | [] => by simp [kFind]
  | x :: l => by
    unfold kFind
    by_cases h : x = d
    · rw [if_pos h]
      simp [h]
    · rw [if_neg h]
      have ih := kFind_zero (d := d) (l := l)
      by_cases h0 : kFind l d = 0
      · rw [if_pos h0]
        simp [ih.1 h0, Ne.symm h]
      · rw [if_neg h0]
        have : d ∈ l := Classical.not_not.1 (fun hn => h0 (ih.2 hn))
        simp [this]
theorem kFind_at {d : DscK} : ∀ {l : List DscK} {n : Nat}, kFind l d = n + 1 → l[n]? = some d
  | [], n, h => by simp [kFind] at h
  | x :: l, n, h => by
    unfold kFind at h
    by_cases hx : x = d
    · rw [if_pos hx] at h
      obtain rfl : n = 0 := by omega
      simp [hx]
    · rw [if_neg hx] at h
      by_cases h0 : kFind l d = 0
      · rw [if_pos h0] at h; omega
      · rw [if_neg h0] at h
        obtain ⟨k, hk⟩ : ∃ k, kFind l d = k + 1 := ⟨kFind l d - 1, by omega⟩
        obtain rfl : n = k + 1 := by omega
        simpa using kFind_at hk

/-! ### Texts -/
def linesT (l : List DscK) : List UInt8 := l.flatMap fun d => dP d ++ [10]

/-- What a text's lines give: kinds, or else the number of the first line that is wrong, and what is told. -/
def parseK : Nat → List DscK → Nat → List UInt8 → List DscK × Nat × Nat
  | 0, acc, _, _ => (acc, 0, 0)
  | f + 1, acc, k, s =>
    if s = [] then (acc, 0, 0)
    else
      let c := cut s [10]
      if c.2.2 = false then ([], k + 1, 40)
      else match readT c.1 with
        | none => ([], k + 1, 40)
        | some d => if d ∈ acc then ([], k + 1, 52) else if 60 ≤ acc.length then ([], k + 1, 53) else parseK f (acc ++ [d]) (k + 1) c.2.1
end Go.Proofs.YtmabokmnniiadaaGreatDoor
