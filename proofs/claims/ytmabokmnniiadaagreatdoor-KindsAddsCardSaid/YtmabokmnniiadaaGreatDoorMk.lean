/-
  What is proved: plain laws of kinds: bounds of right ones, the one of a number, the text. No program in sight. No condition beyond those stated.
-/
import Derived.Test.YtmabokmnniiadaaGreatDoorMh
namespace Go.Proofs.YtmabokmnniiadaaGreatDoor
open Go.RowKit Go.Lib

theorem rise4 {e : Int} : ∀ {l : List Int} {a : Int}, a % 4 = 0 → -4 ≤ a → riseB e a l = true → l = [] ∨ a + 4 * l.length < e
  | [], _, _, _, _ => .inl rfl
  | p :: r, a, ha, h4, h => by
    right
    simp only [riseB, Bool.and_eq_true, decide_eq_true_eq] at h
    obtain ⟨⟨⟨h1, h2⟩, h3⟩, h5⟩ := h
    have hp : p % 4 = 0 := by
      rcases Int.lt_or_le p 0 with hn | hn
      · have : p = -1 ∨ p = -2 ∨ p = -3 := by omega
        rcases this with rfl | rfl | rfl <;> simp at h3
      · rw [← Int.tmod_eq_emod_of_nonneg hn]; exact h3
    rcases rise4 (l := r) (a := p) hp (by omega) h5 with rfl | h6
    · simp; omega
    · simp; omega
theorem rise_len {e : Int} {l : List Int} (h : riseB e (-1) l = true) (he : e ≤ 1024) : l.length ≤ 257 := by
  cases l with
  | nil => simp
  | cons p r =>
    simp only [riseB, Bool.and_eq_true, decide_eq_true_eq] at h
    obtain ⟨⟨⟨h1, h2⟩, h3⟩, h5⟩ := h
    rw [Int.tmod_eq_emod_of_nonneg (by omega)] at h3
    rcases rise4 h3 (by omega) h5 with rfl | h6
    · simp
    · simp; omega
/-- A descriptor's lists are not long. -/
def sm1 (d : DscK) : Prop := d.2.1.length ≤ 1000 ∧ d.2.2.2.length ≤ 1000
def Sm (ds : List DscK) : Prop := ∀ d ∈ ds, sm1 d
theorem sm_of {d : DscK} (h : dR d = true) : sm1 d := by
  obtain ⟨⟨-, h1, -⟩, ⟨-, h2, -⟩, h3, h4⟩ := right_of h
  have := rise_len h3 (by omega)
  have := rise_len h4 (by omega)
  exact ⟨by omega, by omega⟩
theorem Sm.nil : Sm [] := fun _ h => by simp at h
theorem Sm.of_right {ds : List DscK} (h : ∀ d ∈ ds, dR d = true) : Sm ds := fun d hd => sm_of (h d hd)
theorem Sm.append {a b : List DscK} (ha : Sm a) (hb : Sm b) : Sm (a ++ b) := fun d hd => (List.mem_append.1 hd).elim (ha d) (hb d)
theorem Sm.take {a : List DscK} (ha : Sm a) (k : Nat) : Sm (a.take k) := fun d hd => ha d (List.mem_of_mem_take hd)

def dsc0K : DscK := (0, [], 0, [])
/-- The one of a number. -/
def kOf (l : List DscK) (n : Int) : DscK × Nat :=
  if kRight l = false then (dsc0K, 50) else if n < 1 ∨ (l.length : Int) < n then (dsc0K, 51) else (l.getD (n.toNat - 1) dsc0K, 0)
def kText (l : List DscK) : List UInt8 := if kRight l then linesT l else []
def kNo (l : List DscK) : Nat := if kRight l then 0 else 50
theorem kOf_ok {l : List DscK} {n : Int} (h : (kOf l n).2 = 0) : kRight l = true ∧ 1 ≤ n ∧ n ≤ l.length ∧ l[n.toNat - 1]? = some (kOf l n).1 ∧ (kOf l n).1 ∈ l := by
  unfold kOf at h ⊢
  by_cases h1 : kRight l = false
  · rw [if_pos h1] at h; simp at h
  · rw [if_neg h1] at h ⊢
    by_cases h2 : n < 1 ∨ (l.length : Int) < n
    · rw [if_pos h2] at h; simp at h
    · rw [if_neg h2]
      have hl : n.toNat - 1 < l.length := by omega
      have he : l[n.toNat - 1]? = some (l.getD (n.toNat - 1) dsc0K) := by
        rw [List.getD_eq_getElem?_getD, List.getElem?_eq_getElem hl]
        rfl
      exact ⟨by simpa using h1, by omega, by omega, he, List.mem_of_getElem? he⟩
theorem kOf_at {l : List DscK} {n : Nat} {d : DscK} (hr : kRight l = true) (h1 : 1 ≤ n) (h : l[n - 1]? = some d) : kOf l n = (d, 0) := by
  have hl := (List.getElem?_eq_some_iff.1 h).1
  unfold kOf
  rw [if_neg (by rw [hr]; simp), if_neg (by omega), show ((n : Int).toNat - 1) = n - 1 by omega, List.getD_eq_getElem?_getD, h]
  rfl

/-- What Parse hands back. -/
def kParse (s : List UInt8) : List DscK × Nat × Nat := parseL [] 0 (linesOf (s.length + 1) s)
theorem kParse_eq (s : List UInt8) : kParse s = parseK (s.length + 1) [] 0 s := (parseK_lines _ _ _ _ (by omega)).symm
theorem linesT_len (l : List DscK) : l.length ≤ (linesT l).length := by
  induction l with
  | nil => simp
  | cons d l ih => rw [linesT_cons]; simp; omega
theorem kParse_lines {l : List DscK} (h : kRight l = true) : kParse (linesT l) = (l, 0, 0) := by
  rw [kParse_eq, parse_lines l [] 0 _ (by simpa using h) (by have := linesT_len l; omega)]
  simp
theorem kParse_some {s : List UInt8} {l : List DscK} {n : Nat} (h : kParse s = (l, n, 0)) : s = linesT l ∧ n = 0 ∧ kRight l = true := by
  rw [kParse_eq] at h
  obtain ⟨r, rfl, h1, h2, h3⟩ := parse_back _ _ [] l 0 n (by decide) (by omega) h
  exact ⟨by simpa using h1, h2, h3⟩
theorem kParse_bad {s : List UInt8} {l : List DscK} {n c : Nat} (h : kParse s = (l, n, c)) (hc : c ≠ 0) : l = [] ∧ 0 < n := by
  rw [kParse_eq] at h
  exact parse_bad _ _ _ _ _ _ _ h hc
theorem parseL_len : ∀ (L : List (List UInt8 × Bool)) (acc : List DscK) (k : Nat), acc.length ≤ 60 → (parseL acc k L).1.length ≤ 60 ∧ (parseL acc k L).2.1 ≤ k + L.length
  | [], acc, k, h => by simp [parseL, h]
  | x :: L, acc, k, h => by
    unfold parseL
    split
    · rename_i h0
      have hr : (readK acc x).1.length ≤ 60 := by
        unfold readK at h0 ⊢
        split
        · exact h
        · cases hd : readT x.1 with
          | none => exact h
          | some d =>
            simp only
            split
            · exact h
            · split
              · exact h
              · simp; omega
      have := parseL_len L (readK acc x).1 (k + 1) hr
      simp only [List.length_cons]
      omega
    · simp
theorem kParse_len (s : List UInt8) : (kParse s).1.length ≤ 60 ∧ (kParse s).2.1 ≤ s.length := by
  have h1 := parseL_len (linesOf (s.length + 1) s) [] 0 (by simp)
  have h2 := linesOf_len (s.length + 1) s
  unfold kParse
  omega
end Go.Proofs.YtmabokmnniiadaaGreatDoor
