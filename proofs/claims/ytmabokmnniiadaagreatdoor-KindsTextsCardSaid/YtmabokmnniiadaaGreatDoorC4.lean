/-
  What is proved: plain laws of descriptors' texts: the reference's way to read gives what the program's gives. No program in sight. No condition beyond those stated.
-/
import Derived.Test.YtmabokmnniiadaaGreatDoorC3
namespace Go.Proofs.YtmabokmnniiadaaGreatDoor
open Go.RowKit Go.Lib

def isDig (c : UInt8) : Bool := decide (48 ≤ c.toNat) && decide (c.toNat ≤ 57)
/-- The list with another last number. -/
def setLast (l : List Int) (x : Int) : List Int := l.set (l.length - 1) x
def numStep (a : List Int × Bool) (c : UInt8) : List Int × Bool :=
  if isDig c then (if a.2 then (setLast a.1 (min (10 * a.1.getD (a.1.length - 1) 0 + ((c.toNat : Int) - 48)) 10000), true) else (a.1 ++ [(c.toNat : Int) - 48], true)) else (a.1, false)
/-- The numbers in a text. -/
def numsOf (s : List UInt8) : List Int := (s.foldl numStep ([], false)).1

theorem setLast_snoc (l : List Int) (x y : Int) : setLast (l ++ [x]) y = l ++ [y] := by
  unfold setLast
  rw [List.length_append, List.length_singleton, Nat.add_sub_cancel, List.set_append_right _ _ (Nat.le_refl _), Nat.sub_self]
  rfl
theorem last_snoc (l : List Int) (x : Int) : (l ++ [x]).getD ((l ++ [x]).length - 1) 0 = x := by
  rw [List.length_append, List.length_singleton, Nat.add_sub_cancel]
  simp
theorem fold_dec (n : Nat) : n ≤ 1024 → ∀ out, (decDigits n).foldl numStep (out, false) = (out ++ [(n : Int)], true) := by
  induction n using Nat.strongRecOn with
  | _ n ih =>
    intro hn out
    by_cases h : n < 10
    · rw [decDigits_one h]
      have hd : isDig (UInt8.ofNat (48 + n)) = true := by unfold isDig; rw [digit_toNat h]; simp; omega
      simp only [List.foldl_cons, List.foldl_nil, numStep, hd, if_true, digit_toNat h, Bool.false_eq_true, if_false]
      congr 3
      omega
    · have hd : isDig (UInt8.ofNat (48 + n % 10)) = true := by unfold isDig; rw [digit_toNat (by omega)]; simp; omega
      rw [decDigits, dif_neg h, List.foldl_append, ih (n / 10) (by omega) (by omega)]
      simp only [List.foldl_cons, List.foldl_nil, numStep, hd, if_true, digit_toNat (show n % 10 < 10 by omega), last_snoc, setLast_snoc]
      congr 3
      omega
theorem fold_itoa {p : Int} (h : 0 ≤ p ∧ p ≤ 1024) (out : List Int) : (itoa p).foldl numStep (out, false) = (out ++ [p], true) := by
  obtain ⟨n, rfl⟩ : ∃ n : Nat, p = n := ⟨p.toNat, by omega⟩
  rw [itoa_nat]
  exact fold_dec n (by omega) out
theorem step_no {c : UInt8} (h : isDig c = false) (out : List Int) (b : Bool) : numStep (out, b) c = (out, false) := by
  unfold numStep
  rw [h]
  rfl
theorem fold_words : ∀ {ps : List Int}, smallB ps → ∀ out b, ((wordsT (ps.map itoa)).foldl numStep (out, b)).1 = out ++ ps
  | [], _, out, b => by simp [wordsT]
  | p :: ps, h, out, b => by
    rw [List.map_cons, wordsT, List.foldl_cons, step_no (by decide), List.foldl_append, fold_itoa (h p (List.mem_cons_self ..)), fold_words (fun q hq => h q (List.mem_cons_of_mem _ hq))]
    simp
theorem nums_half {z : Int} {ps : List Int} (hz : 0 ≤ z ∧ z ≤ 1024) (hp : smallB ps) : ((halfT z ps).foldl numStep ([], false)).1 = z :: ps := by
  unfold halfT
  rw [List.foldl_append, fold_itoa hz, List.foldl_cons, step_no (by decide), fold_words hp]
  rfl
/-- The reference's way to read. -/
def refReadT (s : List UInt8) : Option (Int × List Int × Int × List Int) :=
  if (59 : UInt8) ∈ s then
    match numsOf (s.takeWhile (· != 59)), numsOf (s.dropWhile (· != 59)) with
    | z :: ps, e :: es => if dRight z ps e es = true ∧ printT z ps e es = s then some (z, ps, e, es) else none
    | _, _ => none
  else none
theorem refread_some {s : List UInt8} {d : Int × List Int × Int × List Int} (h : refReadT s = some d) : dRight d.1 d.2.1 d.2.2.1 d.2.2.2 = true ∧ printT d.1 d.2.1 d.2.2.1 d.2.2.2 = s := by
  unfold refReadT at h
  split at h
  · split at h
    · split at h
      · rename_i hc
        injection h with h
        subst h
        exact hc
      · cases h
    · cases h
  · cases h
theorem take_no {c : UInt8} : ∀ {a b : List UInt8}, c ∉ a → (a ++ c :: b).takeWhile (· != c) = a ∧ (a ++ c :: b).dropWhile (· != c) = c :: b
  | [], b, _ => by simp
  | x :: a, b, h => by
    rw [List.mem_cons, not_or] at h
    obtain ⟨h1, h2⟩ := take_no (b := b) h.2
    have hx : (x != c) = true := bne_iff_ne.2 (Ne.symm h.1)
    rw [List.cons_append, List.takeWhile_cons, List.dropWhile_cons, hx, h1, h2]
    simp
theorem refread_print {z e : Int} {ps es : List Int} (hd : dRight z ps e es = true) : refReadT (printT z ps e es) = some (z, ps, e, es) := by
  obtain ⟨hz, he, -, -⟩ := right_of hd
  obtain ⟨s1, s2⟩ := small_of hd
  have hp : printT z ps e es = halfT z ps ++ 59 :: (32 :: halfT e es) := rfl
  obtain ⟨h1, h2⟩ := take_no (b := 32 :: halfT e es) (half_no hz.1 s1)
  have hm : (59 : UInt8) ∈ printT z ps e es := by rw [hp]; simp
  have n1 : numsOf (halfT z ps) = z :: ps := nums_half ⟨hz.1, hz.2.1⟩ s1
  have n2 : numsOf (59 :: (32 :: halfT e es)) = e :: es := by
    unfold numsOf
    rw [List.foldl_cons, step_no (by decide), List.foldl_cons, step_no (by decide)]
    exact nums_half ⟨he.1, by omega⟩ s2
  unfold refReadT
  rw [if_pos hm, hp, h1, h2, n1, n2]
  simp only
  rw [if_pos ⟨hd, rfl⟩]
/-- Both ways to read are one. -/
theorem ref_read (s : List UInt8) : refReadT s = readT s := by
  cases h : readT s with
  | some d =>
    obtain ⟨z, ps, e, es⟩ := d
    obtain ⟨rfl, hd⟩ := read_some h
    exact refread_print hd
  | none =>
    cases h2 : refReadT s with
    | none => rfl
    | some d =>
      obtain ⟨hd, hp⟩ := refread_some h2
      rw [← hp, read_print hd] at h
      cases h

end Go.Proofs.YtmabokmnniiadaaGreatDoor
