/-
  What is proved: plain laws of descriptors' texts: numerals, halves, what is read of what is printed. No program in sight. No condition beyond those stated.
-/
import Derived.Test.YtmabokmnniiadaaGreatDoorC2
import Derived.Lib.Split
import Derived.Lib.ItoaNum
namespace Go.Proofs.YtmabokmnniiadaaGreatDoor
open Go.RowKit Go.Lib

/-! ### Numerals -/
def numGo : Nat → Bool → List UInt8 → Option Nat
  | n, st, [] => if st then some n else none
  | n, st, c :: r => if c.toNat < 48 ∨ 57 < c.toNat ∨ (st = true ∧ n = 0) then none else if 1024 < 10 * n + (c.toNat - 48) then none else numGo (10 * n + (c.toNat - 48)) true r
/-- The number that a word is. -/
def numT (ws : List UInt8) : Option Nat := numGo 0 false ws

theorem digit_toNat {d : Nat} (h : d < 10) : (UInt8.ofNat (48 + d)).toNat = 48 + d := by
  rw [UInt8.toNat_ofNat']
  omega
theorem digit_of {c : UInt8} (h1 : 48 ≤ c.toNat) (h2 : c.toNat ≤ 57) : UInt8.ofNat (48 + (c.toNat - 48)) = c := by
  apply UInt8.toNat_inj.1
  rw [digit_toNat (by omega)]
  omega
theorem dec_snoc {n d : Nat} (h : 1 ≤ n) (hd : d < 10) : decDigits (10 * n + d) = decDigits n ++ [UInt8.ofNat (48 + d)] := by
  rw [decDigits, dif_neg (by omega), show (10 * n + d) / 10 = n by omega, show (10 * n + d) % 10 = d by omega]

theorem numGo_some : ∀ (r : List UInt8) (n m : Nat), 1 ≤ n → numGo n true r = some m → decDigits m = decDigits n ++ r ∧ n ≤ m ∧ (n ≤ 1024 → m ≤ 1024)
  | [], n, m, _, h => by
    simp only [numGo, if_true, Option.some.injEq] at h
    subst h
    simp
  | c :: r, n, m, hn, h => by
    unfold numGo at h
    split at h
    · cases h
    · rename_i hc
      split at h
      · cases h
      · rename_i hm
        obtain ⟨h1, h2, h3⟩ := numGo_some r _ m (by omega) h
        refine ⟨?_, by omega, fun _ => h3 (by omega)⟩
        rw [h1, dec_snoc hn (by omega), digit_of (by omega) (by omega), List.append_assoc]
        rfl
theorem numT_some {ws : List UInt8} {m : Nat} (h : numT ws = some m) : ws = decDigits m ∧ m ≤ 1024 := by
  unfold numT at h
  cases ws with
  | nil => simp [numGo] at h
  | cons c r =>
    unfold numGo at h
    split at h
    · cases h
    · rename_i hc
      split at h
      · cases h
      · rename_i hm
        rw [show 10 * 0 + (c.toNat - 48) = c.toNat - 48 by omega] at h hm
        by_cases h0 : c.toNat - 48 = 0
        · rw [h0] at h
          cases r with
          | nil =>
            simp only [numGo, if_true, Option.some.injEq] at h
            subst h
            refine ⟨?_, by omega⟩
            rw [decDigits_one (by omega), ← h0, digit_of (by omega) (by omega)]
          | cons c' r' =>
            unfold numGo at h
            rw [if_pos (.inr (.inr ⟨rfl, rfl⟩))] at h
            cases h
        · obtain ⟨h1, h2, h3⟩ := numGo_some r _ m (by omega) h
          refine ⟨?_, h3 (by omega)⟩
          rw [h1, decDigits_one (by omega), digit_of (by omega) (by omega)]
          rfl
theorem numGo_dec (n : Nat) : n ≤ 1024 → ∀ r, numGo 0 false (decDigits n ++ r) = numGo n true r := by
  induction n using Nat.strongRecOn with
  | _ n ih =>
    intro hn r
    by_cases h : n < 10
    · rw [decDigits_one h, List.singleton_append, numGo, digit_toNat h, if_neg (by simp; omega), if_neg (by omega)]
      congr 1
      omega
    · rw [decDigits, dif_neg h, List.append_assoc, ih (n / 10) (by omega) (by omega), List.singleton_append, numGo, digit_toNat (by omega), if_neg (by simp; omega), if_neg (by omega)]
      congr 1
      omega
theorem numT_dec {n : Nat} (h : n ≤ 1024) : numT (decDigits n) = some n := by
  have := numGo_dec n h []
  rw [List.append_nil] at this
  unfold numT
  rw [this]
  rfl
theorem dec_digit (n : Nat) : ∀ c ∈ decDigits n, 48 ≤ c.toNat ∧ c.toNat ≤ 57 := by
  induction n using Nat.strongRecOn with
  | _ n ih =>
    intro c hc
    by_cases h : n < 10
    · rw [decDigits_one h, List.mem_singleton] at hc
      rw [hc, digit_toNat h]
      omega
    · rw [decDigits, dif_neg h, List.mem_append, List.mem_singleton] at hc
      rcases hc with hc | hc
      · exact ih (n / 10) (by omega) c hc
      · rw [hc, digit_toNat (by omega)]
        omega
theorem itoa_nat (n : Nat) : itoa (n : Int) = decDigits n := by
  unfold itoa
  rw [if_neg (by omega), Int.toNat_natCast]

/-! ### The first instance of a text -/
theorem index_at {c : UInt8} {t b : List UInt8} : ∀ {a : List UInt8}, c ∉ a → index (a ++ (c :: t ++ b)) (c :: t) = (a.length : Int)
  | [], _ => by
    have h : (c :: t).isPrefixOf (c :: (t ++ b)) = true := by
      rw [List.isPrefixOf_iff_prefix]
      exact ⟨b, rfl⟩
    show index (c :: (t ++ b)) (c :: t) = _
    unfold index
    rw [if_pos h]
    rfl
  | x :: a, h => by
    rw [List.mem_cons, not_or] at h
    have ih := index_at (t := t) (b := b) (a := a) h.2
    have hx : (c == x) = false := beq_eq_false_iff_ne.2 h.1
    have h1 : (c :: t).isPrefixOf (x :: (a ++ (c :: t ++ b))) = false := by
      show (c == x && t.isPrefixOf (a ++ (c :: t ++ b))) = false
      rw [hx]; rfl
    show index (x :: (a ++ (c :: t ++ b))) (c :: t) = _
    unfold index
    rw [h1, ih]
    have : (((a.length : Int)) == -1) = false := by rw [beq_eq_false_iff_ne]; omega
    simp [this]
theorem cut_at {c : UInt8} {t a b : List UInt8} (h : c ∉ a) : cut (a ++ (c :: t ++ b)) (c :: t) = (a, b, true) := by
  unfold cut
  rw [index_at h, if_pos (by omega)]
  simp
theorem cut_some {s sep a b : List UInt8} (h : cut s sep = (a, b, true)) : s = a ++ (sep ++ b) := by
  unfold cut at h
  rcases index_spec s sep with ⟨h1, _⟩ | ⟨i, h1, h2, h3, _⟩
  · rw [h1, if_neg (by omega)] at h
    cases h
  · rw [h1, if_pos (by omega)] at h
    simp only [Int.toNat_natCast, Prod.mk.injEq] at h
    obtain ⟨rfl, rfl, -⟩ := h
    have h4 : sep <+: s.drop i := by
      unfold occAt at h3
      rw [← List.isPrefixOf_iff_prefix]
      simpa using h3
    obtain ⟨u, hu⟩ := h4
    have h5 : s.drop (i + sep.length) = u := by
      rw [← List.drop_drop, ← hu]; simp
    rw [h5, hu, List.take_append_drop]

/-! ### Words -/
def wordsT : List (List UInt8) → List UInt8
  | [] => []
  | w :: r => 32 :: (w ++ wordsT r)
theorem splitK_join : ∀ (k : Nat) (s : List UInt8), ∃ w r, splitK [32] 0 k s = w :: r ∧ s = w ++ wordsT r
  | 0, s => ⟨s, [], rfl, by simp [wordsT]⟩
  | k + 1, s => by
    unfold splitK
    split
    · exact ⟨s, [], rfl, by simp [wordsT]⟩
    · rename_i hi
      obtain ⟨w, r, h1, h2⟩ := splitK_join k (s.drop ((index s [32]).toNat + [(32 : UInt8)].length))
      refine ⟨_, _, rfl, ?_⟩
      rw [h1]
      have hc : cut s [32] = (s.take (index s [32]).toNat, s.drop ((index s [32]).toNat + [(32 : UInt8)].length), true) := by
        unfold cut
        have := index_ge s [32]
        have hne : index s [32] ≠ -1 := fun e => hi (by rw [e]; rfl)
        rw [if_pos (by omega)]
      have h3 := cut_some hc
      rw [Nat.add_zero]
      conv => lhs; rw [h3]
      rw [h2]
      simp [wordsT]
theorem split_join (s : List UInt8) : ∃ w r, split s [32] = w :: r ∧ s = w ++ wordsT r := splitK_join _ s
theorem splitK_words : ∀ (ws : List (List UInt8)) (w : List UInt8) (k : Nat), (∀ x ∈ w :: ws, (32 : UInt8) ∉ x) → ws.length ≤ k → splitK [32] 0 k (w ++ wordsT ws) = w :: ws
  | [], w, k, h, _ => by
    have hw := h w (List.mem_cons_self ..)
    have hi : index (w ++ wordsT []) [32] = -1 := by
      rw [wordsT, List.append_nil]
      refine index_none fun j hj => ?_
      cases ho : occAt w [32] j
      · rfl
      · have := occAt_head (c := 32) (t := []) rfl ho
        exact absurd (List.mem_of_getElem? this) hw
    cases k with
    | zero => simp [splitK, wordsT]
    | succ k =>
      unfold splitK
      rw [hi, if_pos (by rfl)]
      simp [wordsT]
  | x :: ws, w, k, h, hk => by
    have hw := h w (List.mem_cons_self ..)
    cases k with
    | zero => simp at hk
    | succ k =>
      have hi : index (w ++ wordsT (x :: ws)) [32] = (w.length : Int) := by
        have := index_at (c := 32) (t := []) (b := x ++ wordsT ws) hw
        simpa [wordsT] using this
      unfold splitK
      rw [hi, if_neg (by simp <;> omega)]
      have hd : (w ++ wordsT (x :: ws)).drop ((w.length : Int).toNat + [(32 : UInt8)].length) = x ++ wordsT ws := by simp [wordsT]
      have ht : (w ++ wordsT (x :: ws)).take ((w.length : Int).toNat + 0) = w := by simp
      rw [hd, ht, splitK_words ws x k (fun y hy => h y (List.mem_cons_of_mem _ hy)) (by simpa using hk)]
theorem count_words : ∀ (ws : List (List UInt8)) (w : List UInt8), (∀ x ∈ w :: ws, (32 : UInt8) ∉ x) → count (w ++ wordsT ws) [32] = ws.length
  | [], w, h => by
    have hw := h w (List.mem_cons_self ..)
    have hi : index (w ++ wordsT []) [32] = -1 := by
      rw [wordsT, List.append_nil]
      refine index_none fun j hj => ?_
      cases ho : occAt w [32] j
      · rfl
      · have := occAt_head (c := 32) (t := []) rfl ho
        exact absurd (List.mem_of_getElem? this) hw
    rw [count_miss hi]
    rfl
  | x :: ws, w, h => by
    have hw := h w (List.mem_cons_self ..)
    have hi : index (w ++ wordsT (x :: ws)) [32] = (w.length : Int) := by
      have := index_at (c := 32) (t := []) (b := x ++ wordsT ws) hw
      simpa [wordsT] using this
    have hd : (w ++ wordsT (x :: ws)).drop (w.length + [(32 : UInt8)].length) = x ++ wordsT ws := by simp [wordsT]
    rw [count_hit (by simp) hi, hd, count_words ws x (fun y hy => h y (List.mem_cons_of_mem _ hy))]
    simp; omega
theorem split_words {ws : List (List UInt8)} {w : List UInt8} (h : ∀ x ∈ w :: ws, (32 : UInt8) ∉ x) : split (w ++ wordsT ws) [32] = w :: ws := by
  unfold split
  rw [count_words ws w h]
  exact splitK_words ws w _ h (Nat.le_refl _)

/-! ### Halves -/
def halfT (z : Int) (ps : List Int) : List UInt8 := itoa z ++ (58 :: wordsT (ps.map itoa))
def printT (z : Int) (ps : List Int) (e : Int) (es : List Int) : List UInt8 := halfT z ps ++ ([59, 32] ++ halfT e es)
def numsT : List (List UInt8) → Option (List Int)
  | [] => some []
  | w :: r => match numT w with
    | none => none
    | some n => match numsT r with
      | none => none
      | some l => some ((n : Int) :: l)
def headT (n : Int) : List (List UInt8) → Option (Int × List Int)
  | [] :: ws => match numsT ws with
    | none => none
    | some l => some (n, l)
  | _ => none
def readHalfT (t : List UInt8) : Option (Int × List Int) :=
  match cut t [58] with
  | (first, rest, found) => match numT first with
    | none => none
    | some n => if found then headT n (split rest [32]) else none
def readT (s : List UInt8) : Option (Int × List Int × Int × List Int) :=
  match cut s [59, 32] with
  | (f, r, found) => if found then
      match readHalfT f with
      | none => none
      | some (z, ps) => match readHalfT r with
        | none => none
        | some (e, es) => if dRight z ps e es then some (z, ps, e, es) else none
    else none

/-- Numbers that a numeral may be. -/
def smallB (l : List Int) : Prop := ∀ p ∈ l, 0 ≤ p ∧ p ≤ 1024
theorem nums_some : ∀ {ws : List (List UInt8)} {l : List Int}, numsT ws = some l → ws = l.map itoa ∧ smallB l
  | [], l, h => by
    simp only [numsT, Option.some.injEq] at h
    subst h
    exact ⟨rfl, fun p hp => by cases hp⟩
  | w :: r, l, h => by
    unfold numsT at h
    split at h
    · cases h
    · rename_i n hn
      split at h
      · cases h
      · rename_i l' hl
        injection h with h
        subst h
        obtain ⟨h1, h2⟩ := nums_some hl
        obtain ⟨h3, h4⟩ := numT_some hn
        refine ⟨by rw [List.map_cons, itoa_nat, ← h3, h1], fun p hp => ?_⟩
        rcases List.mem_cons.1 hp with rfl | hp
        · omega
        · exact h2 p hp
theorem nums_itoa : ∀ {l : List Int}, smallB l → numsT (l.map itoa) = some l
  | [], _ => rfl
  | p :: l, h => by
    obtain ⟨h1, h2⟩ := h p (List.mem_cons_self ..)
    obtain ⟨n, rfl⟩ : ∃ n : Nat, p = n := ⟨p.toNat, by omega⟩
    rw [List.map_cons, numsT, itoa_nat, numT_dec (by omega), nums_itoa (fun q hq => h q (List.mem_cons_of_mem _ hq))]
theorem half_some {t : List UInt8} {z : Int} {ps : List Int} (h : readHalfT t = some (z, ps)) : t = halfT z ps ∧ (0 ≤ z ∧ z ≤ 1024) ∧ smallB ps := by
  unfold readHalfT at h
  obtain ⟨first, rest, found, hc⟩ : ∃ a b c, cut t [58] = (a, b, c) := ⟨_, _, _, rfl⟩
  rw [hc] at h
  simp only at h
  split at h
  · cases h
  · rename_i n hn
    cases found with
    | false => simp at h
    | true =>
      simp only [if_true] at h
      obtain ⟨w, r, h1, h2⟩ := split_join rest
      rw [h1] at h
      cases w with
      | cons x y => simp [headT] at h
      | nil =>
        have h' : (match numsT r with | none => none | some l => some ((n : Int), l)) = some (z, ps) := h
        split at h'
        · cases h'
        · rename_i l hl
          injection h' with h'
          simp only [Prod.mk.injEq] at h'
          obtain ⟨rfl, rfl⟩ := h'
          obtain ⟨h3, h4⟩ := nums_some hl
          obtain ⟨h5, h6⟩ := numT_some hn
          have h7 := cut_some hc
          refine ⟨?_, by omega, h4⟩
          rw [h7, h2, h5, h3, halfT, itoa_nat]
          simp
theorem itoa_no {p : Int} (h : 0 ≤ p) {c : UInt8} (hc : c.toNat < 48 ∨ 57 < c.toNat) : c ∉ itoa p := by
  obtain ⟨n, rfl⟩ : ∃ n : Nat, p = n := ⟨p.toNat, by omega⟩
  rw [itoa_nat]
  intro h1
  have := dec_digit n c h1
  omega
theorem half_read {z : Int} {ps : List Int} (hz : 0 ≤ z ∧ z ≤ 1024) (hp : smallB ps) : readHalfT (halfT z ps) = some (z, ps) := by
  have hc : cut (halfT z ps) [58] = (itoa z, wordsT (ps.map itoa), true) := by
    have := cut_at (c := 58) (t := []) (a := itoa z) (b := wordsT (ps.map itoa)) (itoa_no hz.1 (by decide))
    simpa [halfT] using this
  have hs : split (wordsT (ps.map itoa)) [32] = [] :: ps.map itoa := by
    have := split_words (ws := ps.map itoa) (w := []) (fun x hx => by
      rcases List.mem_cons.1 hx with rfl | hx
      · simp
      · obtain ⟨p, hp1, rfl⟩ := List.mem_map.1 hx
        exact itoa_no (hp p hp1).1 (by decide))
    simpa using this
  have hn : numT (itoa z) = some z.toNat := by
    obtain ⟨n, rfl⟩ : ∃ n : Nat, z = n := ⟨z.toNat, by omega⟩
    rw [itoa_nat, numT_dec (by omega)]
    rfl
  unfold readHalfT
  rw [hc]
  simp only
  rw [hn]
  simp only [if_true]
  rw [hs, headT, nums_itoa hp]
  simp only [Option.some.injEq, Prod.mk.injEq, and_true]
  omega
theorem words_no {c : UInt8} (hc : c.toNat < 48 ∨ 57 < c.toNat) (hc2 : c ≠ 32) : ∀ {ps : List Int}, smallB ps → c ∉ wordsT (ps.map itoa)
  | [], _ => by simp [wordsT]
  | p :: ps, h => by
    rw [List.map_cons, wordsT, List.mem_cons, List.mem_append]
    rintro (h1 | h1 | h1)
    · exact hc2 h1
    · exact itoa_no (h p (List.mem_cons_self ..)).1 hc h1
    · exact words_no hc hc2 (fun q hq => h q (List.mem_cons_of_mem _ hq)) h1
theorem half_no {z : Int} {ps : List Int} (hz : 0 ≤ z) (hp : smallB ps) : (59 : UInt8) ∉ halfT z ps := by
  unfold halfT
  rw [List.mem_append, List.mem_cons]
  rintro (h | h | h)
  · exact itoa_no hz (by decide) h
  · exact absurd h (by decide)
  · exact words_no (by decide) (by decide) hp h
theorem small_of {z e : Int} {ps es : List Int} (hd : dRight z ps e es = true) : smallB ps ∧ smallB es := by
  obtain ⟨hz, he, h1, h2⟩ := right_of hd
  exact ⟨fun p hp => by have := rise_mem h1 p hp; omega, fun p hp => by have := rise_mem h2 p hp; omega⟩

/-- What is read has that text. -/
theorem read_some {s : List UInt8} {z : Int} {ps : List Int} {e : Int} {es : List Int} (h : readT s = some (z, ps, e, es)) : s = printT z ps e es ∧ dRight z ps e es = true := by
  unfold readT at h
  obtain ⟨f, r, found, hc⟩ : ∃ a b c, cut s [59, 32] = (a, b, c) := ⟨_, _, _, rfl⟩
  rw [hc] at h
  cases found with
  | false => simp at h
  | true =>
    simp only [if_true] at h
    split at h
    · cases h
    · rename_i z' ps' h1
      split at h
      · cases h
      · rename_i e' es' h2
        split at h
        · rename_i hd
          injection h with h
          simp only [Prod.mk.injEq] at h
          obtain ⟨rfl, rfl, rfl, rfl⟩ := h
          refine ⟨?_, hd⟩
          rw [cut_some hc, (half_some h1).1, (half_some h2).1, printT]
        · cases h
/-- What is printed is read as it. -/
theorem read_print {z e : Int} {ps es : List Int} (hd : dRight z ps e es = true) : readT (printT z ps e es) = some (z, ps, e, es) := by
  obtain ⟨hz, he, -, -⟩ := right_of hd
  obtain ⟨s1, s2⟩ := small_of hd
  have hc : cut (printT z ps e es) [59, 32] = (halfT z ps, halfT e es, true) := cut_at (half_no hz.1 s1)
  unfold readT
  rw [hc]
  simp only [if_true]
  rw [half_read ⟨hz.1, hz.2.1⟩ s1]
  simp only
  rw [half_read ⟨he.1, by omega⟩ s2]
  simp only
  rw [hd]
  rfl

end Go.Proofs.YtmabokmnniiadaaGreatDoor
