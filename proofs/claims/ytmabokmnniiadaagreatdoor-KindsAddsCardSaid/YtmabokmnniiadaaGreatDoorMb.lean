/-
  What is proved: plain laws of kinds' texts: what is printed is parsed, what is parsed has that text. No program in sight. No condition beyond those stated.
-/
import Derived.Test.YtmabokmnniiadaaGreatDoorMa
namespace Go.Proofs.YtmabokmnniiadaaGreatDoor
open Go.RowKit Go.Lib

theorem half_nl {z : Int} {ps : List Int} (hz : 0 ≤ z) (hp : smallB ps) : (10 : UInt8) ∉ halfT z ps := by
  unfold halfT
  intro h
  rcases List.mem_append.1 h with h | h
  · exact itoa_no hz (c := 10) (.inl (by decide)) h
  · rcases List.mem_cons.1 h with h | h
    · exact absurd h (by decide)
    · exact words_no (c := 10) (.inl (by decide)) (by decide) hp h
theorem nl_no {d : DscK} (h : dR d = true) : (10 : UInt8) ∉ dP d := by
  obtain ⟨h1, h2⟩ := small_of h
  obtain ⟨⟨hz, -, -⟩, ⟨he, -, -⟩, -, -⟩ := right_of h
  unfold dP printT
  intro hm
  rcases List.mem_append.1 hm with hm | hm
  · exact half_nl hz h1 hm
  · rcases List.mem_append.1 hm with hm | hm
    · exact absurd hm (by decide)
    · exact half_nl he h2 hm
theorem cut_line {d : DscK} (h : dR d = true) (rest : List UInt8) : cut (dP d ++ 10 :: rest) [10] = (dP d, rest, true) :=
  cut_at (c := 10) (t := []) (b := rest) (nl_no h)

theorem linesT_cons (d : DscK) (l : List DscK) : linesT (d :: l) = dP d ++ 10 :: linesT l := by simp [linesT]

/-- What is printed is parsed. -/
theorem parse_lines : ∀ (l acc : List DscK) (k f : Nat), kRight (acc ++ l) = true → l.length < f → parseK f acc k (linesT l) = (acc ++ l, 0, 0)
  | [], acc, k, f, _, hf => by
    obtain ⟨f, rfl⟩ : ∃ g, f = g + 1 := ⟨f - 1, by simp at hf; omega⟩
    simp [parseK, linesT]
  | d :: l, acc, k, f, hr, hf => by
    obtain ⟨f, rfl⟩ : ∃ g, f = g + 1 := ⟨f - 1, by simp at hf; omega⟩
    obtain ⟨h1, h2, h3⟩ := kRight_iff.1 hr
    have hd : dR d = true := h2 d (by simp)
    have hn : d ∉ acc := fun hm => by
      have := (List.nodup_append.1 h3).2.2 d hm d (by simp)
      exact this rfl
    have hl : ¬ 60 ≤ acc.length := by simp at h1; omega
    unfold parseK
    rw [linesT_cons, if_neg (by simp)]
    simp only [cut_line hd, read_dP hd, Bool.true_eq_false, if_false, if_neg hn, if_neg hl]
    rw [parse_lines l (acc ++ [d]) (k + 1) f (by simpa using hr) (by simp at hf; omega)]
    simp

/-- What is parsed has that text. -/
theorem parse_back : ∀ (f : Nat) (s : List UInt8) (acc l : List DscK) (k n : Nat), kRight acc = true → s.length < f → parseK f acc k s = (l, n, 0) → ∃ r, l = acc ++ r ∧ s = linesT r ∧ n = 0 ∧ kRight l = true
  | 0, s, acc, l, k, n, _, hf, _ => by omega
  | f + 1, s, acc, l, k, n, ha, hf, h => by
    unfold parseK at h
    by_cases hs : s = []
    · rw [if_pos hs] at h
      simp only [Prod.mk.injEq] at h
      obtain ⟨rfl, rfl, -⟩ := h
      exact ⟨[], by simp, by rw [hs]; rfl, rfl, ha⟩
    · rw [if_neg hs] at h
      obtain ⟨a, b, e, hc⟩ : ∃ a b e, cut s [10] = (a, b, e) := ⟨_, _, _, rfl⟩
      simp only [hc] at h
      cases e with
      | false => simp at h
      | true =>
        have hsp := cut_some hc
        simp only [Bool.true_eq_false, if_false] at h
        cases hr : readT a with
        | none => rw [hr] at h; simp at h
        | some d =>
          rw [hr] at h
          simp only at h
          obtain ⟨rfl, hd⟩ := read_dR hr
          by_cases hm : d ∈ acc
          · rw [if_pos hm] at h; simp at h
          · rw [if_neg hm] at h
            by_cases hl : 60 ≤ acc.length
            · rw [if_pos hl] at h; simp at h
            · rw [if_neg hl] at h
              obtain ⟨h1, h2, h3⟩ := kRight_iff.1 ha
              have ha2 : kRight (acc ++ [d]) = true := kRight_iff.2 ⟨by simp; omega, fun x hx => by
                rcases List.mem_append.1 hx with hx | hx
                · exact h2 x hx
                · rw [List.mem_singleton.1 hx]; exact hd, List.nodup_append.2 ⟨h3, by simp, fun x hx y hy => by rw [List.mem_singleton.1 hy]; exact fun e => hm (e ▸ hx)⟩⟩
              obtain ⟨r, rfl, rfl, rfl, h6⟩ := parse_back f b (acc ++ [d]) l (k + 1) n ha2 (by rw [hsp] at hf; simp at hf; omega) h
              refine ⟨d :: r, by simp, ?_, rfl, h6⟩
              rw [hsp, linesT_cons]
              simp
/-- What is refused is told with a line. -/
theorem parse_bad : ∀ (f : Nat) (s : List UInt8) (acc l : List DscK) (k n c : Nat), parseK f acc k s = (l, n, c) → c ≠ 0 → l = [] ∧ 0 < n
  | 0, s, acc, l, k, n, c, h, hc => by
    simp only [parseK, Prod.mk.injEq] at h
    exact absurd h.2.2.symm hc
  | f + 1, s, acc, l, k, n, c, h, hc => by
    unfold parseK at h
    split at h
    · simp only [Prod.mk.injEq] at h
      exact absurd h.2.2.symm hc
    · simp only at h
      split at h
      · simp only [Prod.mk.injEq] at h
        exact ⟨h.1.symm, by omega⟩
      · split at h
        · simp only [Prod.mk.injEq] at h
          exact ⟨h.1.symm, by omega⟩
        · split at h
          · simp only [Prod.mk.injEq] at h
            exact ⟨h.1.symm, by omega⟩
          · split at h
            · simp only [Prod.mk.injEq] at h
              exact ⟨h.1.symm, by omega⟩
            · exact parse_bad f _ _ l (k + 1) n c h hc
end Go.Proofs.YtmabokmnniiadaaGreatDoor
