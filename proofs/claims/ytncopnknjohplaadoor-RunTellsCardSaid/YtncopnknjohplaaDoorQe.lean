/-
  What is proved: contracts of Same of the reference of layer 8, and of All of the reference of layer 9. No condition beyond those stated.
-/
import Derived.Test.YtncopnknjohplaaDoorQd
namespace Go.Proofs.YtncopnknjohplaaDoor
open Go.RowKit Go.Shelf

theorem take_eq_runs {xs ys : List (Nat × Nat)} {k : Nat} {x y : Nat × Nat} (hx : xs[k]? = some x) (hy : ys[k]? = some y) (h : xs.take k = ys.take k) : xs.take (k + 1) = ys.take (k + 1) ↔ x = y := by
  obtain ⟨h1, rfl⟩ := List.getElem?_eq_some_iff.1 hx
  obtain ⟨h2, rfl⟩ := List.getElem?_eq_some_iff.1 hy
  rw [List.take_succ_eq_append_getElem h1, List.take_succ_eq_append_getElem h2, h]
  constructor
  · intro e
    simpa using List.append_cancel_left e
  · intro e
    rw [e]

set_option maxRecDepth 100000 in
set_option maxHeartbeats 1000000 in
/-- Are two lists of runs the same? -/
theorem sameh_any (A B : Option Addr) (n c m d : Nat) (xs ys : List (Nat × Nat)) (w : World) (hA : HRow w A n xs) (hB : HRow w B m ys) (hn : n ≤ 1000) (hm : m ≤ 1000) :
    Calls Tryd.prog 27 #[.slice A n c, .slice B m d] w fun e w' => e = .returned (.bool (decide (xs = ys))) ∧ Below w.heap.size w w' := by
  have hx := hA.1
  have hy := hB.1
  by_cases he : n = m
  · subst he
    have hq : ((n : Int) != (n : Int)) = false := by simp
    have HA := Lib.hid hA
    have HB := Lib.hid hB
    have HX := Lib.hid hx
    have HY := Lib.hid hy
    clear hA hB hx hy
    go_enter Tryd.func27, Tryd.ntmps27
    go_wp2
    go_loopw [5] (fun i wr => ∃ k : Nat, k ≤ n ∧ i = .int .i64 k ∧ xs.take k = ys.take k ∧ Below w.heap.size w wr) (fun i _ => n - (intOf i).toNat)
    case atStart => exact ⟨0, Nat.zero_le _, rfl, rfl, Below.refl _ _⟩
    case round =>
      obtain ⟨k, hk, rfl, ht, hb⟩ := hrel
      have HT := Lib.hid ht
      have Hb := Lib.hid hb
      clear ht hb
      by_cases hlt : k < n
      · obtain ⟨b1, o1, p1, q1, rfl, c1, d1, e1⟩ := hole_at (HA.out.ext Hb.out) hlt
        obtain ⟨b2, o2, p2, q2, rfl, c2, d2, e2⟩ := hole_at (HB.out.ext Hb.out) hlt
        have E1 := Lib.hid e1
        have E2 := Lib.hid e2
        have hte := take_eq_runs e1 e2 HT.out
        have HTE := Lib.hid hte
        clear e1 e2 hte
        have t1 := ext_cell c1
        have t2 := ext_cell c2
        have t3 := ext_cell d1
        have t4 := ext_cell d2
        clear c1 c2 d1 d2
        by_cases hpp : p1 = p2
        · subst hpp
          by_cases hqq : q1 = q2
          · subst hqq
            go_wp2
            refine wp_region_plan [(0, true), (1, true), (2, true), (3, true), (4, true), (5, true), (6, true), (7, true), (8, true)] (by kernel_rfl) (by kernel_rfl) ?_
            repeat (first | (refine plan_skip rfl rfl ?_; go_frame) | (refine plan_soft rfl rfl (fun K hK => ?_); go_simp; first | (refine hK _ ?_; clear hK K) | (apply Exists.intro; refine ⟨fun x => ?_, hK _ ?_⟩; (· (fail)); clear hK K; try go_frame)))
            refine plan_nil ?_; intro w1 h0b; have Hb1 := Lib.hid h0b; clear h0b
            clear t1 t2 t3 t4
            go_wp2
            go_roundw
            case rel => exact ⟨k + 1, by omega, by go_num, (by first | exact HTE.out.2 rfl | (rw [HTE.out]; trivial)), below_le Hb.out Hb1.out⟩
            case measure => simp [intOf]; omega
          · have HNE : Hid (¬ (p1, q1) = (p1, q2)) := Lib.hid (fun e => hqq (by injection e))
            have hqi : ¬ (q1 : Int) = (q2 : Int) := by omega
            go_wp2
            refine wp_region_plan [(0, true), (1, true), (2, true), (3, true), (4, true), (5, true), (6, true), (7, true), (8, true)] (by kernel_rfl) (by kernel_rfl) ?_
            repeat (first | (refine plan_skip rfl rfl ?_; go_frame) | (refine plan_soft rfl rfl (fun K hK => ?_); go_simp; first | (refine hK _ ?_; clear hK K) | (apply Exists.intro; refine ⟨fun x => ?_, hK _ ?_⟩; (· (fail)); clear hK K; try go_frame)))
            refine plan_nil ?_; intro w1 h0b; have Hb1 := Lib.hid h0b; clear h0b
            clear t1 t2 t3 t4
            go_wp2
            go_ret
            refine ⟨ret_bool ?_, below_le Hb.out Hb1.out⟩
            have hne : ¬ xs = ys := fun e => HNE.out (by
              have h1 := E1.out
              rw [e, E2.out] at h1
              exact (Option.some.inj h1).symm)
            simp [hne]
        · have HNE : Hid (¬ (p1, q1) = (p2, q2)) := Lib.hid (fun e => hpp (by injection e))
          have hpi : ¬ (p1 : Int) = (p2 : Int) := by omega
          go_wp2
          refine wp_region_plan [(0, true), (1, true), (2, true), (3, true), (4, true), (5, true), (6, true), (7, true), (8, true)] (by kernel_rfl) (by kernel_rfl) ?_
          repeat (first | (refine plan_skip rfl rfl ?_; go_frame) | (refine plan_soft rfl rfl (fun K hK => ?_); go_simp; first | (refine hK _ ?_; clear hK K) | (apply Exists.intro; refine ⟨fun x => ?_, hK _ ?_⟩; (· (fail)); clear hK K; try go_frame)))
          refine plan_nil ?_; intro w1 h0b; have Hb1 := Lib.hid h0b; clear h0b
          clear t1 t2 t3 t4
          go_wp2
          go_ret
          refine ⟨ret_bool ?_, below_le Hb.out Hb1.out⟩
          have hne : ¬ xs = ys := fun e => HNE.out (by
            have h1 := E1.out
            rw [e, E2.out] at h1
            exact (Option.some.inj h1).symm)
          simp [hne]
      · go_wp2
        go_ret
        refine ⟨ret_bool ?_, Hb.out⟩
        have h1 := HT.out
        rw [List.take_of_length_le (by have := HX.out; omega), List.take_of_length_le (by have := HY.out; omega)] at h1
        simp [h1]
  · have hq : ((n : Int) != (m : Int)) = true := by simp; omega
    have hne : ¬ xs = ys := fun e => he (by rw [← hx, ← hy, e])
    have HN := Lib.hid hne
    clear hne he hx hy hA hB
    go_enter Tryd.func27, Tryd.ntmps27
    go_wp2
    go_ret
    exact ⟨ret_bool (by simp [HN.out]), Below.refl _ _⟩

/-- The runs that begin below a block. -/
def runsTo (l : List Int) (k : Nat) : List (Nat × Nat) := (List.range k).filterMap (startAt l)
theorem runs_to_succ (l : List Int) (k : Nat) : runsTo l (k + 1) = runsTo l k ++ (startAt l k).toList := by
  unfold runsTo
  rw [List.range_succ, List.filterMap_append]
  congr 1
theorem runs_to_all (l : List Int) : runsTo l l.length = runsL l := by
  unfold runsTo runsL runsFrom
  rw [List.range_eq_range']
  rfl
theorem runs_to_le (l : List Int) (k : Nat) : (runsTo l k).length ≤ k := by
  have := List.length_filterMap_le (startAt l) (List.range k)
  simpa [runsTo] using this
theorem start_free {l : List Int} {k : Nat} (hk : k < l.length) : startAt l k = if 0 < freeN l k ∧ (k = 0 ∨ l.getD (k - 1) 0 ≠ 0) then some (k, k + freeN l k) else none := by
  unfold startAt
  by_cases h0 : l.getD k 0 = 0
  · have h1 := free_succ hk h0
    by_cases h2 : k = 0 ∨ l.getD (k - 1) 0 ≠ 0
    · rw [is_start hk h0 h2, if_pos rfl, if_pos ⟨by omega, h2⟩]
    · rw [not_start' (fun e => h2 (.inl e)) (Classical.byContradiction fun e => h2 (.inr e)), if_neg (by simp), if_neg (fun h => h2 h.2)]
  · rw [not_start h0, if_neg (by simp), if_neg (by rw [free_zero hk h0]; omega)]

set_option maxRecDepth 100000 in
set_option maxHeartbeats 1000000 in
/-- The reference's All. -/
theorem refall_any (A : Option Addr) (m c : Nat) (l : List Int) (w : World) (hR : Row w A m (l.map Iv)) (hm : m ≤ 1000) :
    Calls Tryd.prog 21 #[.slice A m c] w (GivesRuns w (codeA l) (resA l)) := by
  have hl := hR.1
  simp at hl
  have HR := Lib.hid hR
  have HL := Lib.hid hl
  obtain ⟨inf, hinf, hi0, hi1, hi2⟩ := info_parts hole_info
  clear hR hl
  cases hr : rightL l
  · rw [show codeA l = 90 by simp [codeA, hr], show resA l = [] by simp [resA, hr]]
    have Hr := Lib.hid hr
    clear hr
    go_enter Tryd.func21, Tryd.ntmps21
    go_wp2_with fail
    have h := refright_any A m c l w HR.out hm
    rw [Hr.out] at h
    refine h.mono ?_
    clear h
    rintro e w' ⟨rfl, rfl⟩
    go_wp2
    exact bodyPost_ret (v := .tuple #[.slice none 0 0, .int .i64 90]) (by simp [results, Tryd.results21, go_sem]) rfl ⟨_, _, _, rfl, HRow.none_, Below.refl _ _⟩
  · rw [show codeA l = 0 by simp [codeA, hr], show resA l = runsL l by simp [resA, hr]]
    have Hr := Lib.hid hr
    clear hr
    go_enter Tryd.func21, Tryd.ntmps21
    go_wp2_with fail
    have h := refright_any A m c l w HR.out hm
    rw [Hr.out] at h
    refine h.mono ?_
    clear h
    rintro e w' ⟨rfl, rfl⟩
    go_wp2
    go_loopw [4, 5] (fun s i wr => ∃ k : Nat, k ≤ m ∧ i = .int .i64 k ∧ wr.ownsRow w.heap.size 42 2 s (runsTo l k).length (flatR (runsTo l k)) ∧ Below w.heap.size w wr) (fun _ i _ => m - (intOf i).toNat)
    case atStart => exact ⟨0, Nat.zero_le _, rfl, ⟨rfl, .inl ⟨rfl, rfl⟩⟩, Below.refl _ _⟩
    case round =>
      obtain ⟨k, hk, rfl, hown, hb⟩ := hrel
      have HO := Lib.hid hown
      have Hb := Lib.hid hb
      have hsz := hb.size
      have hrl := runs_to_le l k
      clear hown hb
      by_cases hlt : k < m
      · have h := free_any A m c l k wr (HR.out.ext Hb.out) hm (by omega)
        have hsu := runs_to_succ l k
        have hsf := start_free (l := l) (k := k) (by have := HL.out; omega)
        have hfl := free_le l k (by have := HL.out; omega)
        have hlm := HL.out
        generalize freeN l k = q at *
        have hqm : k + q ≤ m := by omega
        have HH := Lib.hid h
        have HSU := Lib.hid hsu
        have HSF := Lib.hid hsf
        clear h hsu hsf hfl hlm
        go_wp2_with fail
        refine HH.out.mono ?_
        rintro e w' ⟨rfl, rfl⟩
        have skip : startAt l k = none → wr.ownsRow w.heap.size 42 2 u4 (runsTo l (k + 1)).length (flatR (runsTo l (k + 1))) := fun h => by
          rw [HSU.out, h]
          simpa using HO.out
        have SKIP := Lib.hid skip
        clear skip
        by_cases hq0 : q = 0
        · subst hq0
          have HN : Hid (startAt l k = none) := Lib.hid (by rw [HSF.out, if_neg (by omega)])
          simp only [Int.natCast_zero]
          go_wp2
          go_roundw
          case rel => exact ⟨k + 1, by omega, by go_num, SKIP.out HN.out, Hb.out⟩
          case measure => simp [intOf]; omega
        · have hq1 : decide (0 < (q : Int)) = true := by simp; omega
          have hq2 : decide (0 < q) = true := by simp; omega
          have hwa : (k : Int) + (q : Int) ≤ 1000 := by omega
          by_cases hk0 : k = 0
          · have HN : Hid (startAt l k = some (k, k + q)) := Lib.hid (by rw [HSF.out, if_pos ⟨by omega, .inl hk0⟩])
            have hkz : ((k : Int) == 0) = true := by simp; omega
            clear hk0
            go_wp2_with (at_builtin; refine stop_here ?_)
            intro _
            refine (wpList_append_own_at _ rfl (.tmp 33) (.tmp 39) 37 rfl w.heap.size 42 inf (.agg #[.int .i64 0, .int .i64 0]) 2 16 Tryd.underlying37 hinf hi0 hi1 hi2 rfl (by omega) u4 (runsTo l k).length (flatR (runsTo l k)) rfl ?own ⟨wr.heap.size, 0, none⟩ 1 1 [.int .i64 (k : Int), .int .i64 ((k : Int) + (q : Int))] rfl rfl ?news ?one ?b1 ?b2 ?b3 ?_)
            case own => exact HO.out.alloc _
            case news =>
              intro j u hu
              match j with
              | 0 => simp [Addr.add, go_sem] at hu ⊢; exact hu
              | 1 => simp [Addr.add, go_sem] at hu ⊢; exact hu
              | j + 2 => simp at hu
            case one => intro u hu; simp at hu; rcases hu with rfl | rfl <;> rfl
            case b1 => unfold maxLen; omega
            case b2 => omega
            case b3 => simp; omega
            intro v' w3 hown hgr _ hat
            have hbk := below_box wr (.cells #[.int .i64 (k : Int), .int .i64 ((k : Int) + (q : Int))] 42)
            have hb3 : Below w.heap.size w w3 := (below_le Hb.out hbk).trans ((Below.refl _ _).grown hgr (by simp; omega) (fun b e => by
              rcases HO.out.2 with ⟨rfl, _⟩ | ⟨g', cap, cur, rfl, hb', _⟩
              · cases e
              · simp [Value.ownBlock] at e
                omega))
            have hnew : w3.ownsRow w.heap.size 42 2 v' (runsTo l (k + 1)).length (flatR (runsTo l (k + 1))) := by
              rw [HSU.out, HN.out]
              have h9 : flatR (runsTo l k ++ (some (k, k + q)).toList) = flatR (runsTo l k) ++ [.int .i64 (k : Int), .int .i64 ((k : Int) + (q : Int))] := by
                have := flat_snoc (runsTo l k) (k, k + q)
                simpa using this
              rw [h9]
              simpa using hown
            have HNW := Lib.hid hnew
            have HB3 := Lib.hid hb3
            clear hown hgr hat hbk hb3 hnew
            go_wp2
            go_roundw
            case rel => exact ⟨k + 1, by omega, by go_num, HNW.out, HB3.out⟩
            case measure => simp [intOf]; omega
          · obtain ⟨b', off', x, rfl, hcx, hx, -⟩ := num_at (k := k - 1) (HR.out.ext Hb.out) (by omega)
            have hkz : ((k : Int) == 0) = false := by simp; omega
            have hk1 : 1 ≤ k := by omega
            have hsub : ((k : Int) - 1).toNat = k - 1 := by omega
            have hkn : ((k : Int) - 1) < m := by omega
            by_cases hx0 : x = 0
            · have HN : Hid (startAt l k = none) := Lib.hid (by rw [HSF.out, if_neg (by rw [hx]; omega)])
              have hd : (x != 0) = false := by simpa using hx0
              clear hx hx0 hk0
              go_wp2
              go_roundw
              case rel => exact ⟨k + 1, by omega, by go_num, SKIP.out HN.out, Hb.out⟩
              case measure => simp [intOf]; omega
            · have HN : Hid (startAt l k = some (k, k + q)) := Lib.hid (by rw [HSF.out, if_pos ⟨by omega, .inr (by rw [hx]; exact hx0)⟩])
              have hd : (x != 0) = true := by simpa using hx0
              clear hx hx0 hk0
              go_wp2_with (at_builtin; refine stop_here ?_)
              intro _
              refine (wpList_append_own_at _ rfl (.tmp 33) (.tmp 39) 37 rfl w.heap.size 42 inf (.agg #[.int .i64 0, .int .i64 0]) 2 16 Tryd.underlying37 hinf hi0 hi1 hi2 rfl (by omega) u4 (runsTo l k).length (flatR (runsTo l k)) rfl ?own ⟨wr.heap.size, 0, none⟩ 1 1 [.int .i64 (k : Int), .int .i64 ((k : Int) + (q : Int))] rfl rfl ?news ?one ?b1 ?b2 ?b3 ?_)
              case own => exact HO.out.alloc _
              case news =>
                intro j u hu
                match j with
                | 0 => simp [Addr.add, go_sem] at hu ⊢; exact hu
                | 1 => simp [Addr.add, go_sem] at hu ⊢; exact hu
                | j + 2 => simp at hu
              case one => intro u hu; simp at hu; rcases hu with rfl | rfl <;> rfl
              case b1 => unfold maxLen; omega
              case b2 => omega
              case b3 => simp; omega
              intro v' w3 hown hgr _ hat
              have hbk := below_box wr (.cells #[.int .i64 (k : Int), .int .i64 ((k : Int) + (q : Int))] 42)
              have hb3 : Below w.heap.size w w3 := (below_le Hb.out hbk).trans ((Below.refl _ _).grown hgr (by simp; omega) (fun b e => by
                rcases HO.out.2 with ⟨rfl, _⟩ | ⟨g', cap, cur, rfl, hb', _⟩
                · cases e
                · simp [Value.ownBlock] at e
                  omega))
              have hnew : w3.ownsRow w.heap.size 42 2 v' (runsTo l (k + 1)).length (flatR (runsTo l (k + 1))) := by
                rw [HSU.out, HN.out]
                have h9 : flatR (runsTo l k ++ (some (k, k + q)).toList) = flatR (runsTo l k) ++ [.int .i64 (k : Int), .int .i64 ((k : Int) + (q : Int))] := by
                  have := flat_snoc (runsTo l k) (k, k + q)
                  simpa using this
                rw [h9]
                simpa using hown
              have HNW := Lib.hid hnew
              have HB3 := Lib.hid hb3
              clear hown hgr hat hbk hb3 hnew
              go_wp2
              go_roundw
              case rel => exact ⟨k + 1, by omega, by go_num, HNW.out, HB3.out⟩
              case measure => simp [intOf]; omega
      · have hke : k = l.length := by have := HL.out; omega
        have hown := HO.out
        rw [hke, runs_to_all] at hown
        obtain ⟨A', c', rfl, hrow⟩ := hrow_of_owns hown
        have HW := Lib.hid hrow
        clear hown hrow hke
        go_wp2
        exact bodyPost_ret (v := .tuple #[.slice A' (runsL l).length c', .int .i64 0]) (by simp [results, Tryd.results21, go_sem]) rfl ⟨_, _, _, rfl, HW.out, Hb.out⟩

end Go.Proofs.YtncopnknjohplaaDoor
