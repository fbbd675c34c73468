/-
  What is proved: the contract of readHalf of package desc. No condition beyond those stated.
-/
import Derived.Test.YtmabokmnniiadaaGreatDoorCn
import Derived.Test.YtmabokmnniiadaaGreatDoorShelf
import Derived.Lib.SplitLaws
namespace Go.Proofs.YtmabokmnniiadaaGreatDoor
open Go.RowKit
open Go.Lib (split splitK splitB countB splitB_data splitB_all)

/-- The library's own variable holds some number. -/
def MLen (w : World) : Prop := ∃ m, w.cell? ⟨1, 0, none⟩ = some (.int .i64 m)
theorem MLen.ext {w w' : World} (h : MLen w) (hb : Below w.heap.size w w') : MLen w' := by
  obtain ⟨m, h⟩ := h
  exact ⟨m, cell_ext hb h⟩

theorem cut_le (s sep : List UInt8) : (Lib.cut s sep).1.length ≤ s.length ∧ (Lib.cut s sep).2.1.length ≤ s.length := by
  unfold Lib.cut
  split <;> simp <;> omega
theorem size_list (l : List UInt8) : (⟨l.toArray⟩ : ByteArray).size = l.length := by simp [ByteArray.size]

/-- A number, a list of numbers, and whether they were read. -/
def GivesHalf (w : World) (o : Option (Int × List Int)) (x : Ending) (w' : World) : Prop :=
  ∃ A m c, x = .returned (.tuple #[.int .i64 ((o.map (·.1)).getD 0), .slice A m c, .bool o.isSome]) ∧ Row w' A m (((o.map (·.2)).getD []).map Iv) ∧ (∀ a, A = some a → w.heap.size ≤ a.block) ∧ Below w.heap.size w w'

theorem nums_step {ws : List (List UInt8)} {k : Nat} {x : List UInt8} {acc : List Int} {o : Option (List Int)} (hk : ws[k]? = some x) (h : o = (numsT (ws.drop k)).map (acc ++ ·)) :
    (numT x = none → o = none) ∧ (∀ n, numT x = some n → o = (numsT (ws.drop (k + 1))).map ((acc ++ [(n : Int)]) ++ ·)) := by
  obtain ⟨hk1, hk2⟩ := List.getElem?_eq_some_iff.1 hk
  rw [List.drop_eq_getElem_cons hk1, hk2, numsT] at h
  constructor
  · intro e
    rw [e] at h
    exact h
  · intro n e
    rw [e] at h
    rw [h]
    cases numsT (ws.drop (k + 1)) <;> simp

theorem words_mem {ys : List (List UInt8)} {y : List UInt8} (h : y ∈ ys) : y.length ≤ (wordsT ys).length := by
  induction ys with
  | nil => cases h
  | cons x r ih =>
    rw [wordsT, List.length_cons, List.length_append]
    rcases List.mem_cons.1 h with rfl | h
    · omega
    · have := ih h; omega
theorem words_len (ys : List (List UInt8)) : ys.length ≤ (wordsT ys).length := by
  induction ys with
  | nil => simp [wordsT]
  | cons x r ih =>
    rw [wordsT, List.length_cons, List.length_cons, List.length_append]
    omega
theorem empty_bytes {x : ByteArray} : x.toList.isEmpty = x.data.toList.isEmpty := by rw [ByteArray.toList_eq]
theorem stop_now {p : Prop} (h : True → p) : p := h trivial
theorem num_info : (Tryz.prog.info? 3).map (fun i => (i.zero, i.size, i.bytes)) = some (some (.int .i64 0), 1, 8) := by kernel_rfl

set_option maxRecDepth 100000 in
set_option maxHeartbeats 4000000 in
theorem readHalf_any (s : ByteArray) (w : World) (hs : s.size ≤ 1000) (hM : MLen w) :
    Calls Tryz.prog 80 #[.string s] w (GivesHalf w (readHalfT s.data.toList)) := by
  obtain ⟨ml, hml⟩ := hM
  have hcall := Tryz.strings_Cut s ⟨#[58]⟩ ml w (by omega) hml
  have hcl := cut_le s.data.toList [58]
  have hsl : s.data.toList.length = s.size := by simp
  obtain ⟨a, b, fd, hc⟩ : ∃ a b c, Lib.cut s.data.toList [58] = (a, b, c) := ⟨_, _, _, rfl⟩
  have hrd : readHalfT s.data.toList = match numT a with | none => none | some n => if fd then headT n (split b [32]) else none := by unfold readHalfT; rw [hc]; rfl
  change Calls _ _ _ _ (fun e w' => e = .returned (.tuple #[.string ⟨(Lib.cut s.data.toList [58]).1.toArray⟩, .string ⟨(Lib.cut s.data.toList [58]).2.1.toArray⟩, .bool (Lib.cut s.data.toList [58]).2.2]) ∧ ∃ n, w' = w.drewN n) at hcall
  rw [hc] at hcall hcl
  dsimp only at hcall hcl
  have hnum : ∀ W, Calls Tryz.prog 87 #[.string ⟨a.toArray⟩] W (GivesNum W (numT a)) := fun W => numeral_any ⟨a.toArray⟩ W (by rw [size_list]; omega)
  generalize numT a = oa at *
  generalize readHalfT s.data.toList = o at *
  have HC := Lib.hid hcall
  have HCL := Lib.hid hcl
  have HRD := Lib.hid hrd
  have HNU := Lib.hid hnum
  have HM := Lib.hid hml
  have HSL := Lib.hid hsl
  clear hcall hcl hrd hnum hml hsl hc
  go_enter Tryz.func80, Tryz.ntmps80
  go_wp2_with fail
  refine HC.out.mono ?_
  rintro x w' ⟨rfl, nd, rfl⟩
  have hb1 := below_drewN (Below.refl w.heap.size w) nd
  have hn1 := HNU.out (w.drewN nd)
  generalize w.drewN nd = w1 at *
  have HB := Lib.hid hb1
  have HN1 := Lib.hid hn1
  clear hb1 hn1 HC HNU
  go_wp2_with fail
  refine HN1.out.mono ?_
  rintro x w2 ⟨rfl, hb2⟩
  replace HB := Lib.hid (below_le HB.out hb2)
  clear hb2 HN1
  have hbad : ∀ (W : World), o = none → Below w.heap.size w W → GivesHalf w o (.returned (.tuple #[.int .i64 0, .slice none 0 0, .bool false])) W := fun W h hb => by
    rw [h]
    exact ⟨none, 0, 0, rfl, Row.none_, (fun _ h => by cases h), hb⟩
  have HBAD := Lib.hid hbad
  clear hbad
  cases oa with
  | none =>
    have ho : o = none := HRD.out
    have HO := Lib.hid ho
    clear ho
    cases fd
    all_goals
      go_wp2
      exact bodyPost_ret (v := .tuple #[.int .i64 0, .slice none 0 0, .bool false]) (by simp [results, Tryz.results80, go_sem]) rfl (HBAD.out _ HO.out HB.out)
  | some n =>
    cases fd with
    | false =>
      have ho : o = none := HRD.out
      have HO := Lib.hid ho
      clear ho
      go_wp2
      exact bodyPost_ret (v := .tuple #[.int .i64 0, .slice none 0 0, .bool false]) (by simp [results, Tryz.results80, go_sem]) rfl (HBAD.out _ HO.out HB.out)
    | true =>
      have ho : o = headT n (split b [32]) := HRD.out
      obtain ⟨w0, ys, hsp, hjo⟩ := split_join b
      rw [hsp] at ho
      have hspl := splitB_data ⟨#[32]⟩ 0 (countB ⟨b.toArray⟩ ⟨#[32]⟩) ⟨b.toArray⟩
      have hspa := splitB_all ⟨#[32]⟩ (by decide) 0 _ ⟨b.toArray⟩ rfl
      have hcall := Tryz.strings_Split ⟨b.toArray⟩ ⟨#[32]⟩ ml w2 (by rw [size_list]; have := HCL.out.2; have := HSL.out; omega) (cell_ext HB.out HM.out) (by decide)
      have hsp2 : splitK [32] 0 (countB ⟨b.toArray⟩ ⟨#[32]⟩) b = w0 :: ys := hsp
      change _ = splitK [32] 0 (countB ⟨b.toArray⟩ ⟨#[32]⟩) b at hspl
      rw [hsp2] at hspl
      generalize splitB ⟨#[32]⟩ 0 (countB ⟨b.toArray⟩ ⟨#[32]⟩) ⟨b.toArray⟩ = ws at *
      generalize countB ⟨b.toArray⟩ ⟨#[32]⟩ = K at *
      cases ws with
      | nil => simp at hspl
      | cons x0 xs =>
        simp only [List.map_cons, List.cons.injEq] at hspl
        obtain ⟨hx0, hxs⟩ := hspl
        have hK : xs.length = K := by simpa using hspa
        have HC2 := Lib.hid hcall
        have HO := Lib.hid ho
        have HX0 := Lib.hid hx0
        have HXS := Lib.hid hxs
        have HJO := Lib.hid hjo
        have HK := Lib.hid hK
        clear hcall ho hsp hspa hsp2 hx0 hxs hjo hK HRD
        go_wp2_with fail
        refine HC2.out.mono ?_
        rintro x w' ⟨rfl, rfl⟩
        have hbl : Blk (w2.alloc (.cells ((x0 :: xs).map Value.string).toArray 9)) w2.heap.size 9 ((x0 :: xs).map Value.string).toArray := Blk.new _ _ _
        have hbx := below_box w2 (.cells ((x0 :: xs).map Value.string).toArray 9)
        have e0 : (w2.alloc (.cells ((x0 :: xs).map Value.string).toArray 9)).cell? ⟨w2.heap.size, 0, none⟩ = some (.string x0) := hbl.at_ (i := 0) (by simp)
        have hBL := Lib.hid hbl
        have HB3 := Lib.hid (below_le HB.out hbx)
        clear hbl hbx HC2
        generalize w2.alloc (.cells ((x0 :: xs).map Value.string).toArray 9) = W3 at *
        cases w0 with
        | cons c r =>
          have he : x0.toList.isEmpty = false := by rw [empty_bytes, HX0.out]; rfl
          have ho : o = none := HO.out
          have HO2 := Lib.hid ho
          clear ho
          go_wp2
          exact bodyPost_ret (v := .tuple #[.int .i64 0, .slice none 0 0, .bool false]) (by simp [results, Tryz.results80, go_sem]) rfl (HBAD.out _ HO2.out HB3.out)
        | nil =>
          have he : x0.toList.isEmpty = true := by rw [empty_bytes, HX0.out]; rfl
          have he2 : x0.toList = [] := by rw [ByteArray.toList_eq, HX0.out]
          have ho : o = match numsT ys with | none => none | some l => some ((n : Int), l) := HO.out
          have HO2 := Lib.hid ho
          have hyl : K ≤ 1000 := by
            have h1 := words_len ys
            have h2 := HJO.out
            have h3 := congrArg List.length h2
            have h4 := HCL.out.2
            have h5 := HSL.out
            have h6 := HK.out
            have h7 := congrArg List.length HXS.out
            simp at h3 h7
            omega
          have hyb : ∀ x ∈ xs, x.size ≤ 1000 := fun x hx => by
            have h1 : x.data.toList ∈ ys := by rw [← HXS.out]; exact List.mem_map_of_mem hx
            have h2 := words_mem h1
            have h3 := congrArg List.length HJO.out
            have h4 := HCL.out.2
            have h5 := HSL.out
            have h8 : x.data.toList.length = x.size := by simp
            simp at h3
            omega
          have HYB := Lib.hid hyb
          clear ho HO hyb
          by_cases hK0 : K = 0
          · have hys : ys = [] := by
              have h6 := HK.out
              have h7 := congrArg List.length HXS.out
              simp at h7
              exact List.eq_nil_of_length_eq_zero (by omega)
            have ho : o = some ((n : Int), []) := by rw [HO2.out, hys]; rfl
            have HO3 := Lib.hid ho
            clear ho hys
            subst hK0
            go_wp2
            go_loop [11, 42] (fun v i => v = .slice none 0 0 ∧ i = .int .i64 0) (fun _ _ => 0)
            case atStart => exact ⟨rfl, rfl⟩
            case round =>
              obtain ⟨rfl, rfl⟩ := hrel
              go_wp2
              refine bodyPost_ret (v := .tuple #[.int .i64 n, .slice none 0 0, .bool true]) (by simp [results, Tryz.results80, go_sem]) rfl ?_
              rw [HO3.out]
              exact ⟨none, 0, 0, rfl, Row.none_, (fun _ h => by cases h), HB3.out⟩
          · have hK1 : 1 ≤ K := by omega
            have hcap : ¬ (K + 1 = 1) := by omega
            obtain ⟨i, hi, hz0, hz1, hz2⟩ := info_parts num_info
            have HK0 := Lib.hid hK0
            clear hK0 e0
            have e0 : W3.cell? ⟨w2.heap.size, 0, none⟩ = some (.string x0) := hBL.out.at_ (i := 0) (by simp)
            go_wp2
            go_loopw [11, 42] (fun v i wr => ∃ (k : Nat) (acc : List Int), k ≤ K ∧ i = .int .i64 k ∧ acc.length = k ∧ wr.ownsRow W3.heap.size 3 1 v acc.length (acc.map Iv) ∧ numsT ys = (numsT (ys.drop k)).map (acc ++ ·) ∧ Below W3.heap.size W3 wr) (fun _ i _ => K - (intOf i).toNat)
            case atStart => exact ⟨0, [], Nat.zero_le _, rfl, rfl, ⟨rfl, .inl ⟨rfl, rfl⟩⟩, by rw [List.drop_zero]; cases numsT ys <;> rfl, Below.refl _ _⟩
            case round =>
              obtain ⟨k, acc, hk, rfl, hal, hown, hns, hb⟩ := hrel
              by_cases hlt : k < K
              · have hxk : k < xs.length := by have := HK.out; omega
                have hc : wr.cell? ⟨w2.heap.size, 1 + k, none⟩ = some (.string xs[k]) := (hBL.out.ext hb).at_ (i := 1 + k) (by simp [show 1 + k = k + 1 by omega, hxk])
                have hyk : ys[k]? = some xs[k].data.toList := by rw [← HXS.out, List.getElem?_map, List.getElem?_eq_getElem hxk]; rfl
                have hstep := nums_step hyk hns
                have hcall := numeral_any xs[k] wr (by have := HYB.out _ (List.getElem_mem hxk); omega)
                generalize xs[k] = x at *
                have HC4 := Lib.hid hcall
                have HST := Lib.hid hstep
                have HO4 := Lib.hid hown
                have Hb := Lib.hid hb
                have HAL := Lib.hid hal
                have hsz := hb.size
                clear hcall hstep hown hb hns hyk hal
                go_wp2_with fail
                refine HC4.out.mono ?_
                rintro x9 w4 ⟨rfl, hb4⟩
                cases hnx : numT x.data.toList with
                | none =>
                  have hno := HST.out.1 hnx
                  have ho : o = none := by rw [HO2.out, hno]
                  have HO5 := Lib.hid ho
                  have HB4 := Lib.hid (below_le HB3.out (below_le Hb.out hb4))
                  clear hnx hno ho hb4 HC4
                  go_wp2
                  exact bodyPost_ret (v := .tuple #[.int .i64 0, .slice none 0 0, .bool false]) (by simp [results, Tryz.results80, go_sem]) rfl (HBAD.out _ HO5.out HB4.out)
                | some p =>
                  have hno := HST.out.2 p hnx
                  have HNO := Lib.hid hno
                  have hown2 := HO4.out.kept (row := none) ⟨hb4.os, hb4.tape, hb4.output, hb4.size, fun i hi _ => hb4.block i hi⟩ (by cases u11.ownBlock <;> simp)
                  have HO6 := Lib.hid hown2
                  have HB4 := Lib.hid hb4
                  have hsz4 := hb4.size
                  have hacl : acc.length ≤ 1000 := by have := HAL.out; omega
                  clear hnx hno hb4 hown2 HC4
                  go_wp2_with (at_builtin; refine stop_now ?_)
                  intro _
                  refine (wpList_append_own_at _ rfl (.tmp 53) (.tmp 55) 33 rfl W3.heap.size 3 i (.int .i64 0) 1 8 Tryz.underlying33 hi hz0 hz1 hz2 rfl (by omega) u11 acc.length (acc.map Iv) rfl ?own ⟨w4.heap.size, 0, none⟩ 1 1 [.int .i64 (p : Int)] rfl rfl ?news ?one ?b1 ?b2 ?b3 ?_)
                  case own => exact HO6.out.alloc _
                  case news =>
                    intro k u hu
                    match k with
                    | 0 => simp [Addr.add, go_sem] at hu ⊢; exact hu
                    | k + 1 => simp at hu
                  case one => intro u hu; rw [List.mem_singleton.1 hu]; rfl
                  case b1 => unfold maxLen; omega
                  case b2 => omega
                  case b3 => simp; omega
                  intro v' w5 hown hgr _ hat
                  have hbk := below_box w4 (.cells #[.int .i64 (p : Int)] 3)
                  have hb5 : Below W3.heap.size W3 w5 := ((below_le Hb.out HB4.out).trans (hbk.mono (by omega))).trans ((Below.refl _ _).grown hgr (by simp; omega) (fun b e => by
                    obtain ⟨A', c', rfl, _, hfr⟩ := row_of_owns HO4.out
                    cases A' with
                    | none => simp [Value.ownBlock] at e
                    | some a => simp [Value.ownBlock] at e; rw [← e]; exact hfr _ rfl))
                  have HOW := Lib.hid hown
                  have HB5 := Lib.hid hb5
                  clear hown hgr hat hb5 hbk
                  go_wp2
                  go_roundw
                  case rel => exact ⟨k + 1, acc ++ [(p : Int)], by omega, by go_num, by simp [HAL.out], by simpa [Iv] using HOW.out, HNO.out, HB5.out⟩
                  case measure => simp [intOf]; omega
              · obtain rfl : k = K := by omega
                have hdr : ys.drop k = [] := by
                  have h6 := HK.out
                  have h7 := congrArg List.length HXS.out
                  simp at h7
                  exact List.drop_eq_nil_of_le (by omega)
                rw [hdr] at hns
                have ho : o = some ((n : Int), acc) := by
                  rw [HO2.out, hns]
                  simp [numsT]
                obtain ⟨A', c', rfl, hrow, hfr⟩ := row_of_owns hown
                have HRW := Lib.hid hrow
                have HFR := Lib.hid hfr
                have HO5 := Lib.hid ho
                have Hb := Lib.hid (below_le HB3.out hb)
                have HAL := Lib.hid hal
                clear hrow hfr ho hns hdr hown hb hal
                generalize acc.length = al at *
                go_wp2
                refine bodyPost_ret (v := .tuple #[.int .i64 n, .slice A' al c', .bool true]) (by simp [results, Tryz.results80, go_sem]) rfl ?_
                rw [HO5.out]
                exact ⟨A', al, c', rfl, HRW.out, (fun a e => by have h1 := HFR.out a e; have h2 := HB3.out.size; omega), Hb.out⟩

end Go.Proofs.YtmabokmnniiadaaGreatDoor
