/-
  What is proved: contracts of package starts' each and of what it hands back, ks an iterator. No condition beyond those stated.
-/
import Derived.Test.YtelbddnjnapoeaaDoorDn
import Derived.Test.YtelbddnjnapoeaaDoorDk
import Derived.RangeFuncNested
namespace Go.Proofs.YtelbddnjnapoeaaDoor
open Go.RowKit Go.Shelf
attribute [local go_sem] Oper.semAt_some

/-- What is asked: is an address at least (true), or below (false), the number in a box? -/
def askV (k : Bool × Nat × Int) : Value := .func (.func (bif k.1 then 43 else 44)) #[] #[.pointer (some ⟨k.2.1, 0, none⟩)]
def askB (k : Bool × Nat × Int) (a : Int) : Bool := bif k.1 then decide (k.2.2 ≤ a) else decide (a < k.2.2)
def asksB (ks : List (Bool × Nat × Int)) (a : Int) : Bool := ks.all fun k => askB k a
/-- The starts for which all that is asked holds. -/
def eachL (n : Int) (ws : List Nat) (p : Int → Bool) : List Int := if sRight n ws then ((listN n ws).map fun i : Nat => (i : Int) * 8).filter p else []

set_option maxHeartbeats 400000 in
theorem in1_any (b : Nat) (x a : Int) (w : World) (hc : w.cell? ⟨b, 0, none⟩ = some (.int .i64 x)) :
    Calls Tryd.prog 43 #[.int .i64 a, .pointer (some ⟨b, 0, none⟩)] w fun e w' => e = .returned (.bool (decide (x ≤ a))) ∧ w = w' := by
  go_enter Tryd.func43, Tryd.ntmps43
  go_wp2
  go_ret
  exact ⟨ret_bool (by simp), rfl⟩
set_option maxHeartbeats 400000 in
theorem in2_any (b : Nat) (x a : Int) (w : World) (hc : w.cell? ⟨b, 0, none⟩ = some (.int .i64 x)) :
    Calls Tryd.prog 44 #[.int .i64 a, .pointer (some ⟨b, 0, none⟩)] w fun e w' => e = .returned (.bool (decide (a < x))) ∧ w = w' := by
  go_enter Tryd.func44, Tryd.ntmps44
  go_wp2
  go_ret
  exact ⟨ret_bool (by simp), rfl⟩

def eachW (w : World) (n : Int) (A : Option Addr) (m c : Nat) (r : Bool) (B : Option Addr) (q d : Nat) : World := (w.alloc (.cells #[.int .i64 n, .slice A m c, .bool r] 44)).alloc (.cells #[.slice B q d] 63)
set_option maxHeartbeats 400000 in
/-- starts' each. -/
theorem each_any (A : Option Addr) (m c : Nat) (n : Int) (r : Bool) (B : Option Addr) (q d : Nat) (w : World) :
    Calls Tryd.prog 35 #[startsV n A m c r, .slice B q d] w fun e w' => e = .returned (.func (.func 53) #[] #[.pointer (some ⟨w.heap.size, 0, none⟩), .pointer (some ⟨w.heap.size + 1, 0, none⟩)]) ∧ eachW w n A m c r B q d = w' := by
  unfold startsV
  go_enter Tryd.func35, Tryd.ntmps35
  go_wp2
  go_ret
  exact ⟨by simp, rfl⟩

theorem cells_of_cell {W : World} {b i : Nat} {v : Value} (h : W.cell? ⟨b, i, none⟩ = some v) : ∃ o, W.heap[b]? = some o ∧ o.isCells = true := by
  unfold World.cell? at h
  cases ho : W.heap[b]? with
  | none => simp [ho] at h
  | some o => exact ⟨o, rfl, by cases o <;> simp_all [Obj.isCells]⟩
theorem KeepS.cell {S : List Nat} {s : Nat} {X Y : World} (h : KeepS S s X Y) {b i : Nat} {v : Value} (hc : X.cell? ⟨b, i, none⟩ = some v) (hS : b ∉ S) (hp : ¬ Points s X b) : Y.cell? ⟨b, i, none⟩ = some v := by
  obtain ⟨o, ho, hoc⟩ := cells_of_cell hc
  exact (World.cell?_of_block (w := X) ((h.1 b o ho hoc hS hp).trans ho.symm)).trans hc
theorem KeepS.rows {S : List Nat} {s : Nat} {X Y : World} {A : Option Addr} {n : Nat} {xs : List Value} (h : KeepS S s X Y) (hR : Row X A n xs) (hS : ∀ a, A = some a → a.block ∉ S) (hp : ∀ a, A = some a → ¬ Points s X a.block) : Row Y A n xs :=
  ⟨hR.1, fun hn => by
    obtain ⟨b, off, e, hcell⟩ := hR.2 hn
    exact ⟨b, off, e, fun j u hu => h.cell (hcell j u hu) (hS _ e) (hp _ e)⟩⟩

/-- What the iterator reads. -/
structure EachAt (W : World) (A : Option Addr) (m c : Nat) (n : Int) (ws : List Nat) (B : Option Addr) (q d : Nat) (ks : List (Bool × Nat × Int)) (bb qb : Nat) (S : List Nat) (s : Nat) : Prop where
  s0 : W.cell? ⟨bb, 0, none⟩ = some (.int .i64 n)
  s1 : W.cell? ⟨bb, 1, none⟩ = some (.slice A m c)
  s2 : W.cell? ⟨bb, 2, none⟩ = some (.bool (sRight n ws))
  hA : Row W A m (ws.map U32)
  q0 : W.cell? ⟨qb, 0, none⟩ = some (.slice B q d)
  hB : Row W B q (ks.map askV)
  hk : ∀ k ∈ ks, W.cell? ⟨k.2.1, 0, none⟩ = some (.int .i64 k.2.2)
  qS : qb ∉ S ∧ ¬ Points s W qb
  bS : ∀ a, B = some a → a.block ∉ S ∧ ¬ Points s W a.block
  kS : ∀ k ∈ ks, k.2.1 ∉ S ∧ ¬ Points s W k.2.1
  sS : ∀ b ∈ S, b < W.heap.size
  sP : ∀ b, Points s W b → b < W.heap.size
  sl : s < W.heap.size

theorem EachAt.ext {W W1 : World} {A : Option Addr} {m c : Nat} {n : Int} {ws : List Nat} {B : Option Addr} {q d : Nat} {ks : List (Bool × Nat × Int)} {bb qb : Nat} {S : List Nat} {s : Nat} (hb : Below W.heap.size W W1) (h : EachAt W A m c n ws B q d ks bb qb S s) : EachAt W1 A m c n ws B q d ks bb qb S s := by
  have hp : ∀ b, Points s W1 b → Points s W b := fun b ⟨v, hv, hv'⟩ => ⟨v, by rw [← hb.cell (p := ⟨s, 0, none⟩) h.sl]; exact hv, hv'⟩
  exact ⟨cell_ext hb h.s0, cell_ext hb h.s1, cell_ext hb h.s2, h.hA.ext hb, cell_ext hb h.q0, h.hB.ext hb, fun k hk => cell_ext hb (h.hk k hk), ⟨h.qS.1, fun e => h.qS.2 (hp _ e)⟩, fun a e => ⟨(h.bS a e).1, fun e' => (h.bS a e).2 (hp _ e')⟩,
    fun k hk => ⟨(h.kS k hk).1, fun e' => (h.kS k hk).2 (hp _ e')⟩, fun b hb' => Nat.lt_of_lt_of_le (h.sS b hb') hb.size, fun b e => Nat.lt_of_lt_of_le (h.sP b (hp _ e)) hb.size, Nat.lt_of_lt_of_le h.sl hb.size⟩

theorem each_wrong (n : Nat) (N : Int) (ws : List Nat) (ks : List (Bool × Nat × Int)) (bb qb : Nat) (y : Nat) (J Jx : List (Fin (eachL N ws (asksB ks)).length) → World → Prop) (W : World)
    (hr : sRight N ws = false) (hc : W.cell? ⟨bb, 2, none⟩ = some (.bool false)) (h0 : J [] W) :
    CallsIn Fence.wide n Tryd.prog 53 #[.func (.yield y) #[] #[], .pointer (some ⟨bb, 0, none⟩), .pointer (some ⟨qb, 0, none⟩)] W (SeqEnd (fun ys => ys = List.finRange (eachL N ws (asksB ks)).length) (fun pre => ∃ k, k ≤ (eachL N ws (asksB ks)).length ∧ pre = (List.finRange (eachL N ws (asksB ks)).length).take k) J Jx) := by
  have hz : (eachL N ws (asksB ks)).length = 0 := by simp [eachL, hr]
  have hf : ([] : List (Fin (eachL N ws (asksB ks)).length)) = List.finRange (eachL N ws (asksB ks)).length := by
    apply List.ext_getElem
    · simp [hz]
    · intro i h1 h2; simp at h1
  have HF := Lib.hid hf
  have H0 := Lib.hid h0
  clear hf hz h0
  refine callsIn_of_wp Tryd.func53 rfl trivial ?_ rfl
  simp only [Tryd.ntmps53, List.size_toArray, List.length_cons, List.length_nil, Nat.reduceAdd, Nat.reduceSub, Array.replicate_succ, Array.replicate_zero, List.push_toArray, List.append_toArray, List.nil_append, List.cons_append]
  refine wpIn_scope_ahead 0 (fun _ _ => False) rfl ?_ (fun _ _ h => h.elim)
  gi_wp2
  refine bodyPost_ret (results_none rfl _ _ _) rfl ?_
  exact ⟨⟨_, rfl⟩, .inl ⟨_, rfl, by rw [← HF.out]; exact H0.out⟩⟩

theorem asks_false {ks : List (Bool × Nat × Int)} {k : Bool × Nat × Int} {a : Int} (hk : k ∈ ks) (h : askB k a = false) : asksB ks a = false := by
  cases e : asksB ks a
  · rfl
  · rw [asksB, List.all_eq_true] at e
    rw [e k hk] at h
    cases h
theorem asks_true {ks : List (Bool × Nat × Int)} {a : Int} (h : ∀ k ∈ ks, askB k a = true) : asksB ks a = true := List.all_eq_true.2 h
theorem filter_step {p : Int → Bool} {l : List Int} {i : Nat} (hi : i < l.length) : (l.drop i).filter p = (if p l[i] then [l[i]] else []) ++ (l.drop (i + 1)).filter p := by
  rw [List.drop_eq_getElem_cons hi, List.filter_cons]
  split <;> rfl

set_option maxRecDepth 100000 in
set_option maxHeartbeats 2000000 in
theorem each_right (n : Nat) (A : Option Addr) (m c : Nat) (N : Int) (ws : List Nat) (B : Option Addr) (q d : Nat) (ks : List (Bool × Nat × Int)) (bb qb : Nat) (S : List Nat) (s : Nat) (y : Nat) (L : List Int) (hel : L = ((listN N ws).map fun i : Nat => (i : Int) * 8).filter (asksB ks)) (J Jx : List (Fin L.length) → World → Prop) (W : World) (hJ : AbidesFrom W.heap.size J)
    (hY : ∀ pre x W, J pre W → pre.length < L.length → YieldAt Fence.wide (n - 1) Tryd.prog y #[.int .i64 (L[x.1])] W fun e W' =>
      (e = .returned (.bool true) ∧ J (pre ++ [x]) W' ∧ KeepS S s W W') ∨ (e = .returned (.bool false) ∧ Jx (pre ++ [x]) W'))
    (hF : Fits ws) (hq : q ≤ 1000) (hE : EachAt W A m c N ws B q d ks bb qb S s) (h0 : J [] W) (hr : sRight N ws = true) :
    CallsIn Fence.wide n Tryd.prog 53 #[.func (.yield y) #[] #[], .pointer (some ⟨bb, 0, none⟩), .pointer (some ⟨qb, 0, none⟩)] W (SeqEnd (fun ys => ys = List.finRange L.length) (fun pre => ∃ k, k ≤ L.length ∧ pre = (List.finRange L.length).take k) J Jx) := by
  have hrb := (sRight_elim hr).2.2.2
  have hN := (sRight_elim hr).2.2.1
  have hls : ∀ i ∈ listN N ws, i < 16384 := by
    intro i hi
    rw [listN, if_pos hrb] at hi
    have := List.mem_range.1 (List.mem_filter.1 hi).1
    omega
  have hll : (listN N ws).length ≤ 16384 := by
    rw [listN, if_pos hrb]
    have := List.length_filter_le (tb ws) (List.range N.toNat)
    simp at this
    omega
  have hlist := list_any A m c N ws
  generalize listN N ws = ls at *
  have s0 := hE.s0
  have s1 := hE.s1
  have s2 := hE.s2
  rw [hr] at s2
  have HE := Lib.hid hE
  have HJ := Lib.hid hJ
  have HLS := Lib.hid hls
  have HEL := Lib.hid hel
  have HY := Lib.hid hY
  have H0 := Lib.hid h0
  have HLI := Lib.hid hlist
  clear hE hJ hls hel hY h0 hrb hN hr hlist
  refine callsIn_of_wp Tryd.func53 rfl trivial ?_ rfl
  simp only [Tryd.ntmps53, List.size_toArray, List.length_cons, List.length_nil, Nat.reduceAdd, Nat.reduceSub, Array.replicate_succ, Array.replicate_zero, List.push_toArray, List.append_toArray, List.nil_append, List.cons_append]
  refine wpIn_scope_ahead 0 (fun _ _ => False) rfl ?_ (fun _ _ h => h.elim)
  gi_wp2_with fail
  refine wpIn_label ?_
  gi_wp2_with fail
  refine ⟨trivial, fun h => by simp [Fence.wide] at h, (callsIn_wide.2 (HLI.out W HE.out.hA hF)).mono ?_⟩
  rintro e W1 ⟨C, lm, lc, rfl, hRl, hFr, hb1⟩
  have hlm := hRl.1
  simp at hlm
  have hJ1 := HJ.out _ _ _ none H0.out ⟨hb1.os, hb1.tape, hb1.output, hb1.size, fun i hi _ => hb1.block i hi⟩ (fun r e => by cases e)
  have hE1 := HE.out.ext hb1
  have hCS : ∀ a, C = some a → a.block ∉ S ∧ ¬ Points s W1 a.block := fun a e => by
    have h1 := hFr a e
    refine ⟨fun h => ?_, fun ⟨v, hv, hv'⟩ => ?_⟩
    · have := HE.out.sS _ h; omega
    · have := HE.out.sP _ ⟨v, by rw [← hb1.cell (p := ⟨s, 0, none⟩) HE.out.sl]; exact hv, hv'⟩; omega
  have HE1 := Lib.hid hE1
  have HJ1 := Lib.hid hJ1
  have HRL := Lib.hid hRl
  have HCS := Lib.hid hCS
  have HLM := Lib.hid hlm
  have hlm2 : lm ≤ 16384 := by omega
  clear hb1 hFr hRl hJ1 hE1 hCS s0 s1 s2 HE HLI HJ H0
  gi_wp2
  gi_loopw [16] (fun i wr => ∃ j k : Nat, j ≤ lm ∧ i = .int .i64 j ∧ k ≤ L.length ∧ L.drop k = ((ls.map fun i : Nat => (i : Int) * 8).drop j).filter (asksB ks) ∧ J ((List.finRange L.length).take k) wr ∧ KeepS S s W1 wr)
    (fun i _ => lm - (intOf i).toNat)
  case atStart => exact ⟨0, 0, Nat.zero_le _, rfl, Nat.zero_le _, by rw [HEL.out]; rfl, HJ1.out, KeepS.refl _ _ _⟩
  case round =>
    obtain ⟨j, k, hj, rfl, hk, hdr, hJs, hkp⟩ := hrel
    have HK := Lib.hid hkp
    have HD := Lib.hid hdr
    have HJs := Lib.hid hJs
    have hRw := Lib.hid (hkp.rows HRL.out (fun a e => (HCS.out a e).1) (fun a e => (HCS.out a e).2))
    have hq0 := hkp.cell HE1.out.q0 HE1.out.qS.1 HE1.out.qS.2
    have hBw := Lib.hid (hkp.rows HE1.out.hB (fun a e => (HE1.out.bS a e).1) (fun a e => (HE1.out.bS a e).2))
    have hKw := Lib.hid (fun k hk => hkp.cell (HE1.out.hk k hk) (HE1.out.kS k hk).1 (HE1.out.kS k hk).2)
    clear hkp hdr hJs
    by_cases hlt : j < lm
    · obtain ⟨cb, off, hCe, hcx⟩ := hRw.out.at_ hlt
      have hjl : j < ls.length := by have := HLM.out; omega
      have hx1 := HLS.out _ (List.getElem_mem hjl)
      have hst := filter_step (p := asksB ks) (l := ls.map fun i : Nat => (i : Int) * 8) (i := j) (by simpa using hjl)
      simp only [List.getElem_map] at hcx hst
      generalize ls[j] = x at *
      unfold I64 at hcx
      have HST := Lib.hid hst
      clear hst
      subst hCe
      gi_wp2
      gi_loop [24] (fun i => ∃ t : Nat, t ≤ q ∧ i = .int .i64 t ∧ ∀ k ∈ ks.take t, askB k ((x : Int) * 8) = true) (fun i => q - (intOf i).toNat)
      case atStart => exact ⟨0, Nat.zero_le _, rfl, fun k hk => by simp at hk⟩
      case round =>
        obtain ⟨t, ht, rfl, hall⟩ := hrel
        have HALL := Lib.hid hall
        clear hall
        by_cases htq : t < q
        · obtain ⟨ab, aoff, hBe, hax⟩ := hBw.out.at_ htq
          have htk : t < ks.length := by have := hBw.out.1; simp at this; omega
          have hkc := hKw.out _ (List.getElem_mem htk)
          have hmem := List.getElem_mem htk
          have hts : ks.take (t + 1) = ks.take t ++ [ks[t]] := List.take_succ_eq_append_getElem htk
          simp only [List.getElem_map] at hax
          generalize ks[t] = k0 at *
          obtain ⟨o, kb, kx⟩ := k0
          have HTS := Lib.hid hts
          have HMEM := Lib.hid hmem
          clear hts hmem
          subst hBe
          cases o
          case' false =>
            simp only [askV, cond] at hax
            have hcall := in2_any kb kx ((x : Int) * 8) wr hkc
            gi_wp2_with fail
          case' true =>
            simp only [askV, cond] at hax
            have hcall := in1_any kb kx ((x : Int) * 8) wr hkc
            gi_wp2_with fail
          all_goals
            refine ⟨trivial, fun h => by simp [Fence.wide] at h, (callsIn_wide.2 hcall).mono ?_⟩
            clear hcall
            rintro e w' ⟨rfl, rfl⟩
          · by_cases hd : kx ≤ (x : Int) * 8
            · have HA : Hid (askB (true, kb, kx) ((x : Int) * 8) = true) := Lib.hid (by simp [askB, hd])
              rw [decide_eq_true hd]
              clear hd
              gi_wp2
              go_round
              case rel =>
                refine ⟨t + 1, by omega, by go_num, fun k hk => ?_⟩
                rw [HTS.out] at hk
                rcases List.mem_append.1 hk with h | h
                · exact HALL.out k h
                · rw [List.mem_singleton.1 h]; exact HA.out
              case measure => simp [intOf]; omega
            · have HA : Hid (asksB ks ((x : Int) * 8) = false) := Lib.hid (asks_false HMEM.out (by simpa [askB] using hd))
              rw [decide_eq_false hd]
              clear hd
              gi_wp2
              go_roundw
              case rel => exact ⟨j + 1, k, by omega, by go_num, hk, HD.out.trans (by rw [HST.out, HA.out]; rfl), HJs.out, HK.out⟩
              case measure => simp [intOf]; omega
          · by_cases hd : (x : Int) * 8 < kx
            · have HA : Hid (askB (false, kb, kx) ((x : Int) * 8) = true) := Lib.hid (by simp [askB, hd])
              rw [decide_eq_true hd]
              clear hd
              gi_wp2
              go_round
              case rel =>
                refine ⟨t + 1, by omega, by go_num, fun k hk => ?_⟩
                rw [HTS.out] at hk
                rcases List.mem_append.1 hk with h | h
                · exact HALL.out k h
                · rw [List.mem_singleton.1 h]; exact HA.out
              case measure => simp [intOf]; omega
            · have HA : Hid (asksB ks ((x : Int) * 8) = false) := Lib.hid (asks_false HMEM.out (by simpa [askB] using hd))
              rw [decide_eq_false hd]
              clear hd
              gi_wp2
              go_roundw
              case rel => exact ⟨j + 1, k, by omega, by go_num, hk, HD.out.trans (by rw [HST.out, HA.out]; rfl), HJs.out, HK.out⟩
              case measure => simp [intOf]; omega
        · have HA : Hid (asksB ks ((x : Int) * 8) = true) := Lib.hid (asks_true fun k hk => HALL.out k (by rw [List.take_of_length_le (by have := hBw.out.1; simp at this; omega)]; exact hk))
          have hdk := HD.out
          rw [HST.out, HA.out] at hdk
          have hkN : k < L.length := by
            have := congrArg List.length hdk
            simp at this
            omega
          have hgk : L[k] = (x : Int) * 8 ∧ L.drop (k + 1) = ((ls.map fun i : Nat => (i : Int) * 8).drop (j + 1)).filter (asksB ks) := by
            rw [List.drop_eq_getElem_cons hkN] at hdk
            exact List.cons.inj hdk
          obtain ⟨hg1, hg2⟩ := hgk
          obtain ⟨fn, tmps, assign, body, hy, hRy⟩ := HY.out _ ⟨k, hkN⟩ _ HJs.out (by simp; omega)
          dsimp only at hy hRy
          rw [hg1] at hy
          have HRy := Lib.hid hRy
          have HG := Lib.hid hg2
          clear hRy hg1 hg2 hdk
          gi_wp2
          refine ⟨fun h => by simp [Fence.wide] at h, HRy.out.mono ?_⟩
          rintro e W3 (⟨rfl, hJ4, hk4⟩ | ⟨rfl, hJx4⟩)
          · have HJ4 := Lib.hid hJ4
            have HK4 := Lib.hid hk4
            clear hJ4 hk4
            gi_wp2
            go_roundw
            case rel => exact ⟨j + 1, k + 1, by omega, by go_num, by omega, HG.out, by rw [fin_take_succ _ _ hkN]; exact HJ4.out, HK.out.t HK4.out⟩
            case measure => simp [intOf]; omega
          · have HJx4 := Lib.hid hJx4
            clear hJx4
            gi_wp2
            refine bodyPost_ret (results_none rfl _ _ _) rfl ?_
            exact ⟨⟨_, rfl⟩, .inr ⟨_, ⟨k + 1, by omega, rfl⟩, by rw [fin_take_succ _ _ hkN]; exact HJx4.out⟩⟩
    · have hjl : ls.length ≤ j := by have := HLM.out; omega
      have hkl : L.length ≤ k := by
        have := congrArg List.length HD.out
        rw [List.drop_of_length_le (l := ls.map fun i : Nat => (i : Int) * 8) (by simpa using hjl)] at this
        simp at this
        omega
      have HKL := Lib.hid (show k = L.length by omega)
      clear hjl hkl
      gi_wp2
      go_end0
      refine ⟨⟨_, rfl⟩, .inl ⟨_, rfl, ?_⟩⟩
      have := HJs.out
      rwa [HKL.out, fin_take_all] at this

/-- The iterator, as the law of a range over a function asks for it. -/
theorem each_stops (n : Nat) (A : Option Addr) (m c : Nat) (N : Int) (ws : List Nat) (B : Option Addr) (q d : Nat) (ks : List (Bool × Nat × Int)) (bb qb : Nat) (S : List Nat) (s : Nat) (w : World) (hF : Fits ws) (hq : q ≤ 1000) (hE : EachAt w A m c N ws B q d ks bb qb S s) (L : List Int) (hL : eachL N ws (asksB ks) = L) :
    SeqStopsK Fence.wide n Tryd.prog 53 #[.pointer (some ⟨bb, 0, none⟩), .pointer (some ⟨qb, 0, none⟩)] (fun x : Fin L.length => #[.int .i64 (L[x.1])]) (KeepS S s)
      (fun ys => ys = List.finRange L.length) (fun pre => ∃ k, k ≤ L.length ∧ pre = (List.finRange L.length).take k) L.length w := fun y J Jx W hW hJ _ hY h0 => by
  subst hL
  have hE1 := hE.ext hW
  cases hr : sRight N ws
  · exact each_wrong n N ws ks bb qb y J Jx W hr (by have := hE1.s2; rwa [hr] at this) h0
  · exact each_right n A m c N ws B q d ks bb qb S s y _ (by rw [eachL, if_pos hr]) J Jx W hJ hY hF hq hE1 h0 hr

end Go.Proofs.YtelbddnjnapoeaaDoor
