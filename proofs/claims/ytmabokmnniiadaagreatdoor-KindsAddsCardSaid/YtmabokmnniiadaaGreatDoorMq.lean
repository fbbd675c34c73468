/-
  What is proved: the contract of join of package kinds. No condition beyond those stated.
-/
import Derived.Test.YtmabokmnniiadaaGreatDoorMp
import Derived.Test.YtmabokmnniiadaaGreatDoorMixf
namespace Go.Proofs.YtmabokmnniiadaaGreatDoor
open Go.RowKit

/-- The cells lead to this descriptor, its lists in blocks of their own. -/
def FitsB (w : World) (d : MD) (x : DscK) : Prop := Fits w d x ∧ ∀ b ∈ blkM d, ∃ cs, Blk w b 3 cs
theorem FitsB.ext {w w' : World} {d : MD} {x : DscK} (hb : Below w.heap.size w w') (h : FitsB w d x) : FitsB w' d x := ⟨h.1.ext hb, fun b hm => (h.2 b hm).imp fun _ hc => hc.ext hb⟩
theorem FitsB.grown {w w' : World} {d : MD} {x : DscK} {row : Option Nat} (h : FitsB w d x) (hg : w.grownBy w' row) (hne : ∀ b ∈ blkM d, some b ≠ row) : FitsB w' d x :=
  ⟨h.1.grown hg hne, fun b hm => (h.2 b hm).imp fun _ hc => hc.grown hg (hne b hm)⟩

/-- A list of descriptors that the call owns, in a block. -/
def JList (w : World) (base : Nat) (v : Value) (k : Nat) (L : List DscK) : Prop :=
  ∃ ms, w.ownsRow base 35 4 v k (cellsD ms) ∧ ms.length = k ∧ (∃ g c, v = .slice (some ⟨g, 0, none⟩) k c ∧ k ≤ c ∧ c ≤ maxLen) ∧ ∀ (j : Nat) (d : MD) (x : DscK), ms[j]? = some d → L[j]? = some x → FitsB w d x
theorem JList.ext {w w' : World} {base k : Nat} {v : Value} {L : List DscK} (hb : Below w.heap.size w w') (h : JList w base v k L) : JList w' base v k L := by
  obtain ⟨ms, h1, h2, h3, h4⟩ := h
  exact ⟨ms, own_extD hb h1, h2, h3, fun j d x a b => (h4 j d x a b).ext hb⟩
theorem owns_some {w : World} {base k : Nat} {v : Value} {t : TypeId} {xs : List Value} (h : w.ownsRow base t 4 v (k + 1) xs) : ∃ g c, v = .slice (some ⟨g, 0, none⟩) (k + 1) c ∧ k + 1 ≤ c ∧ c ≤ maxLen := by
  rcases h.2 with ⟨_, h0⟩ | ⟨g, cap, cur, rfl, _, _, h1, h2, _⟩
  · omega
  · exact ⟨g, cap, rfl, h1, h2⟩

theorem FitsB.same {w w' : World} {d : MD} {x : DscK} (h : FitsB w d x) (hk : ∀ b ∈ blkM d, w'.heap[b]? = w.heap[b]?) : FitsB w' d x :=
  ⟨h.1.keep (S := blkM d) hk fun _ hb => hb, fun b hm => (h.2 b hm).imp fun _ hc => (hk b hm).trans hc⟩
theorem fitsB_new {w : World} {z e : Int} {ps es : List Int} {g1 g2 : Nat} (h1 : Blk w g1 3 (ps.map Iv).toArray) (h2 : Blk w g2 3 (es.map Iv).toArray) : FitsB w (z, (some ⟨g1, 0, none⟩, ps.length, ps.length), e, (some ⟨g2, 0, none⟩, es.length, es.length)) (z, ps, e, es) := by
  refine ⟨⟨rfl, rfl, by simpa using h1.row, by simpa using h2.row⟩, fun b hb => ?_⟩
  rcases List.mem_append.1 hb with hb | hb
  · unfold blkR at hb
    split at hb
    · simp [blkA] at hb; subst hb; exact ⟨_, h1⟩
    · simp at hb
  · unfold blkR at hb
    split at hb
    · simp [blkA] at hb; subst hb; exact ⟨_, h2⟩
    · simp at hb
theorem JList.push {w w' : World} {base k : Nat} {v v' : Value} {L : List DscK} {ms : List MD} {d : MD} {x : DscK} (hown : w.ownsRow base 35 4 v k (cellsD ms)) (hml : ms.length = k) (hf : ∀ (j : Nat) (d : MD) (x : DscK), ms[j]? = some d → L[j]? = some x → FitsB w d x) (hlt : k < L.length)
    (hx : L[k]? = some x) (hd : FitsB w d x) (hown' : w'.ownsRow base 35 4 v' (k + 1) (cellsD (ms ++ [d]))) (hk : ∀ b, b < w.heap.size → some b ≠ v.ownBlock → w'.heap[b]? = w.heap[b]?) : JList w' base v' (k + 1) L := by
  have hs : ∀ {d x}, FitsB w d x → FitsB w' d x := fun {d x} h => h.same fun b hb => hk b (h.1.lt b hb) (by obtain ⟨cs, hc⟩ := h.2 b hb; exact own_neD hown hc (by decide))
  refine ⟨_, hown', by simp [hml], owns_some hown', fun j d' x' h1 h2 => ?_⟩
  by_cases hj : j < ms.length
  · rw [List.getElem?_append_left hj] at h1
    exact hs (hf j d' x' h1 h2)
  · rw [List.getElem?_append_right (by omega)] at h1
    have hj0 : j - ms.length = 0 := by
      have := (List.getElem?_eq_some_iff.1 h1).1
      simp at this
      omega
    rw [hj0] at h1
    simp at h1
    subst h1
    have : j = k := by omega
    subst this
    rw [hx] at h2
    cases h2
    exact hs hd
/-- A list of descriptors of the call's own. -/
def GivesD (w : World) (L : List DscK) (x : Ending) (w' : World) : Prop := ∃ A n c, x = .returned (.slice A n c) ∧ RowD w' A n L ∧ (∀ a, A = some a → w.heap.size ≤ a.block) ∧ Below w.heap.size w w' ∧ ∃ ms, RowM w' A n ms L ∧ ∀ d ∈ ms, ∀ b ∈ blkM d, ∃ cs, Blk w' b 3 cs

theorem rowM_of_owns {w : World} {base n c : Nat} {t : TypeId} {A : Option Addr} {ms : List MD} {ds : List DscK} (h : w.ownsRow base t 4 (.slice A n c) n (cellsD ms)) (hl : ms.length = ds.length) (hf : ∀ (k : Nat) (d : MD) (x : DscK), ms[k]? = some d → ds[k]? = some x → Fits w d x) : RowM w A n ms ds := by
  have hlen := h.1
  rw [cellsD_length] at hlen
  have hn : ds.length = n := by omega
  refine ⟨hn, by omega, hf, fun h0 => ?_⟩
  rcases h.2 with ⟨_, rfl⟩ | ⟨g, cap, cur, he, hg, hb, h1, h2, h3, h4⟩
  · omega
  · injection he with e1 e2 e3
    subst e1
    refine ⟨g, 0, rfl, fun k d hd j u hu => ?_⟩
    have hB : Blk w g t cur := hb
    have hj : j < 4 := (List.getElem?_eq_some_iff.1 hu).1
    have hk : k < ms.length := (List.getElem?_eq_some_iff.1 hd).1
    rw [Nat.zero_add, hB.cell, ← Array.getElem?_toList]
    have := cellsD_get hd hj
    rw [hu, ← h4, List.getElem?_take, if_pos (by omega)] at this
    exact this

def JoiC (b : Nat) (ds : Array Value) (x : World) : Prop := Blk x b 35 ds
theorem joiC_stays (b : Nat) (ds : Array Value) : Stays (JoiC b ds) := fun _ _ h hb => Blk.ext h hb

set_option maxRecDepth 100000 in
set_option maxHeartbeats 8000000 in
/-- join. -/
theorem join_any (A B : Option Addr) (n c m d : Nat) (ls bs : List DscK) (w : World) (hA : RowD w A n ls) (hB : RowD w B m bs) (hsa : Sm ls) (hsb : Sm bs) (hn : n ≤ 1000) (hm : m ≤ 1000) :
    Calls Tryz.prog 43 #[.slice A n c, .slice B m d] w (GivesD w (ls ++ bs)) := by
  obtain ⟨inf, hi, hi0, hi1, hi2⟩ := info_parts desc_info
  have hla := hA.1
  have hlb := hB.1
  have hpart : ∀ p : Nat, p < 2 → ∃ X xn xc xs o, (∀ W : World, (Instr.index 98 (.agg #[.slice A n c, .slice B m d]) (.int .i64 (p : Int))).run Tryz.prog W = .ok (.slice X xn xc) W) ∧ RowD w X xn xs ∧ Sm xs ∧ xn ≤ 1000 ∧
      (∀ j, j < xn → (ls ++ bs)[o + j]? = xs[j]?) ∧ o = (if p = 0 then 0 else n) ∧ o + xn = (if p = 0 then n else n + m) := fun p hp => by
    rcases (show p = 0 ∨ p = 1 by omega) with rfl | rfl
    · exact ⟨A, n, c, ls, 0, fun W => by simp [Instr.index, go_sem], hA, hsa, hn, fun j hj => by rw [Nat.zero_add, List.getElem?_append_left (by omega)], rfl, by simp⟩
    · exact ⟨B, m, d, bs, n, fun W => by simp [Instr.index, go_sem], hB, hsb, hm, fun j hj => by rw [List.getElem?_append_right (by omega)]; congr 1; omega, rfl, by simp⟩
  have HP := Lib.hid hpart
  have hlen : (ls ++ bs).length = n + m := by rw [List.length_append, hla, hlb]
  generalize ls ++ bs = L at *
  have HLEN := Lib.hid hlen
  clear hlen
  have HLL := Lib.hid (And.intro hla hlb)
  clear hA hB hsa hsb hpart hla hlb
  go_enter Tryz.func43, Tryz.ntmps43
  go_wp2_with (at_make; refine wpList_make_own _ rfl _ _ _ rfl w.heap.size 35 inf _ 4 Tryz.underlying22 hi hi0 hi1 .i64 .i64 _ (n + m) rfl rfl ?mk0 ?mk1 ?mk2 ?mk3 ?_)
  case mk0 => simp
  case mk1 => rw [hi2]; omega
  case mk2 => unfold maxLen; omega
  case mk3 => exact Nat.le_refl _
  intro w1 hown1 hg1
  have hb1 : Below w.heap.size w w1 := ⟨hg1.os, hg1.tape, hg1.output, hg1.size, fun i hi => hg1.block i hi (by simp)⟩
  have hj1 : JList w1 w.heap.size (.slice (some ⟨w.heap.size, 0, none⟩) 0 (n + m)) 0 L := ⟨[], hown1, rfl, ⟨_, _, rfl, Nat.zero_le _, by unfold maxLen; omega⟩, fun j d x h => by simp at h⟩
  have HJ1 := Lib.hid hj1
  have HB1 := Lib.hid hb1
  clear hown1 hg1 hb1 hj1
  go_wp2
  go_loopw [5, 19] (fun v i wr => ∃ p : Nat, p ≤ 2 ∧ i = .int .i64 p ∧ JList wr w.heap.size v (if p = 0 then 0 else if p = 1 then n else n + m) L ∧ Below w.heap.size w wr) (fun _ i _ => 2 - (intOf i).toNat)
  case atStart => exact ⟨0, by omega, rfl, HJ1.out, HB1.out⟩
  case round =>
    clear HJ1 HB1
    obtain ⟨p, hp, rfl, hj, hb⟩ := hrel
    by_cases hlt : p < 2
    · obtain ⟨X, xn, xc, xs, o, hidx, hX, hsx, hxn, hat, ho, hox⟩ := HP.out p hlt
      have hpn : (if p = 0 then 0 else if p = 1 then n else n + m) = o := by
        rw [ho]
        split
        · rfl
        · rw [if_pos (by omega)]
      rw [hpn] at hj
      have hpn2 : (if p + 1 = 0 then 0 else if p + 1 = 1 then n else n + m) = o + xn := by
        rw [hox, if_neg (by omega)]
        by_cases h0 : p = 0
        · rw [if_pos h0, if_pos (by omega)]
        · rw [if_neg h0, if_neg (by omega)]
      have hon : o ≤ 1000 := by rw [ho]; split <;> omega
      have HJ := Lib.hid hj
      have HB := Lib.hid hb
      have HX := Lib.hid hX
      have HSX := Lib.hid hsx
      have HAT := Lib.hid hat
      have HPN2 := Lib.hid hpn2
      clear hj hb hX hsx hat hpn hpn2 ho hox
      have hlt2 : (p : Int) < 2 := by omega
      go_wp2
      clear hidx
      go_loopw [5, 24] (fun v i wr => ∃ j : Nat, j ≤ xn ∧ i = .int .i64 j ∧ JList wr w.heap.size v (o + j) L ∧ Below w.heap.size w wr) (fun _ i _ => xn - (intOf i).toNat)
      case atStart => exact ⟨0, Nat.zero_le _, rfl, HJ.out, HB.out⟩
      case round =>
        clear HJ HB
        obtain ⟨j, hjx, rfl, hj, hb⟩ := hrel
        have HJ := Lib.hid hj
        have HB := Lib.hid hb
        clear hj hb
        by_cases hlj : j < xn
        · obtain ⟨b, off, z, P, pm, pc, e, Q, q, f, ps, es, rfl, hd, r1, r2, d0, d1, d2, d3⟩ := (HX.out.ext HB.out).get hlj
          have hsm := HSX.out _ (List.mem_of_getElem? hd)
          have hl1 := r1.1
          have hl2 := r2.1
          simp at hl1 hl2
          subst hl1
          subst hl2
          have hpm : ps.length ≤ 1000 := hsm.1
          have hqm : es.length ≤ 1000 := hsm.2
          have hx := below_box wr (descO z P ps.length pc e Q es.length f)
          have hbx : JoiC wr.heap.size #[.int .i64 z, .slice P ps.length pc, .int .i64 e, .slice Q es.length f] (wr.alloc (descO z P ps.length pc e Q es.length f)) := Blk.new _ _ _
          have HR1 := Lib.hid (r1.ext hx)
          have HR2 := Lib.hid (r2.ext hx)
          have HLX := Lib.hid (show L[o + j]? = some (z, ps, e, es) by rw [HAT.out j hlj, hd])
          have HJB := Lib.hid (HJ.out.ext hx)
          have HBB := Lib.hid (below_le HB.out hx)
          have hxb : Below wr.heap.size wr (wr.alloc (descO z P ps.length pc e Q es.length f)) := hx
          have hzz : (wr.alloc (descO z P ps.length pc e Q es.length f)).heap.size = wr.heap.size + 1 := by simp
          clear hx r1 r2 hd hsm
          go_wp2
          generalize wr.alloc (descO z P ps.length pc e Q es.length f) = W2 at *
          have hCst := joiC_stays wr.heap.size #[.int .i64 z, .slice P ps.length pc, .int .i64 e, .slice Q es.length f]
          have hNE : Nonempty (Of (JoiC wr.heap.size #[.int .i64 z, .slice P ps.length pc, .int .i64 e, .slice Q es.length f])) := ⟨⟨W2, hbx⟩⟩
          have t1 := fun x : Of (JoiC wr.heap.size #[.int .i64 z, .slice P ps.length pc, .int .i64 e, .slice Q es.length f]) => Blk.at_ (i := 1) x.ok rfl
          have t3 := fun x : Of (JoiC wr.heap.size #[.int .i64 z, .slice P ps.length pc, .int .i64 e, .slice Q es.length f]) => Blk.at_ (i := 3) x.ok rfl
          refine wp_region_mixf (C := JoiC wr.heap.size #[.int .i64 z, .slice P ps.length pc, .int .i64 e, .slice Q es.length f]) 7 hCst hbx (by kernel_rfl) ?_
          first | (refine mixf_skip 0 hCst rfl (by kernel_rfl) rfl ?_; go_frame) | (refine mixf_soft 0 hCst rfl (by kernel_rfl) rfl (fun K hK => ?_); go_simp; first | (refine hK _ ?_; clear hK K) | (apply Exists.intro; refine ⟨fun x => ?_, hK _ ?_⟩; (· (fail)); clear hK K; try go_frame))
          first | (refine mixf_skip 1 hCst rfl (by kernel_rfl) rfl ?_; go_frame) | (refine mixf_soft 1 hCst rfl (by kernel_rfl) rfl (fun K hK => ?_); go_simp; first | (refine hK _ ?_; clear hK K) | (apply Exists.intro; refine ⟨fun x => ?_, hK _ ?_⟩; (· (fail)); clear hK K; try go_frame))
          first | (refine mixf_skip 3 hCst rfl (by kernel_rfl) rfl ?_; go_frame) | (refine mixf_soft 3 hCst rfl (by kernel_rfl) rfl (fun K hK => ?_); go_simp; first | (refine hK _ ?_; clear hK K) | (apply Exists.intro; refine ⟨fun x => ?_, hK _ ?_⟩; (· (fail)); clear hK K; try go_frame))
          first | (refine mixf_skip 4 hCst rfl (by kernel_rfl) rfl ?_; go_frame) | (refine mixf_soft 4 hCst rfl (by kernel_rfl) rfl (fun K hK => ?_); go_simp; first | (refine hK _ ?_; clear hK K) | (apply Exists.intro; refine ⟨fun x => ?_, hK _ ?_⟩; (· (fail)); clear hK K; try go_frame))
          clear t1 t3
          refine mixf_one 2 (by decide) (by kernel_rfl) rfl rfl ?_
          intro w2 hb2 hC2 K hK
          go_simp
          refine (places_any P ps.length pc ps w2 (HR1.out.ext hb2) hpm).mono ?_
          rintro e' w3 ⟨g1, rfl, h1, h2, h3⟩
          refine hK _ _ (hCst _ _ hC2 h3) ?_
          have HG1 := Lib.hid (Nat.le_trans hb2.size h1)
          have HK1 := Lib.hid h2
          have HB3 := Lib.hid (below_le hb2 h3)
          clear hK K hb2 hC2 h1 h2 h3
          try go_frame
          refine mixf_pure 6 hCst rfl (by kernel_rfl) rfl (fun K hK => ?_)
          go_simp
          refine hK _ ?_
          clear hK K
          try go_frame
          refine mixf_one 5 (by decide) (by kernel_rfl) rfl rfl ?_
          intro w4 hb4 hC4 K hK
          go_simp
          refine (places_any Q es.length f es w4 (HR2.out.ext (below_le HB3.out hb4)) hqm).mono ?_
          rintro e' w5 ⟨g2, rfl, h1, h2, h3⟩
          refine hK _ _ (hCst _ _ hC4 h3) ?_
          have HG2 := Lib.hid (Nat.le_trans (below_le HB3.out hb4).size h1)
          replace HK1 := Lib.hid ((HK1.out.ext hb4).ext h3)
          have HK2 := Lib.hid h2
          replace HB3 := Lib.hid (below_le (below_le HB3.out hb4) h3)
          clear hK K hb4 hC4 h1 h2 h3
          try go_frame
          refine mixf_z 7 (by kernel_rfl) rfl rfl ?_
          intro w6 hb6 hC6 K hK
          have k1 := Blk.at_ (i := 1) hC6 rfl
          have f1 := Blk.frozen hC6 1
          have b6 : Blk (w6.setCell ⟨wr.heap.size, 1, none⟩ (.slice (some ⟨g1, 0, none⟩) ps.length ps.length)) wr.heap.size 35 #[.int .i64 z, .slice (some ⟨g1, 0, none⟩) ps.length ps.length, .int .i64 e, .slice Q es.length f] := by simpa using Blk.set_ hC6 1 (.slice (some ⟨g1, 0, none⟩) ps.length ps.length)
          have hwr : wr.heap.size ≤ W2.heap.size := by rw [hzz]; exact Nat.le_succ _
          have hk1 := (HK1.out.ext hb6).far (p := ⟨wr.heap.size, 1, none⟩) (by show g1 ≠ wr.heap.size; have := HG1.out; omega) (.slice (some ⟨g1, 0, none⟩) ps.length ps.length)
          have hk2 := (HK2.out.ext hb6).far (p := ⟨wr.heap.size, 1, none⟩) (by show g2 ≠ wr.heap.size; have := HG2.out; omega) (.slice (some ⟨g1, 0, none⟩) ps.length ps.length)
          have hb7 : Below wr.heap.size W2 (w6.setCell ⟨wr.heap.size, 1, none⟩ (.slice (some ⟨g1, 0, none⟩) ps.length ps.length)) := ((below_le HB3.out hb6).mono hwr).setCell (p := ⟨wr.heap.size, 1, none⟩) (Nat.le_refl _) _
          go_simp
          refine hK _ _ ?_
          clear hK K k1 f1 hb6 hC6
          have B6 := Lib.hid b6
          have HK1 := Lib.hid hk1
          have HK2 := Lib.hid hk2
          have HB7 := Lib.hid hb7
          clear b6 hk1 hk2 hb7
          try go_frame
          generalize w6.setCell ⟨wr.heap.size, 1, none⟩ (.slice (some ⟨g1, 0, none⟩) ps.length ps.length) = W6 at *
          refine rest_one 8 (by kernel_rfl) rfl rfl ?_
          intro w61 hb61 K hK
          go_simp
          refine hK _ _ ?_
          clear hK K
          try go_frame
          refine rest_one 9 (by kernel_rfl) rfl rfl ?_
          intro w7 hb8 K hK
          replace hb8 := below_le hb61 hb8
          clear hb61
          have b7 := B6.out.ext hb8
          have k3 := b7.at_ (i := 3) rfl
          have f3 := b7.frozen 3
          have b8 : Blk (w7.setCell ⟨wr.heap.size, 3, none⟩ (.slice (some ⟨g2, 0, none⟩) es.length es.length)) wr.heap.size 35 #[.int .i64 z, .slice (some ⟨g1, 0, none⟩) ps.length ps.length, .int .i64 e, .slice (some ⟨g2, 0, none⟩) es.length es.length] := by simpa using b7.set_ 3 (.slice (some ⟨g2, 0, none⟩) es.length es.length)
          have hk1 := (HK1.out.ext hb8).far (p := ⟨wr.heap.size, 3, none⟩) (by show g1 ≠ wr.heap.size; have := HG1.out; omega) (.slice (some ⟨g2, 0, none⟩) es.length es.length)
          have hk2 := (HK2.out.ext hb8).far (p := ⟨wr.heap.size, 3, none⟩) (by show g2 ≠ wr.heap.size; have := HG2.out; omega) (.slice (some ⟨g2, 0, none⟩) es.length es.length)
          have hb9 : Below wr.heap.size W2 (w7.setCell ⟨wr.heap.size, 3, none⟩ (.slice (some ⟨g2, 0, none⟩) es.length es.length)) := (HB7.out.trans (hb8.mono (by have := HB7.out.size; omega))).setCell (p := ⟨wr.heap.size, 3, none⟩) (Nat.le_refl _) _
          go_simp
          refine hK _ _ ?_
          clear hK K k3 f3 hb8 b7
          have B8 := Lib.hid b8
          replace HK1 := Lib.hid hk1
          replace HK2 := Lib.hid hk2
          replace HB7 := Lib.hid hb9
          clear b8 hk1 hk2 hb9 B6
          try go_frame
          generalize w7.setCell ⟨wr.heap.size, 3, none⟩ (.slice (some ⟨g2, 0, none⟩) es.length es.length) = W8 at *
          refine rest_nil (by kernel_rfl) fun w9 hb9 => ?_
          have b9 := B8.out.ext hb9
          have c0 := b9.at_ (i := 0) rfl
          have c1 := b9.at_ (i := 1) rfl
          have c2 := b9.at_ (i := 2) rfl
          have c3 := b9.at_ (i := 3) rfl
          have hkk1 := HK1.out.ext hb9
          have hkk2 := HK2.out.ext hb9
          have hB29 : Below wr.heap.size wr w9 := (hxb.trans (HB7.out.trans (hb9.mono (by have := HB7.out.size; omega))))
          obtain ⟨ms, hown, hml, ⟨gv, cv, rfl, hkv, hcv⟩, hfv⟩ := (HJ.out.ext hB29)
          have HO9 := Lib.hid hown
          have HML := Lib.hid hml
          have HFV := Lib.hid hfv
          have HNW := Lib.hid (fitsB_new (z := z) (e := e) hkk1 hkk2)
          have HB9 := Lib.hid (below_le HB.out hB29)
          clear hown hml hfv hkk1 hkk2 hB29 b9 hb9 HK1 HK2 HB7 B8 HJ HJB HBB HG1 HG2 HB3 HR1 HR2 hxb hzz hwr
          have hlL : o + j < L.length := (List.getElem?_eq_some_iff.1 HLX.out).1
          go_wp2_with (at_builtin; refine stop_hereK ?_)
          intro _
          refine wpList_pushD (w0 := w) w9 rfl (.tmp 36) (.tmp 38) 22 rfl w.heap.size 35 inf (.agg #[.int .i64 0, .slice none 0 0, .int .i64 0, .slice none 0 0]) 64 Tryz.underlying22 hi hi0 hi1 hi2 rfl (.slice (some ⟨gv, 0, none⟩) (o + j) cv) (o + j) ms rfl HO9.out
            (z, (some ⟨g1, 0, none⟩, ps.length, ps.length), e, (some ⟨g2, 0, none⟩, es.length, es.length)) rfl (by unfold maxLen; omega) (by omega) (Nat.le_refl _) HB9.out.size HB9.out (fun k e => own_baseD HO9.out e) ?_
          intro v' w10 hown10 hb10 hk10
          have HJN := Lib.hid (JList.push HO9.out HML.out HFV.out hlL HLX.out HNW.out hown10 hk10)
          have HB10 := Lib.hid hb10
          clear hown10 hb10 hk10 HO9 HML HFV HNW HB9
          go_wp2
          go_roundw
          case rel => exact ⟨j + 1, by omega, by go_num, HJN.out, HB10.out⟩
          case measure => simp [intOf]; omega
        · have hjn : j = xn := by omega
          have HJF := Lib.hid (show JList wr w.heap.size _ (o + xn) L from hjn ▸ HJ.out)
          clear hjn
          go_wp2
          go_roundw
          case rel => exact ⟨p + 1, by omega, by go_num, by rw [HPN2.out]; exact HJF.out, HB.out⟩
          case measure => simp [intOf]; omega
    · obtain rfl : p = 2 := by omega
      obtain ⟨ms, hown, hml, ⟨g, cp, rfl, hk, hk2⟩, hf⟩ := hj
      simp only [show ¬ (2 : Nat) = 0 by omega, show ¬ (2 : Nat) = 1 by omega, if_false] at hown hml hk
      have HOF := Lib.hid hown
      have HMF := Lib.hid hml
      have HFF := Lib.hid hf
      have HB := Lib.hid hb
      clear hown hml hf hb
      have hki : (n : Int) + (m : Int) ≤ (cp : Int) := by omega
      go_wp2
      go_ret
      have hM := rowM_of_owns (ds := L) HOF.out (by rw [HMF.out, HLEN.out]) (fun k d x h1 h2 => (HFF.out k d x h1 h2).1)
      refine ⟨some ⟨g, 0, none⟩, n + m, n + m, rfl, hM.rowD, fun a e => ?_, HB.out, ms, hM, fun d hd => ?_⟩
      · cases e
        exact own_baseD HOF.out rfl
      · obtain ⟨k, hk, e⟩ := List.getElem_of_mem hd
        have hkL : k < L.length := by have := HMF.out; have := HLEN.out; omega
        exact (HFF.out k d _ (by rw [← e]; exact List.getElem?_eq_getElem hk) (List.getElem?_eq_getElem hkL)).2
end Go.Proofs.YtmabokmnniiadaaGreatDoor
