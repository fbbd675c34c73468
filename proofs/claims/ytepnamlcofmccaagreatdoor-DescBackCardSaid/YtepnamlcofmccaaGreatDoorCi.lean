/-
  What is proved: the contract of Slots of package desc. No condition beyond those stated.
-/
import Derived.Test.YtepnamlcofmccaaGreatDoorCh
import Derived.Maps.OwnIn
import Derived.RangeFuncBox
namespace Go.Proofs.YtepnamlcofmccaaGreatDoor
open Go.RowKit Go.Shelf Go.Stop
attribute [local go_sem] Oper.semAt_some

theorem ptrs1_stops (n : Nat) (z e : Int) (N : Nat) (P Q : Option Addr) (m c q f : Nat) (ps es : List Int) (h : Nat) (hm : m ≤ 1000) (hq : q ≤ 1000) (hz : 0 ≤ z ∧ z ≤ 1024) (he : 0 ≤ e ∧ e ≤ 256) (hN : N ≤ 131072) (hne : (N : Int) * e ≤ 131072) (hes : ∀ p ∈ es, 0 ≤ p ∧ p ≤ 1000)
    (w : World) (hc : Blk w h 53 #[.int .i64 z, .slice P m c, .int .i64 e, .slice Q q f, .int .i64 N]) (hP : Row w P m (ps.map Iv)) (hQ : Row w Q q (es.map Iv)) :
    StopsN n 47 #[.pointer (some ⟨h, 0, none⟩)] (h :: (blkR P m ++ blkR Q q)) (slotsTo z ps e es N) w := fun y J Jx W hW _ _ hY h0 =>
  ptrs1_in n z e N P Q m c q f ps es _ rfl h y _ (by simp) (fun b hb => by simp [hb]) (fun b hb => by simp [hb]) hm hq hz he hN hne hes J Jx W hY (hc.ext hW) (hP.ext hW) (hQ.ext hW) h0

set_option maxHeartbeats 400000 in
theorem pointers_any (z e n : Int) (P Q : Option Addr) (m c q f : Nat) (w : World) :
    Calls Tryz.prog 31 #[shapeV z P m c e Q q f n] w fun x w' => x = .returned (.func (.func 47) #[] #[.pointer (some ⟨w.heap.size, 0, none⟩)]) ∧ w.alloc (shapeO z P m c e Q q f n) = w' := by
  go_enter Tryz.func31, Tryz.ntmps31
  go_wp2
  go_ret
  exact ⟨rfl, rfl⟩

/-- A list of numbers of the call's own, and an error's number. -/
def GivesSl (w : World) (l : List Int) (no : Nat) (x : Ending) (w' : World) : Prop := ∃ A m c, x = .returned (.tuple #[.slice A m c, .int .i64 no]) ∧ Row w' A m (l.map Iv) ∧ (∀ a, A = some a → w.heap.size ≤ a.block) ∧ Below w.heap.size w w'
def slotsR (z : Int) (ps : List Int) (e : Int) (es : List Int) (n : Int) : List Int := if formC z ps e es n = 0 then slotsTo z ps e es n.toNat else []

theorem stop_here {p : Prop} (h : True → p) : p := h trivial
theorem int_info : (Tryz.prog.info? 3).map (fun i => (i.zero, i.size, i.bytes)) = some (some (.int .i64 0), 1, 8) := by kernel_rfl
theorem own_cells {W : World} {base : Nat} {e : TypeId} {size : Nat} {v : Value} {n : Nat} {xs : List Value} (h : W.ownsRow base e size v n xs) {b : Nat} (hb : v.ownBlock = some b) : ∃ cur, W.heap[b]? = some (.cells cur e (0, 0)) := by
  rcases h.2 with ⟨rfl, _⟩ | ⟨g, cap, cur, rfl, _, h1, _⟩
  · cases hb
  · cases hb
    exact ⟨cur, h1⟩

/-- What numbers have come. -/
def cameN (L : List Int) {N : Nat} (pre : List (Fin N)) : List Int := pre.map fun x => L.getD x.1 0
theorem cameN_snoc (L : List Int) {N : Nat} (pre : List (Fin N)) (x : Fin N) : cameN L (pre ++ [x]) = cameN L pre ++ [L.getD x.1 0] := by simp [cameN]
theorem cameN_len (L : List Int) {N : Nat} (pre : List (Fin N)) : (cameN L pre).length = pre.length := by simp [cameN]
theorem cameN_all (L : List Int) : cameN L (List.finRange L.length) = L := by
  unfold cameN
  apply List.ext_getElem
  · simp
  · intro i h1 h2
    simp

/-- What holds from round to round. -/
def SlI (w W1 : World) (L : List Int) (g s : Nat) {N : Nat} (pre : List (Fin N)) (W' : World) : Prop :=
  W1.heap.size ≤ W'.heap.size ∧ Below w.heap.size w W' ∧
    ∃ v, W'.ownsRow g 3 1 v (cameN L pre).length ((cameN L pre).map Iv) ∧ Blk W' s 22 #[v] ∧ (v.ownBlock = some g ∨ ∃ b, W1.heap.size ≤ b ∧ v.ownBlock = some b)
theorem SlI.own (w W1 : World) (L : List Int) (g s : Nat) (N : Nat) (hs : s < W1.heap.size) (hw : w.heap.size < W1.heap.size) : OwnFrom W1.heap.size (SlI w W1 L g s (N := N)) := by
  rintro pre X Y row ⟨h1, h2, v, h4, h5, h6⟩ hg hr
  have hb : Below W1.heap.size X Y := (Below.refl _ X).grown hg h1 (fun k e => (hr k e).1)
  refine ⟨Nat.le_trans h1 hg.size, h2.trans (hb.mono (by omega)), v, h4.kept hg ?_, h5.below hb hs, h6⟩
  cases hv : v.ownBlock with
  | none => exact .inl rfl
  | some b =>
    right
    intro e
    obtain ⟨_, o, ho, hc⟩ := hr b e.symm
    obtain ⟨cur, hcur⟩ := own_cells h4 hv
    rw [hcur] at ho
    cases ho
    simp [Obj.isCells] at hc

def slF (w w1 w3 : World) (z : Int) (P : Option Addr) (m c : Nat) (e : Int) (Q : Option Addr) (q f : Nat) (N nq : Nat) (y : Int) : Act :=
  { tmps := #[descV z P m c e Q q f, .int .i64 N, .pointer (some ⟨w.heap.size, 0, none⟩), undef, .slice none 0 0, .int .i64 0, .pointer (some ⟨w1.heap.size, 0, none⟩), .nilIface, .pointer (some ⟨w3.heap.size, 0, none⟩), .int .i64 y,
      .tuple #[shapeV z P m c e Q q f N, .nilIface], descV z P m c e Q q f, .int .i64 N, .tuple #[shapeV z P m c e Q q f N, .nilIface], shapeV z P m c e Q q f N, .nilIface, .nilIface, .bool false, undef, undef,
      .pointer (some ⟨w1.heap.size, 0, none⟩), .pointer (some ⟨w1.heap.size, 1, none⟩), .slice P m c, .int .i64 m, .pointer (some ⟨w1.heap.size, 4, none⟩), .int .i64 N, .pointer (some ⟨w1.heap.size, 0, none⟩), .pointer (some ⟨w1.heap.size, 3, none⟩), .slice Q q f, .int .i64 q, .int .i64 nq, .int .i64 (m + nq),
      .slice (some ⟨w1.heap.size + 1, 0, none⟩) 0 (m + nq), shapeV z P m c e Q q f N, .func (.func 47) #[] #[.pointer (some ⟨w3.heap.size + 1, 0, none⟩)], .int .i64 y, undef, undef, undef, undef, undef], defers := [] }

set_option maxRecDepth 100000 in
set_option maxHeartbeats 4000000 in
theorem slots_any (z e n : Int) (P Q : Option Addr) (m c q f : Nat) (ps es : List Int) (w : World) (hE : EType w) (hP : Row w P m (ps.map Iv)) (hQ : Row w Q q (es.map Iv)) (hm : m ≤ 1000) (hq : q ≤ 1000) (hn3 : n ≤ 300) :
    Calls Tryz.prog 16 #[descV z P m c e Q q f, .int .i64 n] w (GivesSl w (slotsR z ps e es n) (formC z ps e es n)) := by
  obtain ⟨i, hi, hz0, hz1, hz2⟩ := info_parts int_info
  have hb1 := below_box w (descO z P m c e Q q f)
  have hcall := form_any z e n P Q m c q f ps es _ (hP.ext hb1) (hQ.ext hb1) hm hq
  have hfz := form_zero (z := z) (e := e) (n := n) (ps := ps) (es := es)
  have hbz : slotsR z ps e es n = if formC z ps e es n = 0 then slotsTo z ps e es n.toNat else [] := rfl
  have hee : formC z ps e es n = 0 → ∀ p ∈ es, 0 ≤ p ∧ p ≤ 1000 := fun h p hp => by
    unfold formC at h
    split at h
    · rename_i hd
      obtain ⟨_, he, _, h2⟩ := right_of hd
      have := rise_mem h2 p hp
      omega
    · omega
  have hlm := hP.1
  have hlq := hQ.1
  simp at hlm hlq
  have HLM := Lib.hid hlm
  have HLQ := Lib.hid hlq
  have hbl := fun b => blkR_lt (b := b) hP
  have hbl2 := fun b => blkR_lt (b := b) hQ
  generalize slotsR z ps e es n = by_ at *
  generalize formC z ps e es n = no at *
  have HC := Lib.hid hcall
  have HFZ := Lib.hid hfz
  have HBZ := Lib.hid hbz
  have HB := Lib.hid hb1
  have HE := Lib.hid hE
  have HP := Lib.hid hP
  have HQ := Lib.hid hQ
  have HEE := Lib.hid hee
  have HBL := Lib.hid hbl
  have HBL2 := Lib.hid hbl2
  clear hcall hfz hbz hb1 hP hQ hE hee hbl hbl2 hlm hlq
  refine (callsIn_wide (n := 3)).1 ?_
  refine callsIn_of_wp_marks Tryz.func16 rfl trivial ?_ rfl
  simp only [Tryz.ntmps16, List.size_toArray, List.length_cons, List.length_nil, Nat.reduceAdd, Nat.reduceSub, Array.replicate_succ, Array.replicate_zero, List.push_toArray, List.append_toArray, List.nil_append, List.cons_append]
  gi_wp2_with fail
  generalize w.alloc (descO z P m c e Q q f) = W0 at *
  refine ⟨trivial, (callsIn_wide.2 HC.out).mono ?_⟩
  rintro x w1 ⟨s, v, rfl, hv, hs0, hs1, hb1⟩
  by_cases h0 : no = 0
  · obtain rfl := hs0 h0
    obtain rfl : v = .nilIface := by
      rcases hv with h | h
      · exact h.2
      · exact absurd h0 h.1
    obtain ⟨hz, he, hn, hne, -⟩ := HFZ.out h0
    obtain ⟨N, rfl⟩ : ∃ N : Nat, n = N := ⟨n.toNat, by omega⟩
    have hx := below_box w1 (shapeO z P m c e Q q f N)
    have hbw := below_le (below_le HB.out hb1) hx
    have hsh := Blk.new w1 53 #[.int .i64 z, .slice P m c, .int .i64 e, .slice Q q f, .int .i64 N]
    have hBZ := HBZ.out
    rw [if_pos h0, Int.toNat_natCast] at hBZ
    have hN := Lib.hid h0
    have HBW := Lib.hid hbw
    have HBR := Lib.hid hBZ
    have HSH := Lib.hid hsh
    have HZE := Lib.hid (And.intro hz (And.intro he hne))
    have HES := Lib.hid (HEE.out h0)
    have hN3 : N ≤ 300 := by omega
    have hnq : N * q ≤ 300 * 1000 := Nat.mul_le_mul hN3 hq
    obtain ⟨nq, hnq2⟩ : ∃ nq : Nat, (N : Int) * (q : Int) = (nq : Int) := ⟨N * q, by simp⟩
    have hnq3 : nq ≤ 300000 := by
      have : ((N * q : Nat) : Int) = nq := by simpa using hnq2
      omega
    have hww : w.heap.size < (w1.alloc (shapeO z P m c e Q q f N)).heap.size := by have := (below_le HB.out hb1).size; simp; omega
    clear hs0 hs1 hv h0 hx hbw hb1 hBZ HC HFZ HBZ hz he hn hne hnq HEE hsh
    gi_wp2_with (gi_at_make; refine wpListIn_make_own _ rfl _ _ _ rfl (w1.heap.size + 1) 3 i _ 1 Tryz.underlying22 hi hz0 hz1 .i64 .i64 _ (m + nq) rfl rfl ?mk0 ?mk1 ?mk2 ?mk3 ?_)
    case mk0 => simp
    case mk1 => rw [hz2]; omega
    case mk2 => show m + nq ≤ maxLen; unfold maxLen; omega
    case mk3 => simp
    intro w3 hown3 hg3
    have hzz : (w1.alloc (shapeO z P m c e Q q f N)).heap.size = w1.heap.size + 1 := by simp
    rw [hzz] at hww
    have HZZ := Lib.hid hzz
    clear hzz
    generalize w1.alloc (shapeO z P m c e Q q f N) = w2 at *
    have hb3 : Below w2.heap.size w2 w3 := ⟨hg3.os, hg3.tape, hg3.output, hg3.size, fun i hi => hg3.block i hi (by simp)⟩
    have HSH3 := Lib.hid (HSH.out.ext hb3)
    have HB3 := Lib.hid (below_le HBW.out hb3)
    have HO3 := Lib.hid hown3
    have hs3 := (HO3.out.lt (w1.heap.size + 1) rfl).2
    have hsh := HSH3.out
    have d0 := fun o => cell_ext (below_box w3 o) (hsh.at_ (i := 0) rfl)
    have d1 := fun o => cell_ext (below_box w3 o) (hsh.at_ (i := 1) rfl)
    have d2 := fun o => cell_ext (below_box w3 o) (hsh.at_ (i := 2) rfl)
    have d3 := fun o => cell_ext (below_box w3 o) (hsh.at_ (i := 3) rfl)
    have d4 := fun o => cell_ext (below_box w3 o) (hsh.at_ (i := 4) rfl)
    clear hg3 hb3 hown3 HBW HSH hsh
    gi_wp2_with fail
    refine ⟨trivial, (callsIn_wide.2 (pointers_any _ _ _ _ _ _ _ _ _ _)).mono ?_⟩
    rintro x w' ⟨rfl, rfl⟩
    clear d0 d1 d2 d3 d4
    simp only [World.size_alloc]
    have hb4 : Below w3.heap.size w3 ((w3.alloc (.cells #[.slice (some ⟨w1.heap.size + 1, 0, none⟩) 0 (m + nq)] 22)).alloc (shapeO z P m c e Q q f N)) := below_le (below_box _ _) (below_box _ _)
    have hz : ((w3.alloc (.cells #[.slice (some ⟨w1.heap.size + 1, 0, none⟩) 0 (m + nq)] 22)).alloc (shapeO z P m c e Q q f N)).heap.size = w3.heap.size + 1 + 1 := by simp
    have hbl : Blk ((w3.alloc (.cells #[.slice (some ⟨w1.heap.size + 1, 0, none⟩) 0 (m + nq)] 22)).alloc (shapeO z P m c e Q q f N)) w3.heap.size 22 #[.slice (some ⟨w1.heap.size + 1, 0, none⟩) 0 (m + nq)] := Blk.alloc (heap_new rfl _) _
    have hsb : Blk ((w3.alloc (.cells #[.slice (some ⟨w1.heap.size + 1, 0, none⟩) 0 (m + nq)] 22)).alloc (shapeO z P m c e Q q f N)) (w3.heap.size + 1) 53 #[.int .i64 z, .slice P m c, .int .i64 e, .slice Q q f, .int .i64 N] := heap_new (by simp) _
    have hown4 := (HO3.out.alloc (.cells #[.slice (some ⟨w1.heap.size + 1, 0, none⟩) 0 (m + nq)] 22)).alloc (shapeO z P m c e Q q f N)
    have hbW := below_le HB3.out hb4
    generalize (w3.alloc (.cells #[.slice (some ⟨w1.heap.size + 1, 0, none⟩) 0 (m + nq)] 22)).alloc (shapeO z P m c e Q q f N) = W1 at *
    have hst := ptrs1_stops (3 - 1) z e N P Q m c q f ps es (w3.heap.size + 1) hm hq HZE.out.1 HZE.out.2.1 (by omega) HZE.out.2.2.2 HES.out W1 hsb (HP.out.ext hbW) (HQ.out.ext hbW)
    have hSk : ∀ b ∈ (w3.heap.size + 1) :: (blkR P m ++ blkR Q q), b < W1.heap.size ∧ b ≠ w1.heap.size + 1 ∧ b ≠ w3.heap.size := by
      intro b hb
      rcases List.mem_cons.1 hb with rfl | hb
      · omega
      · rcases List.mem_append.1 hb with hb | hb
        · have := HBL.out b hb; omega
        · have := HBL2.out b hb; omega
    have HZ1 := Lib.hid hz
    have hLL : (slotsTo z ps e es N).length ≤ 301000 := by
      rw [slots_len, HLM.out, HLQ.out]
      have : ((N * q : Nat) : Int) = nq := by simpa using hnq2
      omega
    generalize slotsTo z ps e es N = L at *
    have HLL := Lib.hid hLL
    have HS := Lib.hid hSk
    have HBW := Lib.hid hbW
    have hI0 : SlI w W1 L (w1.heap.size + 1) w3.heap.size ([] : List (Fin L.length)) W1 := ⟨Nat.le_refl _, hbW, _, hown4, hbl, .inl rfl⟩
    clear hb4 hsb hSk hLL hbW hz hown4 hbl hnq2
    gi_wp2_with fail
    refine wpIn_rangeFunc_ownG (F := Fence.wide) (n := 3) rfl (by omega) (gf := 47) (lb := #[.pointer (some ⟨w3.heap.size + 1, 0, none⟩)]) rfl trivial (enters_of Tryz.func47 (by kernel_rfl) rfl)
      hst (fun h k => h.t k) (KeepB.b (fun b hb => (HS.out b hb).1)) (Below.refl _ _) (fun _ => rfl)
      (SlI w W1 L (w1.heap.size + 1) w3.heap.size) (fun _ _ _ => False)
      (SlI.own w W1 L _ _ _ (by have := HZ1.out; omega) (by have := HZ1.out; omega))
      (fun _ _ _ _ _ hs _ _ => hs)
      hI0
      (fun x' => slF w w1 w3 z P m c e Q q f N nq (L.getD x'.1 0)) ?assign ?body ?done ?stop
    case assign =>
      intro l x1 W' K hK
      dsimp only [numV]
      generalize L.getD x1.1 0 = y at *
      gi_wp2
      exact hK
    case body =>
      rintro l pre x W' ⟨s1, s2, v, s4, s5, s6⟩ hpre
      have hcl : (cameN L pre).length ≤ 301000 := by have := cameN_len L pre; have := HLL.out; omega
      have hsn := cameN_snoc L pre x
      generalize L.getD x.1 0 = y at *
      generalize cameN L pre = xs at *
      have HSN := Lib.hid hsn
      have c5 := s5.cell 0
      have f5 := s5.frozen 0
      simp at c5
      have S2 := Lib.hid s2
      have S4 := Lib.hid s4
      have S5 := Lib.hid s5
      have S6 := Lib.hid s6
      have hz1 := HZ1.out
      have HZW : Hid (w3.heap.size + 2 ≤ W1.heap.size) := Lib.hid (by omega)
      clear s2 s4 s5 s6 hst hsn hI0 hz1
      simp only [slF]
      gi_wp2_with (gi_at_builtin; refine stop_here ?_)
      intro _
      refine (wpListIn_append_own_at _ rfl (.tmp 36) (.tmp 38) 22 rfl (w1.heap.size + 1) 3 i (.int .i64 0) 1 8 Tryz.underlying22 hi hz0 hz1 hz2 rfl (by omega) v xs.length (xs.map Iv) rfl ?own ⟨W'.heap.size, 0, none⟩ 1 1 [.int .i64 y] rfl rfl ?news ?one ?b1 ?b2 ?b3 ?_)
      case own => exact S4.out.alloc _
      case news =>
        intro k u hu
        match k with
        | 0 => simp [Addr.add, go_sem] at hu ⊢; exact hu
        | k + 1 => simp at hu
      case one => intro u hu; rw [List.mem_singleton.1 hu]; rfl
      case b1 => unfold maxLen; omega
      case b2 => omega
      case b3 => have := HZW.out; simp; omega
      intro v' W3 hown hgr _ hat
      obtain ⟨g', cap', rfl⟩ := ownsRow_succ hown
      have hbk := below_box W' (.cells #[.int .i64 y] 3)
      have hz1 := HZW.out
      have hne : ∀ b, b < W1.heap.size → b ≠ w1.heap.size + 1 → some b ≠ v.ownBlock := by
        intro b hb hbn e
        rcases S6.out with h | ⟨b', hb', h⟩ <;> rw [h] at e <;> cases e <;> omega
      have s5' : Blk W3 w3.heap.size 22 #[v] := (hgr.block _ (by simp; omega) (hne _ (by omega) (by omega))).trans (S5.out.ext hbk)
      have c6 := s5'.at_ (i := 0) rfl
      have f6 := s5'.frozen 0
      have S5' := Lib.hid s5'
      have HOW := Lib.hid hown
      have HGR := Lib.hid hgr
      have HAT := Lib.hid hat
      have HBK := Lib.hid hbk
      have HNE := Lib.hid hne
      clear hown hgr hat hbk hne s5' c5 f5 hz1
      gi_wp2
      have hz1 := HZW.out
      have g1 := grown_set W3 w3.heap.size 0 (.slice (some ⟨g', 0, none⟩) (xs.length + 1) cap')
      have hsz : W'.heap.size ≤ W3.heap.size := Nat.le_trans HBK.out.size HGR.out.size
      have hblk : ∀ b, b < W1.heap.size → b ≠ w1.heap.size + 1 → b ≠ w3.heap.size → (W3.setCell ⟨w3.heap.size, 0, none⟩ (.slice (some ⟨g', 0, none⟩) (xs.length + 1) cap')).heap[b]? = W'.heap[b]? := fun b h1 h2 h3 =>
        (g1.block b (by omega) (fun e => h3 (Option.some.inj e))).trans ((HGR.out.block b (by simp; omega) (HNE.out b h1 h2)).trans (HBK.out.block b (by omega)))
      refine ⟨?_, fun b hb => hblk b (HS.out b hb).1 (HS.out b hb).2.1 (HS.out b hb).2.2, ?_, ?_, _, ?_, S5'.out.set_ 0 (.slice (some ⟨g', 0, none⟩) (xs.length + 1) cap'), ?_⟩
      · refine ⟨Nat.le_trans hsz g1.size, fun k o hB hk ho => ?_⟩
        have hkl : k < W'.heap.size := (Array.getElem?_eq_some_iff.1 hk).1
        refine (g1.block k (by omega) (fun e => by cases e; omega)).trans ((HGR.out.block k (by simp; omega) (fun e => ?_)).trans ((HBK.out.block k hkl).trans hk))
        obtain ⟨cur, hcur⟩ := own_cells S4.out e.symm
        rw [hcur] at hk
        cases hk
        simp [Obj.isCells] at ho
      · exact Nat.le_trans s1 (Nat.le_trans hsz g1.size)
      · have hb5 : Below w.heap.size w W3 := (below_le S2.out HBK.out).trans ((Below.refl _ _).grown HGR.out (by simp; omega) (fun k e => by
          rcases S6.out with h | ⟨b', hb', h⟩ <;> rw [h] at e <;> cases e <;> omega))
        exact hb5.setCell (p := ⟨w3.heap.size, 0, none⟩) (by show w.heap.size ≤ w3.heap.size; omega) _
      · rw [HSN.out]
        have h7 := HOW.out.kept g1 (.inr fun e => ?_)
        · simpa [Iv] using h7
        · rcases HAT.out with h | h
          · exact HNE.out w3.heap.size (by omega) (by omega) (e.symm.trans h)
          · rw [h] at e
            simp at e
            omega
      · rcases HAT.out with h | h
        · rw [h]; exact S6.out
        · right; exact ⟨_, by simp; omega, h⟩
    case done =>
      rintro D ys W' hD rfl ⟨s1, s2, v, s4, s5, s6⟩ hK
      rw [cameN_all] at s4
      have hcell : ∀ {g}, v.ownBlock = some g → ∀ j u, (L.map Iv)[j]? = some u → W'.cell? ((⟨g, 0, none⟩ : Addr).add j) = some u := fun h => s4.cells h
      rcases s4.2 with ⟨rfl, _⟩ | ⟨b, cap, cur, rfl, hb, hcur, hk, hcap, -, -⟩
      · rcases s6 with h | ⟨_, _, h⟩ <;> cases h
      have c5 := s5.at_ (i := 0) rfl
      have HC5 := Lib.hid (fun j u => hcell rfl j u)
      have S2 := Lib.hid s2
      have HZW : Hid (w.heap.size ≤ W1.heap.size) := Lib.hid (by have := HZ1.out; omega)
      have hki : (L.length : Int) ≤ cap := by omega
      clear hcell s2 s4 s5 hI0 hst
      gi_wp2
      refine ⟨by simp, .inl ⟨_, _, rfl, run_takeDeferred hK, ?_⟩⟩
      have hbD : b ≠ D := by
        rintro rfl
        rw [hcur] at hK
        cases hK
      refine ⟨.tuple #[.slice (some ⟨b, 0, none⟩) L.length cap, .int .i64 0], by simp [results, Tryz.results16, go_sem], _, _, _, by rw [hN.out]; rfl, ?_, (fun a e => by cases e; show w.heap.size ≤ b; omega), ?_⟩
      · rw [HBR.out]
        refine ⟨by simp, fun _ => ⟨b, 0, rfl, fun j u hu => ?_⟩⟩
        have h8 := HC5.out j u hu
        rw [addr_add] at h8
        exact (World.cell?_of_block (w := W') (World.putObj_heap_other hbD)).trans h8
      · exact S2.out.trans (belowK_b (w := W1) HZW.out W' D _ _ hD hK rfl rfl)
    case stop =>
      rintro D c pre W' _ _ h _
      exact h.elim
  · obtain rfl := hs1 h0
    obtain ⟨t, u, rfl⟩ : ∃ t u : Nat, v = .iface 95 (.pointer (some ⟨t, 0, none⟩)) := by
      rcases hv with h | ⟨_, t, u, h, _⟩
      · exact absurd h.1 h0
      · exact ⟨t, 0, h⟩
    have hx := below_box w1 (shapeO 0 none 0 0 0 none 0 0 0)
    have hbw := below_le (below_le HB.out hb1) hx
    have hcall := number_desc no _ _ (hv.ext hx) (HE.out.ext hbw)
    have hBZ := HBZ.out
    rw [if_neg h0] at hBZ
    have HBZ2 := Lib.hid hBZ
    have HC2 := Lib.hid hcall
    have HBW := Lib.hid hbw
    clear hs0 hs1 hv hx hbw hcall hb1 hBZ h0 HC HFZ HBZ HEE
    gi_wp2_with fail
    generalize w1.alloc (shapeO 0 none 0 0 0 none 0 0 0) = W1 at *
    refine ⟨trivial, (callsIn_wide.2 HC2.out).mono ?_⟩
    rintro x w2 ⟨rfl, hb2⟩
    have HBW3 := Lib.hid (below_le HBW.out hb2)
    clear hb2 HC2
    gi_wp2
    refine ⟨.tuple #[.slice none 0 0, .int .i64 no], by simp [results, Tryz.results16, go_sem], none, 0, 0, rfl, ?_, (fun a e => by cases e), HBW3.out⟩
    rw [HBZ2.out]
    exact Row.none_

end Go.Proofs.YtepnamlcofmccaaGreatDoor
