/-
  What is proved: contracts of TakeRun, Close and Drop of package pool. No condition beyond those stated.
-/
import Derived.Test.YtllanbggjfmfhaaGreatDoorHf
namespace Go.Proofs.YtllanbggjfmfhaaGreatDoor
open Go.RowKit Go.Shelf

theorem Row.far {w : World} {A : Option Addr} {n : Nat} {xs : List Value} (h : Row w A n xs) {p : Addr} (hp : ∀ a, A = some a → a.block ≠ p.block) (u : Value) : Row (w.setCell p u) A n xs :=
  ⟨h.1, fun hn => by
    obtain ⟨b, off, e, hc⟩ := h.2 hn
    exact ⟨b, off, e, fun j v hv => (World.cell?_of_block (w := w) (Below.heap_setCell _ _ _ b (hp _ e))).trans (hc j v hv)⟩⟩
theorem poolF_mk {w : World} {base TB : Nat} {l : List Int} {ts : List (List Int)} {A : Option Addr} {m c : Nat} {X : List Nat} (hR : Row w A m (l.map Iv)) (hA : ∀ a, A = some a → base ≤ a.block) (hmc : m ≤ c) (hL : Laid w base TB ts.length ts X) (hT : base ≤ TB) :
    PoolF w base (.agg #[.slice A m c, .slice (some ⟨TB, 0, none⟩) ts.length ts.length]) l ts := by
  refine ⟨_, _, _, _, _, _, rfl, hmc, fun X hX => ⟨⟨hR.1, fun hn => ?_⟩, ?_⟩⟩
  · obtain ⟨b, off, e, hc⟩ := hR.2 hn
    refine ⟨b, off, e, fun j v hv => ?_⟩
    have h1 := hc j v hv
    exact (World.cell?_of_block (w := w) (hX b (hA _ e) (lt_of_cell h1))).trans h1
  · obtain ⟨vs, h1, h2, h3⟩ := hL
    have h2' : Blk X TB 22 vs.toArray := (hX _ hT h2.lt).trans h2
    refine ⟨rfl, fun _ => ⟨TB, 0, rfl, fun j t ht => ?_⟩⟩
    obtain ⟨A, n, c, e1, e2, e3, e4, e5⟩ := h3 j t ht
    refine ⟨A, n, c, by rw [Nat.zero_add, h2'.cell]; simpa using e1, e2, e3, e4.1, fun hn => ?_⟩
    obtain ⟨b, off, e, hc⟩ := e4.2 hn
    refine ⟨b, off, e, fun i u hu => ?_⟩
    have hb := e5 _ e
    exact (World.cell?_of_block (w := w) (hX b hb.1 hb.2.1)).trans (hc i u hu)

def runOk (l : List Int) (ts : List (List Int)) (k : Int) : Bool := pRight l ts && (firstR l k).isSome
def runN (l : List Int) (ts : List (List Int)) (k : Int) : Nat := if runOk l ts k then ((firstR l k).getD (0, 0)).1 else 0
def runL (l : List Int) (ts : List (List Int)) (k : Int) : List Int := if runOk l ts k then putL l (runN l ts k) k.toNat else []
def runT (l : List Int) (ts : List (List Int)) (k : Int) : List (List Int) := if runOk l ts k then ts else []

theorem pright_whole {l : List Int} {ts : List (List Int)} (h : pRight l ts = true) : wholeL l = true ∧ ts.length = l.length := by
  simp only [pRight, Bool.and_eq_true, decide_eq_true_eq] at h
  exact h.1

set_option maxRecDepth 100000 in
set_option maxHeartbeats 2000000 in
/-- pool.TakeRun. -/
theorem takeRun_any (S : Option Addr) (m c : Nat) (T : Option Addr) (k d : Nat) (l : List Int) (ts : List (List Int)) (n : Int) (aS aR : Addr) (w : World) (hRS : RSent w aS aR) (hS : Row w S m (l.map Iv)) (hT : Tabs w T k ts) (hm : m ≤ 1000) (hk : k ≤ 1000) :
    Calls Tryz.prog 11 #[.agg #[.slice S m c, .slice T k d], .int .i64 n] w (GivesTake w (runL l ts n) (runT l ts n) (runN l ts n : Nat) (runOk l ts n)) := by
  have hl := hS.1
  simp at hl
  have hlm : l.length ≤ 1000 := by omega
  have hb0 : Below w.heap.size w ((w.alloc (.cells #[.slice S m c, .slice T k d] 25)).alloc (.cells #[.slice none 0 0, .slice none 0 0] 25)) := below_le (below_box _ _) (below_box _ _)
  have h2 : Blk ((w.alloc (.cells #[.slice S m c, .slice T k d] 25)).alloc (.cells #[.slice none 0 0, .slice none 0 0] 25)) (w.heap.size + 1) 25 #[.slice none 0 0, .slice none 0 0] := heap_new (by simp) _
  have HB := Lib.hid hb0
  have H2 := Lib.hid h2
  have HS := Lib.hid (hS.ext hb0)
  have HT := Lib.hid (hT.ext hb0)
  have HRS := Lib.hid (hRS.ext hb0)
  clear hS hT hb0 h2 hRS hl
  have hempty : ∀ (X : World), Blk X (w.heap.size + 1) 25 #[.slice none 0 0, .slice none 0 0] → Below w.heap.size w X → runOk l ts n = false →
      GivesTake w (runL l ts n) (runT l ts n) (runN l ts n : Nat) (runOk l ts n) (.returned (.tuple #[.agg #[.slice none 0 0, .slice none 0 0], .int .i64 0, .bool false])) ((X.setCell ⟨w.heap.size + 1, 0, none⟩ (.slice none 0 0)).setCell ⟨w.heap.size + 1, 1, none⟩ (.slice none 0 0)) := fun X hX hB hok => by
    unfold runL runT runN
    rw [hok]
    exact ⟨_, rfl, PoolF.none_, (hB.setCell (p := ⟨w.heap.size + 1, 0, none⟩) (by show w.heap.size ≤ w.heap.size + 1; omega) _).setCell (p := ⟨w.heap.size + 1, 1, none⟩) (by show w.heap.size ≤ w.heap.size + 1; omega) _⟩
  have HEM := Lib.hid hempty
  clear hempty
  cases hp : pRight l ts
  · have HOK := Lib.hid (show runOk l ts n = false by unfold runOk; rw [hp]; rfl)
    have HC := Lib.hid (keep_no S m c T k d l ts _ HS.out HT.out hm hk hp)
    clear hp
    go_enter Tryz.func11, Tryz.ntmps11
    go_wp2_with fail
    generalize (w.alloc (.cells #[.slice S m c, .slice T k d] 25)).alloc (.cells #[.slice none 0 0, .slice none 0 0] 25) = W0 at *
    refine HC.out.mono ?_
    rintro e w1 ⟨v, rfl, hv, hb1⟩
    obtain ⟨t, u, rfl⟩ : ∃ t u : Nat, v = .iface 82 (.pointer (some ⟨t, u, none⟩)) := by
      rcases hv with ⟨h, _⟩ | ⟨_, t, u, h, _⟩
      · cases h
      · exact ⟨t, 0, h⟩
    have h3 := H2.out.ext hb1
    have c0 := h3.cell 0
    have c1 := h3.cell 1
    have f0 := h3.frozen 0
    have f1 := h3.frozen 1
    have h4 := (h3.set_ 0 (.slice none 0 0)).set_ 1 (.slice none 0 0)
    have q0 := h4.cell 0
    have q1 := h4.cell 1
    simp at c0 c1 q0 q1
    have H3 := Lib.hid h3
    have HB1 := Lib.hid (below_le HB.out hb1)
    clear hv hb1 h3 h4 HC
    go_wp2
    exact bodyPost_ret (v := .tuple #[.agg #[.slice none 0 0, .slice none 0 0], .int .i64 0, .bool false]) (by simp [results, Tryz.results11, go_sem, q0, q1]) rfl (HEM.out _ H3.out HB1.out HOK.out)
  · have HP := Lib.hid hp
    have HC := Lib.hid (keep_ok S m c T k d l ts _ HS.out HT.out hm hk hp)
    clear hp
    go_enter Tryz.func11, Tryz.ntmps11
    go_wp2_with fail
    generalize (w.alloc (.cells #[.slice S m c, .slice T k d] 25)).alloc (.cells #[.slice none 0 0, .slice none 0 0] 25) = W0 at *
    refine HC.out.mono ?_
    rintro e w1 ⟨K, SB, TB, rfl, hkp, hb1⟩
    have hW0 := H2.out.lt
    have k0 := hkp.k.cell 0
    simp at k0
    have HKP := Lib.hid hkp
    have HB1 := Lib.hid hb1
    clear hkp hb1 HC
    go_wp2_with fail
    refine (first_any _ l.length l.length l n w1 HKP.out.len.1 hlm).mono ?_
    rintro e w2 ⟨rfl, hb2⟩
    replace k0 := cell_ext hb2 k0
    replace HKP := Lib.hid (HKP.out.ext hb2)
    have HB2 := Lib.hid (below_le HB1.out hb2)
    clear hb2 HB1
    cases hf : firstR l n with
    | none =>
      have HOK := Lib.hid (show runOk l ts n = false by unfold runOk; rw [hf]; simp)
      have h3 := H2.out.ext HB2.out
      have c0 := h3.cell 0
      have c1 := h3.cell 1
      have f0 := h3.frozen 0
      have f1 := h3.frozen 1
      have h4 := (h3.set_ 0 (.slice none 0 0)).set_ 1 (.slice none 0 0)
      have q0 := h4.cell 0
      have q1 := h4.cell 1
      simp at c0 c1 q0 q1
      have H3 := Lib.hid h3
      clear h3 h4 hf
      simp only [Option.getD_none, Option.isSome_none]
      go_wp2
      exact bodyPost_ret (v := .tuple #[.agg #[.slice none 0 0, .slice none 0 0], .int .i64 0, .bool false]) (by simp [results, Tryz.results11, go_sem, q0, q1]) rfl (HEM.out _ H3.out (below_le HB.out HB2.out) HOK.out)
    | some r =>
      obtain ⟨hpo, hn1⟩ := first_fits hf
      have hrl := first_bounds hf
      have hw := (pright_whole HP.out).1
      have hok : runOk l ts n = true := by unfold runOk; rw [HP.out, hf]; rfl
      have hN : runN l ts n = r.1 := by unfold runN; rw [hok, hf]; rfl
      have hcode : codeP l (r.1 : Int) n = 0 := by unfold codeP; rw [hw, hpo]; rfl
      have hres : resP l (r.1 : Int) n = putL l r.1 n.toNat := by unfold resP; rw [hw, hpo]; rfl
      have hput := put_any _ l.length l.length l (r.1 : Int) n aS aR w2 (HRS.out.ext HB2.out) HKP.out.len.1 hlm (Nat.le_refl _) (by omega)
      rw [hcode, hres] at hput
      have HOK := Lib.hid hok
      have HN := Lib.hid hN
      have HPU := Lib.hid hput
      clear hpo hrl hw hok hN hcode hres hput hf
      simp only [Option.getD_some, Option.isSome_some]
      generalize r.1 = rn at *
      go_wp2_with fail
      refine HPU.out.mono ?_
      rintro e w3 ⟨A1, m1, c1, rfl, hR1, ⟨hmc1, hfr1⟩, hb3⟩
      have hKl := HKP.out.k.lt
      have hkp := HKP.out.ext hb3
      have h3 := H2.out.ext (below_le HB2.out hb3)
      have kf := hkp.k.frozen 0
      replace k0 := cell_ext hb3 k0
      have hkK := hkp.bk
      have hTB := hkp.bt
      -- the keeper's states
      have hkb := hkp.k.set_ 0 (.slice A1 m1 c1)
      have hR1' := hR1.far (p := ⟨K, 0, none⟩) (fun a e => by have := hfr1 a e; show a.block ≠ K; omega) (.slice A1 m1 c1)
      have hL1 := hkp.t.far (p := ⟨K, 0, none⟩) (by show TB ≠ K; exact Ne.symm hkp.ne.2.2) (.inl (by simp)) (.slice A1 m1 c1)
      have h3' := h3.far (p := ⟨K, 0, none⟩) (by show w.heap.size + 1 ≠ K; omega) (.slice A1 m1 c1)
      have hB3 := (below_le HB.out (below_le HB2.out hb3)).setCell (p := ⟨K, 0, none⟩) (by show w.heap.size ≤ K; omega) (.slice A1 m1 c1)
      have g0 := hkb.cell 0
      have g1 := hkb.cell 1
      have c0 := h3'.cell 0
      have cc1 := h3'.cell 1
      have f0 := h3'.frozen 0
      have f1 := h3'.frozen 1
      have hpf := poolF_mk hR1' (fun a e => by have := hfr1 a e; omega) hmc1 hL1 (by omega : W0.heap.size ≤ TB)
      have hpf2 := ((hpf.far (p := ⟨w.heap.size + 1, 0, none⟩) hW0 (.slice A1 m1 c1)).far (p := ⟨w.heap.size + 1, 1, none⟩) hW0 (.slice (some ⟨TB, 0, none⟩) ts.length ts.length)).mono (base' := w.heap.size) (by omega)
      have hB4 := (hB3.setCell (p := ⟨w.heap.size + 1, 0, none⟩) (by show w.heap.size ≤ w.heap.size + 1; omega) (.slice A1 m1 c1)).setCell (p := ⟨w.heap.size + 1, 1, none⟩) (by show w.heap.size ≤ w.heap.size + 1; omega) (.slice (some ⟨TB, 0, none⟩) ts.length ts.length)
      have h4 := (h3'.set_ 0 (.slice A1 m1 c1)).set_ 1 (.slice (some ⟨TB, 0, none⟩) ts.length ts.length)
      have q0 := h4.cell 0
      have q1 := h4.cell 1
      simp at g0 g1 c0 cc1 q0 q1
      have HPF := Lib.hid hpf2
      have HB4 := Lib.hid hB4
      clear hkp h3 hkb hR1' hL1 h3' hB3 hpf hpf2 hB4 h4 hR1 hfr1 HPU
      go_wp2
      refine bodyPost_ret (v := .tuple #[.agg #[.slice A1 m1 c1, .slice (some ⟨TB, 0, none⟩) ts.length ts.length], .int .i64 (rn : Int), .bool true]) (by simp [results, Tryz.results11, go_sem, q0, q1]) rfl ?_
      unfold runL runT
      rw [HOK.out, HN.out]
      exact ⟨_, rfl, HPF.out, HB4.out⟩

end Go.Proofs.YtllanbggjfmfhaaGreatDoor
