/-
  What is proved: a pool's tables as lists; contracts of asks of package pool and of what it tells. No condition beyond those stated.
-/
import Derived.Test.YtllanbggjfmfhaaGreatDoorGh
import Derived.Test.YtllanbggjfmfhaaGreatDoorOq
namespace Go.Proofs.YtllanbggjfmfhaaGreatDoor
open Go.RowKit Go.Shelf

/-! ### Tables in memory -/
/-- The slice value '.slice T k _' holds slices that hold the lists ts. -/
def Tabs (w : World) (T : Option Addr) (k : Nat) (ts : List (List Int)) : Prop :=
  ts.length = k ∧ (0 < k → ∃ b off, T = some ⟨b, off, none⟩ ∧ ∀ j t, ts[j]? = some t → ∃ A n c, w.cell? ⟨b, off + j, none⟩ = some (.slice A n c) ∧ n ≤ c ∧ n ≤ 1000 ∧ Row w A n (t.map Iv))
section
variable {w w1 : World} {T : Option Addr} {k : Nat} {ts : List (List Int)}
theorem Tabs.none_ : Tabs w T 0 [] := ⟨rfl, fun h => absurd h (by omega)⟩
theorem Tabs.ext (hb : Below w.heap.size w w1) (h : Tabs w T k ts) : Tabs w1 T k ts :=
  ⟨h.1, fun hk => by
    obtain ⟨b, off, e, hc⟩ := h.2 hk
    exact ⟨b, off, e, fun j t ht => by
      obtain ⟨A, n, c, h1, h2, h3, h4⟩ := hc j t ht
      exact ⟨A, n, c, cell_ext hb h1, h2, h3, h4.ext hb⟩⟩⟩
theorem Tabs.at_ (h : Tabs w T k ts) {j : Nat} (hj : j < k) : ∃ b off A n c t, T = some ⟨b, off, none⟩ ∧ w.cell? ⟨b, off + j, none⟩ = some (.slice A n c) ∧ n ≤ c ∧ n ≤ 1000 ∧ Row w A n (t.map Iv) ∧ ts[j]? = some t ∧ ts.getD j [] = t := by
  obtain ⟨b, off, e, hc⟩ := h.2 (by omega)
  have hl := h.1
  obtain ⟨A, n, c, h1, h2, h3, h4⟩ := hc j ts[j] (List.getElem?_eq_getElem _)
  exact ⟨b, off, A, n, c, ts[j], e, h1, h2, h3, h4, List.getElem?_eq_getElem _, by simp [show j < ts.length by omega]⟩
end

/-! ### What a state asks of a table -/
def emptyB (t : List Int) : Bool := cntN t == 0
def holeyB (t : List Int) : Bool := decide (0 < roomN t) && decide (0 < cntN t)
def asksOf (s : Int) (t : List Int) : Bool := if s = 0 ∨ s = 3 ∨ s = 4 then emptyB t else if s = 1 then holeyB t else true

set_option maxHeartbeats 400000 in
theorem asks1_any (A : Option Addr) (m c : Nat) (t : List Int) (w : World) (hR : Row w A m (t.map Iv)) (hm : m ≤ 1000) :
    Calls Tryz.prog 85 #[.slice A m c] w fun e w' => e = .returned (.bool (emptyB t)) ∧ Below w.heap.size w w' := by
  have hcall := mcount_any A m c t w hR (by omega)
  clear hR
  unfold emptyB
  generalize cntN t = n at *
  by_cases h : n = 0
  · subst h
    go_enter Tryz.func85, Tryz.ntmps85
    go_wp2_with fail
    refine hcall.mono ?_
    clear hcall
    rintro e w1 ⟨rfl, hb⟩
    have HB := Lib.hid hb
    clear hb
    go_wp2
    go_ret
    exact ⟨rfl, HB.out⟩
  · have hd : ((n : Int) == 0) = false := by simp; omega
    have HN := Lib.hid (show (n == 0) = false by simpa using h)
    clear h
    go_enter Tryz.func85, Tryz.ntmps85
    go_wp2_with fail
    refine hcall.mono ?_
    clear hcall
    rintro e w1 ⟨rfl, hb⟩
    have HB := Lib.hid hb
    clear hb
    go_wp2
    go_ret
    exact ⟨ret_bool HN.out.symm, HB.out⟩

set_option maxHeartbeats 1000000 in
theorem asks2_any (A : Option Addr) (m c : Nat) (t : List Int) (w : World) (hR : Row w A m (t.map Iv)) (hm : m ≤ 1000) :
    Calls Tryz.prog 86 #[.slice A m c] w fun e w' => e = .returned (.bool (holeyB t)) ∧ Below w.heap.size w w' := by
  have hcall := room_any A m c t w hR (by omega)
  have hcall2 := fun W (h : Row W A m (t.map Iv)) => mcount_any A m c t W h (by omega)
  have HR := Lib.hid hR
  have HC2 := Lib.hid hcall2
  clear hR hcall2
  unfold holeyB
  generalize cntN t = n at *
  generalize roomN t = r at *
  by_cases hr : 0 < r
  · have hd : decide ((r : Int) > 0) = true := by simp; omega
    by_cases hn : 0 < n
    · have hd2 : decide ((n : Int) > 0) = true := by simp; omega
      have HN := Lib.hid (show (decide (0 < r) && decide (0 < n)) = true by simp [hr, hn])
      go_enter Tryz.func86, Tryz.ntmps86
      go_wp2_with fail
      refine hcall.mono ?_
      clear hcall
      rintro e w1 ⟨rfl, hb⟩
      have hcall3 := HC2.out w1 (HR.out.ext hb)
      have HB := Lib.hid hb
      clear hb
      go_wp2_with fail
      refine hcall3.mono ?_
      clear hcall3
      rintro e w2 ⟨rfl, hb⟩
      have HB2 := Lib.hid (below_le HB.out hb)
      clear hb
      go_wp2
      go_ret
      exact ⟨ret_bool HN.out.symm, HB2.out⟩
    · have hd2 : decide ((n : Int) > 0) = false := by simp; omega
      have HN := Lib.hid (show (decide (0 < r) && decide (0 < n)) = false by simp [hn])
      go_enter Tryz.func86, Tryz.ntmps86
      go_wp2_with fail
      refine hcall.mono ?_
      clear hcall
      rintro e w1 ⟨rfl, hb⟩
      have hcall3 := HC2.out w1 (HR.out.ext hb)
      have HB := Lib.hid hb
      clear hb
      go_wp2_with fail
      refine hcall3.mono ?_
      clear hcall3
      rintro e w2 ⟨rfl, hb⟩
      have HB2 := Lib.hid (below_le HB.out hb)
      clear hb
      go_wp2
      go_ret
      exact ⟨ret_bool HN.out.symm, HB2.out⟩
  · have hd : decide ((r : Int) > 0) = false := by simp; omega
    have HN := Lib.hid (show (decide (0 < r) && decide (0 < n)) = false by simp [hr])
    go_enter Tryz.func86, Tryz.ntmps86
    go_wp2_with fail
    refine hcall.mono ?_
    clear hcall
    rintro e w1 ⟨rfl, hb⟩
    have HB := Lib.hid hb
    clear hb
    go_wp2
    go_ret
    exact ⟨ret_bool HN.out.symm, HB.out⟩

/-! ### The map -/
abbrev fn1 : Value := .func (.func 85) #[] #[]
abbrev fn2 : Value := .func (.func 86) #[] #[]
def mE0 : Array MapEntry := #[{ key := .int .i64 0, val := fn1, born := 0 }]
def mE1 : Array MapEntry := mE0.push { key := .int .i64 3, val := fn1, born := 1 }
def mE2 : Array MapEntry := mE1.push { key := .int .i64 4, val := fn1, born := 2 }
def mE3 : Array MapEntry := mE2.push { key := .int .i64 1, val := fn2, born := 3 }
theorem putObj_alloc (w : World) (o o' : Obj) : (w.alloc o).putObj w.heap.size o' = w.alloc o' := by
  simp only [World.putObj, World.alloc]
  congr 1
  apply Array.ext_getElem?
  intro i
  by_cases h : w.heap.size = i
  · subst h; simp
  · simp [h, Array.getElem?_push, Ne.symm h]
theorem run_ins0 (W : World) (g : Nat) (es : Array MapEntry) (clock : Nat) (k : Int) (v : Value) (h : W.heap[g]? = some (.map es clock)) (hc : ∀ W, (Instr.checkKey false 10000 3 (.int .i64 k)).run Tryz.prog W = .ok () W) (hf : ∀ W, (Instr.findKey 3 (.int .i64 k) es.toList).run Tryz.prog W = .ok none W) :
    (Instr.mapUpdate 95 (.map (some g)) (.int .i64 k) v).run Tryz.prog W = .ok () (W.putObj g (.map (es.push { key := .int .i64 k, val := v, born := clock }) (clock + 1))) := by
  simp [Instr.mapUpdate, run_underlying Tryz.underlying95, getObj, Sem.run, h, hc, hf, setObj, Result.andThen, World.putObj]
theorem run_ins (w : World) (es : Array MapEntry) (clock : Nat) (k : Int) (v : Value) (hc : ∀ W, (Instr.checkKey false 10000 3 (.int .i64 k)).run Tryz.prog W = .ok () W) (hf : ∀ W, (Instr.findKey 3 (.int .i64 k) es.toList).run Tryz.prog W = .ok none W) :
    (Instr.mapUpdate 95 (.map (some w.heap.size)) (.int .i64 k) v).run Tryz.prog (w.alloc (.map es clock)) = .ok () (w.alloc (.map (es.push { key := .int .i64 k, val := v, born := clock }) (clock + 1))) := by
  rw [run_ins0 _ _ es clock k v (heap_alloc_new w _) hc hf, putObj_alloc]
theorem chk (k : Int) (W : World) : (Instr.checkKey false 10000 3 (.int .i64 k)).run Tryz.prog W = .ok () W := by kernel_rfl
theorem run_look (W : World) (g : Nat) (h : W.heap[g]? = some (.map mE3 4)) (k : Int) (r : Option (Nat × Value)) (v : Value) (hf : ∀ W, (Instr.findKey 3 (.int .i64 k) mE3.toList).run Tryz.prog W = .ok r W) (hv : (match r with | some (_, v) => (v, true) | none => (Value.nilFunc, false)) = (v, r.isSome)) :
    (Instr.lookup 95 (.map (some g)) (.int .i64 k) true).run Tryz.prog W = .ok (.tuple #[v, .bool r.isSome]) W := by
  have he : mE3.isEmpty = false := rfl
  have hz : ∀ W, (zeroValue 61).run Tryz.prog W = .ok .nilFunc W := fun W => by kernel_rfl
  cases r with
  | none =>
    simp at hv
    subst hv
    simp [Instr.lookup, run_underlying Tryz.underlying95, getObj, Sem.run, h, he, chk, hf, Result.andThen, hz]
  | some p =>
    obtain ⟨i, u⟩ := p
    simp at hv
    subst hv
    simp [Instr.lookup, run_underlying Tryz.underlying95, getObj, Sem.run, h, he, chk, hf, Result.andThen]
def askV (s : Int) : Value := if s = 0 ∨ s = 3 ∨ s = 4 then fn1 else if s = 1 then fn2 else .nilFunc
def askH (s : Int) : Bool := decide (s = 0 ∨ s = 3 ∨ s = 4 ∨ s = 1)
theorem run_ask (W : World) (g : Nat) (h : W.heap[g]? = some (.map mE3 4)) (s : Int) (h0 : 0 ≤ s) (h5 : s ≤ 5) :
    (Instr.lookup 95 (.map (some g)) (.int .i64 s) true).run Tryz.prog W = .ok (.tuple #[askV s, .bool (askH s)]) W := by
  have : s = 0 ∨ s = 1 ∨ s = 2 ∨ s = 3 ∨ s = 4 ∨ s = 5 := by omega
  rcases this with rfl | rfl | rfl | rfl | rfl | rfl
  · exact run_look W g h 0 (some (0, fn1)) _ (fun W => by kernel_rfl) rfl
  · exact run_look W g h 1 (some (3, fn2)) _ (fun W => by kernel_rfl) rfl
  · exact run_look W g h 2 none _ (fun W => by kernel_rfl) rfl
  · exact run_look W g h 3 (some (1, fn1)) _ (fun W => by kernel_rfl) rfl
  · exact run_look W g h 4 (some (2, fn1)) _ (fun W => by kernel_rfl) rfl
  · exact run_look W g h 5 none _ (fun W => by kernel_rfl) rfl

set_option maxHeartbeats 400000 in
theorem asks_any (w : World) : Calls Tryz.prog 69 #[] w fun e w' => e = .returned (.map (some w.heap.size)) ∧ w.alloc (.map mE3 4) = w' := by
  have hmm := @run_makeMap Tryz.prog
  have i0 := run_ins w #[] 0 0 fn1 (chk 0) (fun W => by kernel_rfl)
  have i1 := run_ins w mE0 1 3 fn1 (chk 3) (fun W => by kernel_rfl)
  have i2 := run_ins w mE1 2 4 fn1 (chk 4) (fun W => by kernel_rfl)
  have i3 := run_ins w mE2 3 1 fn2 (chk 1) (fun W => by kernel_rfl)
  change _ = Result.ok () (w.alloc (.map mE0 1)) at i0
  change _ = Result.ok () (w.alloc (.map mE1 2)) at i1
  change _ = Result.ok () (w.alloc (.map mE2 3)) at i2
  change _ = Result.ok () (w.alloc (.map mE3 4)) at i3
  go_enter Tryz.func69, Tryz.ntmps69
  go_wp2
  go_ret
  exact ⟨rfl, rfl⟩

end Go.Proofs.YtllanbggjfmfhaaGreatDoor
