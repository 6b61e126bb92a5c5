/-
  MustAccess where there is nothing to tell: it panics; the law's own 'panics'.
-/
import Derived.Test.YtejcpjhepkhihaaAcc
import Derived.Defers
import Derived.Recover
import Derived.Laws.Panics
set_option linter.unusedSimpArgs false
set_option linter.unusedVariables false
namespace Go.Proofs.Ytejcpjhepkhihaa
open Go.ChangeShapes Go.WideShapes Go.ChangeAt Go.RowKit Go.Deep

theorem run_assert_lacks {P : Program} {t asserted e : TypeId} {want : Array (String × TypeId)} (hu : P.underlying asserted = some (.interface want)) (h : (P.info? t).map (fun i => (lacking want i.methods).isEmpty) = some false) (hr : P.underlying P.rt.typeAssertionError = some (.pointer e))
    (v : Value) (xT : TypeId) : ∃ cs, ∀ w : World, (Instr.typeAssert (.iface t v) xT asserted false).run P w = .halt (.panic (.iface P.rt.typeAssertionError (.pointer (some ⟨w.heap.size, 0, none⟩)))) (w.alloc (.cells cs e)) := by
  obtain ⟨i, hi, hl⟩ := Option.map_eq_some_iff.1 h
  obtain ⟨m, hm⟩ := missingMethod_some (fun e => by rw [e] at hl; cases hl)
  refine ⟨#[.pointer none, typeHandle P t, typeHandle P asserted, strVal m], fun w => ?_⟩
  simp [Instr.typeAssert, run_underlying hu, typeInfo, hi, hm, runtimePanic, elemOf, run_underlying hr]
  rfl

def Panics (w : World) (x : Ending) (w' : World) : Prop := (∃ u pv, x = .panicked [{ v := .iface u pv, recovered := false }]) ∧ Below w.heap.size w w'

theorem run_bounds2 {P : Program} {w : World} {α : Type} (k : IntKind) (x y : Int) (code : BoundsCode) :
    ∃ u pv w', (boundsPanic k x y code : Sem α).run P w = .halt (.panic (.iface u pv)) w' ∧ Below w.heap.size w w' := by
  have h : ∃ s w', (boundsPanic k x y code : Sem α).run P w = .halt (.panic (boundsValue P (IntKind.i64.wrap x) y s code.toNat)) w' ∧ Below w.heap.size w w' := by
    unfold boundsPanic boundsValue
    split
    · simp [runtimePanic, goPanic, go_sem]
      rcases Classical.em ((Question.extern "runtime.boundsError.signed" 2).cut (w.tape w.drawn (Question.extern "runtime.boundsError.signed" 2)) = 1) with hq | hq
      · exact .inr ⟨_, ⟨hq, rfl⟩, (Below.refl _ w).drew⟩
      · exact .inl ⟨_, ⟨hq, rfl⟩, (Below.refl _ w).drew⟩
    · simp [runtimePanic, goPanic, go_sem]
      rcases Classical.em (k = IntKind.u64) with hq | hq
      · exact .inl ⟨_, ⟨hq, rfl⟩, Below.refl _ w⟩
      · exact .inr ⟨_, ⟨hq, rfl⟩, Below.refl _ w⟩
  obtain ⟨s, w', h1, h2⟩ := h
  exact ⟨_, _, w', h1, h2⟩
theorem run_out2 {P : Program} (w : World) (t : TypeId) (a0 : Option Addr) (len cap : Nat) (k : IntKind) (i : Int) (h : P.underlying t = some (.slice (P.elem t))) (hnil : a0 = none → len = 0) (ho : i < 0 ∨ (len : Int) ≤ i) :
    ∃ u pv w', (Instr.indexAt t (.slice a0 len cap) (.int k i)).run P w = .halt (.panic (.iface u pv)) w' ∧ Below w.heap.size w w' := by
  cases a0 with
  | some a =>
    rw [run_indexAt_slice (h := h), if_neg (by omega)]
    exact run_bounds2 k i len .index
  | none =>
    obtain rfl := hnil rfl
    have e : (Instr.indexAt t (.slice none 0 cap) (.int k i)).run P w = (boundsPanic k i 0 .index).run P w := by
      simp [Instr.indexAt, run_underlying h, asIntOf]
    rw [e]
    exact run_bounds2 k i 0 .index

set_option maxRecDepth 20000 in
set_option maxHeartbeats 4000000 in
theorem macc_out {w : World} {B b : Nat} {vl va : Value} {S : LogS} (h : LogAt w B b vl va S) (i : Int) (hi : i < 0 ∨ (S.l.length : Int) ≤ i) :
    Calls Try.prog 37 #[.pointer (some ⟨b, 0, none⟩), .int .i64 i] w (Panics w) := by
  have c2 := h.ca
  have hblt := h.lt
  have hva : ∃ ax cx, va = .slice ax S.l.length cx ∧ (ax = none → S.l.length = 0) := by
    rcases h.ab.2 with ⟨rfl, h0⟩ | ⟨g, cap, cur, rfl, _⟩
    · exact ⟨none, 0, by rw [h0], fun _ => h0⟩
    · exact ⟨_, _, rfl, fun h0 => by cases h0⟩
  obtain ⟨ax, cx, rfl, hnil⟩ := hva
  clear h
  obtain ⟨u, pv, w', hrun, hb⟩ := run_out2 (P := Try.prog) (w.alloc (.cells #[.int .i64 0, .bool false, .bool false] 52)) 70 ax S.l.length cx .i64 i (by kernel_rfl) hnil hi
  have hp : Panics w (.panicked [{ v := .iface u pv, recovered := false }]) w' := ⟨⟨u, pv, rfl⟩, Below.trans (show Below w.heap.size w _ by go_grown) (hb.mono (by simp))⟩
  have Hp := Lib.hid hp
  clear hp hi hnil hb
  go_enter Try.func37, Try.ntmps37
  go_wp2
  simp only [bodyPost]
  exact ⟨trivial, Hp.out⟩
set_option maxRecDepth 20000 in
set_option maxHeartbeats 4000000 in
theorem macc_lack {w : World} {B b : Nat} {vl va : Value} {S : LogS} (h : LogAt w B b vl va S) {k : Nat} (hk : k < S.l.length) (hs : accL S.l k = none) :
    Calls Try.prog 37 #[.pointer (some ⟨b, 0, none⟩), .int .i64 k] w (Panics w) := by
  have c2 := h.ca
  have hblt := h.lt
  obtain ⟨g, cap, e, rfl, hx, g0⟩ := h.ab_at hk
  have hf : accL S.l k = (abOf e.t e.k e.o).acc := by unfold accL atL; rw [if_pos (by omega), Int.toNat_natCast, hx]; rfl
  rw [hf] at hs
  have hglt : g < w.heap.size := World.block_lt_of_cell? w _ g0
  unfold abVal at g0
  clear h hx hf
  generalize abOf e.t e.k e.o = x at g0 hs
  cases x <;> simp only [Ab.ty, Ab.body] at g0 <;> simp only [Ab.acc, reduceCtorEq] at hs
  case mu c =>
    obtain ⟨cs, hta⟩ := run_assert_lacks (P := Try.prog) (t := 90) (e := 100) Try.underlying80 (by kernel_rfl) (by kernel_rfl) (.agg #[.int .i64 c]) 64
    go_enter Try.func37, Try.ntmps37
    go_wp2
    simp only [bodyPost]
    exact ⟨trivial, ⟨_, _, rfl⟩, by go_grown⟩
  case bg c =>
    obtain ⟨cs, hta⟩ := run_assert_lacks (P := Try.prog) (t := 92) (e := 100) Try.underlying80 (by kernel_rfl) (by kernel_rfl) (.agg #[.int .i64 c]) 64
    go_enter Try.func37, Try.ntmps37
    go_wp2
    simp only [bodyPost]
    exact ⟨trivial, ⟨_, _, rfl⟩, by go_grown⟩
  case en c =>
    obtain ⟨cs, hta⟩ := run_assert_lacks (P := Try.prog) (t := 94) (e := 100) Try.underlying80 (by kernel_rfl) (by kernel_rfl) (.agg #[.int .i64 c]) 64
    go_enter Try.func37, Try.ntmps37
    go_wp2
    simp only [bodyPost]
    exact ⟨trivial, ⟨_, _, rfl⟩, by go_grown⟩
  case wt c =>
    obtain ⟨cs, hta⟩ := run_assert_lacks (P := Try.prog) (t := 93) (e := 100) Try.underlying80 (by kernel_rfl) (by kernel_rfl) (.agg #[.int .i64 c]) 64
    go_enter Try.func37, Try.ntmps37
    go_wp2
    simp only [bodyPost]
    exact ⟨trivial, ⟨_, _, rfl⟩, by go_grown⟩
  case no =>
    obtain ⟨cs, hta⟩ := run_assert_lacks (P := Try.prog) (t := 96) (e := 100) Try.underlying80 (by kernel_rfl) (by kernel_rfl) (.agg #[]) 64
    go_enter Try.func37, Try.ntmps37
    go_wp2
    simp only [bodyPost]
    exact ⟨trivial, ⟨_, _, rfl⟩, by go_grown⟩

/-! The deferred closure, and the law's 'panics'. -/
theorem free_new {w : World} {cs : Array Value} {t : TypeId} {i : Nat} : (w.alloc (.cells cs t)).frozen? ⟨w.heap.size, i, none⟩ = false := by
  have h := (MapKept.heap_alloc w (.cells cs t)).1
  simp only [World.frozen?]; rw [h]; simp
theorem cell_set_same {w : World} {p : Addr} {u : Value} (h : w.cell? p = some u) (v : Value) : (w.setCell p v).cell? p = some v := by
  simp [World.cell?_setCell_same, h]
theorem catch_panicking (p : Addr) (x : Bool) (u : TypeId) (pv : Value) (older : List PanicEntry) (w : World) (hc : w.cell? p = some (.bool x)) (hz : w.frozen? p = false) :
    CallsD Try.prog 59 #[.pointer (some p)] (.panicking ({ v := .iface u pv, recovered := false } :: older)) w fun e u' w' =>
      e = .returned (.tuple #[]) ∧ u' = .panicking ({ v := .iface u pv, recovered := true } :: older) ∧ w' = w.setCell p (.bool true) := by
  refine callsD_of_wpS Try.func59 rfl fun c₀ cs hu => ?_
  apply wpS_seq
  apply wpS_region
  simp [wpOpsS, go_sem, recoverD, hu, Try.ntmps59, Exit.thenS]
  apply wpS_seq
  apply wpS_region
  simp [wpOpsS, go_sem, recoverD, hu, Try.ntmps59, Exit.thenS]
  refine wpS_cond (t := true) (by simp [Act.eval, Array.replicate]) ?_
  simp only [if_true]
  apply wpS_region
  simp [wpOpsS, go_sem, hc, hz, bodyPostS, results, Try.results59]
theorem catch_idle (p : Addr) (w : World) :
    CallsD Try.prog 59 #[.pointer (some p)] .returning w fun e u' w' => e = .returned (.tuple #[]) ∧ u' = .returning ∧ w' = w := by
  refine callsD_of_wpS Try.func59 rfl fun c₀ cs hu => ?_
  apply wpS_seq
  apply wpS_region
  simp [wpOpsS, go_sem, recoverD, hu, Try.ntmps59, Exit.thenS]
  apply wpS_seq
  apply wpS_region
  simp [wpOpsS, go_sem, recoverD, hu, Try.ntmps59, Exit.thenS]
  refine wpS_cond (t := false) (by simp [Act.eval, Array.replicate]) ?_
  simp only [Bool.false_eq_true, if_false]
  refine wpS_of_wp (wp_skip ?_)
  cases c₀
  simp_all [bodyPostS, results, Try.results59]

def panB (l : List Ev) (i : Int) : Bool := !(accL l i).isSome
theorem macc_panics {w : World} {B b : Nat} {vl va : Value} {S : LogS} (h : LogAt w B b vl va S) (i : Int) (hs : accL S.l i = none) :
    Calls Try.prog 37 #[.pointer (some ⟨b, 0, none⟩), .int .i64 i] w (Panics w) := by
  by_cases hi : i < 0 ∨ (S.l.length : Int) ≤ i
  · exact macc_out h i hi
  · obtain ⟨k, rfl⟩ := Int.eq_ofNat_of_zero_le (show 0 ≤ i by omega)
    exact macc_lack h (by omega) hs

set_option maxRecDepth 20000 in
set_option maxHeartbeats 4000000 in
theorem panics_yes {w : World} {B b : Nat} {vl va : Value} {S : LogS} (h : LogAt w B b vl va S) (i : Int) (hs : accL S.l i = none) :
    Calls Try.prog 38 #[.pointer (some ⟨b, 0, none⟩), .int .i64 i] w fun e w' => e = .returned (.bool true) ∧ Below w.heap.size w w' := by
  have hmf : ∀ (fn : Fn) (first cap : Array Value) (w : World), (Instr.makeFunc fn first cap).run Try.prog w = .ok (.func fn first cap) w := fun _ _ _ _ => rfl
  have hA : Below w.heap.size w (w.alloc (.cells #[.bool false] 4)) := (Below.refl _ w).alloc (Nat.le_refl _) _
  have HM := Lib.hid (macc_panics (h.below hA) i hs)
  clear h hA
  go_enter_defers Try.func38, Try.ntmps38
  go_wp2_with (go_at_call 37; refine HM.out.mono ?_; rintro e w1 ⟨⟨u, pv, rfl⟩, hb⟩)
  have hlt : w.heap.size < w1.heap.size := by have := hb.size; simp at this; omega
  have hc : w1.cell? ⟨w.heap.size, 0, none⟩ = some (.bool false) := keep hb (cell_new rfl)
  have hz : w1.frozen? ⟨w.heap.size, 0, none⟩ = false := (hb.frozen (p := ⟨w.heap.size, 0, none⟩) (by simp)).trans free_new
  have hc2 : (w1.setCell ⟨w.heap.size, 0, none⟩ (.bool true)).cell? ⟨w.heap.size, 0, none⟩ = some (.bool true) := cell_set_same hc _
  have hB : Below w.heap.size w (w1.setCell ⟨w.heap.size, 0, none⟩ (.bool true)) := (Below.trans (show Below w.heap.size w _ by go_grown) (hb.mono (by simp))).setCell (p := ⟨w.heap.size, 0, none⟩) (Nat.le_refl _) _
  refine leaves_cons (f := 59) (args := #[.pointer (some ⟨w.heap.size, 0, none⟩)]) (by simp) (by simp [go_sem]) ?_
  refine (catch_panicking ⟨w.heap.size, 0, none⟩ false u pv [] _ hc hz).mono ?_
  rintro e u' w'' ⟨rfl, rfl, rfl⟩
  simp [Leaves, settle, results, Try.results38, go_sem, hc2]
  exact hB
set_option maxRecDepth 20000 in
set_option maxHeartbeats 4000000 in
theorem panics_no {w : World} {B b : Nat} {vl va : Value} {S : LogS} (h : LogAt w B b vl va S) {k : Nat} (hk : k < S.l.length) (hs : (accL S.l k).isSome = true) :
    Calls Try.prog 38 #[.pointer (some ⟨b, 0, none⟩), .int .i64 k] w fun e w' => e = .returned (.bool false) ∧ Below w.heap.size w w' := by
  have hmf : ∀ (fn : Fn) (first cap : Array Value) (w : World), (Instr.makeFunc fn first cap).run Try.prog w = .ok (.func fn first cap) w := fun _ _ _ _ => rfl
  have hA : Below w.heap.size w (w.alloc (.cells #[.bool false] 4)) := (Below.refl _ w).alloc (Nat.le_refl _) _
  have HM := Lib.hid (macc_calls (h.below hA) hk hs)
  clear h hA
  go_enter_defers Try.func38, Try.ntmps38
  go_wp2_with fail
  refine HM.out.mono ?_
  rintro e w1 ⟨rfl, hb⟩
  have hlt : w.heap.size < w1.heap.size := by have := hb.size; simp at this; omega
  have hc : w1.cell? ⟨w.heap.size, 0, none⟩ = some (.bool false) := keep hb (cell_new rfl)
  have hz : w1.frozen? ⟨w.heap.size, 0, none⟩ = false := (hb.frozen (p := ⟨w.heap.size, 0, none⟩) (by simp)).trans free_new
  have hc2 : (w1.setCell ⟨w.heap.size, 0, none⟩ (.bool false)).cell? ⟨w.heap.size, 0, none⟩ = some (.bool false) := cell_set_same hc _
  have hB : Below w.heap.size w (w1.setCell ⟨w.heap.size, 0, none⟩ (.bool false)) := (Below.trans (show Below w.heap.size w _ by go_grown) (hb.mono (by simp))).setCell (p := ⟨w.heap.size, 0, none⟩) (Nat.le_refl _) _
  clear hb
  go_wp2
  refine leaves_cons (f := 59) (args := #[.pointer (some ⟨w.heap.size, 0, none⟩)]) (by simp) (by simp [go_sem]) ?_
  refine (catch_idle ⟨w.heap.size, 0, none⟩ _).mono ?_
  rintro e u' w'' ⟨rfl, rfl, rfl⟩
  simp [Leaves, settle, results, Try.results38, go_sem, hc2]
  exact hB
theorem panics_calls {w : World} {B b : Nat} {vl va : Value} {S : LogS} (h : LogAt w B b vl va S) (i : Int) :
    Calls Try.prog 38 #[.pointer (some ⟨b, 0, none⟩), .int .i64 i] w fun e w' => e = .returned (.bool (panB S.l i)) ∧ Below w.heap.size w w' := by
  unfold panB
  cases hs : accL S.l i with
  | none => exact panics_yes h i hs
  | some r =>
    have hi : 0 ≤ i ∧ i < S.l.length := by
      unfold accL atL at hs
      by_cases h0 : 0 ≤ i
      · rw [if_pos h0] at hs
        refine ⟨h0, ?_⟩
        cases hx : S.l[i.toNat]? with
        | none => rw [hx] at hs; cases hs
        | some x => have := (List.getElem?_eq_some_iff.1 hx).1; omega
      · rw [if_neg h0] at hs; cases hs
    obtain ⟨k, rfl⟩ := Int.eq_ofNat_of_zero_le hi.1
    exact panics_no h (by omega) (by rw [hs]; rfl)
end Go.Proofs.Ytejcpjhepkhihaa
