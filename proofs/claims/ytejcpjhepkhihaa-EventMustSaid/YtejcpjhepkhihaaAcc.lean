/-
  What an event does to a cell: Access and MustAccess of a log, Access of the document.
-/
import Derived.Test.YtejcpjhepkhihaaCanLaw
set_option linter.unusedSimpArgs false
set_option linter.unusedVariables false
namespace Go.Proofs.Ytejcpjhepkhihaa
open Go.ChangeShapes Go.WideShapes Go.ChangeAt Go.RowKit Go.Deep

theorem run_assert_has {P : Program} {t asserted : TypeId} {want : Array (String × TypeId)} (hu : P.underlying asserted = some (.interface want)) (h : (P.info? t).map (fun i => (lacking want i.methods).isEmpty) = some true)
    (v : Value) (xT : TypeId) (w : World) : (Instr.typeAssert (.iface t v) xT asserted false).run P w = .ok (.iface t v) w := by
  obtain ⟨i, hi, hl⟩ := Option.map_eq_some_iff.1 h
  simp [Instr.typeAssert, run_underlying hu, typeInfo, hi, missingMethod_none (List.isEmpty_iff.1 hl)]
theorem mac_rd (v : Value) (w : World) : (Instr.typeAssert (.iface 86 v) 64 80 false).run Try.prog w = .ok (.iface 86 v) w :=
  run_assert_has Try.underlying80 (by kernel_rfl) v _ w
theorem mac_wr (v : Value) (w : World) : (Instr.typeAssert (.iface 87 v) 64 80 false).run Try.prog w = .ok (.iface 87 v) w :=
  run_assert_has Try.underlying80 (by kernel_rfl) v _ w
theorem mac_at (v : Value) (w : World) : (Instr.typeAssert (.iface 88 v) 64 80 false).run Try.prog w = .ok (.iface 88 v) w :=
  run_assert_has Try.underlying80 (by kernel_rfl) v _ w
attribute [go_sem] mac_rd mac_wr mac_at

def accVal : Option (Int × Bool × Bool) → Value
  | some (c, x, y) => .agg #[.int .i64 c, .bool x, .bool y]
  | none => .agg #[.int .i64 0, .bool false, .bool false]
def accEv (e : Ev) : Option (Int × Bool × Bool) := (abOf e.t e.k e.o).acc
def accL (l : List Ev) (i : Int) : Option (Int × Bool × Bool) := (atL l i).bind accEv

theorem LogAt.ab_at {w : World} {B b : Nat} {vl va : Value} {S : LogS} (h : LogAt w B b vl va S) {i : Nat} (hi : i < S.l.length) :
    ∃ g cap e, va = .slice (some ⟨g, 0, none⟩) S.l.length cap ∧ S.l[i]? = some e ∧ w.cell? ⟨g, i, none⟩ = some (abVal e) := by
  obtain ⟨g, cap, rfl⟩ := own_slice h.ab (by omega)
  have hx : S.l[i]? = some S.l[i] := List.getElem?_eq_getElem hi
  have hc := h.ab.cells (g := g) rfl i (abVal S.l[i]) (by rw [List.getElem?_map, hx]; rfl)
  refine ⟨g, cap, S.l[i], rfl, hx, ?_⟩
  unfold Addr.add at hc
  split at hc
  · rename_i h0; subst h0; exact hc
  · simpa using hc

set_option maxRecDepth 20000 in
set_option maxHeartbeats 4000000 in
theorem lacc_calls {w : World} {B b : Nat} {vl va : Value} {S : LogS} (h : LogAt w B b vl va S) (i : Int) (hn : S.l.length ≤ 9223372036854775807) :
    Calls Try.prog 36 #[.pointer (some ⟨b, 0, none⟩), .int .i64 i] w fun e w' => e = .returned (.tuple #[accVal (accL S.l i), .bool (accL S.l i).isSome]) ∧ Below w.heap.size w w' := by
  have c1 := h.cl
  have c2 := h.ca
  have hblt := h.lt
  obtain ⟨⟨ax, cx, rfl⟩, _⟩ := h.shape
  by_cases h0 : i < 0
  · have Hf : Hid (accL S.l i = none) := by unfold Hid accL atL; rw [if_neg (by omega)]; rfl
    clear h
    go_enter Try.func36, Try.ntmps36
    go_wp2
    go_returns
    exact ⟨by rw [Hf.out]; rfl, by go_grown⟩
  · obtain ⟨k, rfl⟩ := Int.eq_ofNat_of_zero_le (show 0 ≤ i by omega)
    by_cases hk : k < S.l.length
    · obtain ⟨g, cap, e, rfl, hx, g0⟩ := h.ab_at hk
      have hf : accL S.l k = (abOf e.t e.k e.o).acc := by unfold accL atL; rw [if_pos (by omega), Int.toNat_natCast, hx]; rfl
      have hglt : g < w.heap.size := World.block_lt_of_cell? w _ g0
      unfold abVal at g0
      clear h hx h0
      generalize abOf e.t e.k e.o = x at hf g0
      have Hf := Lib.hid hf
      clear hf
      cases x <;> simp only [Ab.ty, Ab.body] at g0
      all_goals
        go_enter Try.func36, Try.ntmps36
        go_wp2
        go_returns
        exact ⟨by rw [Hf.out]; rfl, by go_grown⟩
    · have Hf : Hid (accL S.l k = none) := by
        unfold Hid accL atL; rw [if_pos (by omega), Int.toNat_natCast, List.getElem?_eq_none (by omega)]; rfl
      clear h h0
      go_enter Try.func36, Try.ntmps36
      go_wp2
      go_returns
      exact ⟨by rw [Hf.out]; rfl, by go_grown⟩

set_option maxRecDepth 20000 in
set_option maxHeartbeats 4000000 in
theorem macc_calls {w : World} {B b : Nat} {vl va : Value} {S : LogS} (h : LogAt w B b vl va S) {k : Nat} (hk : k < S.l.length) (hs : (accL S.l k).isSome = true) :
    Calls Try.prog 37 #[.pointer (some ⟨b, 0, none⟩), .int .i64 k] w fun e w' => e = .returned (accVal (accL S.l k)) ∧ Below w.heap.size w w' := by
  have c2 := h.ca
  have hblt := h.lt
  obtain ⟨g, cap, e, rfl, hx, g0⟩ := h.ab_at hk
  have hf : accL S.l k = (abOf e.t e.k e.o).acc := by unfold accL atL; rw [if_pos (by omega), Int.toNat_natCast, hx]; rfl
  rw [hf] at hs
  have hglt : g < w.heap.size := World.block_lt_of_cell? w _ g0
  unfold abVal at g0
  clear h hx
  generalize abOf e.t e.k e.o = x at hf g0 hs
  have Hf := Lib.hid hf
  clear hf
  cases x <;> simp only [Ab.ty, Ab.body] at g0 <;> simp only [Ab.acc, Option.isSome, Bool.false_eq_true] at hs
  all_goals
    clear hs
    go_enter Try.func37, Try.ntmps37
    go_wp2
    go_returns
    exact ⟨by rw [Hf.out]; rfl, by go_grown⟩

set_option maxHeartbeats 4000000 in
theorem racc12_calls (t k o v b : Int) (w : World) :
    Calls Try.prog 35 #[.agg #[.int .i64 t, .int .i64 k, .int .i64 o, .int .i64 v, .int .i64 b]] w fun e w' => e = .returned (.tuple #[accVal (abOf t k o).acc, .bool ((abOf t k o).acc).isSome]) ∧ Below w.heap.size w w' := by
  cases h1 : (k == 1)
  · cases h2 : (k == 2)
    · cases h3 : (k == 3)
      · have hf : (abOf t k o).acc = none := by
          unfold abOf; rw [h1, h2, h3]; simp only [Bool.false_eq_true, if_false]
          repeat' split
          all_goals rfl
        rw [hf]
        clear hf
        go_enter Try.func35, Try.ntmps35
        go_wp2
        go_returns
        exact ⟨rfl, by go_grown⟩
      · have hf : (abOf t k o).acc = some (o, true, true) := by unfold abOf; rw [h1, h2, h3]; rfl
        rw [hf]
        clear hf
        go_enter Try.func35, Try.ntmps35
        go_wp2
        go_returns
        exact ⟨rfl, by go_grown⟩
    · have hf : (abOf t k o).acc = some (o, true, false) := by unfold abOf; rw [h1, h2]; rfl
      rw [hf]
      clear hf
      go_enter Try.func35, Try.ntmps35
      go_wp2
      go_returns
      exact ⟨rfl, by go_grown⟩
  · have hf : (abOf t k o).acc = some (o, false, false) := by unfold abOf; rw [h1]; rfl
    rw [hf]
    clear hf
    go_enter Try.func35, Try.ntmps35
    go_wp2
    go_returns
    exact ⟨rfl, by go_grown⟩
end Go.Proofs.Ytejcpjhepkhihaa
