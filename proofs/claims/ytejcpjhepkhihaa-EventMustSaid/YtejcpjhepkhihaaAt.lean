/-
  At of a log; awake; Can of any action.
-/
import Derived.Test.YtejcpjhepkhihaaOf
set_option linter.unusedSimpArgs false
set_option linter.unusedVariables false
namespace Go.Proofs.Ytejcpjhepkhihaa
open Go.ChangeShapes Go.WideShapes Go.ChangeAt Go.RowKit Go.Deep

theorem LogAt.ev_at {w : World} {B b : Nat} {vl va : Value} {S : LogS} (h : LogAt w B b vl va S) {i : Nat} (hi : i < S.l.length) :
    ∃ g cap e, vl = .slice (some ⟨g, 0, none⟩) S.l.length cap ∧ S.l[i]? = some e ∧ w.cell? ⟨g, i * 5, none⟩ = some (.int .i64 e.t) ∧ w.cell? ⟨g, i * 5 + 1, none⟩ = some (.int .i64 e.k) ∧
      w.cell? ⟨g, i * 5 + 2, none⟩ = some (.int .i64 e.o) ∧ w.cell? ⟨g, i * 5 + 3, none⟩ = some (.int .i64 e.v) ∧ w.cell? ⟨g, i * 5 + 4, none⟩ = some (.int .i64 e.b) := by
  obtain ⟨g, cap, rfl⟩ := own_slice h.ev (by omega)
  have hx : S.l[i]? = some S.l[i] := List.getElem?_eq_getElem hi
  have hc := h.ev.cells (g := g) rfl
  have ad : ∀ j, (⟨g, 0, none⟩ : Addr).add j = ⟨g, j, none⟩ := fun j => by
    unfold Addr.add
    split
    · rename_i h0; subst h0; rfl
    · simp
  have gg := fun j (hj : j < 5) => flat_get Ev.vals 5 (fun _ => rfl) S.l i j S.l[i] hx hj
  have t0 := hc _ (.int .i64 S.l[i].t) (gg 0 (by decide))
  have t1 := hc _ (.int .i64 S.l[i].k) (gg 1 (by decide))
  have t2 := hc _ (.int .i64 S.l[i].o) (gg 2 (by decide))
  have t3 := hc _ (.int .i64 S.l[i].v) (gg 3 (by decide))
  have t4 := hc _ (.int .i64 S.l[i].b) (gg 4 (by decide))
  rw [ad] at t0 t1 t2 t3 t4
  exact ⟨g, cap, S.l[i], rfl, hx, t0, t1, t2, t3, t4⟩
theorem LogAt.shape {w : World} {B b : Nat} {vl va : Value} {S : LogS} (h : LogAt w B b vl va S) : (∃ a c, vl = .slice a S.l.length c) ∧ (∃ a c, va = .slice a S.l.length c) := by
  constructor
  · rcases h.ev.2 with ⟨rfl, h0⟩ | ⟨g, cap, cur, rfl, _⟩
    · exact ⟨none, 0, by rw [h0]⟩
    · exact ⟨_, _, rfl⟩
  · rcases h.ab.2 with ⟨rfl, h0⟩ | ⟨g, cap, cur, rfl, _⟩
    · exact ⟨none, 0, by rw [h0]⟩
    · exact ⟨_, _, rfl⟩

def evVal : Option Ev → Value
  | some e => .agg #[.int .i64 e.t, .int .i64 e.k, .int .i64 e.o, .int .i64 e.v, .int .i64 e.b]
  | none => .agg #[.int .i64 0, .int .i64 0, .int .i64 0, .int .i64 0, .int .i64 0]
def atL (l : List Ev) (i : Int) : Option Ev := if 0 ≤ i then l[i.toNat]? else none

set_option maxHeartbeats 1000000 in
theorem at_calls {w : World} {B b : Nat} {vl va : Value} {S : LogS} (h : LogAt w B b vl va S) (i : Int) (hn : S.l.length ≤ 9223372036854775807) :
    Calls Try.prog 33 #[.pointer (some ⟨b, 0, none⟩), .int .i64 i] w fun e w' => e = .returned (.tuple #[evVal (atL S.l i), .bool (atL S.l i).isSome]) ∧ Below w.heap.size w w' := by
  have c1 := h.cl
  have hblt := h.lt
  by_cases h0 : i < 0
  · have Hf : Hid (atL S.l i = none) := by unfold Hid atL; rw [if_neg (by omega)]
    clear h
    go_enter Try.func33, Try.ntmps33
    go_wp2
    go_returns
    exact ⟨by rw [Hf.out]; rfl, by go_grown⟩
  · obtain ⟨k, rfl⟩ := Int.eq_ofNat_of_zero_le (show 0 ≤ i by omega)
    by_cases hk : k < S.l.length
    · obtain ⟨g, cap, e, rfl, hx, g0, g1, g2, g3, g4⟩ := h.ev_at hk
      have Hf : Hid (atL S.l k = some e) := by unfold Hid atL; rw [if_pos (by omega)]; simpa using hx
      have hglt : g < w.heap.size := World.block_lt_of_cell? w _ g0
      clear h hx h0
      go_enter Try.func33, Try.ntmps33
      go_wp2
      go_returns
      exact ⟨by rw [Hf.out]; rfl, by go_grown⟩
    · obtain ⟨a, cap, rfl⟩ := h.shape.1
      have Hf : Hid (atL S.l k = none) := by unfold Hid atL; rw [if_pos (by omega)]; simp; omega
      clear h h0
      go_enter Try.func33, Try.ntmps33
      go_wp2
      go_returns
      exact ⟨by rw [Hf.out]; rfl, by go_grown⟩

/-- thread 0 starts thread 1. -/
def ev0 : Ev := ⟨0, 6, 1, 0, 0⟩
theorem awake_fact : addE log0 ev0 = 0 := by decide
set_option maxHeartbeats 2000000 in
theorem awake_calls (w : World) : Calls Try.prog 23 #[] w fun e w' => e = .returned (.bool true) ∧ Below w.heap.size w w' := by
  go_enter Try.func23, Try.ntmps23
  go_wp2_with fail
  refine (lnew_calls _).mono ?_
  rintro e w1 ⟨rfl, hL1, hB1⟩
  go_wp2_with fail
  refine (start_calls _).mono ?_
  rintro e w2 ⟨rfl, hb2⟩
  have hL2 := hL1.below hb2
  have hB2 : Below w.heap.size w w2 := hB1.trans (hb2.mono hB1.size)
  clear hL1 hB1 hb2
  have HL2 := Lib.hid hL2
  clear hL2
  go_wp2_with fail
  refine (add_calls HL2.out ev0 (by unfold log0; simp)).mono ?_
  rintro e w3 ⟨vl, va, rfl, hL3, hW, hsub⟩
  have hB3 : Below w.heap.size w w3 := Wrote.below hB2 hW hB2.size HL2.out.base
  have hs := addE_zero awake_fact
  have HL3 := Lib.hid hL3
  rw [awake_fact]
  have hlen : (addS log0 ev0).l = [ev0] := by rw [hs]; rfl
  have Hlen := Lib.hid hlen
  clear hL3 hs hW hsub hB2 HL2 hlen
  go_wp2_with fail
  refine (len_calls HL3.out).mono ?_
  rintro e w4 ⟨rfl, rfl⟩
  rw [Hlen.out]
  go_wp2_with fail
  refine (at_calls HL3.out 0 (by rw [Hlen.out]; simp)).mono ?_
  rintro e w5 ⟨rfl, hb⟩
  have hB5 : Below w.heap.size w w5 := hB3.trans (hb.mono hB3.size)
  rw [Hlen.out, show atL [ev0] 0 = some ev0 from rfl]
  clear hB3 hb HL3
  simp only [evVal, ev0, Option.isSome]
  go_wp2_with fail
  refine wp_ext_draw 15 mixed (by kernel_rfl) ?_
  simp only [List.take_succ_cons, List.take_zero, List.drop_succ_cons, List.drop_zero]
  repeat ((first | ((apply TextRun.go rfl rfl rfl); (intro w1 hS K hK; have hc := bcell hS; have hs := blt hS; go_wp2_with ((go_at_call 19; (with_reducible refine (start_calls _).mono ?_); rintro e w' ⟨rfl, hb⟩)); first | exact hS | exact hS.trans (hb.mono hS.size))) | (refine TextRun.skip rfl ?_) | ((refine TextRun.wantedT rfl rfl rfl ?_); (apply Exists.intro); (apply And.intro); (intro w1 hS K hK; have hc := bcell hS; have hs := blt hS; go_wp2_with ((go_at_call 19; (with_reducible refine (start_calls _).mono ?_); rintro e w' ⟨rfl, hb⟩)); first | exact hS | exact hS.trans (hb.mono hS.size)))); (simp only [Act.put, List.setIfInBounds_toArray, List.set_cons_zero, List.set_cons_succ]))
  refine TextRun.done ?_
  intro w6 hb
  have hB6 : Below w.heap.size w w6 := hB5.trans (Below.mono (Below.trans (show Below w5.heap.size w5 _ by go_grown) (hb.mono (by simp))) hB5.size)
  clear hb hB5
  go_wp2
  go_ret
  exact ⟨rfl, hB6⟩

end Go.Proofs.Ytejcpjhepkhihaa
