/-
  steps: does synchronisation go from one event to a later one at once; the program's text and the document's.
-/
import Derived.Test.YtadngicebbnnlaaRdep
set_option linter.unusedSimpArgs false
set_option linter.unusedVariables false
namespace Go.Proofs.Ytadngicebbnnlaa
open Go.ChangeShapes Go.WideShapes Go.ChangeAt Go.RowKit Go.Deep

def stepB (t k o b t' k' o' b' : Int) : Bool :=
  if t == t' then true else if b != 0 then false else if k == 5 then (k' == 4 && o == o') else if k == 3 then (k' == 3 && o == o') else if k == 6 then o == t' else if k == 9 then (k' == 7 && (b' == 0 && o' == t)) else false
def stepR (t k o b t' k' o' b' : Int) : Bool :=
  if t == t' then true else if k == 5 then (b == 0 && (k' == 4 && o == o')) else if k == 3 then (k' == 3 && o == o') else if k == 6 then (b == 0 && o == t') else if k == 9 then (k' == 7 && (b' == 0 && o' == t)) else false

set_option maxRecDepth 20000 in
set_option maxHeartbeats 4000000 in
theorem steps_calls (t k o v b t' k' o' v' b' : Int) (w : World) :
    Calls Try.prog 43 #[.agg #[.int .i64 t, .int .i64 k, .int .i64 o, .int .i64 v, .int .i64 b], .agg #[.int .i64 t', .int .i64 k', .int .i64 o', .int .i64 v', .int .i64 b']] w fun e w' =>
    e = .returned (.bool (stepB t k o b t' k' o' b')) ∧ Below w.heap.size w w' := by
  rcases Bool.eq_false_or_eq_true (t == t') with h1 | h1
  · have Hv : Hid (stepB t k o b t' k' o' b' = true) := by unfold Hid stepB; rw [h1]; rfl
    rw [Hv.out]
    go_enter Try.func43, Try.ntmps43
    go_wp2
    go_ret
    exact ⟨rfl, by go_grown⟩
  · rcases Bool.eq_false_or_eq_true (b != 0) with hb | hb
    · have Hv : Hid (stepB t k o b t' k' o' b' = false) := by unfold Hid stepB; rw [h1, hb]; rfl
      rw [Hv.out]
      go_enter Try.func43, Try.ntmps43
      go_wp2
      go_ret
      exact ⟨rfl, by go_grown⟩
    · have hk : k = 5 ∨ k = 3 ∨ k = 6 ∨ k = 9 ∨ ((k == 5) = false ∧ (k == 3) = false ∧ (k == 6) = false ∧ (k == 9) = false) := by
        simp only [beq_eq_false_iff_ne, ne_eq]; omega
      have hv0 : stepB t k o b t' k' o' b' = if k == 5 then (k' == 4 && o == o') else if k == 3 then (k' == 3 && o == o') else if k == 6 then o == t' else if k == 9 then (k' == 7 && (b' == 0 && o' == t)) else false := by
        unfold stepB; rw [h1, hb]; rfl
      rw [hv0]
      clear hv0
      obtain rfl | rfl | rfl | rfl | ⟨k5, k3, k6, k9⟩ := hk
      · rcases Bool.eq_false_or_eq_true (k' == 4) with h2 | h2
        all_goals
          have Hv : Hid ((if (5 : Int) == 5 then (k' == 4 && o == o') else if (5 : Int) == 3 then (k' == 3 && o == o') else if (5 : Int) == 6 then o == t' else if (5 : Int) == 9 then (k' == 7 && (b' == 0 && o' == t)) else false) = (k' == 4 && o == o')) := rfl
          rw [Hv.out, h2]
          go_enter Try.func43, Try.ntmps43
          go_wp2
          go_ret
          exact ⟨by first | rfl | simp, by go_grown⟩
      · rcases Bool.eq_false_or_eq_true (k' == 3) with h2 | h2
        all_goals
          have Hv : Hid ((if (3 : Int) == 5 then (k' == 4 && o == o') else if (3 : Int) == 3 then (k' == 3 && o == o') else if (3 : Int) == 6 then o == t' else if (3 : Int) == 9 then (k' == 7 && (b' == 0 && o' == t)) else false) = (k' == 3 && o == o')) := rfl
          rw [Hv.out, h2]
          go_enter Try.func43, Try.ntmps43
          go_wp2
          go_ret
          exact ⟨by first | rfl | simp, by go_grown⟩
      · have Hv : Hid ((if (6 : Int) == 5 then (k' == 4 && o == o') else if (6 : Int) == 3 then (k' == 3 && o == o') else if (6 : Int) == 6 then o == t' else if (6 : Int) == 9 then (k' == 7 && (b' == 0 && o' == t)) else false) = (o == t')) := rfl
        rw [Hv.out]
        go_enter Try.func43, Try.ntmps43
        go_wp2
        go_ret
        exact ⟨by first | rfl | simp, by go_grown⟩
      · rcases Bool.eq_false_or_eq_true (k' == 7) with h2 | h2
        · rcases Bool.eq_false_or_eq_true (b' == 0) with h3 | h3
          all_goals
            have Hv : Hid ((if (9 : Int) == 5 then (k' == 4 && o == o') else if (9 : Int) == 3 then (k' == 3 && o == o') else if (9 : Int) == 6 then o == t' else if (9 : Int) == 9 then (k' == 7 && (b' == 0 && o' == t)) else false) = (k' == 7 && (b' == 0 && o' == t))) := rfl
            rw [Hv.out, h2, h3]
            go_enter Try.func43, Try.ntmps43
            go_wp2
            go_ret
            exact ⟨by first | rfl | simp, by go_grown⟩
        · have Hv : Hid ((if (9 : Int) == 5 then (k' == 4 && o == o') else if (9 : Int) == 3 then (k' == 3 && o == o') else if (9 : Int) == 6 then o == t' else if (9 : Int) == 9 then (k' == 7 && (b' == 0 && o' == t)) else false) = (k' == 7 && (b' == 0 && o' == t))) := rfl
          rw [Hv.out, h2]
          go_enter Try.func43, Try.ntmps43
          go_wp2
          go_ret
          exact ⟨by first | rfl | simp, by go_grown⟩
      · have Hv : Hid ((if k == 5 then (k' == 4 && o == o') else if k == 3 then (k' == 3 && o == o') else if k == 6 then o == t' else if k == 9 then (k' == 7 && (b' == 0 && o' == t)) else false) = false) := by unfold Hid; rw [k5, k3, k6, k9]; rfl
        rw [Hv.out]
        go_enter Try.func43, Try.ntmps43
        go_wp2
        go_ret
        exact ⟨rfl, by go_grown⟩

set_option maxRecDepth 20000 in
set_option maxHeartbeats 4000000 in
theorem rstep_calls (t k o v b t' k' o' v' b' : Int) (w : World) :
    Calls Try.prog 92 #[.agg #[.int .i64 t, .int .i64 k, .int .i64 o, .int .i64 v, .int .i64 b], .agg #[.int .i64 t', .int .i64 k', .int .i64 o', .int .i64 v', .int .i64 b']] w fun e w' =>
    e = .returned (.bool (stepR t k o b t' k' o' b')) ∧ Below w.heap.size w w' := by
  rcases Bool.eq_false_or_eq_true (t == t') with h1 | h1
  · have Hv : Hid (stepR t k o b t' k' o' b' = true) := by unfold Hid stepR; rw [h1]; rfl
    rw [Hv.out]
    go_enter Try.func92, Try.ntmps92
    go_wp2
    go_ret
    exact ⟨rfl, by go_grown⟩
  · have hk : k = 5 ∨ k = 3 ∨ k = 6 ∨ k = 9 ∨ ((k == 5) = false ∧ (k == 3) = false ∧ (k == 6) = false ∧ (k == 9) = false) := by
      simp only [beq_eq_false_iff_ne, ne_eq]; omega
    have hv0 : stepR t k o b t' k' o' b' = (if k == 5 then (b == 0 && (k' == 4 && o == o')) else if k == 3 then (k' == 3 && o == o') else if k == 6 then (b == 0 && o == t') else if k == 9 then (k' == 7 && (b' == 0 && o' == t)) else false) := by
      unfold stepR; rw [h1]; rfl
    rw [hv0]
    clear hv0
    obtain rfl | rfl | rfl | rfl | ⟨k5, k3, k6, k9⟩ := hk
    · rcases Bool.eq_false_or_eq_true (b == 0) with h2 | h2
      · rcases Bool.eq_false_or_eq_true (k' == 4) with h3 | h3
        · have Hv : Hid ((if (5 : Int) == 5 then (b == 0 && (k' == 4 && o == o')) else if (5 : Int) == 3 then (k' == 3 && o == o') else if (5 : Int) == 6 then (b == 0 && o == t') else if (5 : Int) == 9 then (k' == 7 && (b' == 0 && o' == t)) else false) = (b == 0 && (k' == 4 && o == o'))) := rfl
          rw [Hv.out, h2, h3]
          go_enter Try.func92, Try.ntmps92
          go_wp2
          go_ret
          exact ⟨by first | rfl | simp, by go_grown⟩
        · have Hv : Hid ((if (5 : Int) == 5 then (b == 0 && (k' == 4 && o == o')) else if (5 : Int) == 3 then (k' == 3 && o == o') else if (5 : Int) == 6 then (b == 0 && o == t') else if (5 : Int) == 9 then (k' == 7 && (b' == 0 && o' == t)) else false) = (b == 0 && (k' == 4 && o == o'))) := rfl
          rw [Hv.out, h2, h3]
          go_enter Try.func92, Try.ntmps92
          go_wp2
          go_ret
          exact ⟨by first | rfl | simp, by go_grown⟩
      · have Hv : Hid ((if (5 : Int) == 5 then (b == 0 && (k' == 4 && o == o')) else if (5 : Int) == 3 then (k' == 3 && o == o') else if (5 : Int) == 6 then (b == 0 && o == t') else if (5 : Int) == 9 then (k' == 7 && (b' == 0 && o' == t)) else false) = (b == 0 && (k' == 4 && o == o'))) := rfl
        rw [Hv.out, h2]
        go_enter Try.func92, Try.ntmps92
        go_wp2
        go_ret
        exact ⟨by first | rfl | simp, by go_grown⟩
    · rcases Bool.eq_false_or_eq_true (k' == 3) with h2 | h2
      · have Hv : Hid ((if (3 : Int) == 5 then (b == 0 && (k' == 4 && o == o')) else if (3 : Int) == 3 then (k' == 3 && o == o') else if (3 : Int) == 6 then (b == 0 && o == t') else if (3 : Int) == 9 then (k' == 7 && (b' == 0 && o' == t)) else false) = (k' == 3 && o == o')) := rfl
        rw [Hv.out, h2]
        go_enter Try.func92, Try.ntmps92
        go_wp2
        go_ret
        exact ⟨by first | rfl | simp, by go_grown⟩
      · have Hv : Hid ((if (3 : Int) == 5 then (b == 0 && (k' == 4 && o == o')) else if (3 : Int) == 3 then (k' == 3 && o == o') else if (3 : Int) == 6 then (b == 0 && o == t') else if (3 : Int) == 9 then (k' == 7 && (b' == 0 && o' == t)) else false) = (k' == 3 && o == o')) := rfl
        rw [Hv.out, h2]
        go_enter Try.func92, Try.ntmps92
        go_wp2
        go_ret
        exact ⟨by first | rfl | simp, by go_grown⟩
    · rcases Bool.eq_false_or_eq_true (b == 0) with h2 | h2
      · have Hv : Hid ((if (6 : Int) == 5 then (b == 0 && (k' == 4 && o == o')) else if (6 : Int) == 3 then (k' == 3 && o == o') else if (6 : Int) == 6 then (b == 0 && o == t') else if (6 : Int) == 9 then (k' == 7 && (b' == 0 && o' == t)) else false) = (b == 0 && o == t')) := rfl
        rw [Hv.out, h2]
        go_enter Try.func92, Try.ntmps92
        go_wp2
        go_ret
        exact ⟨by first | rfl | simp, by go_grown⟩
      · have Hv : Hid ((if (6 : Int) == 5 then (b == 0 && (k' == 4 && o == o')) else if (6 : Int) == 3 then (k' == 3 && o == o') else if (6 : Int) == 6 then (b == 0 && o == t') else if (6 : Int) == 9 then (k' == 7 && (b' == 0 && o' == t)) else false) = (b == 0 && o == t')) := rfl
        rw [Hv.out, h2]
        go_enter Try.func92, Try.ntmps92
        go_wp2
        go_ret
        exact ⟨by first | rfl | simp, by go_grown⟩
    · rcases Bool.eq_false_or_eq_true (k' == 7) with h2 | h2
      · rcases Bool.eq_false_or_eq_true (b' == 0) with h3 | h3
        · have Hv : Hid ((if (9 : Int) == 5 then (b == 0 && (k' == 4 && o == o')) else if (9 : Int) == 3 then (k' == 3 && o == o') else if (9 : Int) == 6 then (b == 0 && o == t') else if (9 : Int) == 9 then (k' == 7 && (b' == 0 && o' == t)) else false) = (k' == 7 && (b' == 0 && o' == t))) := rfl
          rw [Hv.out, h2, h3]
          go_enter Try.func92, Try.ntmps92
          go_wp2
          go_ret
          exact ⟨by first | rfl | simp, by go_grown⟩
        · have Hv : Hid ((if (9 : Int) == 5 then (b == 0 && (k' == 4 && o == o')) else if (9 : Int) == 3 then (k' == 3 && o == o') else if (9 : Int) == 6 then (b == 0 && o == t') else if (9 : Int) == 9 then (k' == 7 && (b' == 0 && o' == t)) else false) = (k' == 7 && (b' == 0 && o' == t))) := rfl
          rw [Hv.out, h2, h3]
          go_enter Try.func92, Try.ntmps92
          go_wp2
          go_ret
          exact ⟨by first | rfl | simp, by go_grown⟩
      · have Hv : Hid ((if (9 : Int) == 5 then (b == 0 && (k' == 4 && o == o')) else if (9 : Int) == 3 then (k' == 3 && o == o') else if (9 : Int) == 6 then (b == 0 && o == t') else if (9 : Int) == 9 then (k' == 7 && (b' == 0 && o' == t)) else false) = (k' == 7 && (b' == 0 && o' == t))) := rfl
        rw [Hv.out, h2]
        go_enter Try.func92, Try.ntmps92
        go_wp2
        go_ret
        exact ⟨by first | rfl | simp, by go_grown⟩
    · have Hv : Hid ((if k == 5 then (b == 0 && (k' == 4 && o == o')) else if k == 3 then (k' == 3 && o == o') else if k == 6 then (b == 0 && o == t') else if k == 9 then (k' == 7 && (b' == 0 && o' == t)) else false) = false) := by unfold Hid; rw [k5, k3, k6, k9]; rfl
      rw [Hv.out]
      go_enter Try.func92, Try.ntmps92
      go_wp2
      go_ret
      exact ⟨rfl, by go_grown⟩
end Go.Proofs.Ytadngicebbnnlaa
