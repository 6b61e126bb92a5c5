/-
  Right: of any event the program's answer is the document's table; proved for every input, no condition.
-/
import Derived.Test.YtadngicebbnnlaaData
import Derived.WalkKit
import Derived.WalkSpells
import Derived.WalkLawsBesides
import Derived.Handy
import Derived.Lib.Hide
set_option linter.unusedSimpArgs false
set_option linter.unusedVariables false
namespace Go.Proofs.Ytadngicebbnnlaa
open Go.ChangeShapes Go.WideShapes Go.ChangeAt Go.RowKit Go.Deep

/-- A number of a thread, a cell, a mutex. -/
def inB (n : Int) : Bool := decide (0 ≤ n) && decide (n < 8)
theorem inB_iff {n : Int} : inB n = true ↔ 0 ≤ n ∧ n < 8 := by simp [inB]
theorem inB_not {n : Int} : inB n = false ↔ n < 0 ∨ 8 ≤ n := by
  rw [← Bool.not_eq_true, inB_iff]; omega

def bodyB (t k o v b : Int) : Bool :=
  if k == 1 then inB o && b == 0 else
  if k == 2 then inB o && b == 0 else
  if k == 3 then inB o && b == 0 else
  if k == 4 then inB o && v == 0 && b == 0 else
  if k == 5 then inB o && v == 0 && (b == 0 || b == 2) else
  if k == 6 then inB o && v == 0 && (b == 0 || b == 4) else
  if k == 7 then inB o && v == 0 && (b == 0 || b == 3) else
  if k == 8 then o == 0 && (if v == 0 then b == 1 else b == 0) else
  if k == 9 then o == t && v == 0 && b == 0 else false
def rightB (t k o v b : Int) : Bool := inB t && bodyB t k o v b

theorem number_calls (n : Int) (w : World) : Calls Try.prog 114 #[.int .i64 n] w fun e w' => e = .returned (.bool (inB n)) ∧ w = w' := by
  go_enter Try.func114, Try.ntmps114
  go_wp2
  all_goals (go_ret; exact ⟨by go_tidy; first | (simp_all [inB]; done) | (simp_all [inB]; omega) | (simp_all [inB]; intros; subst_vars; simp_all; done) | (simp [inB, *]; done) | (simp [inB, *]; omega), rfl⟩)
theorem rin_calls (n : Int) (w : World) : Calls Try.prog 77 #[.int .i64 n] w fun e w' => e = .returned (.bool (inB n)) ∧ w = w' := by
  go_enter Try.func77, Try.ntmps77
  go_wp2
  all_goals (go_ret; exact ⟨by go_tidy; first | (simp_all [inB]; done) | (simp_all [inB]; omega) | (simp_all [inB]; intros; subst_vars; simp_all; done) | (simp [inB, *]; done) | (simp [inB, *]; omega), rfl⟩)

set_option maxHeartbeats 4000000 in
theorem right_calls (t k o v b : Int) (w : World) : Calls Try.prog 93 #[.agg #[.int .i64 t, .int .i64 k, .int .i64 o, .int .i64 v, .int .i64 b]] w fun e w' =>
    e = .returned (.bool (rightB t k o v b)) ∧ Below w.heap.size w w' := by
  go_enter Try.func93, Try.ntmps93
  go_wp2_with (go_at_call 114; refine (number_calls _ _).mono ?_; rintro e w' ⟨rfl, rfl⟩)
  all_goals (go_ret; exact ⟨by go_tidy; first | (simp_all [rightB, bodyB]; done) | (simp_all [rightB, bodyB]; omega) | (simp_all [rightB, bodyB]; intros; subst_vars; simp_all; done) | (simp [rightB, bodyB, *]; done) | (simp [rightB, bodyB, *]; omega), by go_grown⟩)
set_option maxHeartbeats 4000000 in
theorem rright_calls (t k o v b : Int) (w : World) : Calls Try.prog 54 #[.agg #[.int .i64 t, .int .i64 k, .int .i64 o, .int .i64 v, .int .i64 b]] w fun e w' =>
    e = .returned (.bool (rightB t k o v b)) ∧ Below w.heap.size w w' := by
  go_enter Try.func54, Try.ntmps54
  go_wp2_with (go_at_call 77; refine (rin_calls _ _).mono ?_; rintro e w' ⟨rfl, rfl⟩)
  all_goals (go_ret; exact ⟨by go_tidy; first | (simp_all [rightB, bodyB]; done) | (simp_all [rightB, bodyB]; omega) | (simp_all [rightB, bodyB]; intros; subst_vars; simp_all; done) | (simp [rightB, bodyB, *]; done) | (simp [rightB, bodyB, *]; omega), by go_grown⟩)

end Go.Proofs.Ytadngicebbnnlaa
