/-
  Right: of any event the program's answer is the document's table; proved for every input, no condition.
-/
import Derived.Test.YtejcpjhepkhihaaData
import Derived.WalkKit
import Derived.WalkSpells
import Derived.WalkLawsBesides
import Derived.Handy
import Derived.Lib.Hide
set_option linter.unusedSimpArgs false
set_option linter.unusedVariables false
namespace Go.Proofs.Ytejcpjhepkhihaa
open Go.ChangeShapes Go.WideShapes Go.ChangeAt Go.RowKit Go.Deep

/-- A number of a thread, a cell, a mutex. -/
def inB (n : Int) : Bool := decide (0 ≤ n) && decide (n < 8)
theorem inB_iff {n : Int} : inB n = true ↔ 0 ≤ n ∧ n < 8 := by simp [inB]
theorem inB_not {n : Int} : inB n = false ↔ n < 0 ∨ 8 ≤ n := by
  rw [← Bool.not_eq_true, inB_iff]; omega

def bodyB (t k o v b : Int) : Bool :=
  if k == 1 then inB o && b == 0 else
  if k == 2 then inB o && b == 0 else
  if k == 3 then inB o && b == 0 else
  if k == 4 then inB o && v == 0 && b == 0 else
  if k == 5 then inB o && v == 0 && (b == 0 || b == 2) else
  if k == 6 then inB o && v == 0 && (b == 0 || b == 4) else
  if k == 7 then inB o && v == 0 && (b == 0 || b == 3) else
  if k == 8 then o == 0 && (if v == 0 then b == 1 else b == 0) else
  if k == 9 then o == t && v == 0 && b == 0 else false
def rightB (t k o v b : Int) : Bool := inB t && bodyB t k o v b

theorem number_calls (n : Int) (w : World) : Calls Try.prog 44 #[.int .i64 n] w fun e w' => e = .returned (.bool (inB n)) ∧ w = w' := by
  go_enter Try.func44, Try.ntmps44
  go_wp2
  all_goals (go_ret; exact ⟨by go_tidy; first | (simp_all [inB]; done) | (simp_all [inB]; omega) | (simp_all [inB]; intros; subst_vars; simp_all; done) | (simp [inB, *]; done) | (simp [inB, *]; omega), rfl⟩)
theorem rin_calls (n : Int) (w : World) : Calls Try.prog 45 #[.int .i64 n] w fun e w' => e = .returned (.bool (inB n)) ∧ w = w' := by
  go_enter Try.func45, Try.ntmps45
  go_wp2
  all_goals (go_ret; exact ⟨by go_tidy; first | (simp_all [inB]; done) | (simp_all [inB]; omega) | (simp_all [inB]; intros; subst_vars; simp_all; done) | (simp [inB, *]; done) | (simp [inB, *]; omega), rfl⟩)

set_option maxHeartbeats 4000000 in
theorem right_calls (t k o v b : Int) (w : World) : Calls Try.prog 18 #[.agg #[.int .i64 t, .int .i64 k, .int .i64 o, .int .i64 v, .int .i64 b]] w fun e w' =>
    e = .returned (.bool (rightB t k o v b)) ∧ Below w.heap.size w w' := by
  go_enter Try.func18, Try.ntmps18
  go_wp2_with (go_at_call 44; refine (number_calls _ _).mono ?_; rintro e w' ⟨rfl, rfl⟩)
  all_goals (go_ret; exact ⟨by go_tidy; first | (simp_all [rightB, bodyB]; done) | (simp_all [rightB, bodyB]; omega) | (simp_all [rightB, bodyB]; intros; subst_vars; simp_all; done) | (simp [rightB, bodyB, *]; done) | (simp [rightB, bodyB, *]; omega), by go_grown⟩)
set_option maxHeartbeats 4000000 in
theorem rright_calls (t k o v b : Int) (w : World) : Calls Try.prog 20 #[.agg #[.int .i64 t, .int .i64 k, .int .i64 o, .int .i64 v, .int .i64 b]] w fun e w' =>
    e = .returned (.bool (rightB t k o v b)) ∧ Below w.heap.size w w' := by
  go_enter Try.func20, Try.ntmps20
  go_wp2_with (go_at_call 45; refine (rin_calls _ _).mono ?_; rintro e w' ⟨rfl, rfl⟩)
  all_goals (go_ret; exact ⟨by go_tidy; first | (simp_all [rightB, bodyB]; done) | (simp_all [rightB, bodyB]; omega) | (simp_all [rightB, bodyB]; intros; subst_vars; simp_all; done) | (simp [rightB, bodyB, *]; done) | (simp [rightB, bodyB, *]; omega), by go_grown⟩)

theorem start_calls (w : World) : Calls Try.prog 19 #[] w fun e w' =>
    e = .returned (.agg #[.int .i64 0, .int .i64 6, .int .i64 1, .int .i64 0, .int .i64 0]) ∧ Below w.heap.size w w' := by
  go_enter Try.func19, Try.ntmps19
  go_wp2
  go_returns
  exact ⟨rfl, by go_grown⟩

set_option maxHeartbeats 4000000 in
theorem right_law (t k o v b : Int) (w : World) : Calls Try.prog 4 #[.agg #[.int .i64 t, .int .i64 k, .int .i64 o, .int .i64 v, .int .i64 b]] w fun e w' =>
    e = .returned (.bool true) ∧ Below w.heap.size w w' := by
  have h0 : rightB 0 6 1 0 0 = true := by decide
  go_enter Try.func4, Try.ntmps4
  go_wp2_with fail
  refine (start_calls _).mono ?_
  rintro e w1 ⟨rfl, hb⟩
  have hc_w1 := bcell hb
  have hB_w1 : Below w.heap.size w w1 := Below.trans (by go_grown) (hb.mono (by first | omega | (simp <;> omega)))
  have hS_w1 := hb.size
  try simp at hS_w1
  have hA_w1_0 : ∀ x, x < w.heap.size + 1 → x < w1.heap.size := (fun x hx => by omega)
  have hL_w1 : ∀ x, x < w.heap.size → x < w1.heap.size := (fun x hx => by omega)
  clear hb
  go_wp2_with fail
  refine (right_calls _ _ _ _ _ _).mono ?_
  rintro e w2 ⟨rfl, hb⟩
  have hc_w2 := bcell hb
  have hB_w2 : Below w.heap.size w w2 := Below.trans (by go_grown) (hb.mono (by first | omega | (simp <;> omega)))
  have hS_w2 := hb.size
  try simp at hS_w2
  have hA_w2_0 : ∀ x, x < w.heap.size + 1 → x < w2.heap.size := (fun x hx => by omega)
  have hL_w2 : ∀ x, x < w.heap.size → x < w2.heap.size := (fun x hx => by omega)
  clear hb
  go_wp2_with fail
  refine (right_calls _ _ _ _ _ _).mono ?_
  rintro e w3 ⟨rfl, hb⟩
  have hc_w3 := bcell hb
  have hB_w3 : Below w.heap.size w w3 := Below.trans (by go_grown) (hb.mono (by first | omega | (simp <;> omega)))
  have hS_w3 := hb.size
  try simp at hS_w3
  have hA_w3_0 : ∀ x, x < w.heap.size + 1 → x < w3.heap.size := (fun x hx => by omega)
  have hL_w3 : ∀ x, x < w.heap.size → x < w3.heap.size := (fun x hx => by omega)
  clear hb
  go_wp2_with fail
  refine (rright_calls _ _ _ _ _ _).mono ?_
  rintro e w4 ⟨rfl, hb⟩
  have hc_w4 := bcell hb
  have hB_w4 : Below w.heap.size w w4 := Below.trans (by go_grown) (hb.mono (by first | omega | (simp <;> omega)))
  have hS_w4 := hb.size
  try simp at hS_w4
  have hA_w4_0 : ∀ x, x < w.heap.size + 1 → x < w4.heap.size := (fun x hx => by omega)
  have hL_w4 : ∀ x, x < w.heap.size → x < w4.heap.size := (fun x hx => by omega)
  clear hb
  go_wp2_with fail
  go_ret
  exact ⟨by simp [h0], hB_w4⟩
theorem right_law' (a : Ev) (w : World) : Calls Try.prog 4 #[.agg #[.int .i64 a.t, .int .i64 a.k, .int .i64 a.o, .int .i64 a.v, .int .i64 a.b]] w fun e w' =>
    e = .returned (.bool true) ∧ Below w.heap.size w w' := right_law _ _ _ _ _ w

end Go.Proofs.Ytejcpjhepkhihaa
