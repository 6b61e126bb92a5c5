/-
  cmp.Compare at numbers.
-/
import Derived.Test.YtadngicebbnnlaaData
import Derived.WalkKit
import Derived.Handy
import Derived.Lib.Hide
set_option linter.unusedSimpArgs false
set_option linter.unusedVariables false
namespace Go.Proofs.Ytadngicebbnnlaa
open Go.ChangeShapes Go.WideShapes Go.ChangeAt Go.RowKit Go.Deep

def cmpI (x y : Int) : Int := if x < y then -1 else if y < x then 1 else 0
theorem cmpI_lt {x y : Int} : cmpI x y < 0 ↔ x < y := by unfold cmpI; split <;> (try split) <;> omega
theorem nan_calls (x : Int) (w : World) : Calls Try.prog 67 #[.int .i64 x] w fun e w' => e = .returned (.bool false) ∧ w' = w := by
  have hx : (x != x) = false := by simp
  go_enter Try.func67, Try.ntmps67
  go_wp2
  go_ret
  exact ⟨rfl, rfl⟩
set_option maxHeartbeats 2000000 in
theorem cmp_calls (x y : Int) (w : World) : Calls Try.prog 36 #[.int .i64 x, .int .i64 y] w fun e w' => e = .returned (.int .i64 (cmpI x y)) ∧ w' = w := by
  by_cases h : x < y
  · have hd : decide (x < y) = true := decide_eq_true h
    have Hv : Hid (cmpI x y = -1) := by unfold cmpI; exact if_pos h
    clear h
    go_enter Try.func36, Try.ntmps36
    go_wp2_with (go_at_call 67; refine (nan_calls _ _).mono ?_; rintro e w' ⟨rfl, rfl⟩)
    go_ret
    exact ⟨by rw [Hv.out]; rfl, rfl⟩
  · have hd : decide (x < y) = false := decide_eq_false h
    by_cases h2 : y < x
    · have hd2 : decide (y < x) = true := decide_eq_true h2
      have Hv : Hid (cmpI x y = 1) := by unfold cmpI; rw [if_neg h]; exact if_pos h2
      clear h h2
      go_enter Try.func36, Try.ntmps36
      go_wp2_with (go_at_call 67; refine (nan_calls _ _).mono ?_; rintro e w' ⟨rfl, rfl⟩)
      go_ret
      exact ⟨by rw [Hv.out]; rfl, rfl⟩
    · have hd2 : decide (y < x) = false := decide_eq_false h2
      have Hv : Hid (cmpI x y = 0) := by unfold cmpI; rw [if_neg h]; exact if_neg h2
      clear h h2
      go_enter Try.func36, Try.ntmps36
      go_wp2_with (go_at_call 67; refine (nan_calls _ _).mono ?_; rintro e w' ⟨rfl, rfl⟩)
      go_ret
      exact ⟨by rw [Hv.out]; rfl, rfl⟩
end Go.Proofs.Ytadngicebbnnlaa
