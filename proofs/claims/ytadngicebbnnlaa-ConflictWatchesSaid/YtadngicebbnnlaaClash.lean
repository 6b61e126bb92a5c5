/-
  Clash: of any two events the program's answer is the document's, either way round; proved for every input, no condition.
-/
import Derived.Test.YtadngicebbnnlaaData
import Derived.WalkKit
import Derived.WalkSpells
import Derived.WalkLawsBesides
import Derived.Handy
import Derived.Lib.Hide
set_option linter.unusedSimpArgs false
set_option linter.unusedVariables false
namespace Go.Proofs.Ytadngicebbnnlaa
open Go.ChangeShapes Go.WideShapes Go.ChangeAt Go.RowKit Go.Deep

def plainB (k : Int) : Bool := k == 1 || k == 2
def clashB (t k o t' k' o' : Int) : Bool := plainB k && plainB k' && (k == 2 || k' == 2) && o == o' && t != t'

theorem clashB_symm (t k o t' k' o' : Int) : clashB t k o t' k' o' = clashB t' k' o' t k o := by
  unfold clashB
  rw [Bool.eq_iff_iff]
  simp only [Bool.and_eq_true, Bool.or_eq_true, beq_iff_eq, bne_iff_ne]
  constructor
  · rintro ⟨⟨⟨⟨a, b⟩, c⟩, d⟩, e⟩; exact ⟨⟨⟨⟨b, a⟩, c.symm⟩, d.symm⟩, fun h => e h.symm⟩
  · rintro ⟨⟨⟨⟨a, b⟩, c⟩, d⟩, e⟩; exact ⟨⟨⟨⟨b, a⟩, c.symm⟩, d.symm⟩, fun h => e h.symm⟩

theorem plain_calls (k : Int) (w : World) : Calls Try.prog 44 #[.int .i64 k] w fun e w' => e = .returned (.bool (plainB k)) ∧ w = w' := by
  go_enter Try.func44, Try.ntmps44
  go_wp2
  all_goals (go_ret; exact ⟨by simp [plainB, *], rfl⟩)
theorem rplain_calls (k : Int) (w : World) : Calls Try.prog 69 #[.int .i64 k] w fun e w' => e = .returned (.bool (plainB k)) ∧ w = w' := by
  go_enter Try.func69, Try.ntmps69
  go_wp2
  all_goals (go_ret; exact ⟨by simp [plainB, *], rfl⟩)

set_option maxHeartbeats 4000000 in
theorem clash_calls (t k o v b t' k' o' v' b' : Int) (w : World) : Calls Try.prog 16 #[.agg #[.int .i64 t, .int .i64 k, .int .i64 o, .int .i64 v, .int .i64 b], .agg #[.int .i64 t', .int .i64 k', .int .i64 o', .int .i64 v', .int .i64 b']] w fun e w' =>
    e = .returned (.bool (clashB t k o t' k' o')) ∧ Below w.heap.size w w' := by
  go_enter Try.func16, Try.ntmps16
  go_wp2_with (go_at_call 44; refine (plain_calls _ _).mono ?_; rintro e w' ⟨rfl, rfl⟩)
  all_goals (go_ret; exact ⟨by first | (simp [clashB, *]; done) | (simp [clashB, *]; simp [plainB]), by go_grown⟩)
set_option maxHeartbeats 4000000 in
theorem rclash_calls (t k o v b t' k' o' v' b' : Int) (w : World) : Calls Try.prog 38 #[.agg #[.int .i64 t, .int .i64 k, .int .i64 o, .int .i64 v, .int .i64 b], .agg #[.int .i64 t', .int .i64 k', .int .i64 o', .int .i64 v', .int .i64 b']] w fun e w' =>
    e = .returned (.bool (clashB t k o t' k' o')) ∧ Below w.heap.size w w' := by
  go_enter Try.func38, Try.ntmps38
  go_wp2_with (go_at_call 69; refine (rplain_calls _ _).mono ?_; rintro e w' ⟨rfl, rfl⟩)
  all_goals (go_ret; exact ⟨by first | (simp [clashB, *]; done) | (simp [clashB, *]; simp [plainB]), by go_grown⟩)

theorem pair_calls (w : World) : Calls Try.prog 32 #[] w fun e w' => e = .returned (.slice (some ⟨w.heap.size, 0, none⟩) 3 3) ∧
    w.alloc (.cells #[.int .i64 0, .int .i64 6, .int .i64 1, .int .i64 0, .int .i64 0, .int .i64 1, .int .i64 2, .int .i64 0, .int .i64 0, .int .i64 0, .int .i64 0, .int .i64 1, .int .i64 0, .int .i64 0, .int .i64 0] 38) = w' := by
  go_enter Try.func32, Try.ntmps32
  go_wp2
  go_ret
  exact ⟨rfl, rfl⟩


end Go.Proofs.Ytadngicebbnnlaa
