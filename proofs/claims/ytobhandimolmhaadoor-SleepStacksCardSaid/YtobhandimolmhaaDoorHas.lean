/-
  Sets of threads: Has, Put.
-/
import Derived.Test.YtobhandimolmhaaDoorSleepA
set_option linter.unusedSimpArgs false
set_option linter.unusedVariables false
namespace Go.Proofs.YtobhandimolmhaaDoor
open Go.ChangeShapes Go.WideShapes Go.ChangeAt Go.RowKit Go.Deep

set_option maxHeartbeats 1000000 in
theorem one_same (w : World) (t : Int) : Calls Tryd.prog 18 #[.int .i64 t] w fun e w' => e = .returned (.int .u64 (oneN t)) ∧ w = w' := by
  cases hi : in8 t
  · have Hf : Hid (oneN t = 0) := by unfold Hid oneN; rw [hi]; rfl
    have ho : t < 0 ∨ 8 ≤ t := by
      unfold in8 at hi; simp only [Bool.and_eq_false_iff, decide_eq_false_iff_not] at hi; omega
    clear hi
    rcases ho with h | h
    all_goals
      go_enter Tryd.func18, Tryd.ntmps18
      go_wp2
      go_ret
      exact ⟨by rw [Hf.out]; rfl, rfl⟩
  · unfold in8 at hi
    simp only [Bool.and_eq_true, decide_eq_true_eq] at hi
    obtain rfl | rfl | rfl | rfl | rfl | rfl | rfl | rfl : t = 0 ∨ t = 1 ∨ t = 2 ∨ t = 3 ∨ t = 4 ∨ t = 5 ∨ t = 6 ∨ t = 7 := by omega
    all_goals
      clear hi
      go_enter Tryd.func18, Tryd.ntmps18
      go_wp2
      go_ret
      exact ⟨rfl, rfl⟩
def hasB (m : Nat) (t : Int) : Bool := in8 t && m.testBit t.toNat
theorem and_pow (m i : Nat) : decide (m &&& 2 ^ i = 0) = !m.testBit i := by
  cases h : m.testBit i
  · have : m &&& 2 ^ i = 0 := Nat.eq_of_testBit_eq fun j => by
      rw [Nat.testBit_and, Nat.testBit_two_pow, Nat.zero_testBit]
      by_cases hj : i = j
      · subst hj; simp [h]
      · simp [hj]
    simp [this]
  · have : m &&& 2 ^ i ≠ 0 := fun e => by
      have h2 : (m &&& 2 ^ i).testBit i = true := by rw [Nat.testBit_and, Nat.testBit_two_pow_self, h]; rfl
      rw [e] at h2; simp at h2
    simp [this]
theorem and_one (m : Nat) (t : Int) : (((m &&& oneN t : Nat) : Int) != 0) = hasB m t := by
  have e : (((m &&& oneN t : Nat) : Int) != 0) = !decide (m &&& oneN t = 0) := by
    generalize m &&& oneN t = x
    cases x with
    | zero => rfl
    | succ n => simp; omega
  rw [e]
  unfold oneN hasB
  cases in8 t
  · simp
  · simp only [if_true, Bool.true_and]
    rw [and_pow, Bool.not_not]
set_option maxHeartbeats 1000000 in
theorem has_calls (w : World) {m : Nat} (hm : m < 256) (t : Int) : Calls Tryd.prog 19 #[.int .u64 m, .int .i64 t] w fun e w' => e = .returned (.bool (hasB m t)) ∧ w = w' := by
  have h1 := oneN_lt t
  have hb := bits_and_u64_nat m (oneN t) (by omega) (by omega)
  have ha := and_one m t
  have Hb := Lib.hid hb
  have Ha := Lib.hid ha
  clear hb ha
  go_enter Tryd.func19, Tryd.ntmps19
  go_wp2_with fail
  refine (one_same _ _).mono ?_
  rintro e w' ⟨rfl, rfl⟩
  go_wp2
  go_ret
  refine ⟨?_, rfl⟩
  rw [← Ha.out]
  simp [Hb.out]
set_option maxHeartbeats 1000000 in
theorem put_calls (w : World) {m : Nat} (hm : m < 256) (t : Int) : Calls Tryd.prog 20 #[.int .u64 m, .int .i64 t] w fun e w' => e = .returned (.int .u64 (m ||| oneN t : Nat)) ∧ w = w' := by
  have h1 := oneN_lt t
  have Hb := Lib.hid (or_val hm h1)
  go_enter Tryd.func20, Tryd.ntmps20
  go_wp2_with fail
  refine (one_same _ _).mono ?_
  rintro e w' ⟨rfl, rfl⟩
  go_wp2
  go_ret
  exact ⟨by simp [Hb.out], rfl⟩
end Go.Proofs.YtobhandimolmhaaDoor
