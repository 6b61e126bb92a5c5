/-
  SleepSets: the walk.
-/
import Derived.Test.YtobhandimolmhaaDoorSets2
set_option linter.unusedSimpArgs false
set_option linter.unusedVariables false
namespace Go.Proofs.YtobhandimolmhaaDoor
open Go.ChangeShapes Go.WideShapes Go.ChangeAt Go.RowKit Go.Deep

theorem two_ints (w : World) : IsInts (w.alloc (.cells #[.int .i64 0, .int .i64 1] 3)) (some ⟨w.heap.size, 0, none⟩) 2 2 [0, 1] := by
  have h := (MapKept.heap_alloc w (.cells #[.int .i64 0, .int .i64 1] 3)).1
  refine ⟨⟨by simp, fun _ => ⟨w.heap.size, 0, rfl, fun j u hu => ?_⟩⟩, rfl, Nat.le_refl _, by unfold maxLen; omega, fun x hx => ?_⟩
  · rw [cell_blk h, Nat.zero_add]
    have hj : j < 2 := by
      have := (List.getElem?_eq_some_iff.1 hu).1
      simpa using this
    obtain rfl | rfl : j = 0 ∨ j = 1 := by omega
    all_goals exact hu
  · simp only [List.mem_cons, List.not_mem_nil, or_false] at hx
    rcases hx with rfl | rfl
    all_goals exact Fit.of (by decide) (by decide)

set_option maxHeartbeats 1000000 in
theorem awake17_calls (w : World) : Calls Tryd.prog 4 #[] w fun e w' => e = .returned (.bool true) ∧ Below w.heap.size w w' := by
  have e1 : maskN [0, 1] = 3 := by decide
  have e2 : popT (3 % 256) 8 = 2 := by decide
  have hlen : ∀ W, Calls Tryd.prog 15 #[.int .u64 3] W fun e w' => e = .returned (.int .i64 2) ∧ W = w' := fun W => by
    have := len_calls W (s := 3) (by omega)
    rw [e2] at this
    exact this
  have ht := Lib.hid (two_ints w)
  have H1 := Lib.hid e1
  clear e1 e2
  go_enter Tryd.func4, Tryd.ntmps4
  go_wp2_with fail
  refine (sof_calls ht.out).mono ?_
  rintro e w1 ⟨rfl, hb⟩
  rw [H1.out]
  have hB_w1 : Below w.heap.size w w1 := Below.trans ((Below.refl _ _).alloc (Nat.le_refl _) _) (hb.mono (by simp))
  clear hb
  go_wp2_with fail
  refine (hlen _).mono ?_
  rintro e w2 ⟨rfl, rfl⟩
  go_wp2
  go_ret
  exact ⟨rfl, hB_w1⟩

end Go.Proofs.YtobhandimolmhaaDoor
