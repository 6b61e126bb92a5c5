/-
  SleepOf: the program's set of any list is the document's.
-/
import Derived.Test.YtngmcbliihohcaaSleep
set_option linter.unusedSimpArgs false
set_option linter.unusedVariables false
namespace Go.Proofs.Ytngmcbliihohcaa
open Go.ChangeShapes Go.WideShapes Go.ChangeAt Go.RowKit Go.Deep

theorem two_ints (w : World) : IsInts (w.alloc (.cells #[.int .i64 0, .int .i64 1] 3)) (some ⟨w.heap.size, 0, none⟩) 2 2 [0, 1] := by
  have h := (MapKept.heap_alloc w (.cells #[.int .i64 0, .int .i64 1] 3)).1
  refine ⟨⟨by simp, fun _ => ⟨w.heap.size, 0, rfl, fun j u hu => ?_⟩⟩, rfl, Nat.le_refl _, by unfold maxLen; omega, fun x hx => ?_⟩
  · rw [cell_blk h, Nat.zero_add]
    have hj : j < 2 := by
      have := (List.getElem?_eq_some_iff.1 hu).1
      simpa using this
    obtain rfl | rfl : j = 0 ∨ j = 1 := by omega
    all_goals exact hu
  · simp only [List.mem_cons, List.not_mem_nil, or_false] at hx
    rcases hx with rfl | rfl
    all_goals exact Fit.of (by decide) (by decide)

set_option maxHeartbeats 1000000 in
theorem awake17_calls (w : World) : Calls Try.prog 16 #[] w fun e w' => e = .returned (.bool true) ∧ Below w.heap.size w w' := by
  have e1 : maskN [0, 1] = 3 := by decide
  have ht := Lib.hid (two_ints w)
  have H1 := Lib.hid e1
  clear e1
  go_enter Try.func16, Try.ntmps16
  go_wp2_with fail
  refine (sof_calls ht.out).mono ?_
  rintro e w1 ⟨rfl, hb⟩
  rw [H1.out]
  have hB_w1 : Below w.heap.size w w1 := Below.trans ((Below.refl _ _).alloc (Nat.le_refl _) _) (hb.mono (by simp))
  clear hb
  go_wp2_with fail
  refine (len17_calls _).mono ?_
  rintro e w2 ⟨rfl, rfl⟩
  go_wp2
  go_ret
  exact ⟨rfl, hB_w1⟩

set_option maxHeartbeats 2000000 in
theorem sleepof_law {w : World} {a0 : Option Addr} {n c : Nat} {xs : List Int} (h : IsInts w a0 n c xs) :
    Calls Try.prog 4 #[.slice a0 n c] w fun e w' => e = .returned (.bool true) ∧ Below w.heap.size w w' := by
  have hB_w := Below.refl w.heap.size w
  obtain ⟨f, hf⟩ : ∃ f, f = (maskN xs).testBit := ⟨_, rfl⟩
  have hR : ∀ W, IsInts W a0 n c xs → Calls Try.prog 18 #[.slice a0 n c] W fun e w' =>
      e = .returned (.agg #[.bool (f 0), .bool (f 1), .bool (f 2), .bool (f 3), .bool (f 4), .bool (f 5), .bool (f 6), .bool (f 7)]) ∧ Below W.heap.size W w' := fun W hW => by subst hf; exact rof17_calls hW
  have hN : ∀ W, Calls Try.prog 19 #[.agg #[.bool (f 0), .bool (f 1), .bool (f 2), .bool (f 3), .bool (f 4), .bool (f 5), .bool (f 6), .bool (f 7)]] W fun e w' =>
      e = .returned (.int .u64 (maskN xs)) ∧ Below W.heap.size W w' := fun W => by subst hf; exact number17_calls W (maskN_lt xs)
  clear hf
  have HR := Lib.hid hR
  have HN := Lib.hid hN
  clear hR hN
  go_enter Try.func4, Try.ntmps4
  go_wp2_with fail
  (with_reducible refine (awake17_calls _).mono ?_)
  rintro e w1 ⟨rfl, hb⟩
  have hB_w1 := hB_w.trans (hb.mono hB_w.size)
  clear hb
  go_wp2_with fail
  (with_reducible refine (sof_calls (h.below hB_w1)).mono ?_)
  rintro e w2 ⟨rfl, hb⟩
  have hB_w2 := hB_w1.trans (hb.mono hB_w1.size)
  clear hb
  go_wp2_with fail
  (with_reducible refine (HR.out _ (h.below hB_w2)).mono ?_)
  rintro e w3 ⟨rfl, hb⟩
  have hB_w3 := hB_w2.trans (hb.mono hB_w2.size)
  clear hb
  go_wp2_with fail
  refine (HN.out _).mono ?_
  rintro e w4 ⟨rfl, hb⟩
  have hB_w4 : Below w.heap.size w w4 := Below.trans (by go_grown; exact hB_w3.size) (hb.mono (by simp; have := hB_w3.size; omega))
  clear hb
  go_wp2
  go_ret
  exact ⟨by simp, hB_w4⟩
end Go.Proofs.Ytngmcbliihohcaa
