/-
  SourceInitials: the program's set is the document's.
-/
import Derived.Test.YtngmcbliihohcaaInit
set_option linter.unusedSimpArgs false
set_option linter.unusedVariables false
namespace Go.Proofs.Ytngmcbliihohcaa
open Go.ChangeShapes Go.WideShapes Go.ChangeAt Go.RowKit Go.Deep

def ev1 : Ev := ⟨1, 1, 0, 0, 0⟩
theorem one_ev (w : World) : IsEvs (w.alloc (.cells #[.int .i64 1, .int .i64 1, .int .i64 0, .int .i64 0, .int .i64 0] 78)) (some ⟨w.heap.size, 0, none⟩) 1 1 [ev1] := by
  have h := (MapKept.heap_alloc w (.cells #[.int .i64 1, .int .i64 1, .int .i64 0, .int .i64 0, .int .i64 0] 78)).1
  refine ⟨⟨rfl, fun _ => ⟨w.heap.size, 0, rfl, fun j u hu => ?_⟩⟩, rfl, Nat.le_refl _, by unfold maxLen; omega, fun x hx => ?_⟩
  · rw [cell_blk h, Nat.zero_add]
    have hj : j < 5 := by
      have := (List.getElem?_eq_some_iff.1 hu).1
      exact this
    obtain rfl | rfl | rfl | rfl | rfl : j = 0 ∨ j = 1 ∨ j = 2 ∨ j = 3 ∨ j = 4 := by omega
    all_goals exact hu
  · simp only [List.mem_cons, List.not_mem_nil, or_false] at hx
    subst hx
    exact ⟨Fit.of (by decide) (by decide), Fit.of (by decide) (by decide), Fit.of (by decide) (by decide), Fit.of (by decide) (by decide), Fit.of (by decide) (by decide)⟩

set_option maxHeartbeats 1000000 in
theorem awake19_calls (w : World) : Calls Try.prog 26 #[] w fun e w' => e = .returned (.bool true) ∧ Below w.heap.size w w' := by
  have e1 : (initS [ev1] 1).2 = 2 := by decide
  have ht := Lib.hid (one_ev w)
  have H1 := Lib.hid e1
  clear e1
  go_enter Try.func26, Try.ntmps26
  go_wp2_with fail
  refine (init_calls ht.out).mono ?_
  rintro e w1 ⟨rfl, hb⟩
  rw [H1.out]
  have hB_w1 : Below w.heap.size w w1 := Below.trans ((Below.refl _ _).alloc (Nat.le_refl _) _) (hb.mono (by simp))
  clear hb
  go_wp2
  go_ret
  exact ⟨rfl, hB_w1⟩

set_option maxHeartbeats 2000000 in
theorem srcinit_law {w : World} {a0 : Option Addr} {n c : Nat} {l : List Ev} (h : IsEvs w a0 n c l) :
    Calls Try.prog 8 #[.slice a0 n c] w fun e w' => e = .returned (.bool true) ∧ Below w.heap.size w w' := by
  have hB_w := Below.refl w.heap.size w
  go_enter Try.func8, Try.ntmps8
  go_wp2_with fail
  (with_reducible refine (awake19_calls _).mono ?_)
  rintro e w1 ⟨rfl, hb⟩
  have hB_w1 := hB_w.trans (hb.mono hB_w.size)
  clear hb
  go_wp2_with fail
  (with_reducible refine (init_calls (h.below hB_w1)).mono ?_)
  rintro e w2 ⟨rfl, hb⟩
  have hB_w2 := hB_w1.trans (hb.mono hB_w1.size)
  clear hb
  go_wp2_with fail
  (with_reducible refine (rinit_calls (h.below hB_w2)).mono ?_)
  rintro e w3 ⟨rfl, hb⟩
  have hB_w3 := hB_w2.trans (hb.mono hB_w2.size)
  clear hb
  go_wp2
  go_ret
  exact ⟨by simp, hB_w3⟩
end Go.Proofs.Ytngmcbliihohcaa
