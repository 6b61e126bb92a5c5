/-
  Clocks: Copy; the document's functions on lists; what the laws share.
-/
import Derived.Test.YtadngicebbnnlaaClock3
set_option linter.unusedSimpArgs false
set_option linter.unusedVariables false
namespace Go.Proofs.Ytadngicebbnnlaa
open Go.ChangeShapes Go.WideShapes Go.ChangeAt Go.RowKit Go.Deep

theorem ints_of_own {w : World} {base n : Nat} {v : Value} {xs : List Int} (h : w.ownsRow base 3 1 v n (xs.map (Value.int .i64))) (h1 : 1 ≤ n) (hf : ∀ x ∈ xs, Fit x) :
    ∃ g cap, v = .slice (some ⟨g, 0, none⟩) n cap ∧ IsInts w (some ⟨g, 0, none⟩) n cap xs ∧ base ≤ g ∧ g < w.heap.size := by
  rcases h.2 with ⟨_, h0⟩ | ⟨g, cap, cur, rfl, hb, hg, hnc, hcm, hcs, ht⟩
  · omega
  have hl : xs.length = n := by simpa using h.1
  refine ⟨g, cap, rfl, ⟨⟨by simp [hl], fun _ => ⟨g, 0, rfl, fun j u hu => ?_⟩⟩, hl, hnc, hcm, hf⟩, hb, (Array.getElem?_eq_some_iff.1 hg).1⟩
  rw [Nat.zero_add, cell_of_block hg]
  rw [← ht, Nat.mul_one, List.getElem?_take] at hu
  split at hu
  · rw [← Array.getElem?_toList]; exact hu
  · cases hu

/-! The document's. -/
end Go.Proofs.Ytadngicebbnnlaa
