/-
  Clocks: the laws ClockNew, ClockOrder, ClockLeast: walks and the plain law beneath.
-/
import Derived.Test.YtadngicebbnnlaaClock4
set_option linter.unusedSimpArgs false
set_option linter.unusedVariables false
namespace Go.Proofs.Ytadngicebbnnlaa
open Go.ChangeShapes Go.WideShapes Go.ChangeAt Go.RowKit Go.Deep

theorem ClockAt.mod {w w' : World} {b g g' : Nat} {l : List Int} (h : ClockAt w b g l) (hm : w.grownBy w' (some g')) (hb : b ≠ g') (hg : g ≠ g') : ClockAt w' b g l :=
  h.frame (hm.block b h.lt.1 (by simpa using hb)) (hm.block g h.lt.2 (by simpa using hg))

/-! The plain law of the least clock above both. -/
theorem getD_zip {x y : List Int} (h : x.length = y.length) {j : Nat} (hj : j < x.length) : (List.zipWith max x y).getD j 0 = max (x.getD j 0) (y.getD j 0) := by
  have hy : j < y.length := by omega
  simp [List.getD, List.getElem?_zipWith, List.getElem?_eq_getElem hj, List.getElem?_eq_getElem hy]
theorem leq_iff {x y : List Int} : leqB x y = true ↔ x.length = y.length ∧ leqUpto x y x.length := by simp [leqB]
theorem leq_refl (x : List Int) : leqB x x = true := leq_iff.2 ⟨rfl, fun _ _ => Int.le_refl _⟩
theorem zip_len {x y : List Int} (h : x.length = y.length) : (List.zipWith max x y).length = x.length := by simp; omega
theorem leq_join_left {x y : List Int} (h : x.length = y.length) : leqB x (List.zipWith max x y) = true :=
  leq_iff.2 ⟨(zip_len h).symm, fun j hj => by rw [getD_zip h hj]; exact Int.le_max_left _ _⟩
theorem leq_join_right {x y : List Int} (h : x.length = y.length) : leqB y (List.zipWith max x y) = true :=
  leq_iff.2 ⟨(zip_len h).symm ▸ h.symm, fun j hj => by rw [getD_zip h (by omega)]; exact Int.le_max_right _ _⟩
theorem join_comm (x y : List Int) : List.zipWith max x y = List.zipWith max y x := by
  rw [List.zipWith_comm]; congr 1; funext a b; exact Int.max_comm b a
theorem leq_join_least {x y z : List Int} (h : x.length = y.length) (h1 : leqB x z = true) (h2 : leqB y z = true) : leqB (List.zipWith max x y) z = true := by
  obtain ⟨l1, u1⟩ := leq_iff.1 h1
  obtain ⟨l2, u2⟩ := leq_iff.1 h2
  refine leq_iff.2 ⟨by rw [zip_len h]; exact l1, fun j hj => ?_⟩
  rw [zip_len h] at hj
  rw [getD_zip h hj]
  exact Int.max_le.2 ⟨u1 j hj, u2 j (by omega)⟩
theorem leq_anti {x y : List Int} : (leqB x y && leqB y x) = decide (x = y) := by
  rw [Bool.eq_iff_iff, Bool.and_eq_true, decide_eq_true_iff]
  constructor
  · rintro ⟨h1, h2⟩
    obtain ⟨l1, u1⟩ := leq_iff.1 h1
    obtain ⟨_, u2⟩ := leq_iff.1 h2
    apply List.ext_getElem l1
    intro i hi hi'
    have a := u1 i hi
    have b := u2 i hi'
    simp [List.getD, List.getElem?_eq_getElem hi, List.getElem?_eq_getElem hi'] at a b
    omega
  · rintro rfl; exact ⟨leq_refl _, leq_refl _⟩
theorem leq_trans {x y z : List Int} (h1 : leqB x y = true) (h2 : leqB y z = true) : leqB x z = true := by
  obtain ⟨l1, u1⟩ := leq_iff.1 h1
  obtain ⟨l2, u2⟩ := leq_iff.1 h2
  exact leq_iff.2 ⟨l1.trans l2, fun j hj => Int.le_trans (u1 j hj) (u2 j (by omega))⟩

/-! What the laws share. -/
theorem errOf_ok {xs : List Int} (h : okClock xs = true) : errOf xs = 0 := by unfold errOf; rw [if_pos h]
theorem errOf_bad {xs : List Int} (h : okClock xs = false) : errOf xs = 1 := by unfold errOf; rw [h]; rfl
theorem ok_len {xs : List Int} (h : okClock xs = true) : 1 ≤ xs.length ∧ xs.length ≤ 8 := by
  unfold okClock at h; simp only [Bool.and_eq_true, decide_eq_true_eq] at h; exact h.1
end Go.Proofs.Ytadngicebbnnlaa
