/-
  Lists that rise are told by what they hold. Nothing of this seat's program stands here.
-/
import Derived.WalkKit
set_option linter.unusedSimpArgs false
set_option linter.unusedVariables false
namespace Go.Proofs.Ytadngicebbnnlaa

/-- A list that strictly rises is told by what it holds. -/
theorem rises_eq {α : Type} {r : α → α → Prop} (ha : ∀ a b, r a b → ¬ r b a) : ∀ {xs ys : List α}, xs.Perm ys → xs.Pairwise r → ys.Pairwise r → xs = ys
  | [], ys, h, _, _ => by rw [List.nil_perm.1 h]
  | a :: xs, [], h, _, _ => by simp at h
  | a :: xs, b :: ys, h, h1, h2 => by
    have e : a = b := by
      rcases List.mem_cons.1 (h.mem_iff.1 (List.mem_cons_self ..)) with e | hm
      · exact e
      · rcases List.mem_cons.1 (h.mem_iff.2 (List.mem_cons_self ..)) with e | hm2
        · exact e.symm
        · exact absurd (List.rel_of_pairwise_cons h2 hm) (ha _ _ (List.rel_of_pairwise_cons h1 hm2))
    subst e
    rw [rises_eq ha h.cons_inv h1.of_cons h2.of_cons]
theorem nodup_perm {xs ys : List Nat} (hx : xs.Nodup) (hy : ys.Nodup) (h : ∀ i, i ∈ xs ↔ i ∈ ys) : xs.Perm ys := (List.perm_ext_iff_of_nodup hx hy).2 h
end Go.Proofs.Ytadngicebbnnlaa
