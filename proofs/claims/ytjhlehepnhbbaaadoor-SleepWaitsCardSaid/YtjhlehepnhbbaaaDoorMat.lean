/-
  A matrix of truths in memory: an own row of slices, each over a block of its own.
-/
import Derived.Test.YtjhlehepnhbbaaaDoorApp
import Derived.Test.YtjhlehepnhbbaaaDoorOrd
import Derived.Test.YtjhlehepnhbbaaaDoorLogRaw
import Derived.OwnWalk
set_option linter.unusedSimpArgs false
set_option linter.unusedVariables false
namespace Go.Proofs.YtjhlehepnhbbaaaDoor
open Go Go.RowKit

def boolsA (n : Nat) (f : Nat → Bool) : Array Value := ((List.range n).map fun i => Value.bool (f i)).toArray
theorem boolsA_size (n : Nat) (f : Nat → Bool) : (boolsA n f).size = n := by simp [boolsA]
theorem boolsA_get {n i : Nat} {f : Nat → Bool} (h : i < n) : (boolsA n f)[i]? = some (.bool (f i)) := by simp [boolsA, h]
theorem boolsA_congr {n : Nat} {f g : Nat → Bool} (h : ∀ i, i < n → f i = g i) : boolsA n f = boolsA n g := by
  unfold boolsA
  congr 1
  exact List.map_congr_left fun i hi => by rw [h i (List.mem_range.1 hi)]
theorem boolsA_set {n i : Nat} {f : Nat → Bool} : (boolsA n f).setIfInBounds i (.bool true) = boolsA n (fun x => f x || x == i) := by
  apply Array.ext
  · simp [boolsA]
  · intro j h1 h2
    simp only [boolsA, Array.getElem_setIfInBounds, List.getElem_toArray, List.getElem_map, List.getElem_range]
    by_cases hj : i = j
    · subst hj; simp
    · have : (j == i) = false := by simpa using fun h => hj h.symm
      simp [hj, this]
theorem made_bools (n : Nat) : madeCells #[.bool false] n = boolsA n (fun _ => false) := by
  apply Array.ext
  · simp [boolsA, madeCells]
  · intro j h1 h2
    simp [boolsA, madeCells, Nat.mod_one]
theorem infoBool : (Tryd.prog.info? 4).map (fun i => (i.zero, i.size, i.bytes)) = some (some (.bool false), 1, 1) := by kernel_rfl
theorem info_at {P : Program} {t : TypeId} {z : Value} {s b : Nat} (h : (P.info? t).map (fun i => (i.zero, i.size, i.bytes)) = some (some z, s, b)) : ∃ i0, P.info? t = some i0 ∧ i0.zero = some z ∧ i0.size = s ∧ i0.bytes = b := by
  cases hi : P.info? t with
  | none => rw [hi] at h; cases h
  | some i0 =>
    rw [hi] at h
    simp only [Option.map_some, Option.some.injEq, Prod.mk.injEq] at h
    exact ⟨i0, rfl, h.1, h.2.1, h.2.2⟩
section
variable {w w' : World} {B : Nat} {v : Value} {n m : Nat} {f : Nat → Nat → Bool}
end
end Go.Proofs.YtjhlehepnhbbaaaDoor
