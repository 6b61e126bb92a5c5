/-
  The document's closed: all that is reached ahead of each place.
-/
import Derived.Test.YtjhlehepnhbbaaaDoorMat
import Derived.Test.YtjhlehepnhbbaaaDoorOrdMid
set_option linter.unusedSimpArgs false
set_option linter.unusedVariables false
namespace Go.Proofs.YtjhlehepnhbbaaaDoor
open Go.ChangeShapes Go.WideShapes Go.ChangeAt Go.RowKit Go.Deep

theorem step_is {t k o v b : Int} (h : rightB t k o v b = true) (t' k' o' b' : Int) : stepR t k o b t' k' o' b' = stepB t k o b t' k' o' b' := by
  unfold rightB bodyB at h
  unfold stepR stepB
  by_cases ht : t = t'
  · simp [ht]
  have hb : (t == t') = false := by simpa using ht
  rw [hb]
  by_cases h0 : b = 0
  · subst h0; simp
  have hb0 : (b == 0) = false := by simpa using h0
  have hb1 : (b != 0) = true := by simpa using h0
  simp only [hb0, hb1, Bool.false_and, Bool.false_eq_true, if_false, if_true, Bool.and_false] at h ⊢
  by_cases k5 : k = 5
  · simp [k5]
  by_cases k3 : k = 3
  · subst k3; simp at h
  by_cases k6 : k = 6
  · simp [k6]
  by_cases k9 : k = 9
  · subst k9; simp at h
  simp [k5, k3, k6, k9]
def rOf (s : Bool) (l : List Ev) : Nat → Nat → Bool := fun k j => if s then rS l k j else rD l k j
theorem rOf_step {l : List Ev} {K j : Nat} {a b : Ev} (ha : l[K]? = some a) (hb : l[j]? = some b) (hr : rB a = true) : stepR a.t a.k a.o a.b b.t b.k b.o b.b = rOf true l K j := by
  rw [step_is hr]; exact (rS_of ha hb).symm
theorem rOf_dep {l : List Ev} {K j : Nat} {a b : Ev} (ha : l[K]? = some a) (hb : l[j]? = some b) : rdepB a.t a.k a.o b.t b.k b.o = rOf false l K j := by
  rw [← depends_is]; exact (rD_of ha hb).symm

/-- The row under work. -/
structure RowAt (n : Nat) (f : Nat → Bool) (rb : Nat) (wo wx : World) : Prop where
  row : wx.heap[rb]? = some (.cells (boolsA n f) 4 (0, 0))
  below : Below rb wo wx
theorem RowAt.of {n : Nat} {f g : Nat → Bool} {rb : Nat} {wo wx : World} (h : RowAt n f rb wo wx) (e : ∀ i, i < n → f i = g i) : RowAt n g rb wo wx := ⟨by rw [← boolsA_congr e]; exact h.row, h.below⟩
theorem RowAt.lt {n : Nat} {f : Nat → Bool} {rb : Nat} {wo wx : World} (h : RowAt n f rb wo wx) : rb < wx.heap.size := (Array.getElem?_eq_some_iff.1 h.row).1
theorem RowAt.go {n : Nat} {f : Nat → Bool} {rb : Nat} {wo wx wy : World} (h : RowAt n f rb wo wx) (hb : Below wx.heap.size wx wy) : RowAt n f rb wo wy := ⟨(hb.block rb h.lt).trans h.row, h.below.trans (hb.mono (Nat.le_of_lt h.lt))⟩
theorem RowAt.set {n : Nat} {f : Nat → Bool} {rb : Nat} {wo wx : World} (h : RowAt n f rb wo wx) (i : Nat) : RowAt n (fun x => f x || x == i) rb wo (wx.setCell ⟨rb, i, none⟩ (.bool true)) :=
  ⟨by rw [← boolsA_set]; exact set_block h.row _, h.below.setCell (p := ⟨rb, i, none⟩) (Nat.le_refl _) _⟩
theorem RowAt.get {n : Nat} {f : Nat → Bool} {rb : Nat} {wo wx : World} (h : RowAt n f rb wo wx) {i : Nat} (hi : i < n) : wx.cell? ⟨rb, i, none⟩ = some (.bool (f i)) ∧ wx.frozen? ⟨rb, i, none⟩ = false :=
  ⟨by rw [cell_of_block h.row]; exact boolsA_get hi, free_of_block h.row⟩
theorem row_end {r : Nat → Nat → Bool} {j K : Nat} (hr : r K j = true) (i : Nat) : (rowB r j K i || i == K || (decide (i < K) && hbB r i K)) = rowB r j (K + 1) i := by
  rw [rowB_succ, hr, Bool.true_and]
  by_cases h : i < K
  · have : (K == i) = (i == K) := by rw [Bool.eq_iff_iff]; simp; omega
    simp [h, this, Bool.or_assoc]
  · rw [hbB_false (by omega)]
    have : (K == i) = (i == K) := by rw [Bool.eq_iff_iff]; simp; omega
    simp [this]
theorem row_more {r : Nat → Nat → Bool} {j K I : Nat} (i : Nat) (b : Bool) (hb : hbB r I K = b) : ((rowB r j K i || i == K || (decide (i < I) && hbB r i K)) || (b && i == I)) = (rowB r j K i || i == K || (decide (i < I + 1) && hbB r i K)) := by
  by_cases h : i = I
  · subst h; rw [hb]; simp
  · have h1 : (i == I) = false := by simpa using h
    have h2 : decide (i < I + 1) = decide (i < I) := by rw [decide_eq_decide]; omega
    rw [h1, h2, Bool.and_false, Bool.or_false]

end Go.Proofs.YtjhlehepnhbbaaaDoor
