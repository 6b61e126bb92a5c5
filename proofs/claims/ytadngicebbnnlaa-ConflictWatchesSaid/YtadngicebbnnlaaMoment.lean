/-
  What order.Of keeps of an event: nineteen cells; an Order in memory.
-/
import Derived.Test.YtadngicebbnnlaaOf
import Derived.Test.YtadngicebbnnlaaJoined
import Derived.Test.YtadngicebbnnlaaSteps14
import Derived.Test.YtadngicebbnnlaaOrd
set_option linter.unusedSimpArgs false
set_option linter.unusedVariables false
namespace Go.Proofs.Ytadngicebbnnlaa
open Go.ChangeShapes Go.WideShapes Go.ChangeAt Go.RowKit Go.Deep

theorem infoMom : (Try.prog.info? 82).map (fun i => (i.zero, i.size, i.bytes)) = some (some (.agg #[.int .i64 0, .int .i64 0, .int .i64 0, .int .i64 0, .int .i64 0, .int .i64 0, .int .i64 0, .int .i64 0, .int .i64 0, .int .i64 0, .int .i64 0, .int .i64 0, .int .i64 0, .int .i64 0, .int .i64 0, .int .i64 0, .int .i64 0, .int .i64 0, .int .i64 0]), 19, 152) := by kernel_rfl

def ev00 : Ev := ⟨0, 0, 0, 0, 0⟩
def thE (l : List Ev) (i : Nat) : Int := (l.getD i ev00).t
def depE (a b : Ev) : Bool := dependsB a.t a.k a.o b.t b.k b.o
def stpE (a b : Ev) : Bool := stepB a.t a.k a.o a.b b.t b.k b.o b.b
def rD (l : List Ev) (i j : Nat) : Bool := depE (l.getD i ev00) (l.getD j ev00)
def rS (l : List Ev) (i j : Nat) : Bool := stpE (l.getD i ev00) (l.getD j ev00)
/-- The last place ahead of K whose thread is j's; -1: none. -/
def ahK (th : Nat → Int) (j : Nat) : Nat → Int
  | 0 => -1
  | K + 1 => if th K == th j then (K : Int) else ahK th j K
def momA (th num : Int) (F S : List Int) (ah : Int) : Array Value :=
  #[.int .i64 th, .int .i64 num, .int .i64 (F.getD 0 0), .int .i64 (F.getD 1 0), .int .i64 (F.getD 2 0), .int .i64 (F.getD 3 0), .int .i64 (F.getD 4 0), .int .i64 (F.getD 5 0), .int .i64 (F.getD 6 0), .int .i64 (F.getD 7 0),
    .int .i64 (S.getD 0 0), .int .i64 (S.getD 1 0), .int .i64 (S.getD 2 0), .int .i64 (S.getD 3 0), .int .i64 (S.getD 4 0), .int .i64 (S.getD 5 0), .int .i64 (S.getD 6 0), .int .i64 (S.getD 7 0), .int .i64 ah]
def momL (l : List Ev) (j : Nat) : List Value := (momA (thE l j) (numT (thE l) j : Int) (vec (rD l) (thE l) j) (vec (rS l) (thE l) j) (ahK (thE l) j j)).toList
theorem momL_len (l : List Ev) (j : Nat) : (momL l j).length = 19 := rfl
def momRow (l : List Ev) (n : Nat) : List Value := (List.range n).flatMap (momL l)
theorem momRow_succ (l : List Ev) (n : Nat) : momRow l (n + 1) = momRow l n ++ momL l n := by
  unfold momRow; rw [List.range_succ, List.flatMap_append]; simp
theorem momRow_len (l : List Ev) : ∀ n, (momRow l n).length = n * 19
  | 0 => by simp [momRow]
  | n + 1 => by rw [momRow_succ, List.length_append, momRow_len l n, momL_len]; omega
theorem momRow_get (l : List Ev) {n i j : Nat} (hi : i < n) (hj : j < 19) : (momRow l n)[i * 19 + j]? = (momL l i)[j]? := by
  induction n with
  | zero => omega
  | succ n ih =>
    rw [momRow_succ]
    by_cases h : i < n
    · rw [List.getElem?_append_left (by rw [momRow_len]; omega)]; exact ih h
    · have : i = n := by omega
      subst this
      rw [List.getElem?_append_right (by rw [momRow_len]; omega), momRow_len]
      congr 1; omega

/-- An Order of all events ahead of the n-th, in the block b; its row lies in a block from B on. -/
structure OrdAt (w : World) (B b : Nat) (v : Value) (l : List Ev) (n : Nat) : Prop where
  blk : w.heap[b]? = some (.cells #[v] 79 (0, 0))
  own : w.ownsRow B 82 19 v n (momRow l n)
  ne : ∀ g, v.ownBlock = some g → g ≠ b
section
variable {w w' : World} {B b : Nat} {v : Value} {l : List Ev} {n : Nat}
theorem OrdAt.lt (h : OrdAt w B b v l n) : b < w.heap.size := (Array.getElem?_eq_some_iff.1 h.blk).1
theorem OrdAt.below (h : OrdAt w B b v l n) (hb : Below w.heap.size w w') : OrdAt w' B b v l n :=
  ⟨(hb.block b h.lt).trans h.blk, ownsRow_at h.own (fun g hg => hb.block g (h.own.lt g hg).2), h.ne⟩
/-- What one reads of it. -/
theorem OrdAt.read (h : OrdAt w B b v l n) : ∃ a c, v = .slice a n c ∧ w.cell? ⟨b, 0, none⟩ = some (.slice a n c) ∧
    ∀ i, i < n → ∃ g, a = some ⟨g, 0, none⟩ ∧ B ≤ g ∧ g < w.heap.size ∧ g ≠ b ∧ ∀ j u, (momL l i)[j]? = some u → w.cell? ⟨g, i * 19 + j, none⟩ = some u := by
  have h0 := cell_of_block (o := 0) h.blk
  have hne := h.ne
  rcases h.own.2 with ⟨h1, hn⟩ | ⟨g, cap, cur, rfl, hb, hg, hnc, hcm, hcs, ht⟩
  · refine ⟨none, 0, by rw [hn]; exact h1, by rw [h0, h1, hn]; rfl, fun i hi => by omega⟩
  · refine ⟨some ⟨g, 0, none⟩, cap, rfl, h0, fun i hi => ⟨g, rfl, hb, (Array.getElem?_eq_some_iff.1 hg).1, hne g rfl, fun j u hu => ?_⟩⟩
    have hj : j < 19 := by have := (List.getElem?_eq_some_iff.1 hu).1; rw [momL_len] at this; exact this
    rw [← momRow_get l hi hj, ← ht, List.getElem?_take] at hu
    rw [cell_of_block hg]
    split at hu
    · rw [← Array.getElem?_toList]; exact hu
    · cases hu
end
end Go.Proofs.Ytadngicebbnnlaa
