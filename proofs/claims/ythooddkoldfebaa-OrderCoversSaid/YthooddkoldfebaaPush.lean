/-
  Lists that a function makes for itself, element by element: ints, pairs, events.
-/
import Derived.Test.YthooddkoldfebaaApp
import Derived.Test.YthooddkoldfebaaLogRaw
import Derived.Test.YthooddkoldfebaaClock
import Derived.Test.YthooddkoldfebaaMat
set_option linter.unusedSimpArgs false
set_option linter.unusedVariables false
namespace Go.Proofs.Ythooddkoldfebaa
open Go Go.RowKit

/-- How an element lies in memory. -/
structure Elt (α : Type) where
  T : TypeId
  e : TypeId
  z : Value
  size : Nat
  bytes : Nat
  f : α → List Value
  ht : Try.prog.underlying T = some (.slice e)
  hi : (Try.prog.info? e).map (fun i => (i.zero, i.size, i.bytes)) = some (some z, size, bytes)
  hz : z.cells.size = size
  hs : 0 < size
  hb : bytes ≤ 1000
  hf : ∀ x, (f x).length = size
  h1 : ∀ x, ∀ u ∈ f x, u.oneCell' = true
def eltI : Elt Int where
  T := 42
  e := 3
  z := .int .i64 0
  size := 1
  bytes := 8
  f := fun x => [.int .i64 x]
  ht := Try.underlying42
  hi := infoInt
  hz := rfl
  hs := by decide
  hb := by decide
  hf := fun _ => rfl
  h1 := fun x u hu => by simp at hu; subst hu; rfl
theorem flat_ints (l : List Int) : l.flatMap eltI.f = l.map (Value.int .i64) := by
  unfold eltI
  induction l with
  | nil => rfl
  | cons a r ih => simp only [List.flatMap_cons, List.map_cons, ih]; rfl

structure OwnL {α : Type} (E : Elt α) (w : World) (B : Nat) (v : Value) (xs : List α) : Prop where
  own : w.ownsRow B E.e E.size v xs.length (xs.flatMap E.f)
section
variable {α : Type} {E : Elt α} {w w' : World} {B : Nat} {v : Value} {xs : List α}
theorem OwnL.nil (E : Elt α) (w : World) (B : Nat) : OwnL E w B (.slice none 0 0) [] := ⟨World.ownsRow_nil ..⟩
theorem OwnL.lt (h : OwnL E w B v xs) {x : Nat} (hx : v.ownBlock = some x) : B ≤ x ∧ x < w.heap.size := h.own.lt x hx
theorem OwnL.at (h : OwnL E w B v xs) (hs : ∀ g, v.ownBlock = some g → w'.heap[g]? = w.heap[g]?) : OwnL E w' B v xs := ⟨ownsRow_at h.own hs⟩
theorem OwnL.below (h : OwnL E w B v xs) (hb : Below w.heap.size w w') : OwnL E w' B v xs := h.at fun g hg => hb.block g (h.lt hg).2
theorem OwnL.wrote {R : Nat → Prop} (h : OwnL E w B v xs) (hw : Wrote R w w') (hn : ∀ g, v.ownBlock = some g → ¬ R g) : OwnL E w' B v xs := h.at fun g hg => hw.block g (h.lt hg).2 (hn g hg)
/-- What one reads of it. -/
theorem OwnL.slice (h : OwnL E w B v xs) : ∃ a c, v = .slice a xs.length c ∧ xs.length ≤ c ∧ c ≤ maxLen ∧ (a = none → xs = []) ∧
    ∀ g o s, a = some ⟨g, o, s⟩ → o = 0 ∧ s = none ∧ B ≤ g ∧ g < w.heap.size ∧ ∀ j u, (xs.flatMap E.f)[j]? = some u → w.cell? ⟨g, j, none⟩ = some u := by
  have hc := fun g => h.own.cells (g := g)
  rcases h.own.2 with ⟨h0, hn⟩ | ⟨g, cap, cur, rfl, hb, hg, hnc, hcm, _⟩
  · subst h0
    have : xs = [] := List.eq_nil_of_length_eq_zero hn
    subst this
    exact ⟨none, 0, rfl, Nat.le_refl _, Nat.zero_le _, fun _ => rfl, fun g o s hq => by cases hq⟩
  · refine ⟨some ⟨g, 0, none⟩, cap, rfl, hnc, hcm, fun hq => (by cases hq), fun g' o s hq => ?_⟩
    cases hq
    refine ⟨rfl, rfl, hb, (Array.getElem?_eq_some_iff.1 hg).1, fun j u hu => ?_⟩
    have := hc g rfl j u hu
    unfold Addr.add at this
    split at this
    · rename_i h0; subst h0; exact this
    · simpa using this
/-- One element more. -/
theorem wpList_push (E : Elt α) {W0 : World} {ops : Array Oper} {rest : List Oper} {o : Oper} {a : Act} {Q : Exit → Act → World → Prop} {cs : Array Value} {t : TypeId} (hgd : o.guard = none) (s x : Operand)
    (ho : o.op = .call { callee := .builtin .append, args := #[s, x], argTypes := #[E.T, E.T] }) (y : α) (hcs : cs.toList = E.f y)
    (hs : a.eval s = v) (hx : a.eval x = .slice (some ⟨W0.heap.size, 0, none⟩) 1 1) (hown : OwnL E W0 B v xs) (hB : B ≤ W0.heap.size) (hcap : xs.length < 1000000)
    (h : ∀ v' w', OwnL E w' B v' (xs ++ [y]) → Wrote (fun q => v.ownBlock = some q) W0 w' → (∀ q, v'.ownBlock = some q → v.ownBlock = some q ∨ W0.heap.size ≤ q) → wpList Try.prog ops Q rest (a.put o.dst v') w') :
    wpList Try.prog ops Q (o :: rest) a (W0.alloc (.cells cs t)) := by
  obtain ⟨i0, hi, hz, hs1, hy⟩ := info_at E.hi
  have hal : Below W0.heap.size W0 (W0.alloc (.cells cs t)) := (Below.refl _ W0).alloc (Nat.le_refl _) _
  have hb := E.hb
  have hm : (xs.length + 1) * E.bytes ≤ 140737488355328 := Nat.le_trans (Nat.mul_le_mul (show xs.length + 1 ≤ 1000000 by omega) hb) (by decide)
  refine wpList_append_at (W0.alloc (.cells cs t)) hgd s x E.T ho B E.e i0 E.z E.size E.bytes E.ht hi hz hs1 hy E.hz E.hs v xs.length (xs.flatMap E.f) hs (hown.below hal).own ⟨W0.heap.size, 0, none⟩ 1 1 (E.f y) hx (by rw [E.hf, Nat.one_mul])
    (fun j u hu => ?_) (E.h1 y) (by unfold maxLen; omega) hm (by simp; omega) (fun v' w' hown' hg _ hv' => ?_)
  · have : cs = (E.f y).toArray := by rw [← hcs]
    rw [this]
    exact cells_new W0 (E.f y) t j u hu
  · refine h v' w' ⟨?_⟩ ?_ ?_
    · rw [List.length_append, List.flatMap_append]; simpa using hown'
    · have h1 : Wrote (fun q => v.ownBlock = some q) (W0.alloc (.cells cs t)) w' := Wrote.of_grown hg (fun q hq => hq)
      exact (Wrote.of_below (R := fun q => v.ownBlock = some q) hal).trans h1 (fun q hq => .inl hq)
    · intro q hq
      rcases hv' q hq with h2 | h2
      · exact .inl h2
      · refine .inr ?_; simp at h2; omega
end
theorem OwnL.ints {w : World} {B : Nat} {v : Value} {xs : List Int} (h : OwnL eltI w B v xs) (hw : ∀ x ∈ xs, Fit x) : ∃ a c, v = .slice a xs.length c ∧ IsInts w a xs.length c xs := by
  obtain ⟨a, c, rfl, h1, h2, h3, h4⟩ := h.slice
  refine ⟨a, c, rfl, ⟨⟨by rw [List.length_map]; omega, fun hn => ?_⟩, rfl, h1, h2, hw⟩⟩
  cases a with
  | none => have := h3 rfl; subst this; simp at hn
  | some ad =>
    obtain ⟨g, o, s⟩ := ad
    obtain ⟨rfl, rfl, _, _, hc⟩ := h4 g o s rfl
    refine ⟨g, 0, rfl, fun j u hu => ?_⟩
    rw [Nat.zero_add]
    exact hc j u (by rw [flat_ints]; exact hu)
/-- Who makes a list of its own and hands it back. -/
def OwnsPost {α : Type} (E : Elt α) (w : World) (xs : List α) (e : Ending) (w' : World) : Prop := ∃ v, e = .returned v ∧ OwnL E w' w.heap.size v xs ∧ Below w.heap.size w w'
theorem nats_fit {xs : List Nat} {n : Nat} (h : ∀ x ∈ xs, x < n) (hn : n ≤ 1000000) : ∀ x ∈ xs.map (fun (k : Nat) => (k : Int)), Fit x := by
  intro x hx
  obtain ⟨k, hk, rfl⟩ := List.mem_map.1 hx
  have := h k hk
  exact Fit.of (by omega) (by omega)
end Go.Proofs.Ythooddkoldfebaa
