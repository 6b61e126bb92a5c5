/-
  Rows of a function's own: pushed, cut short, written in place; the stack of sets as it lies, the document's rows of truths.
-/
import Derived.Test.YtobhandimolmhaaDoorApp
import Derived.Test.YtobhandimolmhaaDoorRBehind
set_option linter.unusedSimpArgs false
set_option linter.unusedVariables false
namespace Go.Proofs.YtobhandimolmhaaDoor
open Go Go.RowKit Go.Deep

theorem info_at {P : Program} {t : TypeId} {z : Value} {s b : Nat} (h : (P.info? t).map (fun i => (i.zero, i.size, i.bytes)) = some (some z, s, b)) : ∃ i0, P.info? t = some i0 ∧ i0.zero = some z ∧ i0.size = s ∧ i0.bytes = b := by
  cases hi : P.info? t with
  | none => rw [hi] at h; cases h
  | some i0 =>
    rw [hi] at h
    simp only [Option.map_some, Option.some.injEq, Prod.mk.injEq] at h
    exact ⟨i0, rfl, h.1, h.2.1, h.2.2⟩
/-- How an element lies in memory. -/
structure Elt (α : Type) where
  T : TypeId
  e : TypeId
  z : Value
  size : Nat
  bytes : Nat
  f : α → List Value
  ht : Tryd.prog.underlying T = some (.slice e)
  hi : (Tryd.prog.info? e).map (fun i => (i.zero, i.size, i.bytes)) = some (some z, size, bytes)
  hz : z.cells.size = size
  hs : 0 < size
  hf : ∀ x, (f x).length = size
  h1 : ∀ x, ∀ u ∈ f x, u.oneCell' = true
structure OwnL {α : Type} (E : Elt α) (w : World) (B : Nat) (v : Value) (xs : List α) : Prop where
  own : w.ownsRow B E.e E.size v xs.length (xs.flatMap E.f)
section
variable {α : Type} {E : Elt α} {w w' : World} {B : Nat} {v : Value} {xs : List α}
theorem OwnL.nil (E : Elt α) (w : World) (B : Nat) : OwnL E w B (.slice none 0 0) [] := ⟨World.ownsRow_nil ..⟩
theorem OwnL.lt (h : OwnL E w B v xs) {x : Nat} (hx : v.ownBlock = some x) : B ≤ x ∧ x < w.heap.size := h.own.lt x hx
theorem OwnL.at (h : OwnL E w B v xs) (hs : ∀ g, v.ownBlock = some g → w'.heap[g]? = w.heap[g]?) : OwnL E w' B v xs := ⟨ownsRow_at h.own hs⟩
theorem OwnL.below (h : OwnL E w B v xs) (hb : Below w.heap.size w w') : OwnL E w' B v xs := h.at fun g hg => hb.block g (h.lt hg).2
theorem OwnL.wrote {R : Nat → Prop} (h : OwnL E w B v xs) (hw : Wrote R w w') (hn : ∀ g, v.ownBlock = some g → ¬ R g) : OwnL E w' B v xs := h.at fun g hg => hw.block g (h.lt hg).2 (hn g hg)
theorem OwnL.obj (h : OwnL E w B v xs) {g : Nat} (hg : v.ownBlock = some g) : ∃ cur, w.heap[g]? = some (.cells cur E.e (0, 0)) := by
  rcases h.own.2 with ⟨rfl, _⟩ | ⟨g', cap, cur, rfl, _, hc, _⟩
  · cases hg
  · cases hg; exact ⟨cur, hc⟩
/-- What one reads of it, where it is not empty. -/
theorem OwnL.rowAt (h : OwnL E w B v xs) (hn : xs ≠ []) : ∃ g c, v = .slice (some ⟨g, 0, none⟩) xs.length c ∧ xs.length ≤ c ∧ c ≤ maxLen ∧ B ≤ g ∧ g < w.heap.size ∧
    (∀ (i j : Nat) (x : α) (u : Value), xs[i]? = some x → (E.f x)[j]? = some u → w.cell? ⟨g, i * E.size + j, none⟩ = some u) ∧ ∀ o, w.frozen? ⟨g, o, none⟩ = false := by
  have hc := fun g => h.own.cells (g := g)
  rcases h.own.2 with ⟨h0, hn'⟩ | ⟨g, cap, cur, rfl, hb, hg, hnc, hcm, _⟩
  · exact absurd (List.eq_nil_of_length_eq_zero hn') hn
  · refine ⟨g, cap, rfl, hnc, hcm, hb, (Array.getElem?_eq_some_iff.1 hg).1, fun i j x u hx hu => ?_, fun o => free_blk hg⟩
    have hj : j < E.size := by rw [← E.hf x]; exact (List.getElem?_eq_some_iff.1 hu).1
    have h2 := flat_get E.f E.size E.hf xs i j x hx hj
    have := hc g rfl (i * E.size + j) u (h2.trans hu)
    unfold Addr.add at this
    split at this
    · rename_i h0; rw [h0]; exact this
    · simpa using this
/-- The first k of them. -/
theorem OwnL.cut {g c k : Nat} (h : OwnL E w B (.slice (some ⟨g, 0, none⟩) xs.length c) xs) (hk : k ≤ xs.length) : OwnL E w B (.slice (some ⟨g, 0, none⟩) k c) (xs.take k) := by
  have hl : (xs.take k).length = k := by rw [List.length_take]; omega
  refine ⟨⟨flat_len E.f E.size E.hf _, ?_⟩⟩
  rcases h.own.2 with ⟨h0, _⟩ | ⟨g', cap, cur, hv, hb, hg, hnc, hcm, hcs, ht⟩
  · cases h0
  · cases hv
    refine .inr ⟨g, c, cur, by rw [hl], hb, hg, by omega, hcm, hcs, ?_⟩
    rw [hl]
    have h3 : ∀ (l : List α) (k : Nat), k ≤ l.length → (l.flatMap E.f).take (k * E.size) = (l.take k).flatMap E.f := by
      intro l
      induction l with
      | nil => intro k hk; simp
      | cons a r ih =>
        intro k hk
        cases k with
        | zero => simp
        | succ k =>
          rw [List.flatMap_cons, List.take_succ_cons, List.flatMap_cons, ← ih k (by simpa using hk), Nat.succ_mul, Nat.add_comm, List.take_append, E.hf, List.take_of_length_le (by rw [E.hf]; omega)]
          congr 1; congr 1; omega
    rw [← h3 xs k hk, ← ht, List.take_take]
    congr 1
    exact (Nat.min_eq_left (Nat.mul_le_mul_right _ hk)).symm
/-- One cell written. -/
theorem OwnL.set {g c i k : Nat} (h : OwnL E w B (.slice (some ⟨g, 0, none⟩) xs.length c) xs) (y : α) (u : Value) (hy : (xs.set i y).flatMap E.f = (xs.flatMap E.f).set k u) :
    OwnL E (w.setCell ⟨g, k, none⟩ u) B (.slice (some ⟨g, 0, none⟩) xs.length c) (xs.set i y) := by
  refine ⟨⟨flat_len E.f E.size E.hf _, ?_⟩⟩
  rcases h.own.2 with ⟨h0, _⟩ | ⟨g', cap, cur, hv, hb, hg, hnc, hcm, hcs, ht⟩
  · cases h0
  · cases hv
    refine .inr ⟨g, c, cur.setIfInBounds k u, by rw [List.length_set], hb, by simp [World.setCell, Array.getElem?_modify, hg], by rw [List.length_set]; exact hnc, hcm, by simpa using hcs, ?_⟩
    rw [Array.toList_setIfInBounds, List.length_set, List.take_set, ht, hy]
theorem wpList_pushB (E : Elt α) {W0 : World} {ops : Array Oper} {rest : List Oper} {o : Oper} {a : Act} {Q : Exit → Act → World → Prop} {cs : Array Value} {t : TypeId} (hgd : o.guard = none) (s x : Operand)
    (ho : o.op = .call { callee := .builtin .append, args := #[s, x], argTypes := #[E.T, E.T] }) (y : α) (hcs : cs.toList = E.f y)
    (hs : a.eval s = v) (hx : a.eval x = .slice (some ⟨W0.heap.size, 0, none⟩) 1 1) (hown : OwnL E W0 B v xs) (hB : B ≤ W0.heap.size) (hm : (xs.length + 1) * E.bytes ≤ 140737488355328) (hcap : xs.length + 1 ≤ maxLen)
    (h : ∀ v' w', OwnL E w' B v' (xs ++ [y]) → Wrote (fun q => v.ownBlock = some q) W0 w' → (∀ q, v'.ownBlock = some q → v.ownBlock = some q ∨ W0.heap.size ≤ q) → wpList Tryd.prog ops Q rest (a.put o.dst v') w') :
    wpList Tryd.prog ops Q (o :: rest) a (W0.alloc (.cells cs t)) := by
  obtain ⟨i0, hi, hz, hs1, hy⟩ := info_at E.hi
  have hal : Below W0.heap.size W0 (W0.alloc (.cells cs t)) := (Below.refl _ W0).alloc (Nat.le_refl _) _
  refine wpList_append_at (W0.alloc (.cells cs t)) hgd s x E.T ho B E.e i0 E.z E.size E.bytes E.ht hi hz hs1 hy E.hz E.hs v xs.length (xs.flatMap E.f) hs (hown.below hal).own ⟨W0.heap.size, 0, none⟩ 1 1 (E.f y) hx (by rw [E.hf, Nat.one_mul])
    (fun j u hu => ?_) (E.h1 y) (by omega) hm (by simp; omega) (fun v' w' hown' hg _ hv' => ?_)
  · have : cs = (E.f y).toArray := by rw [← hcs]
    rw [this]
    exact cells_new W0 (E.f y) t j u hu
  · refine h v' w' ⟨?_⟩ ?_ ?_
    · rw [List.length_append, List.flatMap_append]; simpa using hown'
    · have h1 : Wrote (fun q => v.ownBlock = some q) (W0.alloc (.cells cs t)) w' := Wrote.of_grown hg (fun q hq => hq)
      exact (Wrote.of_below (R := fun q => v.ownBlock = some q) hal).trans h1 (fun q hq => .inl hq)
    · intro q hq
      rcases hv' q hq with h2 | h2
      · exact .inl h2
      · refine .inr ?_; simp at h2; omega
theorem wp_pushB (E : Elt α) {W0 : World} {o : Oper} {a : Act} {K : Act → World → Prop} {Q : Exit → Act → World → Prop} {cs : Array Value} {t : TypeId} (s x : Operand)
    (ho : o.op = .call { callee := .builtin .append, args := #[s, x], argTypes := #[E.T, E.T] }) (y : α) (hcs : cs.toList = E.f y)
    (hs : a.eval s = v) (hx : a.eval x = .slice (some ⟨W0.heap.size, 0, none⟩) 1 1) (hown : OwnL E W0 B v xs) (hB : B ≤ W0.heap.size) (hm : (xs.length + 1) * E.bytes ≤ 140737488355328) (hcap : xs.length + 1 ≤ maxLen)
    (h : ∀ v' w', OwnL E w' B v' (xs ++ [y]) → Wrote (fun q => v.ownBlock = some q) W0 w' → (∀ q, v'.ownBlock = some q → v.ownBlock = some q ∨ W0.heap.size ≤ q) → K (a.put o.dst v') w') :
    o.wp Tryd.prog a (W0.alloc (.cells cs t)) K Q := by
  obtain ⟨i0, hi, hz, hs1, hy⟩ := info_at E.hi
  have hal : Below W0.heap.size W0 (W0.alloc (.cells cs t)) := (Below.refl _ W0).alloc (Nat.le_refl _) _
  refine wp_append_at (W0.alloc (.cells cs t)) s x E.T ho B E.e i0 E.z E.size E.bytes E.ht hi hz hs1 hy E.hz E.hs v xs.length (xs.flatMap E.f) hs (hown.below hal).own ⟨W0.heap.size, 0, none⟩ 1 1 (E.f y) hx (by rw [E.hf, Nat.one_mul])
    (fun j u hu => ?_) (E.h1 y) (by omega) hm (by simp; omega) (fun v' w' hown' hg _ hv' => ?_)
  · have : cs = (E.f y).toArray := by rw [← hcs]
    rw [this]
    exact cells_new W0 (E.f y) t j u hu
  · refine h v' w' ⟨?_⟩ ?_ ?_
    · rw [List.length_append, List.flatMap_append]; simpa using hown'
    · have h1 : Wrote (fun q => v.ownBlock = some q) (W0.alloc (.cells cs t)) w' := Wrote.of_grown hg (fun q hq => hq)
      exact (Wrote.of_below (R := fun q => v.ownBlock = some q) hal).trans h1 (fun q hq => .inl hq)
    · intro q hq
      rcases hv' q hq with h2 | h2
      · exact .inl h2
      · refine .inr ?_; simp at h2; omega
end
/-- A set, one cell. -/
def eltU : Elt Nat where
  T := 44
  e := 27
  z := .int .u64 0
  size := 1
  bytes := 8
  f := fun x => [.int .u64 (x : Int)]
  ht := Tryd.underlying44
  hi := by kernel_rfl
  hz := rfl
  hs := by decide
  hf := fun _ => rfl
  h1 := fun x u hu => by simp at hu; subst hu; rfl
/-- Eight truths. -/
def tb (m i : Nat) : Bool := m.testBit i
def bits8 (m : Nat) : List Value := [.bool (tb m 0), .bool (tb m 1), .bool (tb m 2), .bool (tb m 3), .bool (tb m 4), .bool (tb m 5), .bool (tb m 6), .bool (tb m 7)]
def eltB : Elt Nat where
  T := 30
  e := 28
  z := .agg #[.bool false, .bool false, .bool false, .bool false, .bool false, .bool false, .bool false, .bool false]
  size := 8
  bytes := 8
  f := bits8
  ht := Tryd.underlying30
  hi := by kernel_rfl
  hz := rfl
  hs := by decide
  hf := fun _ => rfl
  h1 := fun x u hu => by
    simp only [bits8, List.mem_cons, List.not_mem_nil, or_false] at hu
    rcases hu with rfl | rfl | rfl | rfl | rfl | rfl | rfl | rfl <;> rfl

/-- A stack of sets. -/
structure StackAt (w : World) (B k : Nat) (v : Value) (xs : List Nat) : Prop where
  low : B ≤ k
  blk : w.heap[k]? = some (.cells #[v] 46 (0, 0))
  own : OwnL eltU w B v xs
section
variable {w w' : World} {B k : Nat} {v : Value} {xs : List Nat}
theorem StackAt.lt (h : StackAt w B k v xs) : k < w.heap.size := (Array.getElem?_eq_some_iff.1 h.blk).1
theorem StackAt.cell (h : StackAt w B k v xs) : w.cell? ⟨k, 0, none⟩ = some v ∧ w.frozen? ⟨k, 0, none⟩ = false := ⟨cell_blk h.blk, free_blk h.blk⟩
theorem StackAt.below (h : StackAt w B k v xs) (hb : Below w.heap.size w w') : StackAt w' B k v xs := ⟨h.low, (hb.block k h.lt).trans h.blk, h.own.below hb⟩
theorem OwnL.low {α : Type} {E : Elt α} {B' : Nat} {u : Value} {ys : List α} (h : OwnL E w B u ys) (hB : B' ≤ B) : OwnL E w B' u ys := by
  refine ⟨h.own.1, ?_⟩
  rcases h.own.2 with h0 | ⟨g, cap, cur, hv, hb, hr⟩
  · exact .inl h0
  · exact .inr ⟨g, cap, cur, hv, Nat.le_trans hB hb, hr⟩
theorem StackAt.lower {B' : Nat} (h : StackAt w B k v xs) (hB : B' ≤ B) : StackAt w B' k v xs := ⟨Nat.le_trans hB h.low, h.blk, h.own.low hB⟩
/-- The blocks that its writers write. -/
def stkR (k : Nat) (v : Value) (q : Nat) : Prop := q = k ∨ v.ownBlock = some q
theorem StackAt.ne (h : StackAt w B k v xs) : v.ownBlock ≠ some k := fun e => by
  obtain ⟨cur, hc⟩ := h.own.obj e
  rw [h.blk] at hc
  simp only [Option.some.injEq, Obj.cells.injEq] at hc
  exact absurd hc.2.1 (by decide)
theorem StackAt.rlt (h : StackAt w B k v xs) {q : Nat} (hq : stkR k v q) : B ≤ q ∧ q < w.heap.size := by
  rcases hq with rfl | hq
  · exact ⟨h.low, h.lt⟩
  · exact h.own.lt hq
/-- A row of another kind stands while the stack is written. -/
theorem StackAt.apart {α : Type} {E : Elt α} {u : Value} {ys : List α} {B' : Nat} (h : StackAt w B k v xs) (hE : E.e ≠ 46) (hE' : E.e ≠ 27) (ho : OwnL E w B' u ys) {R : Nat → Prop} (hw : Wrote R w w') (hR : ∀ q, R q → stkR k v q) : OwnL E w' B' u ys := by
  refine ho.wrote hw fun g hg hr => ?_
  obtain ⟨cur, hc⟩ := ho.obj hg
  rcases hR g hr with rfl | hq
  · rw [h.blk] at hc
    simp only [Option.some.injEq, Obj.cells.injEq] at hc
    exact hE hc.2.1.symm
  · obtain ⟨cur', hc'⟩ := h.own.obj hq
    rw [hc'] at hc
    simp only [Option.some.injEq, Obj.cells.injEq] at hc
    exact hE' hc.2.1.symm
/-- The stack's row turned to another. -/
theorem StackAt.turn {v' : Value} {ys : List Nat} {R : Nat → Prop} (h : StackAt w B k v xs) (hw : Wrote R w w') (hR : ∀ q, R q → v.ownBlock = some q) (ho : OwnL eltU w' B v' ys) : StackAt (w'.setCell ⟨k, 0, none⟩ v') B k v' ys := by
  have hbk : w'.heap[k]? = some (.cells #[v] 46 (0, 0)) := (hw.block k h.lt (fun hr => h.ne (hR k hr))).trans h.blk
  refine ⟨h.low, by simp [World.setCell, Array.getElem?_modify, hbk], ho.at fun g hg => ?_⟩
  refine Below.heap_setCell _ _ _ _ ?_
  rintro rfl
  obtain ⟨cur, hc⟩ := ho.obj hg
  rw [hbk] at hc
  simp only [Option.some.injEq, Obj.cells.injEq] at hc
  exact absurd hc.2.1 (by decide)
end
end Go.Proofs.YtobhandimolmhaaDoor
