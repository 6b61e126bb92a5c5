/-
  A matrix of truths in memory: an own row of slices, each over a block of its own.
-/
import Derived.Test.YtadngicebbnnlaaApp
import Derived.Test.YtadngicebbnnlaaOrd
import Derived.Test.YtadngicebbnnlaaLogRaw
import Derived.OwnWalk
set_option linter.unusedSimpArgs false
set_option linter.unusedVariables false
namespace Go.Proofs.Ytadngicebbnnlaa
open Go Go.RowKit

def boolsA (n : Nat) (f : Nat → Bool) : Array Value := ((List.range n).map fun i => Value.bool (f i)).toArray
theorem boolsA_size (n : Nat) (f : Nat → Bool) : (boolsA n f).size = n := by simp [boolsA]
theorem boolsA_get {n i : Nat} {f : Nat → Bool} (h : i < n) : (boolsA n f)[i]? = some (.bool (f i)) := by simp [boolsA, h]
theorem boolsA_congr {n : Nat} {f g : Nat → Bool} (h : ∀ i, i < n → f i = g i) : boolsA n f = boolsA n g := by
  unfold boolsA
  congr 1
  exact List.map_congr_left fun i hi => by rw [h i (List.mem_range.1 hi)]
theorem boolsA_set {n i : Nat} {f : Nat → Bool} : (boolsA n f).setIfInBounds i (.bool true) = boolsA n (fun x => f x || x == i) := by
  apply Array.ext
  · simp [boolsA]
  · intro j h1 h2
    simp only [boolsA, Array.getElem_setIfInBounds, List.getElem_toArray, List.getElem_map, List.getElem_range]
    by_cases hj : i = j
    · subst hj; simp
    · have : (j == i) = false := by simpa using fun h => hj h.symm
      simp [hj, this]
theorem made_bools (n : Nat) : madeCells #[.bool false] n = boolsA n (fun _ => false) := by
  apply Array.ext
  · simp [boolsA, madeCells]
  · intro j h1 h2
    simp [boolsA, madeCells, Nat.mod_one]
theorem infoBool : (Try.prog.info? 4).map (fun i => (i.zero, i.size, i.bytes)) = some (some (.bool false), 1, 1) := by kernel_rfl
theorem infoBools : (Try.prog.info? 71).map (fun i => (i.zero, i.size, i.bytes)) = some (some (.slice none 0 0), 1, 24) := by kernel_rfl
theorem info_at {P : Program} {t : TypeId} {z : Value} {s b : Nat} (h : (P.info? t).map (fun i => (i.zero, i.size, i.bytes)) = some (some z, s, b)) : ∃ i0, P.info? t = some i0 ∧ i0.zero = some z ∧ i0.size = s ∧ i0.bytes = b := by
  cases hi : P.info? t with
  | none => rw [hi] at h; cases h
  | some i0 =>
    rw [hi] at h
    simp only [Option.map_some, Option.some.injEq, Prod.mk.injEq] at h
    exact ⟨i0, rfl, h.1, h.2.1, h.2.2⟩
theorem run_makeB (w : World) (n : Nat) (hn : n ≤ 1000) : (Instr.makeSlice 71 (.int .i64 (n : Int)) (.int .i64 (n : Int))).run Try.prog w = .ok (.slice (some ⟨w.heap.size, 0, none⟩) n n) (w.alloc (.cells (boolsA n fun _ => false) 4)) := by
  obtain ⟨i0, hi, hz, hs, hb⟩ := info_at infoBool
  have hr := run_make (P := Try.prog) w 71 4 i0 (.bool false) Try.underlying71 hi hz .i64 .i64 n n (by omega) (Int.le_refl _) (by rw [hb]; omega) (by omega)
  simp only [Int.toNat_natCast, hs, Nat.mul_one] at hr
  rw [← made_bools]
  exact hr
theorem wpList_makeB {w : World} {ops : Array Oper} {rest : List Oper} {o : Oper} {a : Act} {Q : Exit → Act → World → Prop} (hg : o.guard = none) (l c : Operand) (ho : o.op = .makeSlice 71 l c) (n : Nat) (hn : n ≤ 1000)
    (hl : a.eval l = .int .i64 (n : Int)) (hc : a.eval c = .int .i64 (n : Int))
    (h : wpList Try.prog ops Q rest (a.put o.dst (.slice (some ⟨w.heap.size, 0, none⟩) n n)) (w.alloc (.cells (boolsA n fun _ => false) 4))) : wpList Try.prog ops Q (o :: rest) a w := by
  refine wpList_plain hg fun _ hK => ?_
  unfold Oper.wp
  simp only [execOp, ho, hl, hc, Sem.run_bind, run_makeB w n hn, Result.andThen_ok]
  exact hK _ _ h

/-- m rows of n truths. -/
structure MatAt (w : World) (B : Nat) (v : Value) (n m : Nat) (f : Nat → Nat → Bool) : Prop where
  ex : ∃ gs : List Nat, w.ownsRow B 71 1 v m (gs.map fun g => Value.slice (some ⟨g, 0, none⟩) n n) ∧
    ∀ j g, gs[j]? = some g → B ≤ g ∧ (∀ x, v.ownBlock = some x → x ≠ g) ∧ w.heap[g]? = some (.cells (boolsA n (f j)) 4 (0, 0))
section
variable {w w' : World} {B : Nat} {v : Value} {n m : Nat} {f : Nat → Nat → Bool}
theorem MatAt.nil (w : World) (B n : Nat) (f : Nat → Nat → Bool) : MatAt w B (.slice none 0 0) n 0 f := ⟨[], World.ownsRow_nil .., fun j g h => by cases h⟩
theorem MatAt.below (h : MatAt w B v n m f) (hb : Below w.heap.size w w') : MatAt w' B v n m f := by
  obtain ⟨gs, ho, hg⟩ := h.ex
  refine ⟨gs, ownsRow_at ho (fun x hx => hb.block x (ho.lt x hx).2), fun j g hj => ?_⟩
  obtain ⟨h1, h2, h3⟩ := hg j g hj
  exact ⟨h1, h2, (hb.block g (Array.getElem?_eq_some_iff.1 h3).1).trans h3⟩
/-- What one reads of it. -/
theorem MatAt.read (h : MatAt w B v n m f) {k : Nat} (hk : k < m) : ∃ x c g, v = .slice (some ⟨x, 0, none⟩) m c ∧ w.cell? ⟨x, k, none⟩ = some (.slice (some ⟨g, 0, none⟩) n n) ∧ m ≤ c ∧
    ∀ i, i < n → w.cell? ⟨g, i, none⟩ = some (.bool (f k i)) := by
  obtain ⟨gs, ho, hg⟩ := h.ex
  have hl : gs.length = m := by have := ho.1; simpa using this
  obtain ⟨g, hgk⟩ : ∃ g, gs[k]? = some g := ⟨_, List.getElem?_eq_getElem (show k < gs.length by omega)⟩
  obtain ⟨h1, h2, h3⟩ := hg k g hgk
  rcases ho.2 with ⟨_, h0⟩ | ⟨x, cap, cur, hv, _, hx, hmc, _, _, ht⟩
  · omega
  · refine ⟨x, cap, g, hv, ?_, hmc, fun i hi => by simp only [World.cell?, h3]; exact boolsA_get hi⟩
    have : cur.toList[k]? = some (.slice (some ⟨g, 0, none⟩) n n) := by
      have h4 : (cur.toList.take (m * 1))[k]? = some (.slice (some ⟨g, 0, none⟩) n n) := by rw [ht, List.getElem?_map, hgk]; rfl
      rw [List.getElem?_take] at h4
      split at h4
      · exact h4
      · cases h4
    simp only [World.cell?, hx]
    rw [← Array.getElem?_toList]; exact this
theorem MatAt.lt (h : MatAt w B v n m f) {x : Nat} (hx : v.ownBlock = some x) : B ≤ x ∧ x < w.heap.size := by
  obtain ⟨gs, ho, _⟩ := h.ex
  exact ho.lt x hx
/-- One row more: the row's block g; the append's world. -/
theorem MatAt.push {gs : List Nat} (ho : w.ownsRow B 71 1 v m (gs.map fun g => Value.slice (some ⟨g, 0, none⟩) n n))
    (hgs : ∀ j g, gs[j]? = some g → B ≤ g ∧ (∀ x, v.ownBlock = some x → x ≠ g) ∧ w.heap[g]? = some (.cells (boolsA n (f j)) 4 (0, 0)))
    {v' : Value} {g : Nat} (hB : B ≤ g) (hg : w.heap[g]? = some (.cells (boolsA n (f m)) 4 (0, 0))) (hgv : ∀ x, v.ownBlock = some x → x ≠ g)
    (hown : w'.ownsRow B 71 1 v' (m + 1) ((gs.map fun g => Value.slice (some ⟨g, 0, none⟩) n n) ++ [.slice (some ⟨g, 0, none⟩) n n]))
    (hw : Wrote (fun x => v.ownBlock = some x) w w') (hv : ∀ x, v'.ownBlock = some x → v.ownBlock = some x ∨ w.heap.size ≤ x) : MatAt w' B v' n (m + 1) f := by
  have hl : gs.length = m := by have := ho.1; simpa using this
  have key : ∀ y, y < w.heap.size → (∀ x, v.ownBlock = some x → x ≠ y) → ∀ x, v'.ownBlock = some x → x ≠ y := fun y hy h1 x hx => by
    rcases hv x hx with h2 | h2
    · exact h1 x h2
    · omega
  refine ⟨gs ++ [g], by simpa using hown, fun j y hj => ?_⟩
  by_cases hjm : j < gs.length
  · rw [List.getElem?_append_left hjm] at hj
    obtain ⟨h1, h2, h3⟩ := hgs j y hj
    have hlt := (Array.getElem?_eq_some_iff.1 h3).1
    exact ⟨h1, key y hlt h2, (hw.block y hlt (fun hx => h2 y hx rfl)).trans h3⟩
  · rw [List.getElem?_append_right (by omega)] at hj
    have hj0 : j = m := by have := (List.getElem?_eq_some_iff.1 hj).1; simp at this; omega
    subst hj0
    rw [hl, Nat.sub_self] at hj
    cases hj
    have hlt := (Array.getElem?_eq_some_iff.1 hg).1
    exact ⟨hB, key _ hlt hgv, (hw.block _ hlt (fun hx => hgv _ hx rfl)).trans hg⟩
end
end Go.Proofs.Ytadngicebbnnlaa
