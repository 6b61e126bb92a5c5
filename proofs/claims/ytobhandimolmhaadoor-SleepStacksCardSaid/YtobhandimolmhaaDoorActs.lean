/-
  Slices of actions that came in; who sleeps on behind an event: what both texts compute.
-/
import Derived.Test.YtobhandimolmhaaDoorIter
import Derived.Test.YtobhandimolmhaaDoorRdep
set_option linter.unusedSimpArgs false
set_option linter.unusedVariables false
namespace Go.Proofs.YtobhandimolmhaaDoor
open Go.ChangeShapes Go.WideShapes Go.ChangeAt Go.RowKit Go.Deep

theorem block_of_cell0 {w : World} {b o : Nat} {sp : Option Nat} {v : Value} (h : w.cell? ⟨b, o, sp⟩ = some v) : b < w.heap.size := by
  rcases Nat.lt_or_ge b w.heap.size with h1 | h1
  · exact h1
  · simp [World.cell?, Array.getElem?_eq_none h1] at h
structure IsAcs (w : World) (a0 : Option Addr) (n c : Nat) (l : List Ac) : Prop where
  reads : Reads w a0 n 2 (acCells l)
  len : l.length = n
  le : n ≤ c
  cap : c ≤ maxLen
  wf : ∀ e ∈ l, e.wf
theorem IsAcs.below {w w' : World} {a0 : Option Addr} {n c : Nat} {l : List Ac} (h : IsAcs w a0 n c l) (hb : Below w.heap.size w w') : IsAcs w' a0 n c l :=
  ⟨h.reads.below hb, h.len, h.le, h.cap, h.wf⟩
theorem IsAcs.bd {w : World} {a0 : Option Addr} {n c : Nat} {l : List Ac} (h : IsAcs w a0 n c l) : n ≤ 9223372036854775807 := by
  have := h.le; have := h.cap; unfold maxLen at *; omega
theorem IsAcs.at {w : World} {a0 : Option Addr} {n c : Nat} {l : List Ac} (h : IsAcs w a0 n c l) {i : Nat} (hi : i < n) :
    ∃ b off e, a0 = some ⟨b, off, none⟩ ∧ l[i]? = some e ∧ e.wf ∧ w.cell? ⟨b, off + i * 2, none⟩ = some (.int .i64 e.k) ∧ w.cell? ⟨b, off + i * 2 + 1, none⟩ = some (.int .i64 e.o) := by
  obtain ⟨b, off, ha, hc⟩ := h.reads.2 (by omega)
  have hl : i < l.length := by rw [h.len]; exact hi
  have hx : l[i]? = some l[i] := List.getElem?_eq_getElem hl
  have g := fun j (hj : j < 2) => flat_get Ac.vals 2 (fun _ => rfl) l i j l[i] hx hj
  refine ⟨b, off, l[i], ha, hx, h.wf _ (List.getElem_mem hl), ?_, ?_⟩
  · exact hc _ _ (g 0 (by decide))
  rw [Nat.add_assoc]
  exact hc _ _ (g 1 (by decide))

section
variable {H : Type} {enc : TypeId × Value → H} {w : World}
set_option maxRecDepth 100000 in
theorem open_acs {a0 : Option Addr} {n c : Nat} {d : DataW H} {p : List MemPlace} (h : DataW.Trod enc Tryd.prog w 0 (fun _ => true) true 31 (.slice a0 n c) d p) :
    ∃ l : List Ac, IsAcs w a0 n c l := by
  rcases open_flats Tryd.underlying31 Tryd.underlying50 (by kernel_rfl) (by kernel_rfl) h with ⟨rfl, rfl, rfl⟩ | ⟨a, rfl, hl, hm, hi⟩
  · exact ⟨[], ⟨Reads.nil, rfl, Nat.le_refl _, Nat.zero_le _, fun e he => by cases he⟩⟩
  · obtain ⟨l, h1, h2, h3⟩ := ofFlats Ac.vals 2 (by decide) (fun _ => rfl) Ac.wf (w := w) (a := a) (n := n) (fun i hin => by
      obtain ⟨zs, hz, hc, hw⟩ := hi i hin
      match zs, hz with
      | [k, o], _ =>
        refine ⟨⟨k, o⟩, ⟨hw k (by simp), hw o (by simp)⟩, fun j u hu => ?_⟩
        have hj : (([k, o] : List Int).map (Value.int .i64))[j]? = some u := hu
        rw [List.getElem?_map] at hj
        cases hz : ([k, o] : List Int)[j]? with
        | none => rw [hz] at hj; cases hj
        | some z => rw [hz] at hj; cases hj; exact hc j z hz)
    exact ⟨l, ⟨h3, h1, hl, hm, h2⟩⟩
end

/-- Does this thread sleep on, if it sleeps? -/
def keepT (next : List Ac) (e : Ev) (t : Nat) : Bool := match next[t]? with
  | some a => !(a.k == 0) && !(dependsB (t : Int) a.k a.o e.t e.k e.o)
  | none => false
def outN (next : List Ac) (e : Ev) (l : List (Fin 8)) : Nat := l.foldl (fun m t => if keepT next e t.val then m ||| oneN (t.val : Int) else m) 0
theorem outN_snoc (next : List Ac) (e : Ev) (l : List (Fin 8)) (t : Fin 8) : outN next e (l ++ [t]) = if keepT next e t.val then outN next e l ||| oneN (t.val : Int) else outN next e l := by
  unfold outN; rw [List.foldl_append]; rfl
theorem oneN_fin (t : Fin 8) : oneN (t.val : Int) = 2 ^ t.val := by
  unfold oneN in8
  have := t.isLt
  rw [if_pos (by simp; omega)]
  rfl
theorem outN_lt (next : List Ac) (e : Ev) (l : List (Fin 8)) : outN next e l < 256 := by
  unfold outN
  suffices h : ∀ (l : List (Fin 8)) (m : Nat), m < 256 → l.foldl (fun m t => if keepT next e t.val then m ||| oneN (t.val : Int) else m) m < 256 from h l 0 (by omega)
  intro l
  induction l with
  | nil => intro m hm; exact hm
  | cons t l ih =>
    intro m hm
    refine ih _ ?_
    show (if keepT next e t.val then m ||| oneN (t.val : Int) else m) < 256
    split
    · exact or_lt hm (oneN_lt _)
    · exact hm
theorem outN_bit (next : List Ac) (e : Ev) (j : Nat) (l : List (Fin 8)) : (outN next e l).testBit j = (l.any (fun t => t.val == j) && keepT next e j) := by
  unfold outN
  suffices h : ∀ (l : List (Fin 8)) (m : Nat), (l.foldl (fun m t => if keepT next e t.val then m ||| oneN (t.val : Int) else m) m).testBit j = (m.testBit j || (l.any (fun t => t.val == j) && keepT next e j)) by
    rw [h l 0, Nat.zero_testBit, Bool.false_or]
  intro l
  induction l with
  | nil => intro m; simp
  | cons t l ih =>
    intro m
    rw [List.foldl_cons, ih, List.any_cons]
    by_cases hj : t.val = j
    · subst hj
      cases hk : keepT next e t.val
      · simp
      · simp [Nat.testBit_or, oneN_fin, Nat.testBit_two_pow]
    · have e1 : (t.val == j) = false := by simpa using hj
      rw [e1, Bool.false_or]
      congr 1
      split
      · rw [Nat.testBit_or, oneN_fin, Nat.testBit_two_pow]; simp [hj]
      · rfl
theorem bl_any {m j : Nat} (hj : j < 8) : (bl m).any (fun t => t.val == j) = m.testBit j := by
  have all : ∀ t : Fin 8, t ∈ all8 := by decide
  unfold bl
  rw [Bool.eq_iff_iff, List.any_eq_true]
  constructor
  · rintro ⟨t, ht, h⟩
    rw [beq_iff_eq] at h
    rw [← h]
    exact (List.mem_filter.1 ht).2
  · intro h
    exact ⟨⟨j, hj⟩, List.mem_filter.2 ⟨all _, h⟩, by simp⟩
/-- The set behind an event. -/
def behN (s : Nat) (next : List Ac) (e : Ev) : Nat := outN next e (bl (cutN s e.t % 256))
theorem behN_lt (s : Nat) (next : List Ac) (e : Ev) : behN s next e < 256 := outN_lt ..
theorem behN_bit {s : Nat} {next : List Ac} {e : Ev} {j : Nat} (hj : j < 8) : (behN s next e).testBit j = ((s % 256).testBit j && !((j : Int) == e.t) && keepT next e j) := by
  unfold behN
  rw [outN_bit, bl_any hj, bit_mod _ _ hj, bit_mod _ _ hj]
  congr 1
  unfold cutN
  rw [Nat.testBit_and]
  congr 1
  rw [show 18446744073709551615 - oneN e.t = 2 ^ 64 - (oneN e.t + 1) by omega, Nat.testBit_two_pow_sub_succ (Nat.lt_trans (oneN_lt _) (by omega))]
  rw [show decide (j < 64) = true by simpa using (by omega : j < 64), Bool.true_and]
  congr 1
  unfold oneN in8
  split
  · rename_i h
    simp only [Bool.and_eq_true, decide_eq_true_eq] at h
    rw [Nat.testBit_two_pow]
    rw [Bool.eq_iff_iff]
    simp only [decide_eq_true_eq, beq_iff_eq]
    omega
  · rename_i h
    simp only [Bool.and_eq_true, decide_eq_true_eq] at h
    rw [Nat.zero_testBit]
    symm
    simp only [beq_eq_false_iff_ne, ne_eq]
    omega
end Go.Proofs.YtobhandimolmhaaDoor
