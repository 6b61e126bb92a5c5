/-
  A row of numbers of a function's own, read and written in place; the counts that the program's Normal keeps.
-/
import Derived.Test.YtjhlehepnhbbaaaSwp
set_option linter.unusedSimpArgs false
set_option linter.unusedVariables false
namespace Go.Proofs.Ytjhlehepnhbbaaa
open Go Go.RowKit

def intsA (n : Nat) (f : Nat → Int) : Array Value := ((List.range n).map fun i => Value.int .i64 (f i)).toArray
theorem intsA_size (n : Nat) (f : Nat → Int) : (intsA n f).size = n := by simp [intsA]
theorem intsA_get {n i : Nat} {f : Nat → Int} (h : i < n) : (intsA n f)[i]? = some (.int .i64 (f i)) := by simp [intsA, h]
theorem intsA_congr {n : Nat} {f g : Nat → Int} (h : ∀ i, i < n → f i = g i) : intsA n f = intsA n g := by
  unfold intsA
  congr 1
  exact List.map_congr_left fun i hi => by rw [h i (List.mem_range.1 hi)]
theorem intsA_put {n i : Nat} {z : Int} {f : Nat → Int} : (intsA n f).setIfInBounds i (.int .i64 z) = intsA n (fun x => if x = i then z else f x) := by
  apply Array.ext
  · simp [intsA]
  · intro j h1 h2
    simp only [intsA, Array.getElem_setIfInBounds, List.getElem_toArray, List.getElem_map, List.getElem_range]
    by_cases hj : i = j
    · subst hj; simp
    · have : ¬ j = i := fun e => hj e.symm
      simp [hj, this]
theorem made_ints (n : Nat) : madeCells #[.int .i64 0] n = intsA n (fun _ => 0) := by
  apply Array.ext
  · simp [intsA, madeCells]
  · intro j h1 h2
    simp [intsA, madeCells, Nat.mod_one]
theorem run_makeI (w : World) (n : Nat) (hn : n ≤ 1000) : (Instr.makeSlice 29 (.int .i64 (n : Int)) (.int .i64 (n : Int))).run Try.prog w = .ok (.slice (some ⟨w.heap.size, 0, none⟩) n n) (w.alloc (.cells (intsA n fun _ => 0) 3)) := by
  obtain ⟨i0, hi, hz, hs, hb⟩ := info_at infoInt
  have hr := run_make (P := Try.prog) w 29 3 i0 (.int .i64 0) Try.underlying29 hi hz .i64 .i64 n n (by omega) (Int.le_refl _) (by rw [hb]; omega) (by omega)
  simp only [Int.toNat_natCast, hs, Nat.mul_one] at hr
  rw [← made_ints]
  exact hr
theorem wpList_makeI {w : World} {ops : Array Oper} {rest : List Oper} {o : Oper} {a : Act} {Q : Exit → Act → World → Prop} (hg : o.guard = none) (l c : Operand) (ho : o.op = .makeSlice 29 l c) (n : Nat) (hn : n ≤ 1000)
    (hl : a.eval l = .int .i64 (n : Int)) (hc : a.eval c = .int .i64 (n : Int))
    (h : wpList Try.prog ops Q rest (a.put o.dst (.slice (some ⟨w.heap.size, 0, none⟩) n n)) (w.alloc (.cells (intsA n fun _ => 0) 3))) : wpList Try.prog ops Q (o :: rest) a w := by
  refine wpList_plain hg fun _ hK => ?_
  unfold Oper.wp
  simp only [execOp, ho, hl, hc, Sem.run_bind, run_makeI w n hn, Result.andThen_ok]
  exact hK _ _ h
/-- The row under work. -/
structure RowI (n : Nat) (f : Nat → Int) (rb : Nat) (wo wx : World) : Prop where
  row : wx.heap[rb]? = some (.cells (intsA n f) 3 (0, 0))
  below : Below rb wo wx
theorem RowI.of {n : Nat} {f g : Nat → Int} {rb : Nat} {wo wx : World} (h : RowI n f rb wo wx) (e : ∀ i, i < n → f i = g i) : RowI n g rb wo wx := ⟨by rw [← intsA_congr e]; exact h.row, h.below⟩
theorem RowI.lt {n : Nat} {f : Nat → Int} {rb : Nat} {wo wx : World} (h : RowI n f rb wo wx) : rb < wx.heap.size := (Array.getElem?_eq_some_iff.1 h.row).1
theorem RowI.go {n : Nat} {f : Nat → Int} {rb : Nat} {wo wx wy : World} (h : RowI n f rb wo wx) (hb : Below wx.heap.size wx wy) : RowI n f rb wo wy := ⟨(hb.block rb h.lt).trans h.row, h.below.trans (hb.mono (Nat.le_of_lt h.lt))⟩
theorem RowI.put {n : Nat} {f : Nat → Int} {rb : Nat} {wo wx : World} (h : RowI n f rb wo wx) (i : Nat) (z : Int) : RowI n (fun x => if x = i then z else f x) rb wo (wx.setCell ⟨rb, i, none⟩ (.int .i64 z)) :=
  ⟨by rw [← intsA_put]; exact set_block h.row _, h.below.setCell (p := ⟨rb, i, none⟩) (Nat.le_refl _) _⟩
theorem RowI.get {n : Nat} {f : Nat → Int} {rb : Nat} {wo wx : World} (h : RowI n f rb wo wx) {i : Nat} (hi : i < n) : wx.cell? ⟨rb, i, none⟩ = some (.int .i64 (f i)) ∧ wx.frozen? ⟨rb, i, none⟩ = false :=
  ⟨by rw [cell_of_block h.row]; exact intsA_get hi, free_of_block h.row⟩
theorem RowI.wrote {n : Nat} {f : Nat → Int} {rb : Nat} {wo wx wy : World} {R : Nat → Prop} (h : RowI n f rb wo wx) (hw : Wrote R wx wy) (hR : ∀ q, R q → rb < q) : RowI n f rb wo wy :=
  ⟨(hw.block rb h.lt (fun hr => Nat.lt_irrefl _ (hR rb hr))).trans h.row, Wrote.below h.below hw (Nat.le_of_lt h.lt) (fun q hq => Nat.le_of_lt (hR q hq))⟩

/-! The counts. -/
noncomputable def cntU (l : List Ev) (C : List Nat) (N j : Nat) : Nat := ((List.range N).filter fun k => hbB (rD l) k j && !decide (k ∈ C)).length
theorem cntU_succ (l : List Ev) (C : List Nat) (N j : Nat) : cntU l C (N + 1) j = cntU l C N j + (hbB (rD l) N j && !decide (N ∈ C)).toNat := by
  unfold cntU
  rw [List.range_succ, List.filter_append, List.length_append]
  cases h : (hbB (rD l) N j && !decide (N ∈ C)) <;> simp [h]
theorem cntU_le (l : List Ev) (C : List Nat) (N j : Nat) : cntU l C N j ≤ N := by
  unfold cntU
  have := List.length_filter_le (fun k => hbB (rD l) k j && !decide (k ∈ C)) (List.range N)
  rw [List.length_range] at this; exact this
/-- One more laid down. -/
theorem cntU_laid {l : List Ev} {C : List Nat} {b j : Nat} (hb : b ∉ C) : ∀ N, cntU l C N j = cntU l (C ++ [b]) N j + (decide (b < N) && hbB (rD l) b j).toNat
  | 0 => by simp [cntU]
  | N + 1 => by
    rw [cntU_succ, cntU_succ, cntU_laid hb N]
    by_cases hN : N = b
    · subst hN
      have e1 : decide (N ∈ C) = false := decide_eq_false hb
      have e2 : decide (N ∈ C ++ [N]) = true := by simp
      have e3 : decide (N < N) = false := by simp
      have e4 : decide (N < N + 1) = true := by simp
      rw [e1, e2, e3, e4]; simp
    · have e2 : decide (N ∈ C ++ [b]) = decide (N ∈ C) := by
        rw [decide_eq_decide, List.mem_append, List.mem_singleton]
        exact ⟨fun h => h.resolve_right hN, .inl⟩
      have e4 : decide (b < N + 1) = decide (b < N) := by rw [decide_eq_decide]; omega
      rw [e2, e4]; omega
noncomputable def leftF (l : List Ev) (C : List Nat) (j : Nat) : Int := if j ∈ C then -1 else (cntU l C l.length j : Int)
theorem leftF_zero {l : List Ev} {C : List Nat} {i : Nat} (hi : i < l.length) : (leftF l C i == 0) = availB l C i := by
  rw [Bool.eq_iff_iff, availB_iff, beq_iff_eq]
  unfold leftF
  by_cases hC : i ∈ C
  · rw [if_pos hC]; exact ⟨fun h => by omega, fun h => absurd hC h.1⟩
  · rw [if_neg hC]
    constructor
    · intro h
      refine ⟨hC, fun k hk => Classical.byContradiction fun hn => ?_⟩
      have h0 : cntU l C l.length i = 0 := by omega
      unfold cntU at h0
      have := List.length_eq_zero_iff.1 h0
      have hm : k ∈ (List.range l.length).filter (fun k => hbB (rD l) k i && !decide (k ∈ C)) := List.mem_filter.2 ⟨List.mem_range.2 (by have := hk.lt; omega), by rw [hbB_iff.2 hk, decide_eq_false hn]; rfl⟩
      rw [this] at hm; cases hm
    · rintro ⟨_, h⟩
      have : cntU l C l.length i = 0 := by
        unfold cntU
        rw [List.length_eq_zero_iff, List.filter_eq_nil_iff]
        intro k _
        cases hb : hbB (rD l) k i
        · simp
        · have := h k (hbB_iff.1 hb); simp [this]
      omega
theorem leftF_fit (l : List Ev) (C : List Nat) (j : Nat) : -1 ≤ leftF l C j ∧ leftF l C j ≤ l.length := by
  unfold leftF
  have := cntU_le l C l.length j
  split <;> omega
/-- The places behind b, as both hand them back. -/
noncomputable def bhN (l : List Ev) (b : Nat) : List Nat := (List.range l.length).filter fun j => hbB (rD l) b j
theorem bhN_mem {l : List Ev} {b j : Nat} : j ∈ bhN l b ↔ j < l.length ∧ hbB (rD l) b j = true := by unfold bhN; rw [List.mem_filter, List.mem_range]
theorem bhN_nodup (l : List Ev) (b : Nat) : (bhN l b).Nodup := List.nodup_range.filter _
theorem bhN_len (l : List Ev) (b : Nat) : (bhN l b).length ≤ l.length := by
  have := List.length_filter_le (fun j => hbB (rD l) b j) (List.range l.length)
  rw [List.length_range] at this; exact this
theorem marks_bh {l : List Ev} {n b : Nat} (hn : n = l.length) (hb : b < n) : marks (behB (rD l) n (b : Int)) n = natsI (bhN l b) := by
  unfold marks natsI bhN
  rw [← hn]
  congr 1
  refine List.filter_congr fun j hj => ?_
  unfold behB
  rw [befB_nat hb (List.mem_range.1 hj)]
/-- f with s added at the places of D. -/
def addF (f : Nat → Int) (D : List Nat) (s : Int) (j : Nat) : Int := f j + if j ∈ D then s else 0
theorem addF_nil (f : Nat → Int) (s : Int) (j : Nat) : addF f [] s j = f j := by unfold addF; simp
theorem addF_put {f : Nat → Int} {D : List Nat} {s : Int} {p q : Nat} (hD : D.Nodup) (hq : D[p]? = some q) (j : Nat) : (if j = q then addF f (D.take p) s q + s else addF f (D.take p) s j) = addF f (D.take (p + 1)) s j := by
  have hn : q ∉ D.take p := by
    intro hm
    obtain ⟨i, hi⟩ := List.getElem?_of_mem hm
    have hip : i < p := by
      have := (List.getElem?_eq_some_iff.1 hi).1
      rw [List.length_take] at this; omega
    rw [List.getElem?_take_of_lt hip] at hi
    obtain ⟨h1, e1⟩ := List.getElem?_eq_some_iff.1 hi
    obtain ⟨h2, e2⟩ := List.getElem?_eq_some_iff.1 hq
    have := (List.pairwise_iff_getElem.1 hD) i p h1 h2 hip
    exact this (by rw [e1, e2])
  have ht : D.take (p + 1) = D.take p ++ [q] := by rw [List.take_add_one, hq]; rfl
  unfold addF
  rw [ht]
  by_cases hj : j = q
  · subst hj
    rw [if_pos rfl, if_neg hn, if_pos (by simp)]; omega
  · have e : (j ∈ D.take p ++ [q]) ↔ j ∈ D.take p := by simp [hj]
    rw [if_neg hj]
    simp only [e]
theorem addF_mem {f : Nat → Int} {D : List Nat} {s : Int} {p q : Nat} (hD : D.Nodup) (hq : D[p]? = some q) : addF f (D.take p) s q = f q := by
  have h := addF_put (f := f) (s := s) hD hq q
  rw [if_pos rfl] at h
  have ht : q ∈ D.take (p + 1) := by rw [List.take_add_one, hq]; simp
  unfold addF at h ⊢
  rw [if_pos ht] at h
  omega
theorem first_counts {l : List Ev} {i j : Nat} (hj : j < l.length) : addF (fun j => (cntU l [] i j : Int)) (bhN l i) 1 j = (cntU l [] (i + 1) j : Int) := by
  unfold addF
  rw [cntU_succ]
  have e : decide (i ∈ ([] : List Nat)) = false := by simp
  rw [e]
  cases hb : hbB (rD l) i j
  · rw [if_neg (fun h => by rw [(bhN_mem.1 h).2] at hb; cases hb)]; simp
  · rw [if_pos (bhN_mem.2 ⟨hj, hb⟩)]; simp
theorem next_counts {l : List Ev} {C : List Nat} {b j : Nat} (hL : Laid l C) (hb : b < l.length) (ha : availB l C b = true) (hj : j < l.length) :
    addF (fun x => if x = b then -1 else leftF l C x) (bhN l b) (-1) j = leftF l (C ++ [b]) j := by
  obtain ⟨hbC, hk⟩ := availB_iff.1 ha
  unfold addF leftF
  show (if j = b then (-1 : Int) else if j ∈ C then -1 else (cntU l C l.length j : Int)) + (if j ∈ bhN l b then -1 else 0) = _
  have hm : (j ∈ C ++ [b]) ↔ j ∈ C ∨ j = b := by rw [List.mem_append, List.mem_singleton]
  by_cases hjb : j = b
  · subst hjb
    rw [if_pos rfl, if_neg (fun h => by have := hbB_iff.1 (bhN_mem.1 h).2; have := this.lt; omega), if_pos (hm.2 (.inr rfl))]; omega
  · rw [if_neg hjb]
    by_cases hjC : j ∈ C
    · rw [if_pos hjC, if_pos (hm.2 (.inl hjC)), if_neg (fun h => hbC (hL.closed j hjC b (hbB_iff.1 (bhN_mem.1 h).2)))]; omega
    · rw [if_neg hjC, if_neg (fun h => (hm.1 h).elim hjC hjb), cntU_laid hbC l.length]
      have e : decide (b < l.length) = true := decide_eq_true hb
      rw [e, Bool.true_and]
      cases hh : hbB (rD l) b j
      · rw [if_neg (fun h => by rw [(bhN_mem.1 h).2] at hh; cases hh)]; simp
      · rw [if_pos (bhN_mem.2 ⟨hj, hh⟩)]; simp; omega
theorem leftF_start {l : List Ev} (j : Nat) : (cntU l [] l.length j : Int) = leftF l [] j := by unfold leftF; simp
end Go.Proofs.Ytjhlehepnhbbaaa
