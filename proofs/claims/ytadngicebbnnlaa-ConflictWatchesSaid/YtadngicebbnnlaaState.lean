/-
  The document's state in memory; the functions that only read it.
-/
import Derived.Test.YtadngicebbnnlaaLogRaw
import Derived.Test.YtadngicebbnnlaaLogNew
set_option linter.unusedSimpArgs false
set_option linter.unusedVariables false
namespace Go.Proofs.Ytadngicebbnnlaa
open Go.ChangeShapes Go.WideShapes Go.ChangeAt Go.RowKit Go.Deep

def stArr (st ow : Nat → Int) : Array Value := #[.int .i64 (st 0), .int .i64 (st 1), .int .i64 (st 2), .int .i64 (st 3), .int .i64 (st 4), .int .i64 (st 5), .int .i64 (st 6), .int .i64 (st 7), .int .i64 (ow 0), .int .i64 (ow 1), .int .i64 (ow 2), .int .i64 (ow 3), .int .i64 (ow 4), .int .i64 (ow 5), .int .i64 (ow 6), .int .i64 (ow 7)]
def StateAt (w : World) (b : Nat) (S : LogS) : Prop := w.heap[b]? = some (.cells (stArr S.st S.ow) 47 (0, 0))

theorem lt8 {i : Nat} (h : i < 8) : i = 0 ∨ i = 1 ∨ i = 2 ∨ i = 3 ∨ i = 4 ∨ i = 5 ∨ i = 6 ∨ i = 7 := by omega
theorem stArr_st (st ow : Nat → Int) {i : Nat} (h : i < 8) : (stArr st ow)[i]? = some (.int .i64 (st i)) := by
  rcases lt8 h with rfl | rfl | rfl | rfl | rfl | rfl | rfl | rfl <;> rfl
theorem stArr_ow (st ow : Nat → Int) {i : Nat} (h : i < 8) : (stArr st ow)[8 + i]? = some (.int .i64 (ow i)) := by
  rcases lt8 h with rfl | rfl | rfl | rfl | rfl | rfl | rfl | rfl <;> rfl
theorem stArr_setSt (st ow : Nat → Int) {i : Nat} (h : i < 8) (v : Int) : (stArr st ow).setIfInBounds i (.int .i64 v) = stArr (upd st i v) ow := by
  rcases lt8 h with rfl | rfl | rfl | rfl | rfl | rfl | rfl | rfl <;> rfl
theorem stArr_setOw (st ow : Nat → Int) {i : Nat} (h : i < 8) (v : Int) : (stArr st ow).setIfInBounds (8 + i) (.int .i64 v) = stArr st (upd ow i v) := by
  rcases lt8 h with rfl | rfl | rfl | rfl | rfl | rfl | rfl | rfl <;> rfl

section
variable {w w' : World} {b : Nat} {S : LogS}
theorem StateAt.lt (h : StateAt w b S) : b < w.heap.size := (Array.getElem?_eq_some_iff.1 h).1
theorem StateAt.cst (h : StateAt w b S) {i : Nat} (hi : i < 8) : w.cell? ⟨b, i, none⟩ = some (.int .i64 (S.st i)) := by
  rw [show w.cell? ⟨b, i, none⟩ = (stArr S.st S.ow)[i]? by simp only [World.cell?]; rw [show w.heap[b]? = _ from h]; rfl]; exact stArr_st _ _ hi
theorem StateAt.cow (h : StateAt w b S) {i : Nat} (hi : i < 8) : w.cell? ⟨b, 8 + i, none⟩ = some (.int .i64 (S.ow i)) := by
  rw [show w.cell? ⟨b, 8 + i, none⟩ = (stArr S.st S.ow)[8 + i]? by simp only [World.cell?]; rw [show w.heap[b]? = _ from h]; rfl]; exact stArr_ow _ _ hi
theorem StateAt.free (h : StateAt w b S) (o : Nat) : w.frozen? ⟨b, o, none⟩ = false := by
  simp only [World.frozen?]; rw [show w.heap[b]? = _ from h]; simp
theorem StateAt.frame (h : StateAt w b S) (hb : w'.heap[b]? = w.heap[b]?) : StateAt w' b S := by unfold StateAt; rw [hb]; exact h
theorem StateAt.below (h : StateAt w b S) (hb : Below w.heap.size w w') : StateAt w' b S := h.frame (hb.block b h.lt)
theorem StateAt.wrote {R : Nat → Prop} (h : StateAt w b S) (hw : Wrote R w w') (hn : ¬ R b) : StateAt w' b S := h.frame (hw.block b h.lt hn)
theorem StateAt.turn {T : LogS} (h : StateAt w b S) (hst : S.st = T.st) (how : S.ow = T.ow) : StateAt w b T := by unfold StateAt; rw [← hst, ← how]; exact h
theorem StateAt.setSt (h : StateAt w b S) {i : Nat} (hi : i < 8) (v : Int) {T : LogS} (hst : T.st = upd S.st i v) (how : T.ow = S.ow) : StateAt (w.setCell ⟨b, i, none⟩ (.int .i64 v)) b T := by
  unfold StateAt
  rw [heap_set h, stArr_setSt _ _ hi, hst, how]
theorem StateAt.setOw (h : StateAt w b S) {i : Nat} (hi : i < 8) (v : Int) {T : LogS} (hst : T.st = S.st) (how : T.ow = upd S.ow i v) : StateAt (w.setCell ⟨b, 8 + i, none⟩ (.int .i64 v)) b T := by
  unfold StateAt
  rw [heap_set h, stArr_setOw _ _ hi, hst, how]
end

/-! Waits, Bad, Fits, Can. -/
def waitR (S : LogS) (k o : Int) : Bool := if k == 4 then decide (0 ≤ S.ow o.toNat) else if k == 7 then (S.st o.toNat == 2 || S.st o.toNat == 4) else false
def Good (S : LogS) : Prop := ∀ i, i < 8 → 1 ≤ S.st i ∧ S.st i ≤ 4
theorem waitR_eq {S : LogS} (hg : Good S) (k o : Int) (ho : (k == 4 || k == 7) = true → inB o = true) : waitR S k o = waitB S k o := by
  unfold waitR waitB
  by_cases h4 : (k == 4) = true
  · rw [if_pos h4, if_pos h4]
    by_cases h : 0 ≤ S.ow o.toNat
    · simp [h]
    · have : S.ow o.toNat < 0 := by omega
      simp [h, this]
  · rw [if_neg h4, if_neg h4]
    by_cases h7 : (k == 7) = true
    · rw [if_pos h7, if_pos h7]
      have h8 := inB_iff.1 (ho (by rw [h7]; simp))
      have := hg o.toNat (by omega)
      generalize S.st o.toNat = s at this
      have : s = 1 ∨ s = 2 ∨ s = 3 ∨ s = 4 := by omega
      rcases this with rfl | rfl | rfl | rfl <;> rfl
    · rw [if_neg h7, if_neg h7]

set_option maxHeartbeats 1000000 in
theorem waits_calls {w : World} {b : Nat} {S : LogS} (h : StateAt w b S) (k o : Int) (ho : (k == 4 || k == 7) = true → inB o = true) :
    Calls Try.prog 55 #[.pointer (some ⟨b, 0, none⟩), .int .i64 k, .int .i64 o] w fun e w' => e = .returned (.bool (waitR S k o)) ∧ Below w.heap.size w w' := by
  by_cases hk : (k == 4 || k == 7) = true
  · obtain ⟨o0, o8⟩ := inB_iff.1 (ho hk)
    obtain ⟨j, rfl⟩ := Int.eq_ofNat_of_zero_le o0
    have hj8 : j < 8 := by omega
    have c1 := h.cst hj8
    have c2 := h.cow hj8
    clear ho h
    simp only [Bool.or_eq_true, beq_iff_eq] at hk
    rcases hk with rfl | rfl
    · have Hf : Hid (waitR S 4 j = decide (0 ≤ S.ow j)) := by unfold Hid waitR; simp
      go_enter Try.func55, Try.ntmps55
      go_wp2
      go_ret
      exact ⟨by rw [Hf.out]; simp, by go_grown⟩
    · cases h2 : (S.st j == 2)
      all_goals
        have Hf : Hid (waitR S 7 j = (S.st j == 2 || S.st j == 4)) := by unfold Hid waitR; simp
        go_enter Try.func55, Try.ntmps55
        go_wp2
        go_ret
        exact ⟨by rw [Hf.out, h2]; simp, by go_grown⟩
  · have h4 : (k == 4) = false := by cases h : (k == 4) <;> simp_all
    have h7 : (k == 7) = false := by cases h : (k == 7) <;> simp_all
    have Hf : Hid (waitR S k o = false) := by unfold Hid waitR; rw [h4, h7]; rfl
    clear hk ho h
    go_enter Try.func55, Try.ntmps55
    go_wp2
    go_ret
    exact ⟨by rw [Hf.out]; rfl, by go_grown⟩

set_option maxHeartbeats 1000000 in
theorem sbad_calls {w : World} {b : Nat} {S : LogS} (h : StateAt w b S) (t k o : Int) (ho : (k == 5 || k == 6 || k == 7) = true → inB o = true) :
    Calls Try.prog 56 #[.pointer (some ⟨b, 0, none⟩), .int .i64 t, .int .i64 k, .int .i64 o] w fun e w' => e = .returned (.int .i64 (badB S t k o)) ∧ Below w.heap.size w w' := by
  by_cases hk : (k == 5 || k == 6 || k == 7) = true
  · obtain ⟨o0, o8⟩ := inB_iff.1 (ho hk)
    obtain ⟨j, rfl⟩ := Int.eq_ofNat_of_zero_le o0
    have hj8 : j < 8 := by omega
    have c1 := h.cst hj8
    have c2 := h.cow hj8
    clear ho h
    simp only [Bool.or_eq_true, beq_iff_eq] at hk
    rcases hk with (rfl | rfl) | rfl
    · cases hc : (S.ow j != t)
      all_goals
        have Hf : Hid (badB S t 5 j = if (S.ow j != t) then 2 else 0) := by unfold Hid badB; simp
        go_enter Try.func56, Try.ntmps56
        go_wp2
        go_ret
        exact ⟨by rw [Hf.out, hc]; rfl, by go_grown⟩
    · cases hc : (S.st j != 1)
      all_goals
        have Hf : Hid (badB S t 6 j = if (S.st j != 1) then 4 else 0) := by unfold Hid badB; simp
        go_enter Try.func56, Try.ntmps56
        go_wp2
        go_ret
        exact ⟨by rw [Hf.out, hc]; rfl, by go_grown⟩
    · cases hc : (S.st j == 1)
      all_goals
        have Hf : Hid (badB S t 7 j = if (S.st j == 1) then 3 else 0) := by unfold Hid badB; simp
        go_enter Try.func56, Try.ntmps56
        go_wp2
        go_ret
        exact ⟨by rw [Hf.out, hc]; rfl, by go_grown⟩
  · have h5 : (k == 5) = false := by cases h : (k == 5) <;> simp_all
    have h6 : (k == 6) = false := by cases h : (k == 6) <;> simp_all
    have h7 : (k == 7) = false := by cases h : (k == 7) <;> simp_all
    have Hf : Hid (badB S t k o = 0) := by unfold Hid badB; rw [h5, h6, h7]; rfl
    clear hk ho h
    go_enter Try.func56, Try.ntmps56
    go_wp2
    go_ret
    exact ⟨by rw [Hf.out]; rfl, by go_grown⟩

def fitsB (t k o : Int) : Bool := rightB t k o (if k == 8 then 1 else 0) 0
set_option maxHeartbeats 4000000 in
theorem first_calls (w : World) : Calls Try.prog 21 #[] w fun e w' => e = .returned (.agg (stArr log0.st log0.ow)) ∧ Below w.heap.size w w' := by
  have hr : (.agg (stArr log0.st log0.ow) : Value) = .agg #[.int .i64 2, .int .i64 1, .int .i64 1, .int .i64 1, .int .i64 1, .int .i64 1, .int .i64 1, .int .i64 1, .int .i64 (-1), .int .i64 (-1), .int .i64 (-1), .int .i64 (-1), .int .i64 (-1), .int .i64 (-1), .int .i64 (-1), .int .i64 (-1)] := rfl
  rw [hr]
  go_enter Try.func21, Try.ntmps21
  go_wp2
  go_rounds 9
  go_outline
  go_wp2
  go_returns
  exact ⟨rfl, by go_grown⟩
end Go.Proofs.Ytadngicebbnnlaa
