/-
  An append of a slice of events that came in to nothing.
-/
import Derived.Test.YtjhlehepnhbbaaaSwpA
import Derived.Deep.Upon
set_option linter.unusedSimpArgs false
set_option linter.unusedVariables false
namespace Go.Proofs.Ytjhlehepnhbbaaa
open Go.ChangeShapes Go.WideShapes Go.ChangeAt Go.RowKit Go.Deep

/-- An append of a slice of events that came in to nothing. -/
theorem wpList_cpEvs {w : World} {ops : Array Oper} {rest : List Oper} {o : Oper} {a : Act} {Q : Exit → Act → World → Prop} {a0 : Option Addr} {n c : Nat} {l : List Ev} (h : IsEvs w a0 n c l) (hgd : o.guard = none) (s x : Operand)
    (ho : o.op = .call { callee := .builtin .append, args := #[s, x], argTypes := #[22, 22] }) (base : Nat) {va : Option Addr} (hs : a.eval s = .slice va 0 0) (hown : w.ownsRow base 36 5 (.slice va 0 0) 0 []) (hx : a.eval x = .slice a0 n c) (hcap : n ≤ 1000) (hbase : base ≤ w.heap.size)
    (hk : ∀ v' w', OwnL eltEv w' base v' l → Wrote (fun q => Value.ownBlock (.slice va 0 0) = some q) w w' → wpList Try.prog ops Q rest (a.put o.dst v') w') : wpList Try.prog ops Q (o :: rest) a w := by
  obtain ⟨i0, hi, hz0, hz1, hz2⟩ := info_parts infoEv
  rcases Nat.eq_zero_or_pos n with h0 | h0
  · subst h0
    have hl : l = [] := List.eq_nil_of_length_eq_zero h.len
    subst hl
    have hsrc : Src Try.prog i0.size 22 (.slice a0 0 c) 0 [] w := by
      cases a0 with
      | none => exact Src.ofNil w (e' := 36) Try.underlying22 c
      | some ad => exact Src.ofSlice w (e' := 36) Try.underlying22 ad 0 c [] (by simp) (fun j u hu => by simp at hu) (fun u hu => by cases hu)
    have hrun := run_append_nothing (P := Try.prog) w 22 22 o.type 36 i0 Try.underlying22 hi va 0 0 (Nat.le_refl _) (.slice a0 0 c) hsrc
    refine wpList_plain hgd fun K hK => ?_
    unfold Oper.wp
    simp [execOp, ho, resolve, invoke, builtin, hs, hx, hrun, Result.andThen]
    exact hK _ _ (hk _ _ ⟨hown⟩ (Wrote.of_below (Below.refl _ _)))
  · obtain ⟨b, off, he, hc⟩ := h.reads.2 h0
    subst he
    refine wpList_append_own w hgd s x 22 ho base 36 i0 (.agg #[.int .i64 0, .int .i64 0, .int .i64 0, .int .i64 0, .int .i64 0]) 5 40 Try.underlying22 hi hz0 hz1 hz2 rfl (by decide) _ 0 [] hs hown ⟨b, off, none⟩ n c (evCells l) hx (by rw [evCells, flat_len Ev.vals 5 (fun _ => rfl), h.len]) (fun j u hu => by
      have := hc j u hu
      unfold Addr.add
      split
      · rename_i hj; subst hj; exact this
      · exact this) (cells_one l) (by unfold maxLen; omega) (by omega) hbase ?_
    intro v' w' h1 h2 _
    refine hk v' w' ⟨?_⟩ (Wrote.of_grown h2 (fun q hq => hq))
    rw [h.len]
    have h3 : w'.ownsRow base 36 5 v' n (evCells l) := by simpa using h1
    exact h3

end Go.Proofs.Ytjhlehepnhbbaaa
