/-
  Add of a log, of any event.
-/
import Derived.Test.YtadngicebbnnlaaLogYes
set_option linter.unusedSimpArgs false
set_option linter.unusedVariables false
namespace Go.Proofs.Ytadngicebbnnlaa
open Go.ChangeShapes Go.WideShapes Go.ChangeAt Go.RowKit Go.Deep

theorem add_calls {w : World} {B b : Nat} {vl va : Value} {S : LogS} (h : LogAt w B b vl va S) (e : Ev) (hcap : (S.l.length + 1) * 40 ≤ 140737488355328) :
    Calls Try.prog 70 #[.pointer (some ⟨b, 0, none⟩), .agg #[.int .i64 e.t, .int .i64 e.k, .int .i64 e.o, .int .i64 e.v, .int .i64 e.b]] w (AddPost B b vl va S e w) := by
  cases hr : rB e
  · exact add_form h e hr
  · cases hc : canB S e.t e.k e.o
    · exact add_can h e hr hc
    · cases hk : okB S e
      · unfold okB at hk
        rw [hc, Bool.true_and] at hk
        simp only [Bool.or_eq_false_iff] at hk
        exact add_bad h e hr hc hk.1 (by rw [bne, hk.2]; rfl)
      · exact add_yes h e hr hk hcap

theorem addS_len (S : LogS) (e : Ev) : (addS S e).l.length ≤ S.l.length + 1 := by
  unfold addS; split <;> simp [turnS]
theorem LogAt.rlt {w : World} {B b : Nat} {vl va : Value} {S : LogS} (h : LogAt w B b vl va S) : ∀ x, logR b vl va x → x < w.heap.size := h.raw.rlt
theorem LogAt.base {w : World} {B b : Nat} {vl va : Value} {S : LogS} (h : LogAt w B b vl va S) : ∀ x, logR b vl va x → B ≤ x := h.raw.base
theorem LogAt.wrote {R : Nat → Prop} {w w' : World} {B b : Nat} {vl va : Value} {S : LogS} (h : LogAt w B b vl va S) (hw : Wrote R w w') (hn : ∀ x, logR b vl va x → ¬ R x) : LogAt w' B b vl va S :=
  h.frame (hw.block b h.lt (hn b (.inl rfl))) (fun g hg => hw.block g (h.ev.lt g hg).2 (hn g (.inr (.inl hg)))) (fun g hg => hw.block g (h.ab.lt g hg).2 (hn g (.inr (.inr hg))))
end Go.Proofs.Ytadngicebbnnlaa
