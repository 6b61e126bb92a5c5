/-
  Regions whose order is drawn, whose last operations may be guarded ones that are wanted. Nothing of this seat's program stands here.
-/
import Derived.Test.YthooddkoldfebaaReg3
set_option linter.unusedSimpArgs false
set_option linter.unusedVariables false
namespace Go.Proofs.Ythooddkoldfebaa
open Go Go.RowKit

section
variable {P : Program} {ops : Array Oper} {md : Region.Mode} {S : World → Prop}

def TailRunG (P : Program) (ops : Array Oper) (S : World → Prop) (Q : Exit → Act → World → Prop) : List Oper → Act → World → Prop
  | [], a, w => Q .normal a w
  | o :: rest, a, w => Region.wanted o (yielded ops a.tmps) = true ∧ ∀ K : Act → World → Prop, (∀ a' w', S w' → TailRunG P ops S Q rest a' w' → K a' w') → o.wp P a w K Q

theorem tailG_any {Q : Exit → Act → World → Prop} : ∀ (ts : List Nat) (l : List Oper) (listed : Array Bool) (a : Act) (w : World), l.map some = ts.map (fun t => ops[t]?) →
    planTail md ops ts listed = true → TailRunG P ops S Q l a w → wpAnyH P md ops Q S ts.length listed a w
  | [], l, listed, a, w, hl, hB, h => by
    have : l = [] := by simpa using hl
    subst this
    exact wpAnyH_done (by simpa [planTail] using hB) h _
  | t :: ts, l, listed, a, w, hl, hB, h => by
    cases l with
    | nil => simp at hl
    | cons o l =>
      simp only [List.map_cons, List.cons.injEq] at hl
      simp only [planTail, Bool.and_eq_true, decide_eq_true_eq] at hB
      refine wpAnyH_all hB.1 (by simp) (fun i hi => ?_)
      have hit : i = t := by simpa using hi
      subst hit
      unfold wpOp
      simp only [← hl.1]
      rw [if_pos h.1]
      exact .inl (h.2 _ (fun a' w' hS ht => ⟨hS, tailG_any ts l _ a' w' hl.2 hB.2 ht⟩))

theorem headG_any {Q : Exit → Act → World → Prop} {ts : List Nat} {lt : List Oper} {w : World} (hsel : Region.noSelect ops = true) (hlt : lt.map some = ts.map (fun t => ops[t]?)) (hS : S w) (hQ : ∀ c (a : Act) (d : Option Tmp) v w, Q (.panic c) (a.put d v) w → Q (.panic c) a w) :
    ∀ (hs : List Nat) (l : List Oper) (listed : Array Bool) (a : Act), l.map some = hs.map (fun t => ops[t]?) →
    planHead md ops ts hs listed = true → ReadRun P ops S (fun a' => TailRunG P ops S Q lt a' w) l a → wpAnyH P md ops Q S (hs.length + ts.length) listed a w
  | [], l, listed, a, hl, hB, h => by
    have : l = [] := by simpa using hl
    subst this
    simp only [List.length_nil, Nat.zero_add]
    exact tailG_any ts lt listed a w hlt (by simpa [planHead] using hB) h
  | i :: hs, l, listed, a, hl, hB, h => by
    cases l with
    | nil => simp at hl
    | cons o l =>
      simp only [List.map_cons, List.cons.injEq] at hl
      simp only [planHead, Bool.and_eq_true] at hB
      obtain ⟨v, hy, hk⟩ := h
      have := wpAnyH_take (i := i) (oi := o) (v := v) (fuel := hs.length + ts.length) (listed := listed) (a := a) (w := w) hl.1.symm hsel hB.1.2 hB.1.1 (fun c a w => hQ c a _ _ w) hy hS (headG_any hsel hlt hS hQ hs l _ _ hl.2 hB.2 hk)
      rwa [show (i :: hs).length + ts.length = hs.length + ts.length + 1 by simp only [List.length_cons]; omega]

/-- THE RULE: heads hs (they only read), then ts, one behind the other, each of them wanted. -/
theorem wp_plang_draw {id : Nat} {Q : Exit → Act → World → Prop} {a : Act} {w : World} {l : List Oper} (hs ts : List Nat) (S : World → Prop) (hm : P.follows .mixedOrders = true)
    (hB : (planB .any l.toArray hs ts && (hs ++ ts).all (fun t => decide (t < l.length))) = true)
    (hQ : ∀ c (a : Act) (d : Option Tmp) v w, Q (.panic c) (a.put d v) w → Q (.panic c) a w) (hS : S { w with drawn := w.drawn + 1 })
    (h : ReadRun P l.toArray S (fun a' => TailRunG P l.toArray S Q (picks l ts) a' { w with drawn := w.drawn + 1 }) (picks l hs) a) : (Code.region id l.toArray true).wp P Q a w := by
  simp only [planB, Bool.and_eq_true, decide_eq_true_eq, List.all_append] at hB
  obtain ⟨⟨⟨hsel, hlen⟩, hB⟩, hb1, hb2⟩ := hB
  refine wp_region_held (S := S) hm ?_
  have := headG_any (md := .any) (Q := Q) hsel (picks_spec l ts hb2) hS hQ hs (picks l hs) (Array.replicate l.toArray.size false) a (picks_spec l hs hb1) hB h
  rwa [hlen] at this

theorem TailRunG.go {Q : Exit → Act → World → Prop} {o : Oper} {rest : List Oper} {a : Act} {w : World} (hg : Region.wanted o (yielded ops a.tmps) = true)
    (h : ∀ K : Act → World → Prop, (∀ a' w', S w' ∧ TailRunG P ops S Q rest a' w' → K a' w') → o.wp P a w K Q) : TailRunG P ops S Q (o :: rest) a w :=
  ⟨hg, fun K hK => h K (fun a' w' h' => hK a' w' h'.1 h'.2)⟩
theorem TailRunG.done {Q : Exit → Act → World → Prop} {a : Act} {w : World} (h : Q .normal a w) : TailRunG P ops S Q [] a w := h
theorem ReadRun.wantedG {F : Act → Prop} {o : Oper} {rest : List Oper} {a : Act} {v : Value} (hg : Region.wanted o (yielded ops a.tmps) = true)
    (h : ∀ w, S w → (execOp a.eval o).run P w = .ok (.value v) w) (hr : ReadRun P ops S F rest (a.put o.dst v)) : ReadRun P ops S F (o :: rest) a := ⟨v, .inl ⟨hg, h⟩, hr⟩
end
end Go.Proofs.Ythooddkoldfebaa
