/-
  A region that draws its order inside a round of a range over a function: by the plain law. Nothing of this seat's program stands here.
-/
import Derived.Test.YtobhandimolmhaaDoorReg3
import Derived.RangeFuncNested
import Derived.RangeFuncBound
import Derived.RangeFuncCalls
import Derived.RangeFuncLeaves
import Derived.RangeFuncFrom
import Derived.Shelf.Abstract
import Derived.Shelf.RegionOpen
import Derived.WalkKit
import Derived.OwnWalkIn
import Derived.TacticsInMore
import Derived.LoopNIn
import Derived.LoopIn
import Derived.OrdersIn
set_option linter.unusedSimpArgs false
set_option linter.unusedVariables false
namespace Go.Proofs.YtobhandimolmhaaDoor
open Go Go.RowKit

section
variable {P : Program} {ops : Array Oper} {md : Region.Mode} {Q : Exit → Act → World → Prop}

def plainOp (o : Oper) : Bool := match o.op with | .defer _ => false | _ => true
theorem plainOp_ne {o : Oper} (h : plainOp o = true) : ∀ c, o.op ≠ .defer c := fun c e => by unfold plainOp at h; rw [e] at h; cases h

theorem opIn_of_op {o : Oper} {a : Act} {w : World} {K K' : Act → World → Prop} (r n : Nat) (hd : plainOp o = true) (hK : ∀ a w, K a w → K' a w) (h : o.wp P a w K Q) : o.wpIn (Fence.wide.inRound r) n P a w K' Q := by
  unfold Oper.wp at h
  unfold Oper.wpIn
  refine ⟨fun _ _ => trivial, ?_⟩
  rw [Oper.semAt_eq _ _ _ (plainOp_ne hd)]
  generalize (execOp a.eval o).run P w = x at *
  cases x with
  | ok y w' =>
    cases y <;> simp only [Oper.upon] at h <;> simp only [Oper.uponIn]
    case value => exact hK _ _ h
    case skip => exact hK _ _ h
    case defer => exact hK _ _ h
    case enter =>
      refine ⟨fun e => by simp [Fence.wide] at e, CallsIn.inRound r (callsIn_wide.2 (Calls.mono h fun e w'' he => ?_))⟩
      cases e
      case returned => exact hK _ _ he
      case panicked => exact he
      case outgrown => exact he
    case row =>
      refine ⟨fun e => by simp [Fence.wide] at e, fun c cs _ => ?_⟩
      obtain ⟨v, w', hr, hs⟩ := h c cs
      exact ⟨v, w', hK _ _ hr, stepsIn_wide.2 hs⟩
  | halt y w' => cases y <;> simp only [Oper.upon] at h ⊢ <;> exact h

theorem wpOp_in (hL : ¬ LetsOut Q) {i : Nat} {a : Act} {w : World} {K K' : Act → World → Prop} (r n : Nat) (hd : ∀ o, ops[i]? = some o → plainOp o = true) (hK : ∀ a w, K a w → K' a w) (h : wpOp P ops Q i K a w) :
    wpOpIn (Fence.wide.inRound r) n P ops Q i K' a w := by
  unfold wpOp at h
  unfold wpOpIn
  cases ho : ops[i]? with
  | none => rw [ho] at h; exact hK _ _ h
  | some o =>
    rw [ho] at h
    simp only at h ⊢
    cases hw : Region.wanted o (yielded ops a.tmps) with
    | true =>
      rw [hw] at h
      simp only [if_true] at h ⊢
      rcases h with h | h
      · exact opIn_of_op r n (hd o ho) hK h
      · exact absurd h.2 hL
    | false =>
      rw [hw] at h
      simp only [Bool.false_eq_true, if_false] at h ⊢
      exact ⟨fun _ _ => trivial, hK _ _ h⟩
theorem wpAny_in (hL : ¬ LetsOut Q) (r n : Nat) (hd : ∀ (i : Nat) (o : Oper), ops[i]? = some o → plainOp o = true) : ∀ (fuel : Nat) (listed : Array Bool) (a : Act) (w : World), wpAny P md ops Q fuel listed a w → wpAnyIn (Fence.wide.inRound r) n P md ops Q fuel listed a w
  | 0, _, _, _, h => h
  | fuel + 1, _, _, _, h => ⟨h.1, fun i hi => wpOp_in hL r n (hd i) (fun a w h' => wpAny_in hL r n hd fuel _ a w h') (h.2 i hi)⟩

/-- A region that draws, in a round, all of it in the text's order. -/
theorem wpIn_ext_draw {id : Nat} {a : Act} {w : World} {l : List Oper} {r m : Nat} (hL : ¬ LetsOut Q) (n : Nat) (hm : P.follows .mixedOrders = true)
    (hB : (Region.textB .any l.toArray n && l.all plainOp) = true)
    (h : TextRun P l.toArray (Below w.heap.size w) (fun a' => ∀ w', Below w.heap.size w w' → wpList P l.toArray Q (l.drop n) a' w') (l.take n) a) : (Code.region id l.toArray true).wpIn (Fence.wide.inRound r) m P Q a w := by
  simp only [Bool.and_eq_true] at hB
  obtain ⟨hB, hp⟩ := hB
  have hd : ∀ (i : Nat) (o : Oper), l.toArray[i]? = some o → plainOp o = true := fun i o ho => List.all_eq_true.1 hp o (List.mem_of_getElem? (by simpa using ho))
  simp only [Region.textB, Bool.and_eq_true] at hB
  obtain ⟨⟨hsel, ht⟩, hlex⟩ := hB
  obtain ⟨hn, htail⟩ := textB_tail ht
  have hn' : n ≤ l.length := by simpa using hn
  have htl : (l.take n).length = n := by simp; omega
  have hdl : (l.drop n).length = l.toArray.size - n := by simp
  have inv0 : HeadInv .any l.toArray n (Array.replicate l.toArray.size false) :=
    ⟨by simp, fun j oj _ hl => (by rw [getD_replicate_false] at hl; cases hl), fun t _ ht => getD_in (by simpa using ht) (getD_replicate_false _ _)⟩
  have H := anyS_lex (md := .any) (g := l.toArray.size - n) hsel htail hn (l.take n) 0 _ a (fun j hj => by
    have hj' : j < n := by rw [htl] at hj; exact hj
    simp [hj']) (by simpa using htl) inv0 (by rw [htl]; exact hlex) h
  have hS0 : Below w.heap.size w { w with drawn := w.drawn + 1 } := ⟨rfl, rfl, rfl, Nat.le_refl _, fun _ _ => rfl⟩
  refine wpIn_region_any hm (wpAny_in hL r m hd _ _ _ _ ?_)
  have := wpAny_of_anyS (Q := Q) (g := l.toArray.size - n) (fun listed a' w' hL hw => by
    have := wpAny_of_seq (md := .any) (Q' := Q) (l.drop n) n listed a' w' (fun j => by simp [List.getElem?_drop]) (by rw [hdl]; exact hL.1) (hL.2 w' hw)
    rwa [hdl] at this) _ _ _ _ hS0 H
  rw [htl, show n + (l.toArray.size - n) = l.toArray.size by omega] at this
  exact this
end
end Go.Proofs.YtobhandimolmhaaDoor
