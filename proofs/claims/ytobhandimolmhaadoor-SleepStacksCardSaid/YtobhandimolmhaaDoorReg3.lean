/-
  Regions whose order is drawn, with pure operations behind the makers too: heads, makers, heads once more, the rest. Nothing of this seat's program stands here.
-/
import Derived.Test.YtobhandimolmhaaDoorReg2
set_option linter.unusedSimpArgs false
set_option linter.unusedVariables false
namespace Go.Proofs.YtobhandimolmhaaDoor
open Go Go.RowKit

section
variable {P : Program} {ops : Array Oper} {md : Region.Mode} {S : World → Prop} {Q : Exit → Act → World → Prop}

theorem anyHL_mono {n : Nat} {L L' : Array Bool → Act → World → Prop} (hL : ∀ l a w, L l a w → L' l a w) : ∀ (f : Nat) (l : Array Bool) (a : Act) (w : World), anyHL P md ops Q S n L f l a w → anyHL P md ops Q S n L' f l a w
  | 0, l, a, w, h => hL l a w h
  | f + 1, l, a, w, h => ⟨h.1, fun i hi => ⟨(h.2 i hi).1, wpOp_mono (fun a' w' h' => ⟨h'.1, anyHL_mono hL f _ a' w' h'.2⟩) (h.2 i hi).2⟩⟩
theorem anyHL_add {n g : Nat} {L : Array Bool → Act → World → Prop} : ∀ (f : Nat) (l : Array Bool) (a : Act) (w : World), anyHL P md ops Q S n (fun l' a' w' => anyHL P md ops Q S n L g l' a' w') f l a w → anyHL P md ops Q S n L (f + g) l a w
  | 0, l, a, w, h => by rw [Nat.zero_add]; exact h
  | f + 1, l, a, w, h => by
    rw [show f + 1 + g = (f + g) + 1 by omega]
    exact ⟨h.1, fun i hi => ⟨(h.2 i hi).1, wpOp_mono (fun a' w' h' => ⟨h'.1, anyHL_add f _ a' w' h'.2⟩) (h.2 i hi).2⟩⟩

/-- Makers, ending wherever 'E' holds of what is listed. -/
def plan3Tail (md : Region.Mode) (ops : Array Oper) (n : Nat) (E : Array Bool → Bool) : List Nat → Array Bool → Bool
  | [], listed => E listed
  | t :: ts, listed => decide (t < n) && decide (Region.ready md ops listed = [t]) && plan3Tail md ops n E ts (listed.setIfInBounds t true)
def plan3Head (md : Region.Mode) (ops : Array Oper) (n : Nat) (E : Array Bool → Bool) : List Nat → Array Bool → Bool
  | [], listed => E listed
  | h :: hs, listed => decide (h < n) && (Region.ready md ops listed).contains h && Region.free md ops listed h && plan3Head md ops n E hs (listed.setIfInBounds h true)

theorem make3_any {n f2 : Nat} {E : Array Bool → Bool} {F : Act → World → Prop} {L : Array Bool → Act → World → Prop}
    (hE : ∀ listed a w, E listed = true → HeadInv md ops n listed → S w → F a w → anyHL P md ops Q S n L f2 listed a w) :
    ∀ (ts : List Nat) (l : List Oper) (listed : Array Bool) (a : Act) (w : World), l.map some = ts.map (fun t => ops[t]?) → HeadInv md ops n listed → S w →
    plan3Tail md ops n E ts listed = true → MakeRun P S Q F l a w → anyHL P md ops Q S n L (ts.length + f2) listed a w
  | [], l, listed, a, w, hl, inv, hS, hB, h => by
    have : l = [] := by simpa using hl
    subst this
    rw [List.length_nil, Nat.zero_add]
    exact hE listed a w (by simpa [plan3Tail] using hB) inv hS h
  | t :: ts, l, listed, a, w, hl, inv, hS, hB, h => by
    cases l with
    | nil => simp at hl
    | cons o l =>
      simp only [List.map_cons, List.cons.injEq] at hl
      simp only [plan3Tail, Bool.and_eq_true, decide_eq_true_eq] at hB
      have hrt : t ∈ Region.ready md ops listed := by rw [hB.1.2]; simp
      rw [show (t :: ts).length + f2 = (ts.length + f2) + 1 by simp only [List.length_cons]; omega]
      refine ⟨by rw [hB.1.2]; simp, fun i hi => ?_⟩
      rw [hB.1.2] at hi
      have hit : i = t := by simpa using hi
      subst hit
      refine ⟨hB.1.1, ?_⟩
      unfold wpOp
      simp only [← hl.1]
      rw [if_pos (by simp [Region.wanted, h.1])]
      exact .inl (h.2 _ (fun a' w' hS' ht => ⟨hS', make3_any hE ts l _ a' w' hl.2 (inv.set hrt hB.1.1) hS' hB.2 ht⟩))

theorem head3_any {n f2 g : Nat} {E : Array Bool → Bool} {F : Act → Prop} {G : Act → World → Prop} {w : World} (hsel : Region.noSelect ops = true) (hS : S w)
    (htail : ∀ i, i < n → ∀ listed, HeadInv md ops n listed → listed.getD i true = false → ∀ t, n ≤ t → t ∉ Region.ready md ops listed)
    (hQ : ∀ c (a : Act) (d : Option Tmp) v w, Q (.panic c) (a.put d v) w → Q (.panic c) a w)
    (hE : ∀ listed a, E listed = true → HeadInv md ops n listed → F a → anyHL P md ops Q S n (fun listed' a' w' => Region.seqB md ops g n listed' = true ∧ G a' w') f2 listed a w) :
    ∀ (hs : List Nat) (l : List Oper) (listed : Array Bool) (a : Act), l.map some = hs.map (fun t => ops[t]?) → HeadInv md ops n listed →
    plan3Head md ops n E hs listed = true → ReadRun P ops S F l a →
    anyHL P md ops Q S n (fun listed' a' w' => Region.seqB md ops g n listed' = true ∧ G a' w') (hs.length + f2) listed a w
  | [], l, listed, a, hl, inv, hB, h => by
    have : l = [] := by simpa using hl
    subst this
    rw [List.length_nil, Nat.zero_add]
    exact hE listed a (by simpa [plan3Head] using hB) inv h
  | i :: hs, l, listed, a, hl, inv, hB, h => by
    cases l with
    | nil => simp at hl
    | cons o l =>
      simp only [List.map_cons, List.cons.injEq] at hl
      simp only [plan3Head, Bool.and_eq_true, decide_eq_true_eq] at hB
      obtain ⟨⟨⟨hin, hr⟩, hf⟩, hB'⟩ := hB
      obtain ⟨v, hy, hk⟩ := h
      have hr' : i ∈ Region.ready md ops listed := by simpa using hr
      have := anyHL_first (md := md) hl.1.symm (Region.noSelect_spec hsel) (fun listed' a' w' hL => seqB_ready hL.1) (htail i hin) hin (fun c a w => hQ c a _ _ w) (hs.length + f2) listed a w inv
        (Region.free_spec hl.1.symm hf) hr' hy hS (head3_any hsel hS htail hQ hE hs l _ _ hl.2 (inv.set hr' hin) hB' hk)
      rwa [show (i :: hs).length + f2 = hs.length + f2 + 1 by simp only [List.length_cons]; omega]

def plan3B (md : Region.Mode) (ops : Array Oper) (n : Nat) (hs ts ps : List Nat) : Bool :=
  Region.noSelect ops && (decide (n = ops.size) || decide (n < ops.size) && Region.sinkB md ops n && Region.chainB md ops n) && decide (hs.length + (ts.length + (ps.length + 0)) = n) &&
  plan3Head md ops n (fun l1 => plan3Tail md ops n (fun l2 => plan3Head md ops n (fun l3 => Region.seqB md ops (ops.size - n) n l3) ps l2) ts l1) hs (Array.replicate ops.size false)

/-- THE RULE: heads hs (they only read), makers ts (one behind the other), heads once more ps, the rest from n on (they wait for all). -/
theorem wp_plan3_draw {id : Nat} {a : Act} {w : World} {l : List Oper} (n : Nat) (hs ts ps : List Nat) (S : World → Prop) (hm : P.follows .mixedOrders = true)
    (hB : (plan3B .any l.toArray n hs ts ps && (hs ++ (ts ++ ps)).all (fun t => decide (t < l.length))) = true)
    (hQ : ∀ c (a : Act) (d : Option Tmp) v w, Q (.panic c) (a.put d v) w → Q (.panic c) a w) (hS : S { w with drawn := w.drawn + 1 })
    (h : ReadRun P l.toArray S (fun a' => MakeRun P S Q (fun a2 w2 => ReadRun P l.toArray S (fun a3 => wpList P l.toArray Q (l.drop n) a3 w2) (picks l ps) a2) (picks l ts) a' { w with drawn := w.drawn + 1 }) (picks l hs) a) : (Code.region id l.toArray true).wp P Q a w := by
  simp only [plan3B, Bool.and_eq_true, decide_eq_true_eq, List.all_append] at hB
  obtain ⟨⟨⟨⟨hsel, ht⟩, hlen⟩, hB⟩, hb1, hb2, hb3⟩ := hB
  obtain ⟨hn, htail⟩ := textB_tail ht
  have hdl : (l.drop n).length = l.toArray.size - n := by simp
  have inv0 : HeadInv .any l.toArray n (Array.replicate l.toArray.size false) :=
    ⟨by simp, fun j oj _ hl => (by rw [getD_replicate_false] at hl; cases hl), fun t _ ht => getD_in (by simpa using ht) (getD_replicate_false _ _)⟩
  have H := head3_any (md := .any) (S := S) (Q := Q) (n := n) (f2 := ts.length + (ps.length + 0)) (g := l.toArray.size - n) (G := fun a' w' => wpList P l.toArray Q (l.drop n) a' w') hsel hS htail hQ
    (fun listed a hE inv hF => make3_any (f2 := ps.length + 0) (fun listed2 a2 w2 hE2 inv2 hS2 hF2 => head3_any (f2 := 0) hsel hS2 htail hQ (fun listed3 a3 hE3 inv3 hF3 => ⟨hE3, hF3⟩) ps (picks l ps) listed2 a2 (picks_spec l ps hb3) inv2 hE2 hF2) ts (picks l ts) listed a _ (picks_spec l ts hb2) inv hS hE hF)
    hs (picks l hs) _ a (picks_spec l hs hb1) inv0 hB h
  refine wp_region_any hm ?_
  have := wpAny_of_anyHL (g := l.toArray.size - n) (fun listed a' w' hL => by
    have := wpAny_of_seq (md := .any) (Q' := Q) (l.drop n) n listed a' w' (fun j => by simp [List.getElem?_drop]) (by rw [hdl]; exact hL.1) hL.2
    rwa [hdl] at this) _ _ _ _ H
  rw [hlen, show n + (l.toArray.size - n) = l.toArray.size by omega] at this
  exact this
end
end Go.Proofs.YtobhandimolmhaaDoor
