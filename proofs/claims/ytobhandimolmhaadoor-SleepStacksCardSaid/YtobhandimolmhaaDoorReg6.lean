/-
  Regions whose order is drawn: heads, makers, heads, makers, the rest. Nothing of this seat's program stands here.
-/
import Derived.Test.YtobhandimolmhaaDoorReg5
set_option linter.unusedSimpArgs false
set_option linter.unusedVariables false
namespace Go.Proofs.YtobhandimolmhaaDoor
open Go Go.RowKit

section
variable {P : Program}
def plan4B (md : Region.Mode) (ops : Array Oper) (n : Nat) (hs ts ps us : List Nat) : Bool :=
  Region.noSelect ops && (decide (n = ops.size) || decide (n < ops.size) && Region.sinkB md ops n && Region.chainB md ops n) && decide (hs.length + (ts.length + (ps.length + (us.length + 0))) = n) &&
  plan3Head md ops n (fun l1 => plan3Tail md ops n (fun l2 => plan3Head md ops n (fun l3 => plan3Tail md ops n (fun l4 => Region.seqB md ops (ops.size - n) n l4) us l3) ps l2) ts l1) hs (Array.replicate ops.size false)

/-- THE RULE: heads hs (they only read), makers ts (one behind the other), heads once more ps, makers us, the rest from n on (they wait for all). -/
theorem wp_plan4_draw {id : Nat} {Q : Exit → Act → World → Prop} {a : Act} {w : World} {l : List Oper} (n : Nat) (hs ts ps us : List Nat) (S : World → Prop) (hm : P.follows .mixedOrders = true)
    (hB : (plan4B .any l.toArray n hs ts ps us && (hs ++ (ts ++ (ps ++ us))).all (fun t => decide (t < l.length))) = true)
    (hQ : ∀ c (a : Act) (d : Option Tmp) v w, Q (.panic c) (a.put d v) w → Q (.panic c) a w) (hS : S { w with drawn := w.drawn + 1 })
    (h : ReadRun P l.toArray S (fun a' => MakeRun P S Q (fun a2 w2 => ReadRun P l.toArray S (fun a3 => MakeRun P S Q (fun a4 w4 => wpList P l.toArray Q (l.drop n) a4 w4) (picks l us) a3 w2) (picks l ps) a2) (picks l ts) a' { w with drawn := w.drawn + 1 }) (picks l hs) a) : (Code.region id l.toArray true).wp P Q a w := by
  simp only [plan4B, Bool.and_eq_true, decide_eq_true_eq, List.all_append] at hB
  obtain ⟨⟨⟨⟨hsel, ht⟩, hlen⟩, hB⟩, hb1, hb2, hb3, hb4⟩ := hB
  obtain ⟨hn, htail⟩ := textB_tail ht
  have hdl : (l.drop n).length = l.toArray.size - n := by simp
  have inv0 : HeadInv .any l.toArray n (Array.replicate l.toArray.size false) :=
    ⟨by simp, fun j oj _ hl => (by rw [getD_replicate_false] at hl; cases hl), fun t _ ht => getD_in (by simpa using ht) (getD_replicate_false _ _)⟩
  have H := head3_any (md := .any) (S := S) (Q := Q) (n := n) (f2 := ts.length + (ps.length + (us.length + 0))) (g := l.toArray.size - n) (G := fun a' w' => wpList P l.toArray Q (l.drop n) a' w') hsel hS htail hQ
    (fun listed a hE inv hF => make3_any (f2 := ps.length + (us.length + 0))
      (fun listed2 a2 w2 hE2 inv2 hS2 hF2 => head3_any (f2 := us.length + 0) hsel hS2 htail hQ
        (fun listed3 a3 hE3 inv3 hF3 => make3_any (f2 := 0) (F := fun a' w' => wpList P l.toArray Q (l.drop n) a' w') (L := fun l' a' w' => Region.seqB .any l.toArray (l.toArray.size - n) n l' = true ∧ wpList P l.toArray Q (l.drop n) a' w') (fun listed4 a4 w4 hE4 inv4 hS4 hF4 => And.intro hE4 hF4) us (picks l us) listed3 a3 w2 (picks_spec l us hb4) inv3 hS2 hE3 hF3)
        ps (picks l ps) listed2 a2 (picks_spec l ps hb3) inv2 hE2 hF2)
      ts (picks l ts) listed a _ (picks_spec l ts hb2) inv hS hE hF)
    hs (picks l hs) _ a (picks_spec l hs hb1) inv0 hB h
  refine wp_region_any hm ?_
  have := wpAny_of_anyHL (g := l.toArray.size - n) (fun listed a' w' hL => by
    have := wpAny_of_seq (md := .any) (Q' := Q) (l.drop n) n listed a' w' (fun j => by simp [List.getElem?_drop]) (by rw [hdl]; exact hL.1) hL.2
    rwa [hdl] at this) _ _ _ _ H
  rw [hlen, show n + (l.toArray.size - n) = l.toArray.size by omega] at this
  exact this

/-- Two makers, either way round, then a third. -/
def DuoRun (P : Program) (S : World → Prop) (Q : Exit → Act → World → Prop) (F : Act → World → Prop) (p r t : Oper) (a : Act) (w : World) : Prop :=
  MStep P S Q (MStep P S Q (MStep P S Q F t) r) p a w ∧ MStep P S Q (MStep P S Q (MStep P S Q F t) p) r a w
def duoB (md : Region.Mode) (ops : Array Oper) (n p r t : Nat) (L : Array Bool) : Bool :=
  decide (p < n) && decide (r < n) && decide (t < n) &&
  decide (Region.ready md ops L = [p, r]) && decide (Region.ready md ops (L.setIfInBounds p true) = [r]) && decide (Region.ready md ops (L.setIfInBounds r true) = [p]) &&
  decide (Region.ready md ops ((L.setIfInBounds p true).setIfInBounds r true) = [t]) && decide (Region.ready md ops ((L.setIfInBounds r true).setIfInBounds p true) = [t]) &&
  Region.seqB md ops (ops.size - n) n (((L.setIfInBounds p true).setIfInBounds r true).setIfInBounds t true) && Region.seqB md ops (ops.size - n) n (((L.setIfInBounds r true).setIfInBounds p true).setIfInBounds t true)
theorem duo_any {md : Region.Mode} {ops : Array Oper} {S : World → Prop} {Q : Exit → Act → World → Prop} {n p r t : Nat} {F : Act → World → Prop} {op or ot : Oper} {listed : Array Bool} {a : Act} {w : World} (hp : ops[p]? = some op) (hr : ops[r]? = some or) (ht : ops[t]? = some ot) (hB : duoB md ops n p r t listed = true) (h : DuoRun P S Q F op or ot a w) :
    anyHL P md ops Q S n (fun l' a' w' => Region.seqB md ops (ops.size - n) n l' = true ∧ F a' w') 3 listed a w := by
  simp only [duoB, Bool.and_eq_true, decide_eq_true_eq] at hB
  obtain ⟨⟨⟨⟨⟨⟨⟨⟨⟨b1, b2⟩, b3⟩, r1⟩, r2⟩, r3⟩, r4⟩, r5⟩, s1⟩, s2⟩ := hB
  refine node2 r1 b1 b2 hp hr h.1 (fun a1 w1 _ h1 => ?_) h.2 (fun a1 w1 _ h1 => ?_)
  · exact node1 r2 b2 hr h1 (fun a2 w2 _ h2 => node1 r4 b3 ht h2 (fun a3 w3 _ h3 => ⟨s1, h3⟩))
  · exact node1 r3 b1 hp h1 (fun a2 w2 _ h2 => node1 r5 b3 ht h2 (fun a3 w3 _ h3 => ⟨s2, h3⟩))
theorem wp_duo_draw {id : Nat} {Q : Exit → Act → World → Prop} {a : Act} {w : World} {l : List Oper} (n : Nat) (hs : List Nat) (p r t : Nat) (S : World → Prop) (hm : P.follows .mixedOrders = true)
    (hB : ((Region.noSelect l.toArray && (decide (n = l.toArray.size) || decide (n < l.toArray.size) && Region.sinkB .any l.toArray n && Region.chainB .any l.toArray n) && decide (hs.length + 3 = n) &&
      plan3Head .any l.toArray n (duoB .any l.toArray n p r t) hs (Array.replicate l.toArray.size false)) && (hs ++ [p, r, t]).all (fun t => decide (t < l.length))) = true)
    (hQ : ∀ c (a : Act) (d : Option Tmp) v w, Q (.panic c) (a.put d v) w → Q (.panic c) a w) (hS : S { w with drawn := w.drawn + 1 })
    (h : ReadRun P l.toArray S (fun a' => DuoRun P S Q (fun a2 w2 => wpList P l.toArray Q (l.drop n) a2 w2) (l.getD p default) (l.getD r default) (l.getD t default) a' { w with drawn := w.drawn + 1 }) (picks l hs) a) : (Code.region id l.toArray true).wp P Q a w := by
  simp only [Bool.and_eq_true, decide_eq_true_eq, List.all_append] at hB
  obtain ⟨⟨⟨⟨hsel, ht⟩, hlen⟩, hB⟩, hb1, hb2⟩ := hB
  obtain ⟨hn, htail⟩ := textB_tail ht
  have hdl : (l.drop n).length = l.toArray.size - n := by simp
  have inv0 : HeadInv .any l.toArray n (Array.replicate l.toArray.size false) :=
    ⟨by simp, fun j oj _ hl => (by rw [getD_replicate_false] at hl; cases hl), fun t _ ht => getD_in (by simpa using ht) (getD_replicate_false _ _)⟩
  have hat : ∀ t, t < l.length → l.toArray[t]? = some (l.getD t default) := fun t ht => by
    rw [List.getElem?_toArray, List.getD_eq_getElem?_getD, List.getElem?_eq_getElem ht]; rfl
  simp only [List.all_cons, List.all_nil, Bool.and_true, Bool.and_eq_true, decide_eq_true_eq] at hb2
  have H := head3_any (md := .any) (S := S) (Q := Q) (n := n) (f2 := 3) (g := l.toArray.size - n) (G := fun a' w' => wpList P l.toArray Q (l.drop n) a' w') hsel hS htail hQ
    (fun listed a hE inv hF => duo_any (hat p hb2.1) (hat r hb2.2.1) (hat t hb2.2.2) hE hF)
    hs (picks l hs) _ a (picks_spec l hs hb1) inv0 hB h
  refine wp_region_any hm ?_
  have := wpAny_of_anyHL (g := l.toArray.size - n) (fun listed a' w' hL => by
    have := wpAny_of_seq (md := .any) (Q' := Q) (l.drop n) n listed a' w' (fun j => by simp [List.getElem?_drop]) (by rw [hdl]; exact hL.1) hL.2
    rwa [hdl] at this) _ _ _ _ H
  rw [hlen, show n + (l.toArray.size - n) = l.toArray.size by omega] at this
  exact this
theorem DuoRun.cut {S : World → Prop} {Q : Exit → Act → World → Prop} {F : Act → World → Prop} {p r t : Oper} {A : Act} {w : World} (R : Value → Value → World → Prop)
    (h : DuoRun P S Q (fun a2 w2 => ∃ u v, a2 = ((A.put p.dst u).put r.dst v).put t.dst undef ∧ R u v w2) p r t A w)
    (k : ∀ u v w2, R u v w2 → F (((A.put p.dst u).put r.dst v).put t.dst undef) w2) : DuoRun P S Q F p r t A w := by
  have hk : ∀ a2 w2, S w2 → (∃ u v, a2 = ((A.put p.dst u).put r.dst v).put t.dst undef ∧ R u v w2) → F a2 w2 := fun a2 w2 _ ⟨u, v, he, hr⟩ => by rw [he]; exact k u v w2 hr
  exact ⟨h.1.mono fun a1 w1 _ h1 => h1.mono fun a2 w2 _ h2 => h2.mono hk, h.2.mono fun a1 w1 _ h1 => h1.mono fun a2 w2 _ h2 => h2.mono hk⟩
end
end Go.Proofs.YtobhandimolmhaaDoor
