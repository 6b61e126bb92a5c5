/-
  Findings: plain theory; Compare, Merge and Of of the program; the document's Compare, Merge, Same; the statements' walks.
-/
import Derived.Test.YtadngicebbnnlaaGreatReg3
import Derived.Test.YtadngicebbnnlaaGreatRaceB
import Derived.Test.YtadngicebbnnlaaGreatData
import Derived.Test.YtadngicebbnnlaaGreatCmp
import Derived.Test.YtadngicebbnnlaaGreatRises
import Derived.Test.YtadngicebbnnlaaGreatOrdX
import Derived.Test.YtadngicebbnnlaaGreatApp
import Derived.Test.YtadngicebbnnlaaGreatConf
import Derived.Test.YtadngicebbnnlaaGreatRBef
import Derived.Deep.Cut
import Derived.Maps.Keyed
import Derived.WideKeyEntry
import Derived.Carry
import Derived.OwnWalk
import Derived.Shelf.SlSortCmp.WholeK
import Derived.Test.YtadngicebbnnlaaGreatProg
import Derived.Test.YtadngicebbnnlaaGreatSorted
import Derived.Maps.OwnOps
import Derived.Deep.Upon
import Derived.Test.YtadngicebbnnlaaGreatLogAll
import Derived.Test.YtadngicebbnnlaaGreatRac3
import Derived.Test.YtadngicebbnnlaaGreatOf
set_option linter.unusedSimpArgs false
set_option linter.unusedVariables false
namespace Go.Proofs.YtadngicebbnnlaaGreat
open Go Go.RowKit

section
variable {P : Program} {ops : Array Oper} {md : Region.Mode} {S : World → Prop} {Q : Exit → Act → World → Prop}

/-- One maker; F: what is behind it. -/
def MStep (P : Program) (S : World → Prop) (Q : Exit → Act → World → Prop) (F : Act → World → Prop) (o : Oper) (a : Act) (w : World) : Prop :=
  o.guard = none ∧ ∀ K : Act → World → Prop, (∀ a' w', S w' → F a' w' → K a' w') → o.wp P a w K Q
theorem MStep.go {F : Act → World → Prop} {o : Oper} {a : Act} {w : World} (hg : o.guard = none) (h : ∀ K : Act → World → Prop, (∀ a' w', S w' ∧ F a' w' → K a' w') → o.wp P a w K Q) : MStep P S Q F o a w := ⟨hg, fun K hK => h K (fun a' w' h' => hK a' w' h'.1 h'.2)⟩
theorem step_any {n f x : Nat} {L : Array Bool → Act → World → Prop} {F : Act → World → Prop} {listed : Array Bool} {o : Oper} {a : Act} {w : World} (ho : ops[x]? = some o) (h : MStep P S Q F o a w)
    (k : ∀ a' w', S w' → F a' w' → anyHL P md ops Q S n L f (listed.setIfInBounds x true) a' w') : wpOp P ops Q x (fun a' w' => S w' ∧ anyHL P md ops Q S n L f (listed.setIfInBounds x true) a' w') a w := by
  unfold wpOp
  simp only [ho]
  rw [if_pos (by simp [Region.wanted, h.1])]
  exact .inl (h.2 _ (fun a' w' hS ht => ⟨hS, k a' w' hS ht⟩))
theorem node1 {n f x : Nat} {L : Array Bool → Act → World → Prop} {F : Act → World → Prop} {listed : Array Bool} {o : Oper} {a : Act} {w : World} (hr : Region.ready md ops listed = [x]) (hx : x < n) (ho : ops[x]? = some o) (h : MStep P S Q F o a w)
    (k : ∀ a' w', S w' → F a' w' → anyHL P md ops Q S n L f (listed.setIfInBounds x true) a' w') : anyHL P md ops Q S n L (f + 1) listed a w := by
  refine ⟨by rw [hr]; simp, fun i hi => ?_⟩
  rw [hr] at hi
  have hix : i = x := by simpa using hi
  subst hix
  exact ⟨hx, step_any ho h k⟩
theorem node2 {n f x y : Nat} {L : Array Bool → Act → World → Prop} {F G : Act → World → Prop} {listed : Array Bool} {o u : Oper} {a : Act} {w : World} (hr : Region.ready md ops listed = [x, y]) (hx : x < n) (hy : y < n) (ho : ops[x]? = some o) (hu : ops[y]? = some u)
    (h : MStep P S Q F o a w) (k : ∀ a' w', S w' → F a' w' → anyHL P md ops Q S n L f (listed.setIfInBounds x true) a' w')
    (h' : MStep P S Q G u a w) (k' : ∀ a' w', S w' → G a' w' → anyHL P md ops Q S n L f (listed.setIfInBounds y true) a' w') : anyHL P md ops Q S n L (f + 1) listed a w := by
  refine ⟨by rw [hr]; simp, fun i hi => ?_⟩
  rw [hr] at hi
  rcases List.mem_cons.1 hi with rfl | hi
  · exact ⟨hx, step_any ho h k⟩
  · have hiy : i = y := by simpa using hi
    subst hiy
    exact ⟨hy, step_any hu h' k'⟩

/-- p ahead of q, r by itself. -/
def VeeRun (P : Program) (S : World → Prop) (Q : Exit → Act → World → Prop) (F : Act → World → Prop) (p q r : Oper) (a : Act) (w : World) : Prop :=
  MStep P S Q (fun a w => MStep P S Q (MStep P S Q F r) q a w ∧ MStep P S Q (MStep P S Q F q) r a w) p a w ∧ MStep P S Q (MStep P S Q (MStep P S Q F q) p) r a w
def veeB (md : Region.Mode) (ops : Array Oper) (n p q r : Nat) (L : Array Bool) : Bool :=
  decide (p < n) && decide (q < n) && decide (r < n) &&
  decide (Region.ready md ops L = [p, r]) && decide (Region.ready md ops (L.setIfInBounds p true) = [q, r]) && decide (Region.ready md ops ((L.setIfInBounds p true).setIfInBounds q true) = [r]) &&
  decide (Region.ready md ops ((L.setIfInBounds p true).setIfInBounds r true) = [q]) && decide (Region.ready md ops (L.setIfInBounds r true) = [p]) && decide (Region.ready md ops ((L.setIfInBounds r true).setIfInBounds p true) = [q]) &&
  Region.seqB md ops (ops.size - n) n (((L.setIfInBounds p true).setIfInBounds q true).setIfInBounds r true) && Region.seqB md ops (ops.size - n) n (((L.setIfInBounds p true).setIfInBounds r true).setIfInBounds q true) &&
  Region.seqB md ops (ops.size - n) n (((L.setIfInBounds r true).setIfInBounds p true).setIfInBounds q true)
theorem vee_any {n p q r : Nat} {F : Act → World → Prop} {op oq or : Oper} {listed : Array Bool} {a : Act} {w : World} (hp : ops[p]? = some op) (hq : ops[q]? = some oq) (hr : ops[r]? = some or) (hB : veeB md ops n p q r listed = true) (h : VeeRun P S Q F op oq or a w) :
    anyHL P md ops Q S n (fun l' a' w' => Region.seqB md ops (ops.size - n) n l' = true ∧ F a' w') 3 listed a w := by
  simp only [veeB, Bool.and_eq_true, decide_eq_true_eq] at hB
  obtain ⟨⟨⟨⟨⟨⟨⟨⟨⟨⟨⟨b1, b2⟩, b3⟩, r1⟩, r2⟩, r3⟩, r4⟩, r5⟩, r6⟩, s1⟩, s2⟩, s3⟩ := hB
  refine node2 r1 b1 b3 hp hr h.1 (fun a1 w1 _ h1 => ?_) h.2 (fun a1 w1 _ h1 => ?_)
  · exact node2 r2 b2 b3 hq hr h1.1 (fun a2 w2 _ h2 => node1 r3 b3 hr h2 (fun a3 w3 _ h3 => ⟨s1, h3⟩)) h1.2 (fun a2 w2 _ h2 => node1 r4 b2 hq h2 (fun a3 w3 _ h3 => ⟨s2, h3⟩))
  · exact node1 r5 b1 hp h1 (fun a2 w2 _ h2 => node1 r6 b2 hq h2 (fun a3 w3 _ h3 => ⟨s3, h3⟩))

/-- THE RULE: heads hs (they only read), then makers p ahead of q with r beside them, the rest from n on (they wait for all). -/
theorem wp_vee_draw {id : Nat} {a : Act} {w : World} {l : List Oper} (n : Nat) (hs : List Nat) (p q r : Nat) (S : World → Prop) (hm : P.follows .mixedOrders = true)
    (hB : ((Region.noSelect l.toArray && (decide (n = l.toArray.size) || decide (n < l.toArray.size) && Region.sinkB .any l.toArray n && Region.chainB .any l.toArray n) && decide (hs.length + 3 = n) &&
      plan3Head .any l.toArray n (veeB .any l.toArray n p q r) hs (Array.replicate l.toArray.size false)) && (hs ++ [p, q, r]).all (fun t => decide (t < l.length))) = true)
    (hQ : ∀ c (a : Act) (d : Option Tmp) v w, Q (.panic c) (a.put d v) w → Q (.panic c) a w) (hS : S { w with drawn := w.drawn + 1 })
    (h : ReadRun P l.toArray S (fun a' => VeeRun P S Q (fun a2 w2 => wpList P l.toArray Q (l.drop n) a2 w2) (l.getD p default) (l.getD q default) (l.getD r default) a' { w with drawn := w.drawn + 1 }) (picks l hs) a) : (Code.region id l.toArray true).wp P Q a w := by
  simp only [Bool.and_eq_true, decide_eq_true_eq, List.all_append] at hB
  obtain ⟨⟨⟨⟨hsel, ht⟩, hlen⟩, hB⟩, hb1, hb2⟩ := hB
  obtain ⟨hn, htail⟩ := textB_tail ht
  have hdl : (l.drop n).length = l.toArray.size - n := by simp
  have inv0 : HeadInv .any l.toArray n (Array.replicate l.toArray.size false) :=
    ⟨by simp, fun j oj _ hl => (by rw [getD_replicate_false] at hl; cases hl), fun t _ ht => getD_in (by simpa using ht) (getD_replicate_false _ _)⟩
  have hat : ∀ t, t < l.length → l.toArray[t]? = some (l.getD t default) := fun t ht => by
    rw [List.getElem?_toArray, List.getD_eq_getElem?_getD, List.getElem?_eq_getElem ht]; rfl
  simp only [List.all_cons, List.all_nil, Bool.and_true, Bool.and_eq_true, decide_eq_true_eq] at hb2
  have H := head3_any (md := .any) (S := S) (Q := Q) (n := n) (f2 := 3) (g := l.toArray.size - n) (G := fun a' w' => wpList P l.toArray Q (l.drop n) a' w') hsel hS htail hQ
    (fun listed a hE inv hF => vee_any (hat p hb2.1) (hat q hb2.2.1) (hat r hb2.2.2) hE hF)
    hs (picks l hs) _ a (picks_spec l hs hb1) inv0 hB h
  refine wp_region_any hm ?_
  have := wpAny_of_anyHL (g := l.toArray.size - n) (fun listed a' w' hL => by
    have := wpAny_of_seq (md := .any) (Q' := Q) (l.drop n) n listed a' w' (fun j => by simp [List.getElem?_drop]) (by rw [hdl]; exact hL.1) hL.2
    rwa [hdl] at this) _ _ _ _ H
  rw [hlen, show n + (l.toArray.size - n) = l.toArray.size by omega] at this
  exact this
theorem MStep.mono {F G : Act → World → Prop} {o : Oper} {a : Act} {w : World} (h : MStep P S Q F o a w) (hk : ∀ a' w', S w' → F a' w' → G a' w') : MStep P S Q G o a w :=
  ⟨h.1, fun K hK => h.2 K fun a' w' hS hf => hK a' w' hS (hk a' w' hS hf)⟩
/-- The ways meet again: what is left of the order are the three values and what is said of them. -/
theorem VeeRun.cut {F : Act → World → Prop} {p q r : Oper} {A : Act} {w : World} (R : Value → Value → Value → World → Prop)
    (h : VeeRun P S Q (fun a2 w2 => ∃ u v x, a2 = ((A.put p.dst u).put q.dst v).put r.dst x ∧ R u v x w2) p q r A w)
    (k : ∀ u v x w2, R u v x w2 → F (((A.put p.dst u).put q.dst v).put r.dst x) w2) : VeeRun P S Q F p q r A w := by
  have hk : ∀ a2 w2, S w2 → (∃ u v x, a2 = ((A.put p.dst u).put q.dst v).put r.dst x ∧ R u v x w2) → F a2 w2 := fun a2 w2 _ ⟨u, v, x, he, hr⟩ => by rw [he]; exact k u v x w2 hr
  exact ⟨h.1.mono fun a1 w1 _ h1 => ⟨h1.1.mono fun a2 w2 _ h2 => h2.mono hk, h1.2.mono fun a2 w2 _ h2 => h2.mono hk⟩, h.2.mono fun a1 w1 _ h1 => h1.mono fun a2 w2 _ h2 => h2.mono hk⟩
end
end Go.Proofs.YtadngicebbnnlaaGreat

namespace Go.Proofs.YtadngicebbnnlaaGreat
open Go Go.RowKit

section
variable {P : Program}
def plan4B (md : Region.Mode) (ops : Array Oper) (n : Nat) (hs ts ps us : List Nat) : Bool :=
  Region.noSelect ops && (decide (n = ops.size) || decide (n < ops.size) && Region.sinkB md ops n && Region.chainB md ops n) && decide (hs.length + (ts.length + (ps.length + (us.length + 0))) = n) &&
  plan3Head md ops n (fun l1 => plan3Tail md ops n (fun l2 => plan3Head md ops n (fun l3 => plan3Tail md ops n (fun l4 => Region.seqB md ops (ops.size - n) n l4) us l3) ps l2) ts l1) hs (Array.replicate ops.size false)

/-- THE RULE: heads hs (they only read), makers ts (one behind the other), heads once more ps, makers us, the rest from n on (they wait for all). -/
theorem wp_plan4_draw {id : Nat} {Q : Exit → Act → World → Prop} {a : Act} {w : World} {l : List Oper} (n : Nat) (hs ts ps us : List Nat) (S : World → Prop) (hm : P.follows .mixedOrders = true)
    (hB : (plan4B .any l.toArray n hs ts ps us && (hs ++ (ts ++ (ps ++ us))).all (fun t => decide (t < l.length))) = true)
    (hQ : ∀ c (a : Act) (d : Option Tmp) v w, Q (.panic c) (a.put d v) w → Q (.panic c) a w) (hS : S { w with drawn := w.drawn + 1 })
    (h : ReadRun P l.toArray S (fun a' => MakeRun P S Q (fun a2 w2 => ReadRun P l.toArray S (fun a3 => MakeRun P S Q (fun a4 w4 => wpList P l.toArray Q (l.drop n) a4 w4) (picks l us) a3 w2) (picks l ps) a2) (picks l ts) a' { w with drawn := w.drawn + 1 }) (picks l hs) a) : (Code.region id l.toArray true).wp P Q a w := by
  simp only [plan4B, Bool.and_eq_true, decide_eq_true_eq, List.all_append] at hB
  obtain ⟨⟨⟨⟨hsel, ht⟩, hlen⟩, hB⟩, hb1, hb2, hb3, hb4⟩ := hB
  obtain ⟨hn, htail⟩ := textB_tail ht
  have hdl : (l.drop n).length = l.toArray.size - n := by simp
  have inv0 : HeadInv .any l.toArray n (Array.replicate l.toArray.size false) :=
    ⟨by simp, fun j oj _ hl => (by rw [getD_replicate_false] at hl; cases hl), fun t _ ht => getD_in (by simpa using ht) (getD_replicate_false _ _)⟩
  have H := head3_any (md := .any) (S := S) (Q := Q) (n := n) (f2 := ts.length + (ps.length + (us.length + 0))) (g := l.toArray.size - n) (G := fun a' w' => wpList P l.toArray Q (l.drop n) a' w') hsel hS htail hQ
    (fun listed a hE inv hF => make3_any (f2 := ps.length + (us.length + 0))
      (fun listed2 a2 w2 hE2 inv2 hS2 hF2 => head3_any (f2 := us.length + 0) hsel hS2 htail hQ
        (fun listed3 a3 hE3 inv3 hF3 => make3_any (f2 := 0) (F := fun a' w' => wpList P l.toArray Q (l.drop n) a' w') (L := fun l' a' w' => Region.seqB .any l.toArray (l.toArray.size - n) n l' = true ∧ wpList P l.toArray Q (l.drop n) a' w') (fun listed4 a4 w4 hE4 inv4 hS4 hF4 => And.intro hE4 hF4) us (picks l us) listed3 a3 w2 (picks_spec l us hb4) inv3 hS2 hE3 hF3)
        ps (picks l ps) listed2 a2 (picks_spec l ps hb3) inv2 hE2 hF2)
      ts (picks l ts) listed a _ (picks_spec l ts hb2) inv hS hE hF)
    hs (picks l hs) _ a (picks_spec l hs hb1) inv0 hB h
  refine wp_region_any hm ?_
  have := wpAny_of_anyHL (g := l.toArray.size - n) (fun listed a' w' hL => by
    have := wpAny_of_seq (md := .any) (Q' := Q) (l.drop n) n listed a' w' (fun j => by simp [List.getElem?_drop]) (by rw [hdl]; exact hL.1) hL.2
    rwa [hdl] at this) _ _ _ _ H
  rw [hlen, show n + (l.toArray.size - n) = l.toArray.size by omega] at this
  exact this

/-- Two makers, either way round, then a third. -/
def DuoRun (P : Program) (S : World → Prop) (Q : Exit → Act → World → Prop) (F : Act → World → Prop) (p r t : Oper) (a : Act) (w : World) : Prop :=
  MStep P S Q (MStep P S Q (MStep P S Q F t) r) p a w ∧ MStep P S Q (MStep P S Q (MStep P S Q F t) p) r a w
def duoB (md : Region.Mode) (ops : Array Oper) (n p r t : Nat) (L : Array Bool) : Bool :=
  decide (p < n) && decide (r < n) && decide (t < n) &&
  decide (Region.ready md ops L = [p, r]) && decide (Region.ready md ops (L.setIfInBounds p true) = [r]) && decide (Region.ready md ops (L.setIfInBounds r true) = [p]) &&
  decide (Region.ready md ops ((L.setIfInBounds p true).setIfInBounds r true) = [t]) && decide (Region.ready md ops ((L.setIfInBounds r true).setIfInBounds p true) = [t]) &&
  Region.seqB md ops (ops.size - n) n (((L.setIfInBounds p true).setIfInBounds r true).setIfInBounds t true) && Region.seqB md ops (ops.size - n) n (((L.setIfInBounds r true).setIfInBounds p true).setIfInBounds t true)
theorem duo_any {md : Region.Mode} {ops : Array Oper} {S : World → Prop} {Q : Exit → Act → World → Prop} {n p r t : Nat} {F : Act → World → Prop} {op or ot : Oper} {listed : Array Bool} {a : Act} {w : World} (hp : ops[p]? = some op) (hr : ops[r]? = some or) (ht : ops[t]? = some ot) (hB : duoB md ops n p r t listed = true) (h : DuoRun P S Q F op or ot a w) :
    anyHL P md ops Q S n (fun l' a' w' => Region.seqB md ops (ops.size - n) n l' = true ∧ F a' w') 3 listed a w := by
  simp only [duoB, Bool.and_eq_true, decide_eq_true_eq] at hB
  obtain ⟨⟨⟨⟨⟨⟨⟨⟨⟨b1, b2⟩, b3⟩, r1⟩, r2⟩, r3⟩, r4⟩, r5⟩, s1⟩, s2⟩ := hB
  refine node2 r1 b1 b2 hp hr h.1 (fun a1 w1 _ h1 => ?_) h.2 (fun a1 w1 _ h1 => ?_)
  · exact node1 r2 b2 hr h1 (fun a2 w2 _ h2 => node1 r4 b3 ht h2 (fun a3 w3 _ h3 => ⟨s1, h3⟩))
  · exact node1 r3 b1 hp h1 (fun a2 w2 _ h2 => node1 r5 b3 ht h2 (fun a3 w3 _ h3 => ⟨s2, h3⟩))
theorem wp_duo_draw {id : Nat} {Q : Exit → Act → World → Prop} {a : Act} {w : World} {l : List Oper} (n : Nat) (hs : List Nat) (p r t : Nat) (S : World → Prop) (hm : P.follows .mixedOrders = true)
    (hB : ((Region.noSelect l.toArray && (decide (n = l.toArray.size) || decide (n < l.toArray.size) && Region.sinkB .any l.toArray n && Region.chainB .any l.toArray n) && decide (hs.length + 3 = n) &&
      plan3Head .any l.toArray n (duoB .any l.toArray n p r t) hs (Array.replicate l.toArray.size false)) && (hs ++ [p, r, t]).all (fun t => decide (t < l.length))) = true)
    (hQ : ∀ c (a : Act) (d : Option Tmp) v w, Q (.panic c) (a.put d v) w → Q (.panic c) a w) (hS : S { w with drawn := w.drawn + 1 })
    (h : ReadRun P l.toArray S (fun a' => DuoRun P S Q (fun a2 w2 => wpList P l.toArray Q (l.drop n) a2 w2) (l.getD p default) (l.getD r default) (l.getD t default) a' { w with drawn := w.drawn + 1 }) (picks l hs) a) : (Code.region id l.toArray true).wp P Q a w := by
  simp only [Bool.and_eq_true, decide_eq_true_eq, List.all_append] at hB
  obtain ⟨⟨⟨⟨hsel, ht⟩, hlen⟩, hB⟩, hb1, hb2⟩ := hB
  obtain ⟨hn, htail⟩ := textB_tail ht
  have hdl : (l.drop n).length = l.toArray.size - n := by simp
  have inv0 : HeadInv .any l.toArray n (Array.replicate l.toArray.size false) :=
    ⟨by simp, fun j oj _ hl => (by rw [getD_replicate_false] at hl; cases hl), fun t _ ht => getD_in (by simpa using ht) (getD_replicate_false _ _)⟩
  have hat : ∀ t, t < l.length → l.toArray[t]? = some (l.getD t default) := fun t ht => by
    rw [List.getElem?_toArray, List.getD_eq_getElem?_getD, List.getElem?_eq_getElem ht]; rfl
  simp only [List.all_cons, List.all_nil, Bool.and_true, Bool.and_eq_true, decide_eq_true_eq] at hb2
  have H := head3_any (md := .any) (S := S) (Q := Q) (n := n) (f2 := 3) (g := l.toArray.size - n) (G := fun a' w' => wpList P l.toArray Q (l.drop n) a' w') hsel hS htail hQ
    (fun listed a hE inv hF => duo_any (hat p hb2.1) (hat r hb2.2.1) (hat t hb2.2.2) hE hF)
    hs (picks l hs) _ a (picks_spec l hs hb1) inv0 hB h
  refine wp_region_any hm ?_
  have := wpAny_of_anyHL (g := l.toArray.size - n) (fun listed a' w' hL => by
    have := wpAny_of_seq (md := .any) (Q' := Q) (l.drop n) n listed a' w' (fun j => by simp [List.getElem?_drop]) (by rw [hdl]; exact hL.1) hL.2
    rwa [hdl] at this) _ _ _ _ H
  rw [hlen, show n + (l.toArray.size - n) = l.toArray.size by omega] at this
  exact this
theorem DuoRun.cut {S : World → Prop} {Q : Exit → Act → World → Prop} {F : Act → World → Prop} {p r t : Oper} {A : Act} {w : World} (R : Value → Value → World → Prop)
    (h : DuoRun P S Q (fun a2 w2 => ∃ u v, a2 = ((A.put p.dst u).put r.dst v).put t.dst undef ∧ R u v w2) p r t A w)
    (k : ∀ u v w2, R u v w2 → F (((A.put p.dst u).put r.dst v).put t.dst undef) w2) : DuoRun P S Q F p r t A w := by
  have hk : ∀ a2 w2, S w2 → (∃ u v, a2 = ((A.put p.dst u).put r.dst v).put t.dst undef ∧ R u v w2) → F a2 w2 := fun a2 w2 _ ⟨u, v, he, hr⟩ => by rw [he]; exact k u v w2 hr
  exact ⟨h.1.mono fun a1 w1 _ h1 => h1.mono fun a2 w2 _ h2 => h2.mono hk, h.2.mono fun a1 w1 _ h1 => h1.mono fun a2 w2 _ h2 => h2.mono hk⟩
end
end Go.Proofs.YtadngicebbnnlaaGreat

namespace Go.Proofs.YtadngicebbnnlaaGreat
open Go Go.RowKit

def intsA (n : Nat) (f : Nat → Int) : Array Value := ((List.range n).map fun i => Value.int .i64 (f i)).toArray
theorem intsA_size (n : Nat) (f : Nat → Int) : (intsA n f).size = n := by simp [intsA]
theorem intsA_get {n i : Nat} {f : Nat → Int} (h : i < n) : (intsA n f)[i]? = some (.int .i64 (f i)) := by simp [intsA, h]
theorem intsA_congr {n : Nat} {f g : Nat → Int} (h : ∀ i, i < n → f i = g i) : intsA n f = intsA n g := by
  unfold intsA
  congr 1
  exact List.map_congr_left fun i hi => by rw [h i (List.mem_range.1 hi)]
theorem intsA_put {n i : Nat} {z : Int} {f : Nat → Int} : (intsA n f).setIfInBounds i (.int .i64 z) = intsA n (fun x => if x = i then z else f x) := by
  apply Array.ext
  · simp [intsA]
  · intro j h1 h2
    simp only [intsA, Array.getElem_setIfInBounds, List.getElem_toArray, List.getElem_map, List.getElem_range]
    by_cases hj : i = j
    · subst hj; simp
    · have : ¬ j = i := fun e => hj e.symm
      simp [hj, this]
theorem made_ints (n : Nat) : madeCells #[.int .i64 0] n = intsA n (fun _ => 0) := by
  apply Array.ext
  · simp [intsA, madeCells]
  · intro j h1 h2
    simp [intsA, madeCells, Nat.mod_one]
theorem run_makeI (w : World) (n : Nat) (hn : n ≤ 1000) : (Instr.makeSlice 29 (.int .i64 (n : Int)) (.int .i64 (n : Int))).run Tryz.prog w = .ok (.slice (some ⟨w.heap.size, 0, none⟩) n n) (w.alloc (.cells (intsA n fun _ => 0) 3)) := by
  obtain ⟨i0, hi, hz, hs, hb⟩ := info_at infoInt
  have hr := run_make (P := Tryz.prog) w 29 3 i0 (.int .i64 0) Tryz.underlying29 hi hz .i64 .i64 n n (by omega) (Int.le_refl _) (by rw [hb]; omega) (by omega)
  simp only [Int.toNat_natCast, hs, Nat.mul_one] at hr
  rw [← made_ints]
  exact hr
theorem wpList_makeI {w : World} {ops : Array Oper} {rest : List Oper} {o : Oper} {a : Act} {Q : Exit → Act → World → Prop} (hg : o.guard = none) (l c : Operand) (ho : o.op = .makeSlice 29 l c) (n : Nat) (hn : n ≤ 1000)
    (hl : a.eval l = .int .i64 (n : Int)) (hc : a.eval c = .int .i64 (n : Int))
    (h : wpList Tryz.prog ops Q rest (a.put o.dst (.slice (some ⟨w.heap.size, 0, none⟩) n n)) (w.alloc (.cells (intsA n fun _ => 0) 3))) : wpList Tryz.prog ops Q (o :: rest) a w := by
  refine wpList_plain hg fun _ hK => ?_
  unfold Oper.wp
  simp only [execOp, ho, hl, hc, Sem.run_bind, run_makeI w n hn, Result.andThen_ok]
  exact hK _ _ h
/-- The row under work. -/
structure RowI (n : Nat) (f : Nat → Int) (rb : Nat) (wo wx : World) : Prop where
  row : wx.heap[rb]? = some (.cells (intsA n f) 3 (0, 0))
  below : Below rb wo wx
theorem RowI.of {n : Nat} {f g : Nat → Int} {rb : Nat} {wo wx : World} (h : RowI n f rb wo wx) (e : ∀ i, i < n → f i = g i) : RowI n g rb wo wx := ⟨by rw [← intsA_congr e]; exact h.row, h.below⟩
theorem RowI.lt {n : Nat} {f : Nat → Int} {rb : Nat} {wo wx : World} (h : RowI n f rb wo wx) : rb < wx.heap.size := (Array.getElem?_eq_some_iff.1 h.row).1
theorem RowI.go {n : Nat} {f : Nat → Int} {rb : Nat} {wo wx wy : World} (h : RowI n f rb wo wx) (hb : Below wx.heap.size wx wy) : RowI n f rb wo wy := ⟨(hb.block rb h.lt).trans h.row, h.below.trans (hb.mono (Nat.le_of_lt h.lt))⟩
theorem RowI.put {n : Nat} {f : Nat → Int} {rb : Nat} {wo wx : World} (h : RowI n f rb wo wx) (i : Nat) (z : Int) : RowI n (fun x => if x = i then z else f x) rb wo (wx.setCell ⟨rb, i, none⟩ (.int .i64 z)) :=
  ⟨by rw [← intsA_put]; exact set_block h.row _, h.below.setCell (p := ⟨rb, i, none⟩) (Nat.le_refl _) _⟩
theorem RowI.get {n : Nat} {f : Nat → Int} {rb : Nat} {wo wx : World} (h : RowI n f rb wo wx) {i : Nat} (hi : i < n) : wx.cell? ⟨rb, i, none⟩ = some (.int .i64 (f i)) ∧ wx.frozen? ⟨rb, i, none⟩ = false :=
  ⟨by rw [cell_of_block h.row]; exact intsA_get hi, free_of_block h.row⟩
theorem RowI.wrote {n : Nat} {f : Nat → Int} {rb : Nat} {wo wx wy : World} {R : Nat → Prop} (h : RowI n f rb wo wx) (hw : Wrote R wx wy) (hR : ∀ q, R q → rb < q) : RowI n f rb wo wy :=
  ⟨(hw.block rb h.lt (fun hr => Nat.lt_irrefl _ (hR rb hr))).trans h.row, Wrote.below h.below hw (Nat.le_of_lt h.lt) (fun q hq => Nat.le_of_lt (hR q hq))⟩

end Go.Proofs.YtadngicebbnnlaaGreat

namespace Go.Proofs.YtadngicebbnnlaaGreat
open Go.ChangeShapes Go.WideShapes Go.ChangeAt Go.RowKit Go.Deep

structure IsAcs (w : World) (a0 : Option Addr) (n c : Nat) (l : List Ac) : Prop where
  reads : Reads w a0 n 2 (acCells l)
  len : l.length = n
  le : n ≤ c
  cap : c ≤ maxLen
  wf : ∀ e ∈ l, e.wf
theorem IsAcs.below {w w' : World} {a0 : Option Addr} {n c : Nat} {l : List Ac} (h : IsAcs w a0 n c l) (hb : Below w.heap.size w w') : IsAcs w' a0 n c l :=
  ⟨h.reads.below hb, h.len, h.le, h.cap, h.wf⟩
theorem IsAcs.bd {w : World} {a0 : Option Addr} {n c : Nat} {l : List Ac} (h : IsAcs w a0 n c l) : n ≤ 9223372036854775807 := by
  have := h.le; have := h.cap; unfold maxLen at *; omega
theorem IsAcs.at {w : World} {a0 : Option Addr} {n c : Nat} {l : List Ac} (h : IsAcs w a0 n c l) {i : Nat} (hi : i < n) :
    ∃ b off e, a0 = some ⟨b, off, none⟩ ∧ l[i]? = some e ∧ e.wf ∧ w.cell? ⟨b, off + i * 2, none⟩ = some (.int .i64 e.k) ∧ w.cell? ⟨b, off + i * 2 + 1, none⟩ = some (.int .i64 e.o) := by
  obtain ⟨b, off, ha, hc⟩ := h.reads.2 (by omega)
  have hl : i < l.length := by rw [h.len]; exact hi
  have hx : l[i]? = some l[i] := List.getElem?_eq_getElem hl
  have g := fun j (hj : j < 2) => flat_get Ac.vals 2 (fun _ => rfl) l i j l[i] hx hj
  refine ⟨b, off, l[i], ha, hx, h.wf _ (List.getElem_mem hl), ?_, ?_⟩
  · exact hc _ _ (g 0 (by decide))
  rw [Nat.add_assoc]
  exact hc _ _ (g 1 (by decide))

section
variable {H : Type} {enc : TypeId × Value → H} {w : World}
set_option maxRecDepth 100000 in
theorem open_acs {a0 : Option Addr} {n c : Nat} {d : DataW H} {p : List MemPlace} (h : DataW.Trod enc Tryz.prog w 0 (fun _ => true) true 37 (.slice a0 n c) d p) :
    ∃ l : List Ac, IsAcs w a0 n c l := by
  rcases open_flats Tryz.underlying37 Tryz.underlying92 (by kernel_rfl) (by kernel_rfl) h with ⟨rfl, rfl, rfl⟩ | ⟨a, rfl, hl, hm, hi⟩
  · exact ⟨[], ⟨Reads.nil, rfl, Nat.le_refl _, Nat.zero_le _, fun e he => by cases he⟩⟩
  · obtain ⟨l, h1, h2, h3⟩ := ofFlats Ac.vals 2 (by decide) (fun _ => rfl) Ac.wf (w := w) (a := a) (n := n) (fun i hin => by
      obtain ⟨zs, hz, hc, hw⟩ := hi i hin
      match zs, hz with
      | [k, o], _ =>
        refine ⟨⟨k, o⟩, ⟨hw k (by simp), hw o (by simp)⟩, fun j u hu => ?_⟩
        have hj : (([k, o] : List Int).map (Value.int .i64))[j]? = some u := hu
        rw [List.getElem?_map] at hj
        cases hz : ([k, o] : List Int)[j]? with
        | none => rw [hz] at hj; cases hj
        | some z => rw [hz] at hj; cases hj; exact hc j z hz)
    exact ⟨l, ⟨h3, h1, hl, hm, h2⟩⟩
end

end Go.Proofs.YtadngicebbnnlaaGreat

namespace Go.Proofs.YtadngicebbnnlaaGreat
open Go Go.RowKit

structure Fd where
  k : Int
  t : Int
  o : Int
  x : Int
  s : List Int

def orI : List Int → Int
  | [] => 0
  | x :: r => if x = 0 then orI r else x
def cmpF (a b : Fd) : Int := orI [cmpI a.k b.k, cmpI a.t b.t, cmpI a.o b.o, cmpI a.x b.x]
def ltFd (a b : Fd) : Prop := a.k < b.k ∨ a.k = b.k ∧ (a.t < b.t ∨ a.t = b.t ∧ (a.o < b.o ∨ a.o = b.o ∧ a.x < b.x))
def SameF (a b : Fd) : Prop := a.k = b.k ∧ a.t = b.t ∧ a.o = b.o ∧ a.x = b.x
instance (a b : Fd) : Decidable (SameF a b) := by unfold SameF; infer_instance
instance (a b : Fd) : Decidable (ltFd a b) := by unfold ltFd; infer_instance
def sameB (a b : Fd) : Bool := decide (SameF a b)

theorem cmpI_cases (x y : Int) : (x < y ∧ cmpI x y = -1) ∨ (x = y ∧ cmpI x y = 0) ∨ (y < x ∧ cmpI x y = 1) := by
  unfold cmpI
  split
  · exact .inl ⟨by assumption, rfl⟩
  · split
    · exact .inr (.inr ⟨by assumption, rfl⟩)
    · exact .inr (.inl ⟨by omega, rfl⟩)
theorem cmpF_cases (a b : Fd) : (ltFd a b ∧ cmpF a b = -1) ∨ (SameF a b ∧ cmpF a b = 0) ∨ (ltFd b a ∧ cmpF a b = 1) := by
  unfold cmpF ltFd SameF
  rcases cmpI_cases a.k b.k with ⟨h, e⟩ | ⟨h, e⟩ | ⟨h, e⟩
  · refine .inl ⟨.inl h, by simp [orI, e]⟩
  · rcases cmpI_cases a.t b.t with ⟨h2, e2⟩ | ⟨h2, e2⟩ | ⟨h2, e2⟩
    · refine .inl ⟨.inr ⟨h, .inl h2⟩, by simp [orI, e, e2]⟩
    · rcases cmpI_cases a.o b.o with ⟨h3, e3⟩ | ⟨h3, e3⟩ | ⟨h3, e3⟩
      · refine .inl ⟨.inr ⟨h, .inr ⟨h2, .inl h3⟩⟩, by simp [orI, e, e2, e3]⟩
      · rcases cmpI_cases a.x b.x with ⟨h4, e4⟩ | ⟨h4, e4⟩ | ⟨h4, e4⟩
        · refine .inl ⟨.inr ⟨h, .inr ⟨h2, .inr ⟨h3, h4⟩⟩⟩, by simp [orI, e, e2, e3, e4]⟩
        · refine .inr (.inl ⟨⟨h, h2, h3, h4⟩, by simp [orI, e, e2, e3, e4]⟩)
        · refine .inr (.inr ⟨.inr ⟨h.symm, .inr ⟨h2.symm, .inr ⟨h3.symm, h4⟩⟩⟩, by simp [orI, e, e2, e3, e4]⟩)
      · refine .inr (.inr ⟨.inr ⟨h.symm, .inr ⟨h2.symm, .inl h3⟩⟩, by simp [orI, e, e2, e3]⟩)
    · refine .inr (.inr ⟨.inr ⟨h.symm, .inl h2⟩, by simp [orI, e, e2]⟩)
  · refine .inr (.inr ⟨.inl h, by simp [orI, e]⟩)
theorem ltFd.not_symm {a b : Fd} (h : ltFd a b) : ¬ ltFd b a := by unfold ltFd at *; omega
theorem ltFd.irrefl (a : Fd) : ¬ ltFd a a := by unfold ltFd; omega
theorem ltFd.trans {a b c : Fd} (h : ltFd a b) (h' : ltFd b c) : ltFd a c := by unfold ltFd at *; omega
theorem ltFd.not_same {a b : Fd} (h : ltFd a b) : ¬ SameF a b := by unfold ltFd SameF at *; omega
theorem ltFd.tri (a b : Fd) : ltFd a b ∨ SameF a b ∨ ltFd b a := by unfold ltFd SameF; omega
theorem SameF.refl (a : Fd) : SameF a a := ⟨rfl, rfl, rfl, rfl⟩
theorem SameF.symm {a b : Fd} (h : SameF a b) : SameF b a := by unfold SameF at *; omega
theorem SameF.trans {a b c : Fd} (h : SameF a b) (h' : SameF b c) : SameF a c := by unfold SameF at *; omega
theorem SameF.lt_left {a b c : Fd} (h : SameF a b) (h' : ltFd b c) : ltFd a c := by unfold ltFd SameF at *; omega
theorem SameF.lt_right {a b c : Fd} (h : SameF b c) (h' : ltFd a b) : ltFd a c := by unfold ltFd SameF at *; omega
theorem sameB_iff {a b : Fd} : sameB a b = true ↔ SameF a b := by unfold sameB; exact decide_eq_true_iff
theorem sameB_comm (a b : Fd) : sameB a b = sameB b a := by
  rw [Bool.eq_iff_iff, sameB_iff, sameB_iff]; exact ⟨SameF.symm, SameF.symm⟩
theorem cmpF_zero {a b : Fd} : cmpF a b = 0 ↔ SameF a b := by
  rcases cmpF_cases a b with ⟨h, e⟩ | ⟨h, e⟩ | ⟨h, e⟩ <;> rw [e]
  · exact ⟨fun h' => by omega, fun h' => absurd h' h.not_same⟩
  · exact ⟨fun _ => h, fun _ => rfl⟩
  · exact ⟨fun h' => by omega, fun h' => absurd h'.symm h.not_same⟩
theorem cmpF_neg {a b : Fd} : cmpF a b < 0 ↔ ltFd a b := by
  rcases cmpF_cases a b with ⟨h, e⟩ | ⟨h, e⟩ | ⟨h, e⟩ <;> rw [e]
  · exact ⟨fun _ => h, fun _ => by omega⟩
  · exact ⟨fun h' => by omega, fun h' => absurd h h'.not_same⟩
  · exact ⟨fun h' => by omega, fun h' => absurd h h'.not_symm⟩
theorem cmpF_self (a : Fd) : cmpF a a = 0 := cmpF_zero.2 (SameF.refl a)
/-- leF: not behind. -/
def leF (a b : Fd) : Bool := decide (cmpF a b ≤ 0)
theorem leF_iff {a b : Fd} : leF a b = true ↔ ¬ ltFd b a := by
  unfold leF
  rw [decide_eq_true_iff]
  rcases cmpF_cases a b with ⟨h, e⟩ | ⟨h, e⟩ | ⟨h, e⟩ <;> rw [e]
  · exact ⟨fun _ => h.not_symm, fun _ => by omega⟩
  · exact ⟨fun _ h' => h'.not_same h.symm, fun _ => by omega⟩
  · exact ⟨fun h' => by omega, fun h' => absurd h h'⟩
theorem not_lt_trans {a b c : Fd} (h : ¬ ltFd b a) (h' : ¬ ltFd c b) : ¬ ltFd c a := by unfold ltFd at *; omega

/-- m holds the first of each name of l, rising. -/
structure Merged (l m : List Fd) : Prop where
  up : m.Pairwise ltFd
  mem : ∀ f, f ∈ m ↔ l.find? (sameB f) = some f
theorem Merged.nodup {l m : List Fd} (h : Merged l m) : m.Nodup := h.up.imp fun hab e => by subst e; exact ltFd.irrefl _ hab
theorem Merged.eq {l m m' : List Fd} (h : Merged l m) (h' : Merged l m') : m = m' :=
  rises_eq (fun _ _ hab => hab.not_symm) ((List.perm_ext_iff_of_nodup h.nodup h'.nodup).2 fun f => (h.mem f).trans (h'.mem f).symm) h.up h'.up

/-! The firsts of each name, in their order. -/
def uniqL (l : List Fd) : List Fd := l.foldl (fun acc f => if acc.any (sameB f) then acc else acc ++ [f]) []
theorem uniqL_snoc (l : List Fd) (f : Fd) : uniqL (l ++ [f]) = if (uniqL l).any (sameB f) then uniqL l else uniqL l ++ [f] := by
  unfold uniqL; rw [List.foldl_append]; rfl
theorem snoc_ind {α : Type} {P : List α → Prop} (h0 : P []) (h1 : ∀ l a, P l → P (l ++ [a])) : ∀ l, P l := by
  intro l
  have : ∀ (n : Nat) (l : List α), l.length = n → P l := by
    intro n
    induction n with
    | zero => intro l hl; rw [List.eq_nil_of_length_eq_zero hl]; exact h0
    | succ n ih =>
      intro l hl
      have hne : l ≠ [] := fun e => by rw [e] at hl; simp at hl
      rw [← List.dropLast_concat_getLast hne]
      exact h1 _ _ (ih _ (by rw [List.length_dropLast, hl]; rfl))
  exact this _ l rfl
theorem find_same {l : List Fd} {f g : Fd} (h : SameF f g) : l.find? (sameB f) = l.find? (sameB g) := by
  congr 1; funext x
  rw [Bool.eq_iff_iff, sameB_iff, sameB_iff]
  exact ⟨fun e => h.symm.trans e, fun e => h.trans e⟩
theorem uniqL_any (l : List Fd) (f : Fd) : (uniqL l).any (sameB f) = l.any (sameB f) := by
  induction l using snoc_ind with
  | h0 => rfl
  | h1 l a ih =>
    rw [uniqL_snoc, List.any_append]
    split
    · rename_i h
      rw [ih]
      cases hf : sameB f a
      · simp [hf]
      · have : (uniqL l).any (sameB f) = true := by
          obtain ⟨g, hg, hs⟩ := List.any_eq_true.1 h
          exact List.any_eq_true.2 ⟨g, hg, sameB_iff.2 ((sameB_iff.1 hf).trans (sameB_iff.1 hs))⟩
        rw [← ih, this]; rfl
    · rw [List.any_append, ih]
theorem uniqL_mem (l : List Fd) (f : Fd) : f ∈ uniqL l ↔ l.find? (sameB f) = some f := by
  induction l using snoc_ind with
  | h0 => simp [uniqL]
  | h1 l a ih =>
    rw [uniqL_snoc, List.find?_append]
    cases ha : (uniqL l).any (sameB a)
    · rw [if_neg (by simp), List.mem_append, ih]
      rw [uniqL_any] at ha
      constructor
      · rintro (h | h)
        · rw [h]; rfl
        · obtain rfl := List.mem_singleton.1 h
          have : l.find? (sameB f) = none := List.find?_eq_none.2 fun x hx => by simpa using List.any_eq_false.1 ha x hx
          rw [this]
          simp [List.find?, sameB_iff.2 (SameF.refl f)]
      · intro h
        cases hl : l.find? (sameB f) with
        | some g => rw [hl] at h; simp at h; exact .inl (by rw [h])
        | none =>
          rw [hl] at h
          simp only [Option.none_or] at h
          exact .inr (List.mem_of_find?_eq_some h)
    · rw [if_pos rfl, ih]
      rw [uniqL_any] at ha
      constructor
      · intro h; rw [h]; rfl
      · intro h
        cases hl : l.find? (sameB f) with
        | some g => rw [hl] at h; simpa using h
        | none =>
          rw [hl] at h
          simp only [Option.none_or] at h
          have hfa := List.mem_of_find?_eq_some h
          obtain rfl := List.mem_singleton.1 hfa
          obtain ⟨g, hg, hs⟩ := List.any_eq_true.1 ha
          exact absurd hs (by simpa using List.find?_eq_none.1 hl g hg)
theorem uniqL_len (l : List Fd) : (uniqL l).length ≤ l.length := by
  induction l using snoc_ind with
  | h0 => exact Nat.le_refl _
  | h1 l a ih => rw [uniqL_snoc]; split <;> simp <;> omega
theorem uniqL_apart (l : List Fd) : (uniqL l).Pairwise fun a b => ¬ SameF a b := by
  induction l using snoc_ind with
  | h0 => exact .nil
  | h1 l a ih =>
    rw [uniqL_snoc]
    split
    · exact ih
    · rename_i h
      refine List.pairwise_append.2 ⟨ih, List.pairwise_singleton _ _, fun x hx y hy hs => ?_⟩
      obtain rfl := List.mem_singleton.1 hy
      exact h (List.any_eq_true.2 ⟨x, hx, sameB_iff.2 hs.symm⟩)
/-- What the program's Merge hands back. -/
theorem merged_of_sort {l ys : List Fd} (hp : ys.Perm (uniqL l)) (hs : ys.Pairwise fun a b => ¬ ltFd b a) : Merged l ys := by
  refine ⟨?_, fun f => by rw [hp.mem_iff, uniqL_mem]⟩
  have h1 : ys.Pairwise fun a b => ¬ SameF a b := (hp.symm.pairwise_iff (fun h e => h e.symm)).1 (uniqL_apart l)
  exact (hs.and h1).imp fun {a b} ⟨x, y⟩ => by
    rcases ltFd.tri a b with h | h | h
    · exact h
    · exact absurd h y
    · exact absurd h x

/-! The document's sort, stable. -/
structure Sorts (l r : List Fd) : Prop where
  up : r.Pairwise fun a b => ¬ ltFd b a
  first : ∀ f, r.find? (sameB f) = l.find? (sameB f)
  len : r.length = l.length
theorem Sorts.short {l : List Fd} (h : l.length < 2) : Sorts l l := by
  refine ⟨?_, fun _ => rfl, rfl⟩
  match l, h with
  | [], _ => exact .nil
  | [a], _ => exact List.pairwise_singleton _ _
theorem merge_find : ∀ (a b : List Fd), a.Pairwise (fun x y => ¬ ltFd y x) → b.Pairwise (fun x y => ¬ ltFd y x) → ∀ f, (List.merge a b leF).find? (sameB f) = (a.find? (sameB f)).or (b.find? (sameB f))
  | [], b, _, _, f => by simp
  | x :: a, [], _, _, f => by simp
  | x :: a, y :: b, ha, hb, f => by
    rw [List.merge.eq_def]
    simp only
    cases hle : leF x y
    · simp only [Bool.false_eq_true, if_false]
      have ih := merge_find (x :: a) b ha hb.of_cons f
      have hlt : ltFd y x := by
        have := mt leF_iff.2 (by rw [hle]; simp)
        exact Classical.not_not.1 this
      rw [List.find?_cons, ih]
      cases hy : sameB f y
      · simp only [List.find?_cons, hy]
      · have hn : (x :: a).find? (sameB f) = none := List.find?_eq_none.2 fun z hz he => by
          have h1 : ¬ ltFd z x := by
            rcases List.mem_cons.1 hz with rfl | hz
            · exact ltFd.irrefl _
            · exact List.rel_of_pairwise_cons ha hz
          have h2 : SameF z y := (sameB_iff.1 he).symm.trans (sameB_iff.1 hy)
          exact h1 (h2.lt_left hlt)
        rw [hn]
        simp only [List.find?_cons, hy, Option.none_or]
    · simp only [if_true]
      have ih := merge_find a (y :: b) ha.of_cons hb f
      rw [List.find?_cons, ih]
      cases hx : sameB f x
      · simp only [List.find?_cons, hx]
      · simp only [List.find?_cons, hx, Option.some_or]
  termination_by a b => a.length + b.length
theorem merge_up (a b : List Fd) (ha : a.Pairwise (fun x y => ¬ ltFd y x)) (hb : b.Pairwise (fun x y => ¬ ltFd y x)) : (List.merge a b leF).Pairwise (fun x y => ¬ ltFd y x) := by
  have := List.pairwise_merge (le := leF) (fun x y z h1 h2 => leF_iff.2 (not_lt_trans (leF_iff.1 h1) (leF_iff.1 h2)))
    (fun x y => by
      rw [Bool.or_eq_true, leF_iff, leF_iff]
      rcases Classical.em (ltFd y x) with h | h
      · exact .inr h.not_symm
      · exact .inl h) a b (ha.imp leF_iff.2) (hb.imp leF_iff.2)
  exact this.imp leF_iff.1
theorem Sorts.merge {l a b : List Fd} (k : Nat) (ha : Sorts (l.take k) a) (hb : Sorts (l.drop k) b) : Sorts l (List.merge a b leF) := by
  refine ⟨merge_up a b ha.up hb.up, fun f => ?_, ?_⟩
  · rw [merge_find a b ha.up hb.up f, ha.first, hb.first, ← List.find?_append, List.take_append_drop]
  · rw [List.length_merge, ha.len, hb.len, ← List.length_append, List.take_append_drop]

/-! Of those that are the same beside one another the first alone. -/
def keepAt (l : List Fd) (j : Nat) : Bool := match j, l[j]?, l[j - 1]? with
  | 0, _, _ => true
  | _ + 1, some f, some g => !sameB g f
  | _, _, _ => true
def dedN (l : List Fd) (i : Nat) : List Fd := (List.range i).filterMap fun j => if keepAt l j then l[j]? else none
theorem dedN_succ (l : List Fd) (i : Nat) : dedN l (i + 1) = dedN l i ++ if keepAt l i then (l[i]?).toList else [] := by
  unfold dedN
  rw [List.range_succ, List.filterMap_append]
  congr 1
  simp only [List.filterMap_cons, List.filterMap_nil]
  cases keepAt l i
  · rfl
  · simp only [if_true]; cases l[i]? <;> rfl
theorem dedN_len (l : List Fd) (i : Nat) : (dedN l i).length ≤ i := by
  unfold dedN
  have := List.length_filterMap_le (fun j => if keepAt l j then l[j]? else none) (List.range i)
  simpa using this
theorem keepAt_lt {l : List Fd} {i j : Nat} {f g : Fd} (hl : l.Pairwise fun a b => ¬ ltFd b a) (hij : i < j) (hi : l[i]? = some f) (hj : l[j]? = some g) (hk : keepAt l j = true) : ltFd f g := by
  obtain ⟨j, rfl⟩ : ∃ m, j = m + 1 := ⟨j - 1, by omega⟩
  have hjl := (List.getElem?_eq_some_iff.1 hj).1
  have hp : l[j]? = some (l[j]'(by omega)) := List.getElem?_eq_getElem (by omega)
  unfold keepAt at hk
  rw [hj, Nat.add_sub_cancel, hp] at hk
  simp only [Bool.not_eq_true'] at hk
  have h1 : ¬ ltFd g (l[j]'(by omega)) := by
    have := List.pairwise_iff_getElem.1 hl j (j + 1) (by omega) hjl (by omega)
    have e : l[j + 1] = g := (List.getElem?_eq_some_iff.1 hj).2
    rwa [e] at this
  have h2 : ltFd (l[j]'(by omega)) g := by
    rcases ltFd.tri (l[j]'(by omega)) g with h | h | h
    · exact h
    · rw [sameB_iff.2 h] at hk; cases hk
    · exact absurd h h1
  rcases Nat.lt_or_ge i j with h3 | h3
  · have h4 := List.pairwise_iff_getElem.1 hl i j (by omega) (by omega) h3
    have e : l[i]'(by omega) = f := (List.getElem?_eq_some_iff.1 hi).2
    rw [e] at h4
    rcases ltFd.tri f (l[j]'(by omega)) with h | h | h
    · exact h.trans h2
    · exact h.lt_left h2
    · exact absurd h h4
  · have : i = j := by omega
    subst this
    rw [hp] at hi; cases hi; exact h2
theorem dedN_up {l : List Fd} (hl : l.Pairwise fun a b => ¬ ltFd b a) (i : Nat) : (dedN l i).Pairwise ltFd := by
  unfold dedN
  rw [List.pairwise_filterMap]
  refine List.pairwise_lt_range.imp fun {a b} hab x hx y hy => ?_
  split at hx
  · split at hy
    · rename_i hk; exact keepAt_lt hl hab hx hy hk
    · cases hy
  · cases hx
theorem dedN_mem {l : List Fd} (hl : l.Pairwise fun a b => ¬ ltFd b a) (f : Fd) : f ∈ dedN l l.length ↔ l.find? (sameB f) = some f := by
  unfold dedN
  rw [List.mem_filterMap, List.find?_eq_some_iff_getElem]
  constructor
  · rintro ⟨j, hj, h⟩
    split at h
    · rename_i hk
      have hjl := (List.getElem?_eq_some_iff.1 h).1
      refine ⟨sameB_iff.2 (SameF.refl f), j, hjl, (List.getElem?_eq_some_iff.1 h).2, fun i hi => ?_⟩
      have := keepAt_lt hl hi (List.getElem?_eq_getElem (by omega)) h hk
      cases hs : sameB f (l[i]'(by omega))
      · rfl
      · exact absurd (sameB_iff.1 hs).symm this.not_same
    · cases h
  · rintro ⟨_, j, hjl, he, hall⟩
    have hj : l[j]? = some f := by rw [List.getElem?_eq_getElem hjl, he]
    refine ⟨j, List.mem_range.2 hjl, ?_⟩
    have hk : keepAt l j = true := by
      cases j with
      | zero => rfl
      | succ j =>
        have hp : l[j]? = some (l[j]'(by omega)) := List.getElem?_eq_getElem (by omega)
        unfold keepAt
        rw [hj, Nat.add_sub_cancel, hp]
        simp only
        rw [sameB_comm]
        exact hall j (by omega)
    rw [if_pos hk, hj]
theorem merged_of_doc {l r : List Fd} (h : Sorts l r) : Merged l (dedN r r.length) :=
  ⟨dedN_up h.up _, fun f => by rw [dedN_mem h.up, h.first]⟩

/-! Put. -/
def insF (f : Fd) : List Fd → List Fd
  | [] => [f]
  | g :: r => if cmpF f g < 0 then f :: g :: r else g :: insF f r
def stepF (f : Fd) (s : List Fd × Bool) (g : Fd) : List Fd × Bool := if cmpF f g < 0 ∧ s.2 = false then (s.1 ++ [f, g], true) else (s.1 ++ [g], s.2)
def stF (f : Fd) (l : List Fd) (i : Nat) : List Fd × Bool := (l.take i).foldl (stepF f) ([], false)
theorem stF_succ {f g : Fd} {l : List Fd} {i : Nat} (h : l[i]? = some g) : stF f l (i + 1) = stepF f (stF f l i) g := by
  unfold stF
  rw [List.take_add_one, h, List.foldl_append]; rfl
theorem fold_true (f : Fd) : ∀ (l acc : List Fd), l.foldl (stepF f) (acc, true) = (acc ++ l, true)
  | [], acc => by simp
  | g :: l, acc => by
    rw [List.foldl_cons]
    have : stepF f (acc, true) g = (acc ++ [g], true) := by unfold stepF; rw [if_neg (by simp)]
    rw [this, fold_true f l]; simp
theorem fold_false (f : Fd) : ∀ (l acc : List Fd), (if (l.foldl (stepF f) (acc, false)).2 then (l.foldl (stepF f) (acc, false)).1 else (l.foldl (stepF f) (acc, false)).1 ++ [f]) = acc ++ insF f l
  | [], acc => by simp [insF]
  | g :: l, acc => by
    rw [List.foldl_cons]
    by_cases h : cmpF f g < 0
    · have : stepF f (acc, false) g = (acc ++ [f, g], true) := by unfold stepF; rw [if_pos ⟨h, rfl⟩]
      rw [this, fold_true]
      simp [insF, h]
    · have : stepF f (acc, false) g = (acc ++ [g], false) := by unfold stepF; rw [if_neg (fun e => h e.1)]
      rw [this, fold_false f l]
      simp [insF, h]
theorem stF_end (f : Fd) (l : List Fd) : (if (stF f l l.length).2 then (stF f l l.length).1 else (stF f l l.length).1 ++ [f]) = insF f l := by
  unfold stF
  rw [List.take_length]
  simpa using fold_false f l []
theorem stF_len (f : Fd) (l : List Fd) (i : Nat) (hi : i ≤ l.length) : (stF f l i).1.length ≤ i + 1 ∧ ((stF f l i).2 = false → (stF f l i).1.length ≤ i) := by
  induction i with
  | zero => simp [stF]
  | succ i ih =>
    obtain ⟨g, hg⟩ : ∃ g, l[i]? = some g := ⟨_, List.getElem?_eq_getElem (by omega)⟩
    rw [stF_succ hg]
    have := ih (by omega)
    unfold stepF
    split
    · rename_i h
      have := this.2 h.2
      simp; omega
    · simp only [List.length_append, List.length_singleton]
      exact ⟨by omega, fun h => by have := this.2 h; omega⟩
theorem insF_mem (f : Fd) : ∀ (l : List Fd) (x : Fd), x ∈ insF f l ↔ x = f ∨ x ∈ l
  | [], x => by simp [insF]
  | g :: l, x => by
    unfold insF
    split
    · simp
    · rw [List.mem_cons, insF_mem f l x, List.mem_cons]
      constructor
      · rintro (h | h | h) <;> simp [h]
      · rintro (h | h | h) <;> simp [h]
theorem insF_up (f : Fd) : ∀ (l : List Fd), l.Pairwise ltFd → l.any (sameB f) = false → (insF f l).Pairwise ltFd
  | [], _, _ => List.pairwise_singleton _ _
  | g :: l, h, hn => by
    simp only [List.any_cons, Bool.or_eq_false_iff] at hn
    unfold insF
    split
    · rename_i hc
      have hfg := cmpF_neg.1 hc
      refine List.pairwise_cons.2 ⟨fun x hx => ?_, h⟩
      rcases List.mem_cons.1 hx with rfl | hx
      · exact hfg
      · exact hfg.trans (List.rel_of_pairwise_cons h hx)
    · rename_i hc
      refine List.pairwise_cons.2 ⟨fun x hx => ?_, insF_up f l h.of_cons hn.2⟩
      rcases (insF_mem f l x).1 hx with rfl | hx
      · rcases ltFd.tri g x with h1 | h1 | h1
        · exact h1
        · rw [sameB_iff.2 h1.symm] at hn; cases hn.1
        · exact absurd (cmpF_neg.2 h1) hc
      · exact List.rel_of_pairwise_cons h hx
theorem insF_len (f : Fd) : ∀ l : List Fd, (insF f l).length = l.length + 1
  | [] => rfl
  | g :: l => by
    unfold insF
    split
    · rfl
    · rw [List.length_cons, insF_len f l, List.length_cons]
def putF (m : List Fd) (f : Fd) : List Fd := if m.any (sameB f) then m else insF f m
theorem Merged.nil : Merged [] [] := ⟨.nil, fun f => by simp⟩
theorem Merged.any {l m : List Fd} (h : Merged l m) (f : Fd) : m.any (sameB f) = l.any (sameB f) := by
  rw [Bool.eq_iff_iff, List.any_eq_true, List.any_eq_true]
  constructor
  · rintro ⟨g, hg, hs⟩
    exact ⟨g, List.mem_of_find?_eq_some ((h.mem g).1 hg), hs⟩
  · rintro ⟨g, hg, hs⟩
    cases hf : l.find? (sameB f) with
    | none => exact absurd hs (by simpa using List.find?_eq_none.1 hf g hg)
    | some g' =>
      have h1 : sameB f g' = true := List.find?_some hf
      exact ⟨g', (h.mem g').2 (by rw [find_same (sameB_iff.1 h1).symm, hf]), h1⟩
theorem Merged.put {l m : List Fd} (h : Merged l m) (f : Fd) : Merged (l ++ [f]) (putF m f) := by
  unfold putF
  have ha := h.any f
  cases hm : m.any (sameB f)
  · rw [if_neg (by simp)]
    refine ⟨insF_up f m h.up hm, fun x => ?_⟩
    rw [insF_mem, h.mem, List.find?_append]
    rw [hm] at ha
    constructor
    · rintro (rfl | hx)
      · have : l.find? (sameB x) = none := List.find?_eq_none.2 fun y hy => by simpa using List.any_eq_false.1 ha.symm y hy
        rw [this]; simp [List.find?, sameB_iff.2 (SameF.refl x)]
      · rw [hx]; rfl
    · intro hx
      cases hl : l.find? (sameB x) with
      | some g => rw [hl] at hx; simp at hx; exact .inr (by rw [hx])
      | none =>
        rw [hl] at hx
        simp only [Option.none_or] at hx
        exact .inl (List.mem_singleton.1 (List.mem_of_find?_eq_some hx))
  · rw [if_pos rfl]
    rw [hm] at ha
    refine ⟨h.up, fun x => ?_⟩
    rw [h.mem, List.find?_append]
    constructor
    · intro hx; rw [hx]; rfl
    · intro hx
      cases hl : l.find? (sameB x) with
      | some g => rw [hl] at hx; simpa using hx
      | none =>
        rw [hl] at hx
        simp only [Option.none_or] at hx
        obtain rfl := List.mem_singleton.1 (List.mem_of_find?_eq_some hx)
        obtain ⟨g, hg, hs⟩ := List.any_eq_true.1 ha.symm
        exact absurd hs (by simpa using List.find?_eq_none.1 hl g hg)
end Go.Proofs.YtadngicebbnnlaaGreat

namespace Go.Proofs.YtadngicebbnnlaaGreat
open Go.ChangeShapes Go.WideShapes Go.ChangeAt Go.RowKit Go.Deep

theorem ints_of_cells {w : World} {a : Addr} {n c : Nat} {zs : List Int} (hl : n ≤ c) (hm : c ≤ maxLen) (hz : n ≤ zs.length) (hcell : ∀ i, i < zs.length → w.cell? (a.add i) = some (.int .i64 (zs.getD i 0)))
    (hw : ∀ z ∈ zs, (Lit.int .i64 z).wf = true) : IsInts w (some a) n c (zs.take n) := by
  refine ⟨⟨by simp; omega, fun hn => ?_⟩, by simp; omega, hl, hm, fun x hx => hw x (List.mem_of_mem_take hx)⟩
  obtain ⟨b, off, spot⟩ := a
  have h0 := hcell 0 (by omega)
  have hspot : spot = none := by simpa [Addr.add] using World.cell?_spot h0
  subst hspot
  refine ⟨b, off, rfl, fun j u hu => ?_⟩
  rw [List.getElem?_map, List.getElem?_take] at hu
  split at hu
  · cases hj : zs[j]? with
    | none => rw [hj] at hu; cases hu
    | some z =>
      rw [hj] at hu; cases hu
      have h1 := hcell j (List.getElem?_eq_some_iff.1 hj).1
      have hg : zs.getD j 0 = z := by simp [List.getD, hj]
      rw [hg] at h1
      unfold Addr.add at h1
      split at h1
      · rename_i h0; subst h0; exact h1
      · exact h1
  · cases hu

theorem open_is {H : Type} {enc : TypeId × Value → H} {w : World} {a0 : Option Addr} {n c : Nat} {d : DataW H} {p : List MemPlace} (h : DataW.Trod enc Tryz.prog w 0 (fun _ => true) true 29 (.slice a0 n c) d p) :
    ∃ l : List Int, IsInts w a0 n c l := by
  obtain ⟨fuel, hf⟩ := h
  rcases open_ints Tryz.underlying29 Tryz.underlying3 (by kernel_rfl) hf with ⟨hcs, _⟩ | ⟨x, l, cc, zs, hcs, _, hl, hm, hz, _, hcell, hwz⟩
  · simp [Value.cells] at hcs
    obtain ⟨rfl, rfl, rfl⟩ := hcs
    exact ⟨[], ⟨Reads.nil, rfl, Nat.le_refl _, Nat.zero_le _, fun e he => by cases he⟩⟩
  · simp [Value.cells] at hcs
    obtain ⟨rfl, rfl, rfl⟩ := hcs
    have hz' : zs.length = c := by simpa using hz
    exact ⟨_, ints_of_cells hl hm (by omega) hcell hwz⟩
end Go.Proofs.YtadngicebbnnlaaGreat

namespace Go.Proofs.YtadngicebbnnlaaGreat
open Go.ChangeShapes Go.WideShapes Go.ChangeAt Go.RowKit Go.Deep

/-- A finding as it lies in memory; s: what its schedule reads as. -/
structure Fr where
  k : Int
  t : Int
  o : Int
  x : Int
  a : Option Addr
  n : Nat
  c : Nat
  s : List Int
instance : Inhabited Fr := ⟨⟨0, 0, 0, 0, none, 0, 0, []⟩⟩
def Fr.fd (r : Fr) : Fd := ⟨r.k, r.t, r.o, r.x, r.s⟩
def Fr.vals (r : Fr) : List Value := [.int .i64 r.k, .int .i64 r.t, .int .i64 r.o, .int .i64 r.x, .slice r.a r.n r.c]
def Fr.wf (r : Fr) : Prop := Fit r.k ∧ Fit r.t ∧ Fit r.o ∧ Fit r.x
/-- Its schedule, read. -/
structure SchAt (w : World) (r : Fr) : Prop where
  is : IsInts w r.a r.n r.c r.s
  nil : r.a = none → r.c = 0
theorem SchAt.below {w w' : World} {r : Fr} (h : SchAt w r) (hb : Below w.heap.size w w') : SchAt w' r := ⟨h.is.below hb, h.nil⟩
theorem SchAt.wrote {R : Nat → Prop} {w w' : World} {r : Fr} (h : SchAt w r) (hw : Wrote R w w') (hn : ∀ g o s, r.a = some ⟨g, o, s⟩ → ¬ R g) : SchAt w' r := by
  refine ⟨⟨⟨h.is.reads.1, fun h0 => ?_⟩, h.is.len, h.is.le, h.is.cap, h.is.wf⟩, h.nil⟩
  obtain ⟨b, off, he, hc⟩ := h.is.reads.2 h0
  refine ⟨b, off, he, fun j u hu => ?_⟩
  have h1 := hc j u hu
  rw [hw.cell (p := ⟨b, off + j, none⟩) (World.block_lt_of_cell? w _ h1) (hn b off none he)]
  exact h1
def eltFr : Elt Fr where
  T := 38
  e := 58
  z := .agg #[.int .i64 0, .int .i64 0, .int .i64 0, .int .i64 0, .slice none 0 0]
  size := 5
  bytes := 56
  f := Fr.vals
  ht := Tryz.underlying38
  hi := by kernel_rfl
  hz := rfl
  hs := by decide
  hb := by decide
  hf := fun _ => rfl
  h1 := fun x u hu => by
    simp only [Fr.vals, List.mem_cons, List.not_mem_nil, or_false] at hu
    rcases hu with rfl | rfl | rfl | rfl | rfl <;> rfl

/-- A slice of findings; R: as they lie. -/
structure IsFds (w : World) (a0 : Option Addr) (n c : Nat) (R : List Fr) : Prop where
  reads : Reads w a0 n 5 (R.flatMap Fr.vals)
  len : R.length = n
  le : n ≤ c
  cap : c ≤ maxLen
  wf : ∀ r ∈ R, r.wf
  sch : ∀ r ∈ R, SchAt w r
section
variable {w w' : World} {a0 : Option Addr} {n c : Nat} {R : List Fr}
theorem IsFds.below (h : IsFds w a0 n c R) (hb : Below w.heap.size w w') : IsFds w' a0 n c R :=
  ⟨h.reads.below hb, h.len, h.le, h.cap, h.wf, fun r hr => (h.sch r hr).below hb⟩
theorem IsFds.bd (h : IsFds w a0 n c R) : n ≤ 9223372036854775807 := by
  have := h.le; have := h.cap; unfold maxLen at *; omega
theorem IsFds.bdc (h : IsFds w a0 n c R) : c ≤ 9223372036854775807 := by
  have := h.cap; unfold maxLen at *; omega
theorem IsFds.at (h : IsFds w a0 n c R) {i : Nat} (hi : i < n) :
    ∃ b off r, a0 = some ⟨b, off, none⟩ ∧ R[i]? = some r ∧ r.wf ∧ SchAt w r ∧ w.cell? ⟨b, off + i * 5, none⟩ = some (.int .i64 r.k) ∧ w.cell? ⟨b, off + i * 5 + 1, none⟩ = some (.int .i64 r.t) ∧
      w.cell? ⟨b, off + i * 5 + 2, none⟩ = some (.int .i64 r.o) ∧ w.cell? ⟨b, off + i * 5 + 3, none⟩ = some (.int .i64 r.x) ∧ w.cell? ⟨b, off + i * 5 + 4, none⟩ = some (.slice r.a r.n r.c) := by
  obtain ⟨b, off, ha, hc⟩ := h.reads.2 (by omega)
  have hl : i < R.length := by rw [h.len]; exact hi
  have hx : R[i]? = some R[i] := List.getElem?_eq_getElem hl
  have g := fun j (hj : j < 5) => flat_get Fr.vals 5 (fun _ => rfl) R i j R[i] hx hj
  refine ⟨b, off, R[i], ha, hx, h.wf _ (List.getElem_mem hl), h.sch _ (List.getElem_mem hl), ?_, ?_, ?_, ?_, ?_⟩
  · exact hc _ _ (g 0 (by decide))
  all_goals rw [Nat.add_assoc]
  · exact hc _ _ (g 1 (by decide))
  · exact hc _ _ (g 2 (by decide))
  · exact hc _ _ (g 3 (by decide))
  · exact hc _ _ (g 4 (by decide))
theorem IsFds.nil (w : World) : IsFds w none 0 0 [] := ⟨Reads.nil, rfl, Nat.le_refl _, Nat.zero_le _, (fun r hr => by cases hr), (fun r hr => by cases hr)⟩
end
theorem OwnL.fds {w : World} {B : Nat} {v : Value} {R : List Fr} (h : OwnL eltFr w B v R) (hw : ∀ r ∈ R, r.wf) (hs : ∀ r ∈ R, SchAt w r) : ∃ a c, v = .slice a R.length c ∧ IsFds w a R.length c R := by
  obtain ⟨a, c, rfl, h1, h2, h3, h4⟩ := h.slice
  refine ⟨a, c, rfl, ⟨⟨flat_len _ 5 (fun _ => rfl) R, fun hn => ?_⟩, rfl, h1, h2, hw, hs⟩⟩
  cases a with
  | none => have := h3 rfl; subst this; simp at hn
  | some ad =>
    obtain ⟨g, o, s⟩ := ad
    obtain ⟨rfl, rfl, _, _, hc⟩ := h4 g o s rfl
    refine ⟨g, 0, rfl, fun j u hu => ?_⟩
    rw [Nat.zero_add]
    exact hc j u hu
/-- A part of it. -/
theorem IsFds.part {w : World} {b off n c : Nat} {R : List Fr} (h : IsFds w (some ⟨b, off, none⟩) n c R) (i m : Nat) (him : i + m ≤ n) : IsFds w (some ⟨b, off + i * 5, none⟩) m (c - i) ((R.drop i).take m) := by
  have hle := h.le
  have hl : ((R.drop i).take m).length = m := by rw [List.length_take, List.length_drop, h.len]; omega
  refine ⟨⟨by rw [flat_len _ 5 (fun _ => rfl), hl], fun hm => ⟨b, off + i * 5, rfl, fun j u hu => ?_⟩⟩, hl, by omega, by have := h.cap; omega, fun r hr => h.wf r (List.mem_of_mem_drop (List.mem_of_mem_take hr)), fun r hr => h.sch r (List.mem_of_mem_drop (List.mem_of_mem_take hr))⟩
  obtain ⟨b', off', he, hc⟩ := h.reads.2 (by omega)
  cases he
  obtain ⟨x, hx, hxu⟩ := flat_inv Fr.vals 5 (fun _ => rfl) (by decide) _ j u hu
  rw [List.getElem?_take] at hx
  split at hx
  · rw [List.getElem?_drop] at hx
    have := flat_get Fr.vals 5 (fun _ => rfl) R (i + j / 5) (j % 5) x hx (Nat.mod_lt _ (by decide))
    rw [hxu] at this
    have h2 := hc _ _ this
    rw [show off + ((i + j / 5) * 5 + j % 5) = off + i * 5 + j by omega] at h2
    exact h2
  · cases hx

section
variable {H : Type} {enc : TypeId × Value → H} {w : World}
set_option maxRecDepth 100000 in
theorem trod_fd {fuel : Nat} {cs : List Value} {x : DataW H × List MemPlace} (h : DataW.trod enc Tryz.prog w 0 (fun _ => true) true fuel 58 cs = some x) :
    ∃ r : Fr, cs = r.vals ∧ r.wf ∧ SchAt w r := by
  obtain ⟨xs, n, _, _, hlen, hxl, hg⟩ := DataW.trod_struct Tryz.underlying58 h
  have hC : Tryz.prog.cellsOf 58 = 5 := by kernel_rfl
  rw [hC] at hlen
  match cs, hlen with
  | [v0, v1, v2, v3, v4], _ =>
    match xs, hxl with
    | [y0, y1, y2, y3, y4], _ =>
      have g0 := hg 0 _ rfl
      have g1 := hg 1 _ rfl
      have g2 := hg 2 _ rfl
      have g3 := hg 3 _ rfl
      have g4 := hg 4 _ rfl
      simp only [List.getElem?_cons_zero, List.getElem?_cons_succ] at g0 g1 g2 g3 g4
      have hci : Tryz.prog.cellsOf 3 = 1 := by kernel_rfl
      have hcs : Tryz.prog.cellsOf 29 = 1 := by kernel_rfl
      obtain ⟨z0, e0, _, w0⟩ := DataW.trod_int Tryz.underlying3 g0
      obtain ⟨z1, e1, _, w1⟩ := DataW.trod_int Tryz.underlying3 g1
      obtain ⟨z2, e2, _, w2⟩ := DataW.trod_int Tryz.underlying3 g2
      obtain ⟨z3, e3, _, w3⟩ := DataW.trod_int Tryz.underlying3 g3
      simp [hci] at e0 e1 e2 e3
      subst e0 e1 e2 e3
      have g4' : DataW.trod enc Tryz.prog w 0 (fun _ => true) true n 29 (([Value.int .i64 z0, .int .i64 z1, .int .i64 z2, .int .i64 z3, v4].drop 4).take (Tryz.prog.cellsOf 29)) = some y4 := g4
      rw [hcs] at g4'
      simp only [List.drop_succ_cons, List.drop_zero, List.take_succ_cons, List.take_zero] at g4'
      rcases open_ints Tryz.underlying29 Tryz.underlying3 (by kernel_rfl) g4' with ⟨hcs, _⟩ | ⟨x, l, cc, zs, hcs, _, hl, hm, hz, _, hcell, hwz⟩
      · obtain rfl : v4 = .slice none 0 0 := by simpa using hcs
        exact ⟨⟨z0, z1, z2, z3, none, 0, 0, []⟩, rfl, ⟨w0, w1, w2, w3⟩, ⟨⟨Reads.nil, rfl, Nat.le_refl _, Nat.zero_le _, fun e he => by cases he⟩, fun _ => rfl⟩⟩
      · obtain rfl : v4 = .slice (some x) l cc := by simpa using hcs
        have hz' : zs.length = cc := by simpa using hz
        exact ⟨⟨z0, z1, z2, z3, some x, l, cc, _⟩, rfl, ⟨w0, w1, w2, w3⟩, ⟨ints_of_cells hl hm (by omega) hcell hwz, fun h => by cases h⟩⟩
set_option maxRecDepth 100000 in
theorem open_fd {r : Reach} {b0 : Nat} {v : Value} {d : DataW H} {p : List MemPlace} (hv : Value.okWide Tryz.prog w r b0 58 v) (h : DataW.Trod enc Tryz.prog w 0 (fun _ => true) true 58 v d p) :
    ∃ r : Fr, v = .agg #[.int .i64 r.k, .int .i64 r.t, .int .i64 r.o, .int .i64 r.x, .slice r.a r.n r.c] ∧ r.wf ∧ SchAt w r := by
  obtain ⟨cs, rfl, hsz⟩ := okWide_struct Tryz.underlying58 hv
  obtain ⟨fuel, hf'⟩ := h
  obtain ⟨r, h1, h2, h3⟩ := trod_fd hf'
  refine ⟨r, ?_, h2, h3⟩
  have h4 : cs.toList = r.vals := by simpa [Value.cells] using h1
  have : cs = r.vals.toArray := by rw [← h4]
  rw [this]; rfl
set_option maxRecDepth 100000 in
theorem open_fds {a0 : Option Addr} {n c : Nat} {d : DataW H} {p : List MemPlace} (h : DataW.Trod enc Tryz.prog w 0 (fun _ => true) true 38 (.slice a0 n c) d p) :
    ∃ R : List Fr, IsFds w a0 n c R := by
  obtain ⟨fuel, h'⟩ := h
  rcases open_slice Tryz.underlying38 h' with ⟨h0, _⟩ | ⟨a, len, cap, m, k, D, Pl, hcs, hb, hl, hm, hmm, hx, hi⟩
  · simp [Value.cells] at h0
    obtain ⟨rfl, rfl, rfl⟩ := h0
    exact ⟨[], IsFds.nil w⟩
  · simp [Value.cells] at hcs
    obtain ⟨rfl, rfl, rfl⟩ := hcs
    have hC : Tryz.prog.cellsOf 58 = 5 := by kernel_rfl
    obtain ⟨R, h1, h2, h3⟩ := ofFlats Fr.vals 5 (by decide) (fun _ => rfl) (fun r => r.wf ∧ SchAt w r) (w := w) (a := a) (n := n) (fun i hin => by
      obtain ⟨cs', hc, ht'⟩ := hi i (by rw [hmm]; split <;> omega)
      rw [hC] at hc
      obtain ⟨r, rfl, hw, hs⟩ := trod_fd ht'
      obtain ⟨_, hcl, hat⟩ := World.cells?_some hc
      refine ⟨r, ⟨hw, hs⟩, fun j u hu => ?_⟩
      have hj : j < 5 := (List.getElem?_eq_some_iff.1 hu).1
      rw [← Go.Deep.add_add, hat j hj]
      exact hu)
    exact ⟨R, ⟨h3, h1, hl, hm, fun r hr => (h2 r hr).1, fun r hr => (h2 r hr).2⟩⟩
end
end Go.Proofs.YtadngicebbnnlaaGreat

namespace Go.Proofs.YtadngicebbnnlaaGreat
open Go Go.RowKit

/-! Two lists of findings that name the same. -/
def Fd.strip (f : Fd) : Fd := ⟨f.k, f.t, f.o, f.x, []⟩
theorem strip_same {f g : Fd} (h : SameF f g) : f.strip = g.strip := by
  obtain ⟨h1, h2, h3, h4⟩ := h
  unfold Fd.strip; rw [h1, h2, h3, h4]
theorem strip_inv {f g : Fd} (h : f.strip = g.strip) : SameF f g := by
  unfold Fd.strip at h
  simp only [Fd.mk.injEq, and_true] at h
  exact h
theorem Merged.names {l m : List Fd} (h : Merged l m) (y : Fd) : y ∈ m.map Fd.strip ↔ ∃ f ∈ l, f.strip = y := by
  rw [List.mem_map]
  constructor
  · rintro ⟨f, hf, rfl⟩
    exact ⟨f, List.mem_of_find?_eq_some ((h.mem f).1 hf), rfl⟩
  · rintro ⟨f, hf, rfl⟩
    cases hg : l.find? (sameB f) with
    | none => exact absurd (sameB_iff.2 (SameF.refl f)) (by simpa using List.find?_eq_none.1 hg f hf)
    | some g =>
      have h1 : SameF f g := sameB_iff.1 (List.find?_some hg)
      exact ⟨g, (h.mem g).2 (by rw [find_same h1.symm, hg]), (strip_same h1).symm⟩
theorem Merged.names_up {l m : List Fd} (h : Merged l m) : (m.map Fd.strip).Pairwise ltFd := List.Pairwise.map _ (fun _ _ hab => hab) h.up
theorem alike_of {l l' m m' : List Fd} (h : Merged l m) (h' : Merged l' m') (h1 : ∀ f ∈ l, ∃ g ∈ l', SameF g f) (h2 : ∀ g ∈ l', ∃ f ∈ l, SameF f g) : m.map Fd.strip = m'.map Fd.strip := by
  have n1 : (m.map Fd.strip).Nodup := h.names_up.imp fun hab e => by subst e; exact ltFd.irrefl _ hab
  have n2 : (m'.map Fd.strip).Nodup := h'.names_up.imp fun hab e => by subst e; exact ltFd.irrefl _ hab
  refine rises_eq (fun _ _ hab => hab.not_symm) ((List.perm_ext_iff_of_nodup n1 n2).2 fun y => ?_) h.names_up h'.names_up
  rw [h.names, h'.names]
  constructor
  · rintro ⟨f, hf, rfl⟩
    obtain ⟨g, hg, hs⟩ := h1 f hf
    exact ⟨g, hg, strip_same hs⟩
  · rintro ⟨f, hf, rfl⟩
    obtain ⟨g, hg, hs⟩ := h2 f hf
    exact ⟨g, hg, strip_same hs⟩

/-! The findings. -/
def badF (s : List Int) (e : Ev) : List Fd := if e.b = 0 then [] else if e.b = 1 then [⟨1, e.t, 0, 0, s⟩] else [⟨2, e.t, 0, e.b, s⟩]
def raceF (l : List Ev) (s : List Int) (p : Nat × Nat) : Fd :=
  ⟨4, min (l.getD p.1 ev00).t (l.getD p.2 ev00).t, max (l.getD p.1 ev00).t (l.getD p.2 ev00).t, (l.getD p.1 ev00).o, s⟩
def canAny (S : LogS) (next : List Ac) (m : Nat) : Bool := (List.range m).any fun t => match next[t]? with
  | some a => canB S t a.k a.o
  | none => false
def noRun (S : LogS) (m : Nat) : Bool := (List.range m).all fun t => S.st t != 2
def stuckR (S : LogS) (next : List Ac) : Option Nat := if canAny S next next.length then none else (List.range 8).find? fun t => S.st t == 2
def deadF (s : List Int) : Option Nat → List Fd
  | some t => [⟨3, t, 0, 0, s⟩]
  | none => []
theorem badF_len (s : List Int) (e : Ev) : (badF s e).length ≤ 1 := by unfold badF; split <;> (try split) <;> simp
def badsN (l : List Ev) (s : List Int) (i : Nat) : List Fd := (l.take i).flatMap (badF s)
theorem badsN_succ {l : List Ev} {s : List Int} {i : Nat} {e : Ev} (h : l[i]? = some e) : badsN l s (i + 1) = badsN l s i ++ badF s e := by
  unfold badsN; rw [List.take_add_one, h, List.flatMap_append]; simp
theorem badsN_len (l : List Ev) (s : List Int) (i : Nat) : (badsN l s i).length ≤ i := by
  unfold badsN
  rw [List.length_flatMap]
  have : ∀ (k : List Ev), (k.map fun a => (badF s a).length).sum ≤ k.length := fun k => by
    induction k with
    | nil => simp
    | cons a k ih => have := badF_len s a; simp only [List.map_cons, List.sum_cons, List.length_cons]; omega
  have h1 := this (l.take i)
  have h2 := List.length_take_le i l
  omega
theorem canAny_succ (S : LogS) (next : List Ac) {m : Nat} {a : Ac} (h : next[m]? = some a) : canAny S next (m + 1) = (canAny S next m || canB S m a.k a.o) := by
  unfold canAny; rw [List.range_succ, List.any_append]; simp [h]
theorem noRun_succ (S : LogS) (m : Nat) : noRun S (m + 1) = (noRun S m && S.st m != 2) := by
  unfold noRun; rw [List.range_succ, List.all_append]; simp
theorem stuckR_can {S : LogS} {next : List Ac} {m : Nat} (hm : m ≤ next.length) (h : canAny S next m = true) : stuckR S next = none := by
  have : canAny S next next.length = true := by
    unfold canAny at h ⊢
    obtain ⟨t, ht, h⟩ := List.any_eq_true.1 h
    exact List.any_eq_true.2 ⟨t, List.mem_range.2 (by have := List.mem_range.1 ht; omega), h⟩
  unfold stuckR; rw [if_pos this]
theorem stuckR_at {S : LogS} {next : List Ac} {m : Nat} (h : canAny S next next.length = false) (hm : m < 8) (hn : noRun S m = true) (hs : S.st m = 2) : stuckR S next = some m := by
  unfold stuckR
  rw [if_neg (by rw [h]; simp), List.find?_eq_some_iff_getElem]
  refine ⟨by simp [hs], m, by simpa using hm, by simp, fun j hj => ?_⟩
  unfold noRun at hn
  have := List.all_eq_true.1 hn j (List.mem_range.2 hj)
  simpa [bne] using this
theorem stuckR_none {S : LogS} {next : List Ac} (h : canAny S next next.length = false) (hn : noRun S 8 = true) : stuckR S next = none := by
  unfold stuckR
  rw [if_neg (by rw [h]; simp), List.find?_eq_none]
  intro t ht
  unfold noRun at hn
  have := List.all_eq_true.1 hn t ht
  simpa [bne] using this
theorem stuckR_lt {S : LogS} {next : List Ac} {t : Nat} (h : stuckR S next = some t) : t < 8 := by
  unfold stuckR at h
  split at h
  · cases h
  · exact List.mem_range.1 (List.mem_of_find?_eq_some h)
noncomputable def foundL (l : List Ev) (S : LogS) (next : List Ac) : List Fd :=
  badsN l (l.map Ev.t) l.length ++ (docC l l.length).map (raceF l (l.map Ev.t)) ++ deadF (l.map Ev.t) (stuckR S next)

/-! Exchanges. -/
theorem stuckR_like {S T : LogS} (hst : S.st = T.st) (how : S.ow = T.ow) (next : List Ac) : stuckR S next = stuckR T next := by
  have hc : ∀ (t : Int) (a : Ac), canB S t a.k a.o = canB T t a.k a.o := fun t a => by unfold canB waitB; rw [hst, how]
  unfold stuckR canAny
  rw [hst]
  congr 2
  congr 1
  funext t
  cases next[t]? with
  | none => rfl
  | some a => exact hc t a
theorem bad_same (s s' : List Int) (e : Ev) {f : Fd} (h : f ∈ badF s e) : ∃ g ∈ badF s' e, SameF g f := by
  unfold badF at h ⊢
  split at h
  · cases h
  · split at h
    · rename_i h0 h1
      obtain rfl := List.mem_singleton.1 h
      exact ⟨⟨1, e.t, 0, 0, s'⟩, by rw [if_neg h0, if_pos h1]; exact List.mem_singleton.2 rfl, rfl, rfl, rfl, rfl⟩
    · rename_i h0 h1
      obtain rfl := List.mem_singleton.1 h
      exact ⟨⟨2, e.t, 0, e.b, s'⟩, by rw [if_neg h0, if_neg h1]; exact List.mem_singleton.2 rfl, rfl, rfl, rfl, rfl⟩
theorem found_up {l l' : List Ev} {S T : LogS} {i : Nat} (h : Swp l l' i) (hst : S.st = T.st) (how : S.ow = T.ow) (next : List Ac) : ∀ f ∈ foundL l S next, ∃ g ∈ foundL l' T next, SameF g f := by
  intro f hf
  unfold foundL at hf ⊢
  have hlt := h.lt
  simp only [List.mem_append] at hf
  rcases hf with (hf | hf) | hf
  · unfold badsN at hf
    rw [List.take_length] at hf
    obtain ⟨e, he, hf⟩ := List.mem_flatMap.1 hf
    obtain ⟨u, hu, rfl⟩ := List.getElem_of_mem he
    obtain ⟨g, hg, hs⟩ := bad_same _ (l'.map Ev.t) _ hf
    refine ⟨g, ?_, hs⟩
    simp only [List.mem_append]
    refine .inl (.inl ?_)
    unfold badsN
    rw [List.take_length]
    refine List.mem_flatMap.2 ⟨_, ?_, hg⟩
    have hsu : sw i u < l'.length := by
      rw [h.len]; unfold sw; split <;> (try split) <;> omega
    have hget := h.get u
    rw [List.getD_eq_getElem?_getD, List.getElem?_eq_getElem hsu, List.getD_eq_getElem?_getD, List.getElem?_eq_getElem hu] at hget
    simp only [Option.getD_some] at hget
    rw [← hget]
    exact List.getElem_mem hsu
  · obtain ⟨p, hp, rfl⟩ := List.mem_map.1 hf
    have hq := h.race_up rfl hp
    refine ⟨raceF l' (l'.map Ev.t) (swP i p), ?_, ?_⟩
    · simp only [List.mem_append]
      refine .inl (.inr (List.mem_map.2 ⟨_, ?_, rfl⟩))
      rw [h.len]; exact hq
    · unfold raceF
      show SameF ⟨4, min (l'.getD (sw i p.1) ev00).t (l'.getD (sw i p.2) ev00).t, max (l'.getD (sw i p.1) ev00).t (l'.getD (sw i p.2) ev00).t, (l'.getD (sw i p.1) ev00).o, l'.map Ev.t⟩ _
      rw [h.get, h.get]
      exact ⟨rfl, rfl, rfl, rfl⟩
  · rw [← stuckR_like hst how next]
    cases hr : stuckR S next with
    | none => rw [hr] at hf; cases hf
    | some t =>
      rw [hr] at hf
      obtain rfl := List.mem_singleton.1 hf
      exact ⟨⟨3, t, 0, 0, l'.map Ev.t⟩, by simp [deadF], rfl, rfl, rfl, rfl⟩
theorem found_same {l l' : List Ev} {S T : LogS} {i : Nat} (h : Swp l l' i) (hst : S.st = T.st) (how : S.ow = T.ow) (next : List Ac) {m m' : List Fd} (hm : Merged (foundL l S next) m) (hm' : Merged (foundL l' T next) m') : m.map Fd.strip = m'.map Fd.strip :=
  alike_of hm hm' (found_up h hst how next) (found_up h.symm hst.symm how.symm next)
end Go.Proofs.YtadngicebbnnlaaGreat

namespace Go.Proofs.YtadngicebbnnlaaGreat
open Go.ChangeShapes Go.WideShapes Go.ChangeAt Go.RowKit Go.Deep

theorem measD {M j : Nat} (h : j < M) : M - (intOf (.int .i64 ((j : Int) + 1))).toNat < M - (intOf (.int .i64 (j : Int))).toNat := by
  simp only [intOf]; omega
theorem orI_drop {xs : List Int} {k : Nat} {x : Int} (h : xs[k]? = some x) : orI (xs.drop k) = if x = 0 then orI (xs.drop (k + 1)) else x := by
  rw [List.drop_eq_getElem_cons (List.getElem?_eq_some_iff.1 h).1]
  have e := (List.getElem?_eq_some_iff.1 h).2
  rw [e]; rfl
set_option maxHeartbeats 2000000 in
theorem orN_calls {w : World} {b n : Nat} {xs : List Int} (hn : xs.length = n) (hc : ∀ i x, xs[i]? = some x → w.cell? ⟨b, i, none⟩ = some (.int .i64 x)) (hb : n ≤ 100) :
    Calls Tryz.prog 44 #[.slice (some ⟨b, 0, none⟩) n n] w fun e w' => e = .returned (.int .i64 (orI xs)) ∧ w = w' := by
  have Hn := Lib.hid hn
  have Hc := Lib.hid hc
  obtain ⟨r, hr⟩ : ∃ r, r = orI xs := ⟨_, rfl⟩
  rw [← hr]
  have Hr := Lib.hid hr
  clear hn hc hr
  go_enter Tryz.func44, Tryz.ntmps44
  go_wp2_with fail
  go_loopw [5, 8] (fun _ v wr => ∃ k : Nat, k ≤ n ∧ v = .int .i64 k ∧ Hid (orI xs = orI (xs.drop k)) ∧ wr = w) (fun _ v _ => n - (intOf v).toNat)
  case atStart => exact ⟨0, Nat.zero_le _, by go_num, rfl, rfl⟩
  case round =>
    obtain ⟨k, hk, rfl, HO, rfl⟩ := hrel
    by_cases hkn : k < n
    · obtain ⟨x, hx⟩ : ∃ x, xs[k]? = some x := ⟨_, List.getElem?_eq_getElem (by rw [Hn.out]; exact hkn)⟩
      have c0 := Hc.out k x hx
      have HO2 := Lib.hid (orI_drop hx)
      clear hx
      by_cases h0 : x = 0
      · have hxb : (x != 0) = false := by simpa using h0
        have HO3 : Hid (orI xs = orI (xs.drop (k + 1))) := by rw [Hid, HO.out, HO2.out, if_pos h0]
        clear h0
        go_wp2
        go_roundw
        case rel => exact ⟨k + 1, hkn, by go_num, HO3.out, by first | rfl | trivial⟩
        case measure => exact measD hkn
      · have hxb : (x != 0) = true := by simpa using h0
        have Hv : Hid (r = x) := by rw [Hid, Hr.out, HO.out, HO2.out, if_neg h0]
        clear h0
        go_wp2
        go_ret
        exact ⟨by rw [Hv.out]; rfl, rfl⟩
    · have hkn : k = n := Nat.le_antisymm hk (Nat.le_of_not_lt hkn)
      subst hkn
      have Hv : Hid (r = 0) := by rw [Hid, Hr.out, HO.out, List.drop_eq_nil_of_le (by rw [Hn.out]; exact Nat.le_refl _)]; rfl
      go_wp2
      go_ret
      exact ⟨by rw [Hv.out]; rfl, rfl⟩

def cmp4 (xk xt xo xx yk yt yo yx : Int) : Int := orI [cmpI xk yk, cmpI xt yt, cmpI xo yo, cmpI xx yx]
theorem cmp4_is (x y : Fr) : cmp4 x.k x.t x.o x.x y.k y.t y.o y.x = cmpF x.fd y.fd := rfl
theorem heap_two (W : World) (A B : Array Value) (t : TypeId) : ((W.alloc (.cells A t)).alloc (.cells B t)).heap[W.heap.size]? = some (.cells A t (0, 0)) ∧ ((W.alloc (.cells A t)).alloc (.cells B t)).heap[W.heap.size + 1]? = some (.cells B t (0, 0)) ∧
    Below W.heap.size W ((W.alloc (.cells A t)).alloc (.cells B t)) ∧ W.drawn ≤ ((W.alloc (.cells A t)).alloc (.cells B t)).drawn := by
  have hA := (MapKept.heap_alloc W (.cells A t)).1
  have hB := (MapKept.heap_alloc (W.alloc (.cells A t)) (.cells B t)).1
  have hs : (W.alloc (.cells A t)).heap.size = W.heap.size + 1 := by simp
  rw [hs] at hB
  have b1 : Below W.heap.size W (W.alloc (.cells A t)) := (Below.refl _ W).alloc (Nat.le_refl _) _
  have b2 : Below (W.alloc (.cells A t)).heap.size (W.alloc (.cells A t)) ((W.alloc (.cells A t)).alloc (.cells B t)) := (Below.refl _ _).alloc (Nat.le_refl _) _
  exact ⟨(b2.block W.heap.size (by simp)).trans hA, hB, b1.trans (b2.mono (by simp)), Nat.le_refl _⟩

set_option maxRecDepth 20000 in
set_option maxHeartbeats 8000000 in
theorem fcmp_calls (xk xt xo xx yk yt yo yx : Int) (xa ya : Option Addr) (xn xc yn yc : Nat) (W : World) :
    Calls Tryz.prog 57 #[.agg #[.int .i64 xk, .int .i64 xt, .int .i64 xo, .int .i64 xx, .slice xa xn xc], .agg #[.int .i64 yk, .int .i64 yt, .int .i64 yo, .int .i64 yx, .slice ya yn yc]] W fun e w' => e = .returned (.int .i64 (cmp4 xk xt xo xx yk yt yo yx)) ∧ Below W.heap.size W w' ∧ W.drawn ≤ w'.drawn := by
  have hc1 := fun W' => cmp_calls xk yk W'
  have hc2 := fun W' => cmp_calls xt yt W'
  have hc3 := fun W' => cmp_calls xo yo W'
  have hc4 := fun W' => cmp_calls xx yx W'
  have Hp : Hid (cmp4 xk xt xo xx yk yt yo yx = orI [cmpI xk yk, cmpI xt yt, cmpI xo yo, cmpI xx yx]) := rfl
  revert hc1 hc2 hc3 hc4 Hp
  generalize cmpI xk yk = r1
  generalize cmpI xt yt = r2
  generalize cmpI xo yo = r3
  generalize cmpI xx yx = r4
  intro hc1 hc2 hc3 hc4 Hp
  go_enter Tryz.func57, Tryz.ntmps57
  go_wp2_with fail
  have hN := heap_two W #[.int .i64 xk, .int .i64 xt, .int .i64 xo, .int .i64 xx, .slice xa xn xc] #[.int .i64 yk, .int .i64 yt, .int .i64 yo, .int .i64 yx, .slice ya yn yc] 58
  revert hN
  generalize (W.alloc (.cells #[.int .i64 xk, .int .i64 xt, .int .i64 xo, .int .i64 xx, .slice xa xn xc] 58)).alloc (.cells #[.int .i64 yk, .int .i64 yt, .int .i64 yo, .int .i64 yx, .slice ya yn yc] 58) = w
  rintro ⟨hA, hB, hb0, hd0⟩
  have c0 : w.cell? ⟨W.heap.size, 0, none⟩ = some (.int .i64 xk) := cell_of_block hA
  have c1 : w.cell? ⟨W.heap.size, 1, none⟩ = some (.int .i64 xt) := cell_of_block hA
  have c2 : w.cell? ⟨W.heap.size, 2, none⟩ = some (.int .i64 xo) := cell_of_block hA
  have c3 : w.cell? ⟨W.heap.size, 3, none⟩ = some (.int .i64 xx) := cell_of_block hA
  have d0 : w.cell? ⟨W.heap.size + 1, 0, none⟩ = some (.int .i64 yk) := cell_of_block hB
  have d1 : w.cell? ⟨W.heap.size + 1, 1, none⟩ = some (.int .i64 yt) := cell_of_block hB
  have d2 : w.cell? ⟨W.heap.size + 1, 2, none⟩ = some (.int .i64 yo) := cell_of_block hB
  have d3 : w.cell? ⟨W.heap.size + 1, 3, none⟩ = some (.int .i64 yx) := cell_of_block hB
  have HB0 := Lib.hid hb0
  have HD0 := Lib.hid hd0
  clear hA hB hb0 hd0
  refine wp_text_draw 20 (fun w' => Below w.heap.size w w' ∧ w.drawn ≤ w'.drawn) mixed (by kernel_rfl) ⟨(Below.refl _ w).drew, Nat.le_succ _⟩ ?_
  simp only [List.take_succ_cons, List.take_zero, List.drop_succ_cons, List.drop_zero]
  repeat ((first | ((apply TextRun.go rfl rfl rfl); (focus (intro w1 hS0 K hK; have hS := hS0.1; have hc := bcell hS; have hs := blt hS; have c0 := keep hS c0; have c1 := keep hS c1; have c2 := keep hS c2; have c3 := keep hS c3; have d0 := keep hS d0; have d1 := keep hS d1; have d2 := keep hS d2; have d3 := keep hS d3; go_wp2_with (first | ((with_reducible refine (hc1 _).mono ?_); rintro e w' ⟨rfl, rfl⟩) | ((with_reducible refine (hc2 _).mono ?_); rintro e w' ⟨rfl, rfl⟩) | ((with_reducible refine (hc3 _).mono ?_); rintro e w' ⟨rfl, rfl⟩) | ((with_reducible refine (hc4 _).mono ?_); rintro e w' ⟨rfl, rfl⟩)); first | done | exact hS0))) | (refine TextRun.skip rfl ?_) | ((refine TextRun.wantedT rfl rfl rfl ?_); (apply Exists.intro); (apply And.intro); (focus (intro w1 hS0 K hK; have hS := hS0.1; have hc := bcell hS; have hs := blt hS; have c0 := keep hS c0; have c1 := keep hS c1; have c2 := keep hS c2; have c3 := keep hS c3; have d0 := keep hS d0; have d1 := keep hS d1; have d2 := keep hS d2; have d3 := keep hS d3; go_wp2_with (first | ((with_reducible refine (hc1 _).mono ?_); rintro e w' ⟨rfl, rfl⟩) | ((with_reducible refine (hc2 _).mono ?_); rintro e w' ⟨rfl, rfl⟩) | ((with_reducible refine (hc3 _).mono ?_); rintro e w' ⟨rfl, rfl⟩) | ((with_reducible refine (hc4 _).mono ?_); rintro e w' ⟨rfl, rfl⟩)); first | done | exact hS0)))); (simp only [Act.put, List.setIfInBounds_toArray, List.set_cons_zero, List.set_cons_succ]))
  refine TextRun.done ?_
  rintro w2 ⟨hb, hd⟩
  have hbb := HB0.out.trans (hb.mono HB0.out.size)
  have hdd : W.drawn ≤ w2.drawn := Nat.le_trans HD0.out hd
  have hal : Below w2.heap.size w2 (w2.alloc (.cells #[.int .i64 r1, .int .i64 r2, .int .i64 r3, .int .i64 r4] 3)) := (Below.refl _ w2).alloc (Nat.le_refl _) _
  have Hend : Hid (Below W.heap.size W (w2.alloc (.cells #[.int .i64 r1, .int .i64 r2, .int .i64 r3, .int .i64 r4] 3)) ∧ W.drawn ≤ (w2.alloc (.cells #[.int .i64 r1, .int .i64 r2, .int .i64 r3, .int .i64 r4] 3)).drawn) := ⟨hbb.trans (hal.mono hbb.size), hdd⟩
  have Ho := Lib.hid (orN_calls (w := w2.alloc (.cells #[.int .i64 r1, .int .i64 r2, .int .i64 r3, .int .i64 r4] 3)) (b := w2.heap.size) (n := 4) (xs := [r1, r2, r3, r4]) rfl (fun i x h => cell_new (by
    rw [← Array.getElem?_toList]
    show (([r1, r2, r3, r4] : List Int).map (Value.int .i64))[i]? = _
    rw [List.getElem?_map, h]; rfl)) (by omega))
  clear hb hd hbb hdd hal c0 c1 c2 c3 d0 d1 d2 d3 hc1 hc2 hc3 hc4
  go_wp2_with fail
  refine Ho.out.mono ?_
  rintro e w3 ⟨rfl, rfl⟩
  rw [← Hp.out]
  go_wp2
  go_ret
  exact ⟨rfl, Hend.out⟩

theorem getL4 {a b c d : Int} {k : Nat} (h : k < 4) : ∃ x, [a, b, c, d][k]? = some x := ⟨_, List.getElem?_eq_getElem h⟩
theorem cells4 {W : World} {g : Nat} {a b c d : Int} {t : TypeId} (h : W.heap[g]? = some (.cells #[.int .i64 a, .int .i64 b, .int .i64 c, .int .i64 d] t (0, 0))) {i : Nat} {x : Int} (hx : [a, b, c, d][i]? = some x) : W.cell? ⟨g, i, none⟩ = some (.int .i64 x) := by
  rw [cell_of_block h, ← Array.getElem?_toList]
  show (([a, b, c, d] : List Int).map (Value.int .i64))[i]? = _
  rw [List.getElem?_map, hx]; rfl
theorem cmp4_drop {xk xt xo xx yk yt yo yx x y : Int} {k : Nat} (hx : [xk, xt, xo, xx][k]? = some x) (hy : [yk, yt, yo, yx][k]? = some y) :
    orI ([cmpI xk yk, cmpI xt yt, cmpI xo yo, cmpI xx yx].drop k) = if cmpI x y = 0 then orI ([cmpI xk yk, cmpI xt yt, cmpI xo yo, cmpI xx yx].drop (k + 1)) else cmpI x y := by
  refine orI_drop ?_
  have hk : k < 4 := (List.getElem?_eq_some_iff.1 hx).1
  obtain rfl | rfl | rfl | rfl : k = 0 ∨ k = 1 ∨ k = 2 ∨ k = 3 := by omega
  all_goals (simp only [List.getElem?_cons_zero, List.getElem?_cons_succ, Option.some.injEq] at hx hy ⊢; subst hx hy; rfl)

set_option maxRecDepth 20000 in
set_option maxHeartbeats 8000000 in
theorem rfcmp_calls (xk xt xo xx yk yt yo yx : Int) (xa ya : Option Addr) (xn xc yn yc : Nat) (W : World) :
    Calls Tryz.prog 38 #[.agg #[.int .i64 xk, .int .i64 xt, .int .i64 xo, .int .i64 xx, .slice xa xn xc], .agg #[.int .i64 yk, .int .i64 yt, .int .i64 yo, .int .i64 yx, .slice ya yn yc]] W fun e w' => e = .returned (.int .i64 (cmp4 xk xt xo xx yk yt yo yx)) ∧ Below W.heap.size W w' := by
  obtain ⟨r, hr⟩ : ∃ r, r = cmp4 xk xt xo xx yk yt yo yx := ⟨_, rfl⟩
  rw [← hr]
  have Hr := Lib.hid hr
  clear hr
  go_enter Tryz.func38, Tryz.ntmps38
  go_upto_region 3 with (fail)
  have hN := heap_two W #[.int .i64 xk, .int .i64 xt, .int .i64 xo, .int .i64 xx, .slice xa xn xc] #[.int .i64 yk, .int .i64 yt, .int .i64 yo, .int .i64 yx, .slice ya yn yc] 58
  revert hN
  generalize hw : (W.alloc (.cells #[.int .i64 xk, .int .i64 xt, .int .i64 xo, .int .i64 xx, .slice xa xn xc] 58)).alloc (.cells #[.int .i64 yk, .int .i64 yt, .int .i64 yo, .int .i64 yx, .slice ya yn yc] 58) = w
  have hsz : w.heap.size = W.heap.size + 2 := by rw [← hw]; simp
  clear hw
  rintro ⟨_, _, hb0, _⟩
  have hM := heap_two w #[.int .i64 xk, .int .i64 xt, .int .i64 xo, .int .i64 xx] #[.int .i64 yk, .int .i64 yt, .int .i64 yo, .int .i64 yx] 103
  rw [hsz] at hM
  revert hM
  generalize (w.alloc (.cells #[.int .i64 xk, .int .i64 xt, .int .i64 xo, .int .i64 xx] 103)).alloc (.cells #[.int .i64 yk, .int .i64 yt, .int .i64 yo, .int .i64 yx] 103) = w1
  rintro ⟨hA, hB, hb1, _⟩
  have HB1 := Lib.hid (hb0.trans (hb1.mono (by omega)))
  have HX : Hid (∀ i x, [xk, xt, xo, xx][i]? = some x → w1.cell? ⟨W.heap.size + 2, i, none⟩ = some (.int .i64 x)) := fun i x h => cells4 hA h
  have HY : Hid (∀ i x, [yk, yt, yo, yx][i]? = some x → w1.cell? ⟨W.heap.size + 3, i, none⟩ = some (.int .i64 x)) := fun i x h => cells4 hB h
  clear hA hB hb0 hb1 hsz
  go_wp2_with fail
  go_loopw [7] (fun v wr => ∃ k : Nat, k ≤ 4 ∧ v = .int .i64 k ∧ Hid (cmp4 xk xt xo xx yk yt yo yx = orI ([cmpI xk yk, cmpI xt yt, cmpI xo yo, cmpI xx yx].drop k)) ∧ Hid (Below w1.heap.size w1 wr)) (fun v _ => 4 - (intOf v).toNat)
  case atStart => exact ⟨0, Nat.zero_le _, by go_num, rfl, Below.refl ..⟩
  case round =>
    obtain ⟨k, hk, rfl, HO, HB⟩ := hrel
    by_cases hkn : k < 4
    · obtain ⟨x, hx⟩ := getL4 (a := xk) (b := xt) (c := xo) (d := xx) hkn
      obtain ⟨y, hy⟩ := getL4 (a := yk) (b := yt) (c := yo) (d := yx) hkn
      have c0 := keep HB.out (HX.out k x hx)
      have d0 := keep HB.out (HY.out k y hy)
      have HO2 := Lib.hid (HO.out.trans (cmp4_drop hx hy))
      have Hc := Lib.hid (cmpI_cases x y)
      clear hx hy HO
      go_wp2_with fail
      refine wp_ext_draw 7 mixed (by kernel_rfl) ?_
      simp only [List.take_succ_cons, List.take_zero, List.drop_succ_cons, List.drop_zero]
      repeat ((first | ((apply TextRun.go rfl rfl rfl); (focus (intro w1 hS K hK; have hc := bcell hS; have hs := blt hS; have c0 := keep hS c0; have d0 := keep hS d0; go_wp2_with (fail); first | done | exact hS | exact hS.trans (hb.mono hS.size)))) | (refine TextRun.skip rfl ?_) | ((refine TextRun.wantedT rfl rfl rfl ?_); (apply Exists.intro); (apply And.intro); (focus (intro w1 hS K hK; have hc := bcell hS; have hs := blt hS; have c0 := keep hS c0; have d0 := keep hS d0; go_wp2_with (fail); first | done | exact hS | exact hS.trans (hb.mono hS.size))))); (simp only [Act.put, List.setIfInBounds_toArray, List.set_cons_zero, List.set_cons_succ]))
      refine TextRun.done ?_
      intro w2 hb
      have HB2 := Lib.hid (HB.out.trans (hb.mono HB.out.size))
      have c0 := keep hb c0
      have d0 := keep hb d0
      clear hb HB
      rcases Hc.out with ⟨h1, h2⟩ | ⟨h1, h2⟩ | ⟨h1, h2⟩
      · have hd : decide (x < y) = true := decide_eq_true h1
        rw [hd]
        have Hv : Hid (r = -1) := by rw [Hid, Hr.out, HO2.out, h2]; rfl
        have Hend := Lib.hid (HB1.out.trans (HB2.out.mono HB1.out.size))
        clear h1 h2 Hc
        go_wp2
        go_ret
        exact ⟨by rw [Hv.out]; rfl, Hend.out⟩
      · have hd : decide (x < y) = false := decide_eq_false (by omega)
        rw [hd]
        have hd2 : decide (y < x) = false := decide_eq_false (by omega)
        have HO3 : Hid (cmp4 xk xt xo xx yk yt yo yx = orI ([cmpI xk yk, cmpI xt yt, cmpI xo yo, cmpI xx yx].drop (k + 1))) := by rw [Hid, HO2.out, if_pos h2]
        clear h1 h2 Hc HO2
        go_wp2_with fail
        refine wp_ext_draw 7 mixed (by kernel_rfl) ?_
        simp only [List.take_succ_cons, List.take_zero, List.drop_succ_cons, List.drop_zero]
        repeat ((first | ((apply TextRun.go rfl rfl rfl); (focus (intro w1 hS K hK; have hc := bcell hS; have hs := blt hS; have c0 := keep hS c0; have d0 := keep hS d0; go_wp2_with (fail); first | done | exact hS | exact hS.trans (hb.mono hS.size)))) | (refine TextRun.skip rfl ?_) | ((refine TextRun.wantedT rfl rfl rfl ?_); (apply Exists.intro); (apply And.intro); (focus (intro w1 hS K hK; have hc := bcell hS; have hs := blt hS; have c0 := keep hS c0; have d0 := keep hS d0; go_wp2_with (fail); first | done | exact hS | exact hS.trans (hb.mono hS.size))))); (simp only [Act.put, List.setIfInBounds_toArray, List.set_cons_zero, List.set_cons_succ]))
        refine TextRun.done ?_
        intro w3 hb
        have HB3 := Lib.hid (HB2.out.trans (hb.mono HB2.out.size))
        clear hb HB2 c0 d0
        go_wp2
        go_roundw
        case rel => exact ⟨k + 1, hkn, by go_num, HO3.out, HB3.out⟩
        case measure => exact measD hkn
      · have hd : decide (x < y) = false := decide_eq_false (by omega)
        rw [hd]
        have hd2 : decide (y < x) = true := decide_eq_true h1
        have Hv : Hid (r = 1) := by rw [Hid, Hr.out, HO2.out, h2]; rfl
        clear h1 h2 Hc HO2
        go_wp2_with fail
        refine wp_ext_draw 7 mixed (by kernel_rfl) ?_
        simp only [List.take_succ_cons, List.take_zero, List.drop_succ_cons, List.drop_zero]
        repeat ((first | ((apply TextRun.go rfl rfl rfl); (focus (intro w1 hS K hK; have hc := bcell hS; have hs := blt hS; have c0 := keep hS c0; have d0 := keep hS d0; go_wp2_with (fail); first | done | exact hS | exact hS.trans (hb.mono hS.size)))) | (refine TextRun.skip rfl ?_) | ((refine TextRun.wantedT rfl rfl rfl ?_); (apply Exists.intro); (apply And.intro); (focus (intro w1 hS K hK; have hc := bcell hS; have hs := blt hS; have c0 := keep hS c0; have d0 := keep hS d0; go_wp2_with (fail); first | done | exact hS | exact hS.trans (hb.mono hS.size))))); (simp only [Act.put, List.setIfInBounds_toArray, List.set_cons_zero, List.set_cons_succ]))
        refine TextRun.done ?_
        intro w3 hb
        have Hend := Lib.hid (HB1.out.trans ((HB2.out.trans (hb.mono HB2.out.size)).mono HB1.out.size))
        clear hb HB2 c0 d0
        go_wp2
        go_ret
        exact ⟨by rw [Hv.out]; rfl, Hend.out⟩
    · have hkn : k = 4 := Nat.le_antisymm hk (Nat.le_of_not_lt hkn)
      subst hkn
      have Hv : Hid (r = 0) := by rw [Hid, Hr.out, HO.out]; rfl
      go_wp2
      go_ret
      exact ⟨by rw [Hv.out]; rfl, HB1.out.trans (HB.out.mono HB1.out.size)⟩
end Go.Proofs.YtadngicebbnnlaaGreat

namespace Go.Proofs.YtadngicebbnnlaaGreat
open Go Go.RowKit Go.MapKept
open Go.Maps (Keyed)
open Go.ChangeMaps (setBlock)

theorem nodup_idx {α : Type} {l : List α} (h : l.Nodup) {i j : Nat} {x : α} (hi : l[i]? = some x) (hj : l[j]? = some x) : i = j := by
  have hil := (List.getElem?_eq_some_iff.1 hi).1
  have hjl := (List.getElem?_eq_some_iff.1 hj).1
  have e1 := (List.getElem?_eq_some_iff.1 hi).2
  have e2 := (List.getElem?_eq_some_iff.1 hj).2
  rcases Nat.lt_trichotomy i j with h1 | h1 | h1
  · exact absurd (e1.trans e2.symm) (List.pairwise_iff_getElem.1 h i j hil hjl h1)
  · exact h1
  · exact absurd (e2.trans e1.symm) (List.pairwise_iff_getElem.1 h j i hjl hil h1)
/-- A name. -/
structure Nm where
  k : Int
  t : Int
  o : Int
  x : Int
deriving DecidableEq
def Nm.val (q : Nm) : Value := .agg #[.int .i64 q.k, .int .i64 q.t, .int .i64 q.o, .int .i64 q.x]
def Nm.wf (q : Nm) : Prop := Fit q.k ∧ Fit q.t ∧ Fit q.o ∧ Fit q.x
theorem Nm.val_inj {q q' : Nm} (h : q.val = q'.val) : q = q' := by
  unfold Nm.val at h
  simp only [Value.agg.injEq, Array.mk.injEq, List.cons.injEq, Value.int.injEq, true_and, and_true] at h
  obtain ⟨h1, h2, h3, h4⟩ := h
  cases q; cases q'; simp_all
def Fr.nm (r : Fr) : Nm := ⟨r.k, r.t, r.o, r.x⟩
theorem nm_same {r s : Fr} : r.nm = s.nm ↔ SameF r.fd s.fd := by
  unfold Fr.nm SameF Fr.fd; simp
theorem nameDeep : Tryz.prog.keyTypeAt (Tryz.prog.types.size + 1) 98 = true := by kernel_rfl
set_option maxRecDepth 100000 in
theorem nameRow : (98 : TypeId) < Tryz.prog.types.size := of_decide_eq_true (by kernel_rfl)
theorem nameKt : Tryz.prog.keyTypeAt 2 98 = true := by kernel_rfl
theorem nameLaw : WideMaps.KeyLaw Tryz.prog 98 := deep_law_laid laidOut (m := 2) (by omega) nameRow nameKt (by rw [Tryz.underlying98])
theorem nameKeyed : Keyed Tryz.prog 98 := Keyed.of_law nameLaw
theorem nameKey {q : Nm} (h : q.wf) : ∃ l, keyOf Tryz.prog 98 q.val = some l := by
  obtain ⟨k, t, o, x⟩ := q
  obtain ⟨h1, h2, h3, h4⟩ := h
  simp only at h1 h2 h3 h4
  have hC : Tryz.prog.cellsOf 98 = 4 := by kernel_rfl
  have hI : Tryz.prog.cellsOf 3 = 1 := by kernel_rfl
  have hd : Tryz.prog.keyType 98 = true := nameDeep
  obtain ⟨m, hm⟩ : ∃ m, Tryz.prog.types.size = m + 1 := ⟨Tryz.prog.types.size - 1, by kernel_rfl⟩
  have hw1 : (Lit.int .i64 k).wf = true := h1
  have hw2 : (Lit.int .i64 t).wf = true := h2
  have hw3 : (Lit.int .i64 o).wf = true := h3
  have hw4 : (Lit.int .i64 x).wf = true := h4
  have hf : (Nm.val ⟨k, t, o, x⟩).formed Tryz.prog 98 = true := by
    unfold Nm.val
    simp [Value.formed, Tryz.underlying98, hC]
  have hl : Tryz.prog.keyLits (Tryz.prog.types.size + 1) 98 (Nm.val ⟨k, t, o, x⟩).cells.toList = some [.int .i64 k, .int .i64 t, .int .i64 o, .int .i64 x] := by
    rw [hm]
    unfold Program.keyLits
    rw [Tryz.underlying98]
    simp only [Nm.val, Value.cells]
    simp [hC, hI, Program.keyLits, Tryz.underlying3, hw1, hw2, hw3, hw4]
  refine ⟨.string (keyBytes [.int .i64 k, .int .i64 t, .int .i64 o, .int .i64 x]), ?_⟩
  unfold keyOf
  rw [Tryz.underlying98]
  simp only [hd, hf, Bool.and_self, if_true, hl, Option.map_some]

/-- Block b counts the names: at most n of them stand in it. -/
structure CntAt (w : World) (b n : Nat) (cnt : Nm → Nat) (es : Array MapEntry) (clock : Nat) : Prop where
  blk : w.heap[b]? = some (.map es clock)
  size : es.size ≤ n
  st : Stamped es clock
  ent : ∀ e ∈ es.toList, ∃ q : Nm, q.wf ∧ e.key = q.val ∧ e.val = .int .i64 (cnt q)
  has : ∀ q : Nm, 0 < cnt q → ∃ e ∈ es.toList, e.key = q.val
def CntMap (w : World) (b n : Nat) (cnt : Nm → Nat) : Prop := ∃ es clock, CntAt w b n cnt es clock
def up1 (cnt : Nm → Nat) (q : Nm) : Nm → Nat := fun p => if p = q then cnt p + 1 else cnt p

theorem CntAt.keys {w : World} {b n : Nat} {cnt : Nm → Nat} {es : Array MapEntry} {clock : Nat} (h : CntAt w b n cnt es clock) : ∀ e ∈ es.toList, ∃ l, keyOf Tryz.prog 98 e.key = some l := fun e he => by
  obtain ⟨q, hq, hk, _⟩ := h.ent e he
  rw [hk]; exact nameKey hq
theorem CntMap.made (w : World) : CntMap (w.alloc (.map #[] 0)) w.heap.size 0 (fun _ => 0) :=
  ⟨#[], 0, (MapKept.heap_alloc w _).1, Nat.le_refl _, stamped_empty 0, (by simp), fun q h => absurd h (by omega)⟩
theorem CntMap.lt {w : World} {b n : Nat} {cnt : Nm → Nat} (h : CntMap w b n cnt) : b < w.heap.size := by
  obtain ⟨es, c, h⟩ := h
  exact (Array.getElem?_eq_some_iff.1 h.blk).1
theorem CntMap.at {w w' : World} {b n : Nat} {cnt : Nm → Nat} (h : CntMap w b n cnt) (hb : w'.heap[b]? = w.heap[b]?) : CntMap w' b n cnt := by
  obtain ⟨es, c, h⟩ := h
  exact ⟨es, c, hb.trans h.blk, h.size, h.st, h.ent, h.has⟩
theorem CntMap.below {w w' : World} {b n : Nat} {cnt : Nm → Nat} (h : CntMap w b n cnt) (hb : Below w.heap.size w w') : CntMap w' b n cnt := h.at (hb.block b h.lt)
theorem CntMap.wrote {R : Nat → Prop} {w w' : World} {b n : Nat} {cnt : Nm → Nat} (h : CntMap w b n cnt) (hw : Wrote R w w') (hn : ¬ R b) : CntMap w' b n cnt := h.at (hw.block b h.lt hn)

theorem zeroInt (w : World) : (zeroValue 3).run Tryz.prog w = .ok (.int .i64 0) w := by kernel_rfl
/-- The two steps of 'met[q]++', and what one reads meanwhile. -/
structure Steps2 (b n : Nat) (cnt : Nm → Nat) (q : Nm) (es es1 : Array MapEntry) (clock clock1 st : Nat) : Prop where
  entry : ∀ w : World, w.heap[b]? = some (.map es clock) → (Instr.mapEntry 95 (.map (some b)) q.val).run Tryz.prog w = .ok (.tuple #[.int .i64 (cnt q), .int .i64 st]) (setBlock w b (.map es1 clock1))
  look : ∀ w : World, w.heap[b]? = some (.map es clock) ∨ w.heap[b]? = some (.map es1 clock1) → (Instr.lookup 95 (.map (some b)) q.val false).run Tryz.prog w = .ok (.int .i64 (cnt q)) w
  store : ∀ w : World, w.heap[b]? = some (.map es1 clock1) → ∃ w', (Instr.entryStore 95 (.map (some b)) (.int .i64 st) (.int .i64 ((cnt q : Int) + 1))).run Tryz.prog w = .ok () w' ∧ CntMap w' b (n + 1) (up1 cnt q) ∧ Wrote (fun x => x = b) w w'

theorem wrote_block {w : World} {b : Nat} {o o' : Obj} (h : w.heap[b]? = some o) : Wrote (fun x => x = b) w (setBlock w b o') :=
  ⟨rfl, rfl, rfl, by simp [setBlock], fun k hk hn => by simp only [setBlock]; rw [Array.getElem?_setIfInBounds_ne (fun e => hn e.symm)]⟩
theorem look_run {w : World} {b n : Nat} {cnt : Nm → Nat} {es : Array MapEntry} {clock : Nat} (h : CntAt w b n cnt es clock) {q : Nm} (hq : q.wf) : (Instr.lookup 95 (.map (some b)) q.val false).run Tryz.prog w = .ok (.int .i64 (cnt q)) w := by
  obtain ⟨kl, hkey⟩ := nameKey hq
  rcases nameKeyed.find w hkey es.toList h.keys with ⟨h1, h2⟩ | ⟨j, e0, h1, h2, h3⟩
  · have h0 : cnt q = 0 := by
      rcases Nat.eq_zero_or_pos (cnt q) with h0 | h0
      · exact h0
      · obtain ⟨e, he, hk⟩ := h.has q h0
        exact absurd hk (h2 e he)
    rw [h0]
    simp [Instr.lookup, run_underlying Tryz.underlying95, MapKept.run_getObj_map h.blk, nameKeyed.check w _ hkey, h1, zeroInt, Result.andThen]
  · obtain ⟨q', hq', hk, hv⟩ := h.ent e0 (List.mem_of_getElem? h2)
    rw [h3] at hk
    obtain rfl := Nm.val_inj hk
    simp [Instr.lookup, run_underlying Tryz.underlying95, MapKept.run_getObj_map h.blk, nameKeyed.check w _ hkey, h1, hv, Result.andThen]
theorem heap_setSame {w : World} {b : Nat} {o o' : Obj} (h : w.heap[b]? = some o) : (setBlock w b o').heap[b]? = some o' := by
  have hlt := (Array.getElem?_eq_some_iff.1 h).1
  simp [setBlock, hlt]
theorem steps2 {w0 : World} {b n : Nat} {cnt : Nm → Nat} {es : Array MapEntry} {clock : Nat} (h : CntAt w0 b n cnt es clock) {q : Nm} (hq : q.wf) : ∃ es1 clock1 st, Steps2 b n cnt q es es1 clock clock1 st := by
  obtain ⟨kl, hkey⟩ := nameKey hq
  have hat : ∀ w : World, w.heap[b]? = some (.map es clock) → CntAt w b n cnt es clock := fun w hw => ⟨hw, h.size, h.st, h.ent, h.has⟩
  by_cases hex : ∃ e ∈ es.toList, e.key = q.val
  · obtain ⟨j, e0, hf0, hj0, hk0⟩ : ∃ j e, (Instr.findKey 98 q.val es.toList).run Tryz.prog w0 = .ok (some (j, e.val)) w0 ∧ es.toList[j]? = some e ∧ e.key = q.val := by
      rcases nameKeyed.find w0 hkey es.toList h.keys with ⟨h1, h2⟩ | h1
      · obtain ⟨e, he, hk⟩ := hex
        exact absurd hk (h2 e he)
      · exact h1
    have hj : es[j]? = some e0 := by simpa using hj0
    have he0 : e0 ∈ es.toList := List.mem_of_getElem? hj0
    obtain ⟨q', hq', hk', hv'⟩ := h.ent e0 he0
    rw [hk0] at hk'
    obtain rfl := Nm.val_inj hk'
    obtain ⟨s1, s2, s3⟩ := h.st
    -- whatever entry is found, it is this one
    have huniq : ∀ (w : World) (x : Nat × Value), (∃ (i : Nat) (e : MapEntry), (Instr.findKey 98 q.val es.toList).run Tryz.prog w = .ok (some (i, e.val)) w ∧ es.toList[i]? = some e ∧ e.key = q.val ∧ x = (i, e.val)) → x = (j, e0.val) := by
      rintro w x ⟨i, e, _, hi, hk, rfl⟩
      have hij : i = j := nodup_idx s3 (x := q.val) (by rw [List.getElem?_map, hi, ← hk]; rfl) (by rw [List.getElem?_map, hj0, ← hk0]; rfl)
      subst hij
      rw [hi] at hj0
      cases hj0; rfl
    have hfind : ∀ w : World, (Instr.findKey 98 q.val es.toList).run Tryz.prog w = .ok (some (j, e0.val)) w := fun w => by
      rcases nameKeyed.find w hkey es.toList h.keys with ⟨h1, h2⟩ | ⟨i, e, h1, h2, h3⟩
      · exact absurd hk0 (h2 e0 he0)
      · rw [h1, huniq w (i, e.val) ⟨i, e, h1, h2, h3, rfl⟩]
    have hsame : es.modify j (fun e => { e with key := q.val }) = es := by
      apply Array.ext'
      rw [Array.toList_modify]
      refine List.ext_getElem? fun i => ?_
      rw [List.getElem?_modify]
      by_cases hij : j = i
      · subst hij; rw [hj0]; simp [← hk0]
      · cases hx : es.toList[i]? <;> simp [hij]
    refine ⟨es, clock, e0.born, ⟨fun w hw => ?_, fun w hw => ?_, fun w hw => ?_⟩⟩
    · simp [Instr.mapEntry, run_underlying Tryz.underlying95, MapKept.run_getObj_map hw, nameKeyed.check w false hkey, hfind w, hj, hk0, nameKeyed.stays w hkey, hsame, MapKept.run_setObj_map _ hw, Result.andThen, setBlock, hv', goInt]
    · exact look_run (hat w (by rcases hw with hw | hw <;> exact hw)) hq
    · have hidx : es.findIdx? (fun e => ((e.born : Nat) : Int) == ((e0.born : Nat) : Int)) = some j := by
        rw [WideElems.findIdx_arr]
        exact WideElems.findIdx_born s2 hj0
      have hmk : ∀ i : Nat, (es.modify j fun e => { e with val := Value.int .i64 ((cnt q : Int) + 1) }).toList[i]? = if j = i then some { e0 with val := Value.int .i64 ((cnt q : Int) + 1) } else es.toList[i]? := fun i => by
        rw [Array.toList_modify, List.getElem?_modify]
        by_cases hij : j = i
        · subst hij; rw [hj0]; simp
        · cases hx : es.toList[i]? <;> simp [hij]
      refine ⟨setBlock w b (.map (es.modify j fun e => { e with val := Value.int .i64 ((cnt q : Int) + 1) }) clock), ?_, ⟨_, clock, heap_setSame hw, ?_, stamped_modify h.st _ _ (fun _ _ => rfl) (fun _ _ _ => rfl), ?_, ?_⟩, wrote_block hw⟩
      · simp [Instr.entryStore, MapKept.run_getObj_map hw, asInt, asIntOf, goInt, hidx, MapKept.run_setObj_map _ hw, Result.andThen, setBlock]
      · simpa using Nat.le_succ_of_le h.size
      · intro e he
        obtain ⟨i, hi⟩ := List.mem_iff_getElem?.1 he
        rw [hmk] at hi
        split at hi
        · cases hi
          exact ⟨q, hq, hk0, by simp [up1]⟩
        · rename_i hij
          obtain ⟨p, hp, hpk, hpv⟩ := h.ent e (List.mem_of_getElem? hi)
          have hpq : p ≠ q := fun e1 => hij (nodup_idx s3 (x := q.val) (by rw [List.getElem?_map, hj0, ← hk0]; rfl) (by rw [List.getElem?_map, hi, ← e1, ← hpk]; rfl))
          exact ⟨p, hp, hpk, by rw [hpv]; simp [up1, hpq]⟩
      · intro p hp
        by_cases hpq : p = q
        · exact ⟨_, List.mem_iff_getElem?.2 ⟨j, by rw [hmk, if_pos rfl]⟩, by rw [hpq]; exact hk0⟩
        · have hp' : 0 < cnt p := by simpa [up1, hpq] using hp
          obtain ⟨e, he, hk⟩ := h.has p hp'
          obtain ⟨i, hi⟩ := List.mem_iff_getElem?.1 he
          have hij : ¬ j = i := fun e1 => by
            subst e1
            rw [hi] at hj0; cases hj0
            exact hpq (Nm.val_inj (hk.symm.trans hk0))
          exact ⟨e, List.mem_iff_getElem?.2 ⟨i, by rw [hmk, if_neg hij]; exact hi⟩, hk⟩
  · have hno : ∀ e ∈ es.toList, e.key ≠ q.val := fun e he hk => hex ⟨e, he, hk⟩
    have h0 : cnt q = 0 := by
      rcases Nat.eq_zero_or_pos (cnt q) with h0 | h0
      · exact h0
      · exact absurd (h.has q h0) hex
    have hfind : ∀ w : World, (Instr.findKey 98 q.val es.toList).run Tryz.prog w = .ok none w := fun w => by
      rcases nameKeyed.find w hkey es.toList h.keys with ⟨h1, h2⟩ | ⟨i, e, h1, h2, h3⟩
      · exact h1
      · exact absurd h3 (hno e (List.mem_of_getElem? h2))
    have h1at : ∀ w : World, w.heap[b]? = some (.map (es.push ⟨q.val, .int .i64 0, clock⟩) (clock + 1)) → CntAt w b (n + 1) cnt (es.push ⟨q.val, .int .i64 0, clock⟩) (clock + 1) := fun w hw =>
      ⟨hw, by simpa using h.size, stamped_push h.st hno, fun e he => by
        simp only [Array.toList_push, List.mem_append, List.mem_singleton] at he
        rcases he with he | rfl
        · exact h.ent e he
        · exact ⟨q, hq, rfl, by rw [h0]; rfl⟩, fun p hp => by
        obtain ⟨e, he, hk⟩ := h.has p hp
        exact ⟨e, by simp only [Array.toList_push, List.mem_append]; exact .inl he, hk⟩⟩
    refine ⟨es.push ⟨q.val, .int .i64 0, clock⟩, clock + 1, clock, ⟨fun w hw => ?_, fun w hw => ?_, fun w hw => ?_⟩⟩
    · rw [h0]
      simp [Instr.mapEntry, run_underlying Tryz.underlying95, MapKept.run_getObj_map hw, nameKeyed.check w false hkey, hfind w, zeroInt, MapKept.run_setObj_map _ hw, Result.andThen, setBlock, goInt]
    · rcases hw with hw | hw
      · exact look_run (hat w hw) hq
      · exact look_run (h1at w hw) hq
    · have hidx : (es.push ⟨q.val, .int .i64 0, clock⟩).findIdx? (fun e => ((e.born : Nat) : Int) == ((clock : Nat) : Int)) = some es.size := by
        rw [WideElems.findIdx_arr]
        exact WideElems.findIdx_born (l := (es.push ⟨q.val, .int .i64 0, clock⟩).toList) (j := es.size) (e0 := ⟨q.val, .int .i64 0, clock⟩) (stamped_push h.st hno).2.1 (by simp)
      have hmod : (es.push ⟨q.val, .int .i64 0, clock⟩).modify es.size (fun e => { e with val := Value.int .i64 1 }) = es.push ⟨q.val, .int .i64 1, clock⟩ := by
        apply Array.ext'
        rw [Array.toList_modify, Array.toList_push, Array.toList_push, ← Array.length_toList, WideElems.modify_last]
      refine ⟨setBlock w b (.map (es.push ⟨q.val, .int .i64 1, clock⟩) (clock + 1)), ?_, ⟨_, clock + 1, heap_setSame hw, by simpa using h.size, stamped_push h.st hno, ?_, ?_⟩, wrote_block hw⟩
      · rw [h0]
        simp [Instr.entryStore, MapKept.run_getObj_map hw, asInt, asIntOf, goInt, hidx, hmod, MapKept.run_setObj_map _ hw, Result.andThen, setBlock]
      · intro e he
        simp only [Array.toList_push, List.mem_append, List.mem_singleton] at he
        rcases he with he | rfl
        · obtain ⟨p, hp, hpk, hpv⟩ := h.ent e he
          have hpq : p ≠ q := fun e1 => hno e he (by rw [hpk, e1])
          exact ⟨p, hp, hpk, by rw [hpv]; simp [up1, hpq]⟩
        · exact ⟨q, hq, rfl, by simp [up1, h0]⟩
      · intro p hp
        by_cases hpq : p = q
        · exact ⟨⟨q.val, .int .i64 1, clock⟩, by simp, by rw [hpq]⟩
        · have hp' : 0 < cnt p := by simpa [up1, hpq] using hp
          obtain ⟨e, he, hk⟩ := h.has p hp'
          exact ⟨e, by simp only [Array.toList_push, List.mem_append]; exact .inl he, hk⟩
end Go.Proofs.YtadngicebbnnlaaGreat

namespace Go.Proofs.YtadngicebbnnlaaGreat
open Go Go.Shelf Go.Proofs

def sortFd_ren : Go.Shelf.Ren := ⟨fun | 6 => 55 | 15 => 47 | 14 => 86 | 28 => 79 | 29 => 80 | 20 => 108 | 21 => 109 | 22 => 110 | 23 => 111 | 24 => 112 | 25 => 113 | 26 => 114 | 27 => 115 | 46 => 125 | 47 => 104 | 48 => 105 | 49 => 126 | 50 => 127 | 57 => 129 | n => n, fun | 22 => 38 | 24 => 58 | 25 => 76 | 3 => 3 | 39 => 87 | 0 => 0 | 53 => 121 | 55 => 123 | 4 => 4 | 46 => 115 | 45 => 114 | 50 => 64 | 5 => 5 | 9 => 9 | 66 => 149 | 70 => 153 | 76 => 179 | 77 => 180 | n => n, fun n => n⟩
theorem sortFd : SlLaysF0.n6 Tryz.prog sortFd_ren := {
  mixed := by kernel_rfl,
  f6 := ⟨Tryz.f55.name, by decide, Tryz.func55.trans (congrArg some (by kernel_rfl))⟩,
  f14 := ⟨Tryz.f86.name, by decide, Tryz.func86.trans (congrArg some (by kernel_rfl))⟩,
  f15 := Tryz.func47.trans (congrArg some (by kernel_rfl)),
  f20 := ⟨Tryz.f108.name, by decide, Tryz.func108.trans (congrArg some (by kernel_rfl))⟩,
  f21 := ⟨Tryz.f109.name, by decide, Tryz.func109.trans (congrArg some (by kernel_rfl))⟩,
  f22 := ⟨Tryz.f110.name, by decide, Tryz.func110.trans (congrArg some (by kernel_rfl))⟩,
  f23 := ⟨Tryz.f111.name, by decide, Tryz.func111.trans (congrArg some (by kernel_rfl))⟩,
  f24 := ⟨Tryz.f112.name, by decide, Tryz.func112.trans (congrArg some (by kernel_rfl))⟩,
  f25 := ⟨Tryz.f113.name, by decide, Tryz.func113.trans (congrArg some (by kernel_rfl))⟩,
  f26 := ⟨Tryz.f114.name, by decide, Tryz.func114.trans (congrArg some (by kernel_rfl))⟩,
  f27 := ⟨Tryz.f115.name, by decide, Tryz.func115.trans (congrArg some (by kernel_rfl))⟩,
  f28 := Tryz.func79.trans (congrArg some (by kernel_rfl)),
  f29 := Tryz.func80.trans (congrArg some (by kernel_rfl)),
  f46 := ⟨Tryz.f125.name, by decide, Tryz.func125.trans (congrArg some (by kernel_rfl))⟩,
  f47 := Tryz.func104.trans (congrArg some (by kernel_rfl)),
  f48 := Tryz.func105.trans (congrArg some (by kernel_rfl)),
  f49 := ⟨Tryz.f126.name, by decide, Tryz.func126.trans (congrArg some (by kernel_rfl))⟩,
  f50 := ⟨Tryz.f127.name, by decide, Tryz.func127.trans (congrArg some (by kernel_rfl))⟩,
  f57 := ⟨Tryz.f129.name, by decide, Tryz.func129.trans (congrArg some (by kernel_rfl))⟩,
  t0 := Tryz.underlying0,
  a0 := Tryz.isAgg0,
  z0 := Tryz.sizeOf0,
  v0 := Tryz.zeroValue0,
  t3 := Tryz.underlying3,
  a3 := Tryz.isAgg3,
  z3 := Tryz.sizeOf3,
  v3 := Tryz.zeroValue3,
  t4 := Tryz.underlying4,
  a4 := Tryz.isAgg4,
  z4 := Tryz.sizeOf4,
  v4 := Tryz.zeroValue4,
  t5 := Tryz.underlying5,
  a5 := Tryz.isAgg5,
  z5 := Tryz.sizeOf5,
  v5 := Tryz.zeroValue5,
  t9 := Tryz.underlying9,
  a9 := Tryz.isAgg9,
  z9 := Tryz.sizeOf9,
  v9 := Tryz.zeroValue9,
  t22 := Tryz.underlying38,
  a22 := Tryz.isAgg38,
  z22 := Tryz.sizeOf38,
  v22 := Tryz.zeroValue38,
  t25 := Tryz.underlying76,
  a25 := Tryz.isAgg76,
  z25 := Tryz.sizeOf76,
  v25 := Tryz.zeroValue76,
  t39 := Tryz.underlying87,
  a39 := Tryz.isAgg87,
  z39 := Tryz.sizeOf87,
  v39 := Tryz.zeroValue87,
  t45 := Tryz.underlying114,
  a45 := Tryz.isAgg114,
  z45 := Tryz.sizeOf114,
  v45 := Tryz.zeroValue114,
  t46 := Tryz.underlying115,
  a46 := Tryz.isAgg115,
  z46 := Tryz.sizeOf115,
  v46 := Tryz.zeroValue115,
  t50 := Tryz.underlying64,
  a50 := Tryz.isAgg64,
  z50 := Tryz.sizeOf64,
  v50 := Tryz.zeroValue64,
  t53 := Tryz.underlying121,
  a53 := Tryz.isAgg121,
  z53 := Tryz.sizeOf121,
  v53 := Tryz.zeroValue121,
  t55 := Tryz.underlying123,
  a55 := Tryz.isAgg123,
  z55 := Tryz.sizeOf123,
  v55 := Tryz.zeroValue123,
  t66 := Tryz.underlying149,
  a66 := Tryz.isAgg149,
  z66 := Tryz.sizeOf149,
  v66 := Tryz.zeroValue149,
  t70 := Tryz.underlying153,
  a70 := Tryz.isAgg153,
  z70 := Tryz.sizeOf153,
  v70 := Tryz.zeroValue153,
  t76 := Tryz.underlying179,
  a76 := Tryz.isAgg179,
  z76 := Tryz.sizeOf179,
  v76 := Tryz.zeroValue179,
  t77 := Tryz.underlying180,
  a77 := Tryz.isAgg180,
  z77 := Tryz.sizeOf180,
  v77 := Tryz.zeroValue180
}
end Go.Proofs.YtadngicebbnnlaaGreat

namespace Go.Proofs.YtadngicebbnnlaaGreat
open Go.ChangeShapes Go.WideShapes Go.ChangeAt Go.RowKit Go.Deep

set_option maxRecDepth 20000 in
set_option maxHeartbeats 4000000 in
theorem fdcmp_calls : CmpAt 56 eltFr.f (fun x y => cmpF x.fd y.fd) := by
  rintro ⟨xk, xt, xo, xx, xa, xn, xc, xs⟩ ⟨yk, yt, yo, yx, ya, yn, yc, ys⟩ W
  show Calls Tryz.prog 56 #[.agg #[.int .i64 xk, .int .i64 xt, .int .i64 xo, .int .i64 xx, .slice xa xn xc], .agg #[.int .i64 yk, .int .i64 yt, .int .i64 yo, .int .i64 yx, .slice ya yn yc]] W fun e w' => e = .returned (.int .i64 (cmp4 xk xt xo xx yk yt yo yx)) ∧ Below W.heap.size W w' ∧ W.drawn ≤ w'.drawn
  go_enter Tryz.func56, Tryz.ntmps56
  go_wp2_with fail
  have hN := heap_two W #[.int .i64 xk, .int .i64 xt, .int .i64 xo, .int .i64 xx, .slice xa xn xc] #[.int .i64 yk, .int .i64 yt, .int .i64 yo, .int .i64 yx, .slice ya yn yc] 58
  revert hN
  generalize (W.alloc (.cells #[.int .i64 xk, .int .i64 xt, .int .i64 xo, .int .i64 xx, .slice xa xn xc] 58)).alloc (.cells #[.int .i64 yk, .int .i64 yt, .int .i64 yo, .int .i64 yx, .slice ya yn yc] 58) = w
  rintro ⟨_, _, hb0, hd0⟩
  refine (fcmp_calls _ _ _ _ _ _ _ _ _ _ _ _ _ _ w).mono ?_
  rintro e w' ⟨rfl, hb, hd⟩
  have Hend := Lib.hid (And.intro (hb0.trans (hb.mono hb0.size)) (Nat.le_trans hd0 hd))
  clear hb hd hb0 hd0
  go_wp2
  go_ret
  exact ⟨rfl, Hend.out⟩


theorem ltFdOf (x y : Fr) : ltOf (fun x y : Fr => cmpF x.fd y.fd) x y = true ↔ ltFd x.fd y.fd := by
  unfold ltOf
  rw [decide_eq_true_iff]
  exact cmpF_neg
theorem swoFd : Go.Sort.SWO (ltOf (fun x y : Fr => cmpF x.fd y.fd)) where
  irrefl x := by
    cases h : ltOf (fun x y : Fr => cmpF x.fd y.fd) x x
    · rfl
    · exact absurd ((ltFdOf x x).1 h) (ltFd.irrefl _)
  trans x y z h1 h2 := (ltFdOf x z).2 (((ltFdOf x y).1 h1).trans ((ltFdOf y z).1 h2))
  ntrans x y z h1 h2 := by
    cases h : ltOf (fun x y : Fr => cmpF x.fd y.fd) x z
    · rfl
    · have h3 := (ltFdOf x z).1 h
      have h4 : ¬ ltFd x.fd y.fd := fun e => by rw [(ltFdOf x y).2 e] at h1; cases h1
      have h5 : ¬ ltFd y.fd z.fd := fun e => by rw [(ltFdOf y z).2 e] at h2; cases h2
      exact absurd h3 (not_lt_trans h5 h4)
theorem sortFd_calls {w : World} {B : Nat} {v : Value} {xs : List Fr} (h : OwnL eltFr w B v xs) (hn : xs.length < 1000000) :
    Calls Tryz.prog 55 #[v, .func (.func 56) #[] #[]] w fun e w' => e = .returned (.tuple #[]) ∧ ∃ ys : List Fr, ys.Perm xs ∧ (ys.Pairwise fun a b => ¬ ltFd b.fd a.fd) ∧ OwnL eltFr w' B v ys ∧ Wrote (fun q => v.ownBlock = some q) w w' := by
  have := sortL_calls eltFr sortFd Tryz.isAgg58 Tryz.sizeOf58 (fun x y : Fr => cmpF x.fd y.fd) swoFd 56 (enters_of Tryz.func56 (by kernel_rfl) rfl) fdcmp_calls h hn
  change Calls Tryz.prog 55 _ _ _ at this
  refine this.mono fun e w' ⟨he, ys, h1, h2, h3⟩ => ⟨he, ys, h1, h2.imp fun h hz => ?_, h3⟩
  rw [(ltFdOf _ _).2 hz] at h; cases h

set_option maxHeartbeats 2000000 in
theorem fof_calls (xk xt xo xx : Int) (xa : Option Addr) (xn xc : Nat) (w : World) :
    Calls Tryz.prog 54 #[.agg #[.int .i64 xk, .int .i64 xt, .int .i64 xo, .int .i64 xx, .slice xa xn xc]] w fun e w' => e = .returned (Nm.val ⟨xk, xt, xo, xx⟩) ∧ Below w.heap.size w w' := by
  have hA : Below w.heap.size w (w.alloc (.cells #[.int .i64 xk, .int .i64 xt, .int .i64 xo, .int .i64 xx, .slice xa xn xc] 58)) := (Below.refl _ w).alloc (Nat.le_refl _) _
  have hE := MapKept.heap_alloc (w.alloc (.cells #[.int .i64 xk, .int .i64 xt, .int .i64 xo, .int .i64 xx, .slice xa xn xc] 58)) (.cells #[.int .i64 xk, .int .i64 xt, .int .i64 xo, .int .i64 xx] 98)
  have hB : Below w.heap.size w ((w.alloc (.cells #[.int .i64 xk, .int .i64 xt, .int .i64 xo, .int .i64 xx, .slice xa xn xc] 58)).alloc (.cells #[.int .i64 xk, .int .i64 xt, .int .i64 xo, .int .i64 xx] 98)) := hA.alloc hA.size _
  have hs : (w.alloc (.cells #[.int .i64 xk, .int .i64 xt, .int .i64 xo, .int .i64 xx, .slice xa xn xc] 58)).heap.size = w.heap.size + 1 := by simp
  rw [hs] at hE
  have HE := Lib.hid hE.1
  have HB := Lib.hid hB
  clear hA hE hB hs
  go_enter Tryz.func54, Tryz.ntmps54
  go_wp2
  (try simp only [Exit.inBlock, Exit.then])
  refine bodyPost_ret (results_cell_row rfl _ _ (w.heap.size + 1) 98 _ (0, 0) _ rfl HE.out Tryz.underlying98 rfl (by kernel_rfl)) rfl ?_
  exact ⟨rfl, HB.out⟩

set_option maxHeartbeats 2000000 in
theorem clipFd_calls {w : World} {a : Option Addr} {n c : Nat} {R : List Fr} (h : IsFds w a n c R) :
    Calls Tryz.prog 58 #[.slice a n c] w fun e w' => e = .returned (.slice a n n) ∧ IsFds w' a n n R ∧ w = w' := by
  have hc := h.bdc
  have hnc := h.le
  have H : Hid (IsFds w a n n R) := ⟨h.reads, h.len, Nat.le_refl _, Nat.le_trans h.le h.cap, h.wf, h.sch⟩
  clear h
  go_enter Tryz.func58, Tryz.ntmps58
  go_wp2
  go_ret
  exact ⟨rfl, H.out, rfl⟩
end Go.Proofs.YtadngicebbnnlaaGreat

namespace Go.Proofs.YtadngicebbnnlaaGreat
open Go.ChangeShapes Go.WideShapes Go.ChangeAt Go.RowKit Go.Deep

section
variable {P : Program}
theorem exec_look {o : Oper} {a : Act} {w : World} {t : TypeId} {m x : Operand} {mv xv v : Value} (ho : o.op = Op.lookup t m x false) (hm : a.eval m = mv) (hx : a.eval x = xv) (hr : (Instr.lookup t mv xv false).run P w = .ok v w) :
    (execOp a.eval o).run P w = .ok (.value v) w := by
  simp [execOp, ho, hm, hx, hr, Result.andThen]
theorem wpList_look {w : World} {ops : Array Oper} {rest : List Oper} {o : Oper} {a : Act} {Q : Exit → Act → World → Prop} (hg : o.guard = none) (m x : Operand) (t : TypeId) (ho : o.op = Op.lookup t m x false) {mv xv v : Value}
    (hm : a.eval m = mv) (hx : a.eval x = xv) (hr : (Instr.lookup t mv xv false).run P w = .ok v w) (h : wpList P ops Q rest (a.put o.dst v) w) : wpList P ops Q (o :: rest) a w := by
  refine wpList_plain hg fun K' hK' => ?_
  unfold Oper.wp
  simp [execOp, ho, hm, hx, hr, Result.andThen]
  exact hK' _ _ h
theorem wp_entry {w w' : World} {o : Oper} {a : Act} {K : Act → World → Prop} {Q : Exit → Act → World → Prop} (m x : Operand) (t : TypeId) (ho : o.op = Op.mapEntry t m x) {mv xv v : Value}
    (hm : a.eval m = mv) (hx : a.eval x = xv) (hr : (Instr.mapEntry t mv xv).run P w = .ok v w') (h : K (a.put o.dst v) w') : o.wp P a w K Q := by
  unfold Oper.wp
  simp [execOp, ho, hm, hx, hr, Result.andThen]
  exact h
theorem wpList_estore {w w' : World} {ops : Array Oper} {rest : List Oper} {o : Oper} {a : Act} {Q : Exit → Act → World → Prop} (hg : o.guard = none) (m s x : Operand) (t : TypeId) (ho : o.op = Op.entryStore t m s x) {mv sv xv : Value}
    (hm : a.eval m = mv) (hs : a.eval s = sv) (hx : a.eval x = xv) (hr : (Instr.entryStore t mv sv xv).run P w = .ok () w') (h : wpList P ops Q rest (a.put o.dst undef) w') : wpList P ops Q (o :: rest) a w := by
  refine wpList_plain hg fun K' hK' => ?_
  unfold Oper.wp
  simp [execOp, ho, hm, hs, hx, hr, Result.andThen]
  exact hK' _ _ h
theorem wp_makeS {w w' : World} {o : Oper} {a : Act} {K : Act → World → Prop} {Q : Exit → Act → World → Prop} (l c : Operand) (t : TypeId) (ho : o.op = Op.makeSlice t l c) {lv cv v : Value}
    (hl : a.eval l = lv) (hc : a.eval c = cv) (hr : (Instr.makeSlice t lv cv).run P w = .ok v w') (h : K (a.put o.dst v) w') : o.wp P a w K Q := by
  unfold Oper.wp
  simp [execOp, ho, hl, hc, hr, Result.andThen]
  exact h
end

/-- A finding in a block of its own. -/
structure FdBox (w : World) (g : Nat) (xk xt xo xx : Int) (xa : Option Addr) (xn xc : Nat) : Prop where
  c0 : w.cell? ⟨g, 0, none⟩ = some (.int .i64 xk)
  c1 : w.cell? ⟨g, 1, none⟩ = some (.int .i64 xt)
  c2 : w.cell? ⟨g, 2, none⟩ = some (.int .i64 xo)
  c3 : w.cell? ⟨g, 3, none⟩ = some (.int .i64 xx)
  c4 : w.cell? ⟨g, 4, none⟩ = some (.slice xa xn xc)
  fr : w.frozen? ⟨g, 4, none⟩ = false
theorem FdBox.all {w : World} {g : Nat} {xk xt xo xx : Int} {xa : Option Addr} {xn xc : Nat} (h : FdBox w g xk xt xo xx xa xn xc) : w.cell? ⟨g, 0, none⟩ = some (.int .i64 xk) ∧ w.cell? ⟨g, 1, none⟩ = some (.int .i64 xt) ∧ w.cell? ⟨g, 2, none⟩ = some (.int .i64 xo) ∧ w.cell? ⟨g, 3, none⟩ = some (.int .i64 xx) ∧ w.cell? ⟨g, 4, none⟩ = some (.slice xa xn xc) := ⟨h.c0, h.c1, h.c2, h.c3, h.c4⟩
theorem FdBox.wrote {R : Nat → Prop} {w w' : World} {g : Nat} {xk xt xo xx : Int} {xa : Option Addr} {xn xc : Nat} (h : FdBox w g xk xt xo xx xa xn xc) (hw : Wrote R w w') (hn : ¬ R g) : FdBox w' g xk xt xo xx xa xn xc := by
  have hlt := World.block_lt_of_cell? w _ h.c0
  have k := fun o => hw.cell (p := ⟨g, o, none⟩) hlt hn
  have hf : w'.frozen? ⟨g, 4, none⟩ = w.frozen? ⟨g, 4, none⟩ := by simp only [World.frozen?]; rw [hw.block g hlt hn]
  exact ⟨(k 0).trans h.c0, (k 1).trans h.c1, (k 2).trans h.c2, (k 3).trans h.c3, (k 4).trans h.c4, hf.trans h.fr⟩
theorem FdBox.below {w w' : World} {g : Nat} {xk xt xo xx : Int} {xa : Option Addr} {xn xc : Nat} (h : FdBox w g xk xt xo xx xa xn xc) (hb : Below w.heap.size w w') : FdBox w' g xk xt xo xx xa xn xc := h.wrote (R := fun _ => False) (Wrote.of_below hb) (fun h => h)
theorem FdBox.lt {w : World} {g : Nat} {xk xt xo xx : Int} {xa : Option Addr} {xn xc : Nat} (h : FdBox w g xk xt xo xx xa xn xc) : g < w.heap.size := World.block_lt_of_cell? w _ h.c0

theorem FdBox.set {w : World} {g : Nat} {xk xt xo xx : Int} {xa : Option Addr} {xn xc : Nat} (h : FdBox w g xk xt xo xx xa xn xc) (a : Option Addr) (n c : Nat) : FdBox (w.setCell ⟨g, 4, none⟩ (.slice a n c)) g xk xt xo xx a n c :=
  ⟨by rw [World.cell?_setCell_other _ _ _ _ (by simp)]; exact h.c0, by rw [World.cell?_setCell_other _ _ _ _ (by simp)]; exact h.c1, by rw [World.cell?_setCell_other _ _ _ _ (by simp)]; exact h.c2, by rw [World.cell?_setCell_other _ _ _ _ (by simp)]; exact h.c3, by apply World.cell?_setCell_same; exact h.c4, by rw [World.frozen?_setCell]; exact h.fr⟩

/-- How often a name stands in a list. -/
def cntF (l : List Fr) (q : Nm) : Nat := l.countP fun r => decide (r.nm = q)
theorem cntF_snoc (l : List Fr) (r : Fr) : cntF (l ++ [r]) = up1 (cntF l) r.nm := by
  funext q
  unfold cntF up1
  rw [List.countP_append]
  by_cases h : q = r.nm
  · subst h; simp
  · have h' : ¬ r.nm = q := fun e => h e.symm
    simp [h, h']
theorem cntF_le (l : List Fr) (q : Nm) : cntF l q ≤ l.length := List.countP_le_length
theorem cntF_zero {l : List Fr} {r : Fr} : cntF l r.nm = 0 ↔ (l.map Fr.fd).any (sameB r.fd) = false := by
  unfold cntF
  rw [List.countP_eq_zero, List.any_eq_false]
  constructor
  · intro h f hf hs
    obtain ⟨s, hs', rfl⟩ := List.mem_map.1 hf
    exact h s hs' (by rw [decide_eq_true_iff]; exact nm_same.2 (sameB_iff.1 hs).symm)
  · intro h s hs he
    rw [decide_eq_true_iff] at he
    exact h s.fd (List.mem_map.2 ⟨s, hs, rfl⟩) (sameB_iff.2 (nm_same.1 he).symm)

/-- The list under way: what has been met, what has been counted, its firsts in a list of one's own, each with a schedule of its own. -/
structure MrgAt (w : World) (B bm : Nat) (v : Value) (seen cm : List Fr) (RO : List Fr) : Prop where
  own : OwnL eltFr w B v RO
  fds : RO.map Fr.fd = uniqL (seen.map Fr.fd)
  wf : ∀ r ∈ RO, r.wf
  sch : ∀ r ∈ RO, SchAt w r ∧ ∃ g, r.a = some ⟨g, 0, none⟩ ∧ B ≤ g ∧ g < w.heap.size ∧ g ≠ bm ∧ v.ownBlock ≠ some g
  lens : ∀ N, (∀ r ∈ seen, r.n ≤ N) → ∀ r ∈ RO, r.n ≤ N
  map : CntMap w bm cm.length (cntF cm)
  bm : B ≤ bm ∧ v.ownBlock ≠ some bm
section
variable {w w' : World} {B bm : Nat} {v : Value} {seen cm RO : List Fr}
theorem MrgAt.len (h : MrgAt w B bm v seen cm RO) : RO.length ≤ seen.length := by
  have h1 := congrArg List.length h.fds
  have h2 := uniqL_len (seen.map Fr.fd)
  simp only [List.length_map] at h1 h2
  omega
theorem MrgAt.wrote {R : Nat → Prop} (h : MrgAt w B bm v seen cm RO) (hW : Wrote R w w') (hv : ∀ q, v.ownBlock = some q → ¬ R q) (hb : ¬ R bm) (hs : ∀ r ∈ RO, ∀ g, r.a = some ⟨g, 0, none⟩ → ¬ R g) : MrgAt w' B bm v seen cm RO :=
  ⟨h.own.wrote hW hv, h.fds, h.wf, fun r hr => by
    obtain ⟨h1, g, h2, h3, h4, h5⟩ := h.sch r hr
    refine ⟨h1.wrote hW fun g' o s e => ?_, g, h2, h3, Nat.lt_of_lt_of_le h4 hW.size, h5⟩
    rw [h2] at e; cases e
    exact hs r hr g h2, h.lens, h.map.wrote hW hb, h.bm⟩
theorem MrgAt.below (h : MrgAt w B bm v seen cm RO) (hb : Below w.heap.size w w') : MrgAt w' B bm v seen cm RO :=
  h.wrote (R := fun _ => False) (Wrote.of_below hb) (fun _ _ h => h) (fun h => h) (fun _ _ _ _ h => h)
/-- Counted once more. -/
theorem MrgAt.recount {r : Fr} (h : MrgAt w B bm v seen seen RO) (hW : Wrote (fun x => x = bm) w w') (hm : CntMap w' bm (seen.length + 1) (up1 (cntF seen) r.nm)) : MrgAt w' B bm v seen (seen ++ [r]) RO := by
  refine ⟨h.own.wrote hW fun q hq e => h.bm.2 (by rw [hq, e]), h.fds, h.wf, fun s hs => ?_, h.lens, by rw [cntF_snoc, List.length_append]; exact hm, h.bm⟩
  obtain ⟨h1, g, h2, h3, h4, h5, h6⟩ := h.sch s hs
  refine ⟨h1.wrote hW fun g' o s e => ?_, g, h2, h3, Nat.lt_of_lt_of_le h4 hW.size, h5, h6⟩
  rw [h2] at e; cases e
  exact h5
theorem MrgAt.again {r : Fr} (h : MrgAt w B bm v seen (seen ++ [r]) RO) (hc : cntF seen r.nm ≠ 0) : MrgAt w B bm v (seen ++ [r]) (seen ++ [r]) RO := by
  refine ⟨h.own, ?_, h.wf, h.sch, fun N hN => h.lens N fun s hs => hN s (List.mem_append.2 (.inl hs)), h.map, h.bm⟩
  rw [h.fds, List.map_append, List.map_singleton, uniqL_snoc, if_pos]
  rw [uniqL_any]
  cases ha : (seen.map Fr.fd).any (sameB r.fd)
  · exact absurd (cntF_zero.2 ha) hc
  · rfl
theorem MrgAt.push {r r' : Fr} {v' : Value} (h : MrgAt w B bm v seen (seen ++ [r]) RO) (hc : cntF seen r.nm = 0) (hfd : r'.fd = r.fd) (hn : r'.n = r.n) (hwf : r'.wf) (hs : SchAt w r') {g : Nat} (hg : r'.a = some ⟨g, 0, none⟩) (hgB : B ≤ g) (hgw : g < w.heap.size) (hgm : g ≠ bm) (hgv : v.ownBlock ≠ some g)
    (hown : OwnL eltFr w' B v' (RO ++ [r'])) (hW : Wrote (fun q => v.ownBlock = some q) w w') (hv' : ∀ q, v'.ownBlock = some q → v.ownBlock = some q ∨ w.heap.size ≤ q) : MrgAt w' B bm v' (seen ++ [r]) (seen ++ [r]) (RO ++ [r']) := by
  have hbl := h.map.lt
  refine ⟨hown, ?_, fun s hs' => ?_, fun s hs' => ?_, fun N hN s hs' => ?_, h.map.wrote hW h.bm.2, h.bm.1, fun e => ?_⟩
  · rw [List.map_append, List.map_append, List.map_singleton, List.map_singleton, uniqL_snoc, if_neg, h.fds, hfd]
    rw [uniqL_any, cntF_zero.1 hc]; simp
  · rcases List.mem_append.1 hs' with h1 | h1
    · exact h.wf s h1
    · obtain rfl := List.mem_singleton.1 h1; exact hwf
  · rcases List.mem_append.1 hs' with h1 | h1
    · obtain ⟨k1, q, k2, k3, k4, k5, k6⟩ := h.sch s h1
      refine ⟨k1.wrote hW fun g' o s e => ?_, q, k2, k3, Nat.lt_of_lt_of_le k4 hW.size, k5, fun e => ?_⟩
      · rw [k2] at e; cases e; exact k6
      · rcases hv' q e with h2 | h2
        · exact k6 h2
        · omega
    · obtain rfl := List.mem_singleton.1 h1
      refine ⟨hs.wrote hW fun g' o s e => ?_, g, hg, hgB, Nat.lt_of_lt_of_le hgw hW.size, hgm, fun e => ?_⟩
      · rw [hg] at e; cases e; exact hgv
      · rcases hv' g e with h2 | h2
        · exact hgv h2
        · omega
  · rcases List.mem_append.1 hs' with h1 | h1
    · exact h.lens N (fun x hx => hN x (List.mem_append.2 (.inl hx))) s h1
    · obtain rfl := List.mem_singleton.1 h1
      rw [hn]; exact hN r (List.mem_append.2 (.inr (List.mem_singleton.2 rfl)))
  · rcases hv' _ e with h2 | h2
    · exact h.bm.2 h2
    · omega
end
theorem one_newF (w : World) (A : Array Value) (t : TypeId) : (w.alloc (.cells A t)).heap[w.heap.size]? = some (.cells A t (0, 0)) ∧ Below w.heap.size w (w.alloc (.cells A t)) := ⟨(MapKept.heap_alloc w (.cells A t)).1, (Below.refl _ w).alloc (Nat.le_refl _) _⟩
theorem measE {M j : Nat} (h : j < M) : M - (intOf (.int .i64 ((j : Int) + 1))).toNat < M - (intOf (.int .i64 (j : Int))).toNat := by
  simp only [intOf]; omega
/-- Those met after j of the two lists. -/
def metN (RA RB : List Fr) (j : Nat) : List Fr := if j = 0 then [] else if j = 1 then RA else RA ++ RB
theorem infoFdInt : (Tryz.prog.info? 3).map (fun i => (i.zero, i.size, i.bytes)) = some (some (.int .i64 0), 1, 8) := by kernel_rfl

set_option maxRecDepth 20000 in
set_option maxHeartbeats 16000000 in
theorem fmerge_calls {w : World} {a0 b0 : Option Addr} {n c m d : Nat} {RA RB : List Fr} (hA : IsFds w a0 n c RA) (hB : IsFds w b0 m d RB) (hnm : n + m < 1000000) (hs : ∀ r ∈ RA ++ RB, r.n ≤ 2000000) :
    Calls Tryz.prog 29 #[.slice a0 n c, .slice b0 m d] w fun e w' => ∃ (x : Option Addr) (k : Nat) (R : List Fr), e = .returned (.slice x k k) ∧ IsFds w' x k k R ∧ Merged ((RA ++ RB).map Fr.fd) (R.map Fr.fd) ∧ k ≤ n + m ∧ (∀ r ∈ R, r.n ≤ 2000000) ∧ Below w.heap.size w w' := by
  have HA := Lib.hid hA
  have HB := Lib.hid hB
  have Hs := Lib.hid hs
  have hwnm : RowKit.wrap64 ((n : Int) + (m : Int)) = ((n + m : Nat) : Int) := by rw [wrap64_fit (by omega) (by omega)]; omega
  have hnb := hA.bd
  have hmb := hB.bd
  have hmm := @run_makeMap Tryz.prog
  obtain ⟨i0, hi, hz, hs1, hy⟩ := info_at eltFr.hi
  have HI := Lib.hid (And.intro hi (And.intro hz (And.intro hs1 hy)))
  clear hA hB hs hi hz hs1 hy
  go_enter Tryz.func29, Tryz.ntmps29
  go_upto_region 2 with (fail)
  have hM0 := Lib.hid (CntMap.made w)
  have hBl0 : Below w.heap.size w (w.alloc (.map #[] 0)) := (Below.refl _ w).alloc (Nat.le_refl _) _
  have hsz0 : (w.alloc (.map #[] 0)).heap.size = w.heap.size + 1 := by simp
  have HBl0 := Lib.hid (And.intro hBl0 hsz0)
  clear hBl0 hsz0
  revert hM0 HBl0
  generalize w.alloc (.map #[] 0) = w1
  intro hM0 HBl0
  go_upto_region 3 with (at_make; refine wpList_make_own _ rfl _ _ 38 rfl w.heap.size 58 i0 eltFr.z 5 Tryz.underlying38 HI.out.1 HI.out.2.1 HI.out.2.2.1 .i64 .i64 _ (n + m) rfl rfl (by first | rfl | simp) (by rw [HI.out.2.2.2]; exact Nat.le_trans (Nat.mul_le_mul_left 56 (Nat.le_of_lt hnm)) (by decide)) (by unfold maxLen; omega) (by rw [HBl0.out.2]; omega) ?_)
  intro w2 hown hg
  have hb2 : Below w1.heap.size w1 w2 := ⟨hg.os, hg.tape, hg.output, hg.size, fun k hk => hg.block k hk (by simp)⟩
  have HL0 : Hid (MrgAt w2 w.heap.size w.heap.size (.slice (some ⟨w1.heap.size, 0, none⟩) 0 (n + m)) (metN RA RB 0) (metN RA RB 0) [] ∧ Below w.heap.size w w2) :=
    ⟨⟨⟨hown⟩, rfl, fun r hr => (by cases hr), fun r hr => (by cases hr), fun _ _ r hr => (by cases hr), hM0.out.below hb2, Nat.le_refl _, fun e => by
      have e1 : w1.heap.size = w.heap.size := Option.some.inj e
      have := HBl0.out.2
      omega⟩, HBl0.out.1.trans (hb2.mono HBl0.out.1.size)⟩
  clear hown hg hb2 hM0 HBl0
  generalize w1.heap.size = go at *
  go_wp2_with fail
  go_loopw [6, 21] (fun u x wr => ∃ (j : Nat) (RO : List Fr), j ≤ 2 ∧ x = .int .i64 j ∧ Hid (MrgAt wr w.heap.size w.heap.size u (metN RA RB j) (metN RA RB j) RO ∧ Below w.heap.size w wr)) (fun _ x _ => 2 - (intOf x).toNat)
  case atStart => exact ⟨0, [], Nat.zero_le _, by go_num, HL0.out⟩
  case round =>
    clear HL0
    obtain ⟨j, RO, hj, rfl, HL⟩ := hrel
    by_cases hj2 : j < 2
    · obtain ⟨la, ln, lc, RL, hsel, hRL, hmet, hln, hls⟩ : ∃ (la : Option Addr) (ln lc : Nat) (RL : List Fr), (#[Value.slice a0 n c, .slice b0 m d] : Array Value)[j]? = some (.slice la ln lc) ∧ IsFds w la ln lc RL ∧ metN RA RB (j + 1) = metN RA RB j ++ RL ∧ (metN RA RB j).length + ln ≤ n + m ∧ ∀ r ∈ RL, r.n ≤ 2000000 := by
        rcases (show j = 0 ∨ j = 1 by omega) with rfl | rfl
        · exact ⟨_, _, _, _, rfl, HA.out, rfl, by simp [metN], fun r hr => Hs.out r (List.mem_append.2 (.inl hr))⟩
        · exact ⟨_, _, _, _, rfl, HB.out, rfl, by simp [metN, HA.out.len], fun r hr => Hs.out r (List.mem_append.2 (.inr hr))⟩
      have hidx : ∀ W, (Instr.index 96 (.agg #[.slice a0 n c, .slice b0 m d]) (.int .i64 (j : Int))).run Tryz.prog W = .ok (.slice la ln lc) W := fun W => by
        rcases (show j = 0 ∨ j = 1 by omega) with rfl | rfl
        · have e : Value.slice a0 n c = .slice la ln lc := Option.some.inj hsel
          rw [← e]
          first | rfl | (go_simp; done)
        · have e : Value.slice b0 m d = .slice la ln lc := Option.some.inj hsel
          rw [← e]
          first | rfl | (go_simp; done)
      have hlnb := hRL.bd
      have HRL := Lib.hid hRL
      have HP := Lib.hid (And.intro hmet (And.intro hln hls))
      clear hsel hRL hmet hln hls
      go_upto_region 7 with (fail)
      have hdj : decide ((j : Int) < 2) = true := decide_eq_true (by omega)
      rw [hdj]
      have Hj2 := Lib.hid hj2
      clear hdj hj2 hj
      go_loopw [6, 26] (fun u x wr => ∃ (i : Nat) (RO : List Fr), i ≤ ln ∧ x = .int .i64 i ∧ Hid (MrgAt wr w.heap.size w.heap.size u (metN RA RB j ++ RL.take i) (metN RA RB j ++ RL.take i) RO ∧ Below w.heap.size w wr)) (fun _ x _ => ln - (intOf x).toNat)
      case atStart => exact ⟨0, RO, Nat.zero_le _, by go_num, by rw [List.take_zero, List.append_nil]; exact HL.out⟩
      case round =>
        clear HL
        obtain ⟨i, RO, hi, rfl, HQ⟩ := hrel
        by_cases hin : i < ln
        · obtain ⟨b, off, r, rfl, hr, hrw, hsch, c0, c1, c2, c3, c4⟩ := (HRL.out.below HQ.out.2).at hin
          have Hr := Lib.hid hr
          have Hrw := Lib.hid hrw
          have Hsch := Lib.hid hsch
          have hxn : r.n ≤ 2000000 := HP.out.2.2 r (List.mem_of_getElem? hr)
          have hxc : r.n ≤ r.c := hsch.is.le
          have Hmt : Hid (metN RA RB j ++ RL.take (i + 1) = (metN RA RB j ++ RL.take i) ++ [r]) := by rw [Hid, List.take_add_one, hr]; simp
          have hmtl : (metN RA RB j ++ RL.take i).length < 1000000 := by
            rw [List.length_append, List.length_take]
            have := HP.out.2.1
            omega
          have Hmtl := Lib.hid hmtl
          clear hr hrw hsch hmtl
          revert Hmt Hmtl HQ
          generalize metN RA RB j ++ RL.take i = met
          intro HQ Hmt Hmtl
          obtain ⟨xk, xt, xo, xx, xa, xn, xc, xs⟩ := r
          simp only at c0 c1 c2 c3 c4 hxn hxc
          go_upto_region 9 with (fail)
          have hN := one_newF wr #[.int .i64 xk, .int .i64 xt, .int .i64 xo, .int .i64 xx, .slice xa xn xc] 58
          have HQ2 := Lib.hid (And.intro (HQ.out.1.below hN.2) (HQ.out.2.trans (hN.2.mono HQ.out.2.size)))
          have Hsch2 := Lib.hid (Hsch.out.below hN.2)
          have hgv : ∀ q, u6.ownBlock = some q → q ≠ wr.heap.size := fun q hq => by have := (HQ.out.1.own.lt hq).2; omega
          have hgm : w.heap.size < wr.heap.size := HQ.out.1.map.lt
          have hga : ∀ r ∈ RO, ∀ g, r.a = some ⟨g, 0, none⟩ → g ≠ wr.heap.size := fun r hr g hg => by
            obtain ⟨_, g', h1, _, h2, _⟩ := HQ.out.1.sch r hr
            rw [hg] at h1
            have h3 := congrArg (fun x => (x.map Addr.block).getD 0) h1
            simp at h3
            omega
          have Hg := Lib.hid (And.intro hgv (And.intro hgm hga))
          clear hgv hgm hga
          revert hN HQ2 Hsch2
          generalize wr.alloc (.cells #[.int .i64 xk, .int .i64 xt, .int .i64 xo, .int .i64 xx, .slice xa xn xc] 58) = y1
          intro hN HQ2 Hsch2
          have hA := hN.1
          have hgy : wr.heap.size < y1.heap.size := (Array.getElem?_eq_some_iff.1 hA).1
          clear hN HQ Hsch c0 c1 c2 c3 c4
          revert hA Hg hgy
          generalize wr.heap.size = g1
          intro Hg hA hgy
          have HBx : Hid (FdBox y1 g1 xk xt xo xx xa xn xc) := ⟨cell_of_block hA, cell_of_block hA, cell_of_block hA, cell_of_block hA, cell_of_block hA, free_of_block hA⟩
          obtain ⟨es, clk, hC⟩ := HQ2.out.1.map
          obtain ⟨es1, clk1, st, hSt⟩ := steps2 hC (q := ⟨xk, xt, xo, xx⟩) Hrw.out
          obtain ⟨cq, hcq⟩ : ∃ cq, cq = cntF met ⟨xk, xt, xo, xx⟩ := ⟨_, rfl⟩
          have hcl : cq ≤ 1000000 := by rw [hcq]; exact Nat.le_trans (cntF_le _ _) (Nat.le_of_lt Hmtl.out)
          have hwq : IntKind.i64.wrap ((cq : Int) + 1) = (cq : Int) + 1 := by rw [IntKind.wrap_i64]; omega
          have Hent : Hid (∀ z : World, z.heap[w.heap.size]? = some (.map es clk) → (Instr.mapEntry 95 (.map (some w.heap.size)) (Nm.val ⟨xk, xt, xo, xx⟩)).run Tryz.prog z = .ok (.tuple #[.int .i64 (cq : Int), .int .i64 (st : Int)]) (ChangeMaps.setBlock z w.heap.size (.map es1 clk1))) := by rw [hcq]; exact hSt.entry
          have Hlook : Hid (∀ z : World, z.heap[w.heap.size]? = some (.map es clk) ∨ z.heap[w.heap.size]? = some (.map es1 clk1) → (Instr.lookup 95 (.map (some w.heap.size)) (Nm.val ⟨xk, xt, xo, xx⟩) false).run Tryz.prog z = .ok (.int .i64 (cq : Int)) z) := by rw [hcq]; exact hSt.look
          have Hst : Hid (∀ z : World, z.heap[w.heap.size]? = some (.map es1 clk1) → ∃ z', (Instr.entryStore 95 (.map (some w.heap.size)) (.int .i64 (st : Int)) (.int .i64 ((cq : Int) + 1))).run Tryz.prog z = .ok () z' ∧ CntMap z' w.heap.size (met.length + 1) (up1 (cntF met) ⟨xk, xt, xo, xx⟩) ∧ Wrote (fun x => x = w.heap.size) z z') := by rw [hcq]; exact hSt.store
          have Hcq := Lib.hid hcq
          have Hblk := Lib.hid hC.blk
          have hbmlt : w.heap.size < y1.heap.size := Nat.lt_trans Hg.out.2.1 hgy
          clear hC hSt hcq hA
          refine wp_plan4_draw 7 [0, 1] [2] [3, 4] [5, 6] (fun z => FdBox z g1 xk xt xo xx xa xn xc ∧ (z.heap[w.heap.size]? = some (.map es clk) ∨ z.heap[w.heap.size]? = some (.map es1 clk1))) mixed (by kernel_rfl) (fun c a d v w h => by cases d <;> exact h) ⟨HBx.out.below (Below.refl _ y1).drew, .inl Hblk.out⟩ ?_
          simp only [picks, List.map_cons, List.map_nil, List.getD_cons_zero, List.getD_cons_succ]
          repeat ((apply ReadRun.go rfl); (intro z1 hS; (obtain ⟨⟨s0, s1, s2, s3, s4, _⟩, _⟩ := hS); go_simp; first | done | exact rfl); (simp only [Act.put, List.setIfInBounds_toArray, List.set_cons_zero, List.set_cons_succ]))
          refine ReadRun.done ?_
          refine MakeRun.go rfl (fun K hK => ?_)
          go_wp2_with fail
          refine (fof_calls _ _ _ _ _ _ _ _).mono ?_
          rintro e y2 ⟨rfl, hb⟩
          have hb2 : Below y1.heap.size y1 y2 := ((Below.refl _ y1).drew).trans hb
          have hblk2 : y2.heap[w.heap.size]? = some (.map es clk) := (hb2.block _ hbmlt).trans Hblk.out
          have hBx2 := HBx.out.below hb2
          refine hK _ _ ⟨⟨hBx2, .inl hblk2⟩, ?_⟩
          (try simp only [Act.put, List.setIfInBounds_toArray, List.set_cons_zero, List.set_cons_succ])
          refine MakeRun.done ?_
          refine ReadRun.go rfl (fun z hS => exec_look rfl rfl rfl (Hlook.out z hS.2)) ?_
          (try simp only [Act.put, List.setIfInBounds_toArray, List.set_cons_zero, List.set_cons_succ])
          refine ReadRun.go (v := .int .i64 ((cq : Int) + 1)) rfl (fun z hS => by go_simp; first | done | exact hwq | rfl) ?_
          (try simp only [Act.put, List.setIfInBounds_toArray, List.set_cons_zero, List.set_cons_succ])
          refine ReadRun.done ?_
          clear hK
          refine MakeRun.go rfl (fun K hK => ?_)
          refine wp_entry _ _ _ rfl rfl rfl (Hent.out y2 hblk2) ?_
          have hW3 := wrote_block (o' := .map es1 clk1) hblk2
          have hblk3 := heap_setSame (o' := .map es1 clk1) hblk2
          have hBx3 := hBx2.wrote hW3 (show ¬ g1 = w.heap.size by have := Hg.out.2.1; omega)
          refine hK _ _ ⟨⟨hBx3, .inr hblk3⟩, ?_⟩
          (try simp only [Act.put, List.setIfInBounds_toArray, List.set_cons_zero, List.set_cons_succ])
          clear hK
          refine MakeRun.go rfl (fun K hK => ?_)
          go_wp2_with fail
          refine ⟨⟨hBx3, .inr hblk3⟩, ?_⟩
          refine MakeRun.done ?_
          simp only [List.drop_succ_cons, List.drop_zero]
          obtain ⟨y4, hrun, hC4, hW4⟩ := Hst.out _ hblk3
          refine wpList_estore rfl _ _ _ _ rfl rfl rfl rfl hrun ?_
          have hW14 : Wrote (fun x => x = w.heap.size) y1 y4 := (Wrote.of_below hb2).trans (hW3.trans hW4 (fun x hx => .inl hx)) (fun x hx => .inl hx)
          have HM4 : Hid (MrgAt y4 w.heap.size w.heap.size u6 met (met ++ [⟨xk, xt, xo, xx, xa, xn, xc, xs⟩]) RO) := HQ2.out.1.recount (r := ⟨xk, xt, xo, xx, xa, xn, xc, xs⟩) hW14 hC4
          have HB4 := Lib.hid (Wrote.below HQ2.out.2 hW14 HQ2.out.2.size (fun x hx => by omega))
          have HBx4 := Lib.hid (hBx3.wrote hW4 (show ¬ g1 = w.heap.size by have := Hg.out.2.1; omega))
          have Hgy4 : Hid (g1 < y4.heap.size) := Nat.lt_of_lt_of_le hgy hW14.size
          clear hrun hC4 hW4 hW14 hW3 hblk2 hblk3 hBx2 hBx3 hb2 hb HQ2 Hent Hlook Hst Hblk HBx hgy hbmlt Hsch2
          obtain ⟨b0, b1, b2, b3, b4⟩ := HBx4.out.all
          go_wp2_with fail
          refine (fof_calls _ _ _ _ _ _ _ _).mono ?_
          rintro e y5 ⟨rfl, hb⟩
          have HM5 := Lib.hid (HM4.out.below hb)
          have HB5 := Lib.hid (HB4.out.trans (hb.mono HB4.out.size))
          have HBx5 := Lib.hid (HBx4.out.below hb)
          have Hgy5 : Hid (g1 < y5.heap.size) := Nat.lt_of_lt_of_le Hgy4.out hb.size
          clear hb HM4 HB4 HBx4 Hgy4 b0 b1 b2 b3 b4
          obtain ⟨es', clk', hC'⟩ := HM5.out.map
          have hlk := look_run hC' (q := ⟨xk, xt, xo, xx⟩) Hrw.out
          have hz0 : cntF (met ++ [⟨xk, xt, xo, xx, xa, xn, xc, xs⟩]) ⟨xk, xt, xo, xx⟩ = cq + 1 := by
            rw [cntF_snoc, Hcq.out]
            unfold up1
            rw [if_pos (show (⟨xk, xt, xo, xx⟩ : Nm) = Fr.nm ⟨xk, xt, xo, xx, xa, xn, xc, xs⟩ from rfl), ← Hcq.out]
          rw [hz0] at hlk
          have Hlk := Lib.hid hlk
          clear hlk hz0 hC'
          by_cases h0 : cq = 0
          case neg =>
            have hzb : (((cq + 1 : Nat) : Int) == 1) = false := by simp; omega
            have HN : Hid (MrgAt y5 w.heap.size w.heap.size u6 (metN RA RB j ++ RL.take (i + 1)) (metN RA RB j ++ RL.take (i + 1)) RO ∧ Below w.heap.size w y5) := by
              rw [Hid, Hmt.out]
              exact ⟨HM5.out.again (r := ⟨xk, xt, xo, xx, xa, xn, xc, xs⟩) (fun e => h0 (Hcq.out.trans e)), HB5.out⟩
            clear h0 HM5 HB5
            generalize ((cq + 1 : Nat) : Int) = z at *
            go_wp2_with (at_lookup; refine wpList_look rfl _ _ _ rfl rfl rfl Hlk.out ?_)
            go_roundw
            case rel => exact ⟨i + 1, RO, hin, by go_num, HN.out⟩
            case measure => exact measE hin
          have hzb : (((cq + 1 : Nat) : Int) == 1) = true := by rw [h0]; rfl
          have Hc0 : Hid (cntF met ⟨xk, xt, xo, xx⟩ = 0) := Hcq.out.symm.trans h0
          clear h0
          revert Hlk hzb
          generalize ((cq + 1 : Nat) : Int) = z
          intro Hlk hzb
          go_wp2_with (at_lookup; refine wpList_look rfl _ _ _ rfl rfl rfl Hlk.out ?_)
          refine wp_plan2_draw 6 [0, 1, 2, 4, 5] [3] (fun z => FdBox z g1 xk xt xo xx xa xn xc) mixed (by kernel_rfl) (fun c a d v w h => by cases d <;> exact h) (HBx5.out.below (Below.refl _ y5).drew) ?_
          simp only [picks, List.map_cons, List.map_nil, List.getD_cons_zero, List.getD_cons_succ]
          repeat ((apply ReadRun.go rfl); (intro z1 hS; (obtain ⟨s0, s1, s2, s3, s4, _⟩ := hS); go_simp; first | done | exact rfl); (simp only [Act.put, List.setIfInBounds_toArray, List.set_cons_zero, List.set_cons_succ]))
          refine ReadRun.done ?_
          refine MakeRun.go rfl (fun K hK => ?_)
          obtain ⟨i1, ji, jz, js, jb⟩ := info_at infoFdInt
          have hxn' : xn ≤ 2000000 := hxn
          obtain ⟨y6, hrun6, hown6, hg6⟩ := run_make_own (P := Tryz.prog) y5.drew y5.heap.size 29 3 i1 (.int .i64 0) 1 Tryz.underlying29 ji jz js .i64 .i64 xn (by rw [jb]; omega) (by unfold maxLen; omega) (Nat.le_refl _)
          have hg6' : Below y5.heap.size y5 y6 := ((Below.refl _ y5).drew).trans ⟨hg6.os, hg6.tape, hg6.output, hg6.size, fun k hk => hg6.block k hk (by simp)⟩
          refine wp_makeS _ _ _ rfl rfl rfl hrun6 ?_
          refine hK _ _ ⟨HBx5.out.below hg6', ?_⟩
          (try simp only [Act.put, List.setIfInBounds_toArray, List.set_cons_zero, List.set_cons_succ])
          refine MakeRun.done ?_
          simp only [List.drop_succ_cons, List.drop_zero]
          have hsr : SchAt y6 ⟨xk, xt, xo, xx, xa, xn, xc, xs⟩ := (HRL.out.sch _ (List.mem_of_getElem? Hr.out)).below ((HB5.out.trans (hg6'.mono HB5.out.size)))
          have hlen : xs.length = xn := hsr.is.len
          have hcc : xa = none → xn = 0 ∧ xc = 0 := fun h => by
            have h1 : xc = 0 := hsr.nil h
            have h2 : xn ≤ xc := hsr.is.le
            omega
          refine wpList_append_fits_any y6 rfl _ _ 29 rfl y5.heap.size 3 i1 1 Tryz.underlying29 ji js y5.heap.size 0 xn [] rfl hown6 xa xn xc (xs.map (Value.int .i64)) rfl (hsr.is.reads.1) hcc (fun ad had k u hu => ?_) (ints_oneCell .i64 xs) (by omega) ?_
          · have hk : k < xs.length := by
              have := (List.getElem?_eq_some_iff.1 hu).1
              rwa [List.length_map] at this
            obtain ⟨b', off', he, hc⟩ := hsr.is.reads.2 (show 0 < xn by omega)
            have he' : xa = some ⟨b', off', none⟩ := he
            rw [had] at he'
            cases he'
            have := hc k u hu
            unfold Addr.add
            split
            · rename_i hj; subst hj; exact this
            · exact this
          intro y7 hown7 hg7
          rw [Nat.zero_add] at hown7 ⊢
          rw [List.nil_append] at hown7
          have hW57 : Wrote (fun _ => False) y5 y7 := (Wrote.of_below (R := fun _ => False) hg6').trans (Wrote.of_grown (R := fun q => q = y5.heap.size) hg7 (fun k hk => (Option.some.inj hk).symm)) (fun x hx => .inr (by omega))
          have hB57 : Below y5.heap.size y5 y7 := hW57.same (fun _ h => h)
          have hOI : OwnL eltI y7 y5.heap.size (.slice (some ⟨y5.heap.size, 0, none⟩) xn xn) xs := ⟨by rw [flat_ints, hlen]; exact hown7⟩
          have hg2 : y5.heap.size < y7.heap.size := (hOI.lt rfl).2
          obtain ⟨a', c', he, his⟩ := hOI.ints hsr.is.wf
          rw [hlen] at he his
          cases he
          have HM7 := Lib.hid (HM5.out.below hB57)
          have HB7 := Lib.hid (HB5.out.trans (hB57.mono HB5.out.size))
          have hBx7 := HBx5.out.below hB57
          have HBx7 := Lib.hid hBx7
          have His := Lib.hid his
          have hg1 := Hgy5.out
          have hvb : ∀ q, u6.ownBlock = some q → q < y5.heap.size := fun q hq => (HM5.out.own.lt hq).2
          have hbw := HB5.out.size
          have hmb5 : w.heap.size < y5.heap.size := HM5.out.map.lt
          revert hg1 hg2 hvb His hbw hmb5
          clear hown6 hg6 hg6' hsr hown7 hg7 hW57 hB57 hOI his hrun6 hK HBx5 HM5 HB5 Hgy5
          generalize y5.heap.size = g2
          intro hg2 His hg1 hvb hbw hmb5
          obtain ⟨b0, b1, b2, b3, b4⟩ := hBx7.all
          have bf := hBx7.fr
          clear hBx7
          go_upto_region 12 with (fail)
          have hW8 : Wrote (fun x => x = g1) y7 (y7.setCell ⟨g1, 4, none⟩ (.slice (some ⟨g2, 0, none⟩) xn xn)) := Wrote.setCell (R := fun x => x = g1) y7 (p := ⟨g1, 4, none⟩) _ rfl
          have HBx8 := Lib.hid (HBx7.out.set (some ⟨g2, 0, none⟩) xn xn)
          have HM8 := Lib.hid (HM7.out.wrote hW8 (fun q hq => Hg.out.1 q hq) (show ¬ w.heap.size = g1 by have := Hg.out.2.1; omega) (fun r hr g hg => Hg.out.2.2 r hr g hg))
          have HB8 := Lib.hid (Wrote.below HB7.out hW8 HB7.out.size (fun x hx => by have := Hg.out.2.1; omega))
          have hs8 : SchAt (y7.setCell ⟨g1, 4, none⟩ (.slice (some ⟨g2, 0, none⟩) xn xn)) ⟨xk, xt, xo, xx, some ⟨g2, 0, none⟩, xn, xn, xs⟩ := by
            have : SchAt y7 ⟨xk, xt, xo, xx, some ⟨g2, 0, none⟩, xn, xn, xs⟩ := ⟨His.out, fun h => by cases h⟩
            exact this.wrote hW8 fun g o s e => by cases e; omega
          have Hs8 := Lib.hid hs8
          have hg28 : g2 < (y7.setCell ⟨g1, 4, none⟩ (.slice (some ⟨g2, 0, none⟩) xn xn)).heap.size := Nat.lt_of_lt_of_le hg2 hW8.size
          have Hg28 := Lib.hid hg28
          clear b0 b1 b2 b3 b4 bf hW8 hs8 hg28 HM7 HB7 HBx7 His hg2
          revert HBx8 HM8 HB8 Hs8 Hg28
          generalize y7.setCell ⟨g1, 4, none⟩ (.slice (some ⟨g2, 0, none⟩) xn xn) = y8
          intro HBx8 HM8 HB8 Hs8 Hg28
          obtain ⟨b0, b1, b2, b3, b4⟩ := HBx8.out.all
          have hcap : RO.length < 1000000 := Nat.lt_of_le_of_lt HM8.out.len Hmtl.out
          go_wp2_with (at_builtin; go_loud (refine wpList_push eltFr rfl (.tmp 50) (.tmp 52) rfl (⟨xk, xt, xo, xx, some ⟨g2, 0, none⟩, xn, xn, xs⟩ : Fr) rfl rfl rfl HM8.out.own HB8.out.size hcap ?_))
          intro v' y9 hown9 hw9 hv9
          have HN : Hid (MrgAt y9 w.heap.size w.heap.size v' (metN RA RB j ++ RL.take (i + 1)) (metN RA RB j ++ RL.take (i + 1)) (RO ++ [⟨xk, xt, xo, xx, some ⟨g2, 0, none⟩, xn, xn, xs⟩]) ∧ Below w.heap.size w y9) := by
            rw [Hid, Hmt.out]
            exact ⟨HM8.out.push (r := ⟨xk, xt, xo, xx, xa, xn, xc, xs⟩) Hc0.out rfl rfl Hrw.out Hs8.out rfl hbw Hg28.out (by omega) (fun e => by have := hvb _ e; omega) hown9 hw9 hv9, Wrote.below HB8.out hw9 HB8.out.size (fun q hq => (HM8.out.own.lt hq).1)⟩
          clear hown9 hw9 hv9 HM8 HB8 HBx8 Hs8 Hg28 b0 b1 b2 b3 b4
          go_wp2
          go_roundw
          case rel => exact ⟨i + 1, _, hin, by go_num, HN.out⟩
          case measure => exact measE hin
        · have hin : i = ln := Nat.le_antisymm hi (Nat.le_of_not_lt hin)
          subst hin
          have HN : Hid (MrgAt wr w.heap.size w.heap.size u6 (metN RA RB (j + 1)) (metN RA RB (j + 1)) RO ∧ Below w.heap.size w wr) := by
            have h1 := HQ.out
            rw [List.take_of_length_le (by rw [HRL.out.len]; exact Nat.le_refl _)] at h1
            rw [Hid, HP.out.1]
            exact h1
          clear HQ
          go_wp2
          go_roundw
          case rel => exact ⟨j + 1, RO, Hj2.out, by go_num, HN.out⟩
          case measure => exact measE Hj2.out
    · have hj2 : j = 2 := Nat.le_antisymm hj (Nat.le_of_not_lt hj2)
      subst hj2
      have hmet : metN RA RB 2 = RA ++ RB := rfl
      rw [hmet] at HL
      have hcap : RO.length < 1000000 := Nat.lt_of_le_of_lt HL.out.1.len (by rw [List.length_append, HA.out.len, HB.out.len]; exact hnm)
      go_wp2_with fail
      refine (sortFd_calls HL.out.1.own hcap).mono ?_
      rintro e w3 ⟨rfl, ys, hp, hs', ho, hw⟩
      have hB3 := Wrote.below HL.out.2 hw HL.out.2.size (fun q hq => (HL.out.1.own.lt hq).1)
      obtain ⟨x, cx, rfl, hF⟩ := ho.fds (fun r hr => HL.out.1.wf r (hp.mem_iff.1 hr)) (fun r hr => by
        obtain ⟨h1, g, h2, _, _, _, h6⟩ := HL.out.1.sch r (hp.mem_iff.1 hr)
        exact h1.wrote hw fun g' o s e => by rw [h2] at e; cases e; exact h6)
      have HF := Lib.hid hF
      have HB3 := Lib.hid hB3
      have Hm : Hid (Merged ((RA ++ RB).map Fr.fd) (ys.map Fr.fd)) := merged_of_sort (by rw [← HL.out.1.fds]; exact hp.map _) (List.Pairwise.map _ (fun _ _ h => h) hs')
      have Hk : Hid (ys.length ≤ n + m ∧ ∀ r ∈ ys, r.n ≤ 2000000) := ⟨by
        have h1 := hp.length_eq
        have h2 := HL.out.1.len
        rw [List.length_append, HA.out.len, HB.out.len] at h2
        omega, fun r hr => HL.out.1.lens 2000000 (fun s hs => Hs.out s hs) r (hp.mem_iff.1 hr)⟩
      clear hp hs' ho hw hF hB3 HL
      go_wp2_with fail
      refine (clipFd_calls HF.out).mono ?_
      rintro e w4 ⟨rfl, hF4, rfl⟩
      have HF4 := Lib.hid hF4
      clear hF4
      go_wp2
      go_ret
      exact ⟨_, _, _, rfl, HF4.out, Hm.out, Hk.out.1, Hk.out.2, HB3.out⟩
end Go.Proofs.YtadngicebbnnlaaGreat

namespace Go.Proofs.YtadngicebbnnlaaGreat
open Go.ChangeShapes Go.WideShapes Go.ChangeAt Go.RowKit Go.Deep

theorem elemFds : Tryz.prog.elem 38 = 58 := by kernel_rfl
theorem underFds : Tryz.prog.underlying 38 = some (.slice (Tryz.prog.elem 38)) := by rw [elemFds]; exact Tryz.underlying38
theorem sizeFd (W : World) : (Go.sizeOf (Tryz.prog.elem 38)).run Tryz.prog W = .ok 5 W := by rw [elemFds]; exact Tryz.sizeOf58 W
theorem IsFds.tail {w : World} {a : Option Addr} {n c : Nat} {R : List Fr} (h : IsFds w a n c R) (l : Nat) (hl : l ≤ n) : ∃ a', (∀ W, (Instr.slice 38 (.slice a n c) (some (.int .i64 (l : Int))) none none).run Tryz.prog W = .ok (.slice a' (n - l) (c - l)) W) ∧ IsFds w a' (n - l) (c - l) (R.drop l) := by
  have hle := h.le
  have hcap := h.cap
  refine ⟨if c = l then a else a.map (·.add (l * 5)), fun W => ?_, ?_⟩
  · rw [run_slice_l W 38 a n c underFds .i64 (l : Int) (by omega) (by omega), sizeFd]
    simp [Result.andThen, sliced]
  · rcases Nat.eq_or_lt_of_le hl with h0 | h0
    · subst h0
      have hnil : R.drop l = [] := List.drop_eq_nil_of_le (by rw [h.len]; exact Nat.le_refl _)
      rw [hnil, Nat.sub_self]
      exact ⟨⟨rfl, fun h => absurd h (by omega)⟩, rfl, Nat.zero_le _, by omega, (fun r hr => by cases hr), (fun r hr => by cases hr)⟩
    · obtain ⟨b, off, rfl, _⟩ := h.reads.2 (by omega)
      rw [if_neg (by omega)]
      have hp := h.part l (n - l) (by omega)
      rw [List.take_of_length_le (by rw [List.length_drop, h.len]; exact Nat.le_refl _)] at hp
      have e : (some (⟨b, off, none⟩ : Addr)).map (·.add (l * 5)) = some ⟨b, off + l * 5, none⟩ := by
        simp only [Option.map_some, Addr.add]
        split
        · rename_i h1; rw [h1, Nat.add_zero]
        · rfl
      rw [e]
      exact hp
theorem IsFds.front {w : World} {a : Option Addr} {n c : Nat} {R : List Fr} (h : IsFds w a n c R) (l : Nat) (hl : l ≤ n) : ∃ a', (∀ W, (Instr.slice 38 (.slice a n c) none (some (.int .i64 (l : Int))) none).run Tryz.prog W = .ok (.slice a' l c) W) ∧ IsFds w a' l c (R.take l) := by
  have hle := h.le
  have hcap := h.cap
  refine ⟨if c = 0 then a else a.map (·.add (0 * 5)), fun W => ?_, ?_⟩
  · rw [run_slice_h W 38 a n c underFds .i64 (l : Int) (by omega) (by omega), sizeFd]
    simp [Result.andThen, sliced]
  · have e : (if c = 0 then a else a.map (·.add (0 * 5))) = a := by
      split
      · rfl
      · cases a <;> simp [Addr.add]
    rw [e]
    rcases Nat.eq_zero_or_pos l with h0 | h0
    · subst h0
      exact ⟨⟨rfl, fun h => absurd h (by omega)⟩, rfl, Nat.zero_le _, hcap, (fun r hr => by cases hr), (fun r hr => by cases hr)⟩
    · obtain ⟨b, off, rfl, _⟩ := h.reads.2 (by omega)
      have hp := h.part 0 l (by omega)
      simpa using hp

/-- A list of findings behind a list of one's own. -/
theorem wpList_appFds {w : World} {ops : Array Oper} {rest : List Oper} {o : Oper} {a : Act} {Q : Exit → Act → World → Prop} (hgd : o.guard = none) (s x : Operand)
    (ho : o.op = .call { callee := .builtin .append, args := #[s, x], argTypes := #[38, 38] }) {v : Value} {B : Nat} {xs ys : List Fr} {ad : Option Addr} {n c : Nat}
    (hs : a.eval s = v) (hx : a.eval x = .slice ad n c) (hown : OwnL eltFr w B v xs) (hy : IsFds w ad n c ys) (hB : B ≤ w.heap.size) (hcap : xs.length + n < 2000000)
    (h : ∀ v' w', OwnL eltFr w' B v' (xs ++ ys) → Wrote (fun q => v.ownBlock = some q) w w' → (∀ q, v'.ownBlock = some q → v.ownBlock = some q ∨ w.heap.size ≤ q) → wpList Tryz.prog ops Q rest (a.put o.dst v') w') :
    wpList Tryz.prog ops Q (o :: rest) a w := by
  obtain ⟨i0, hi, hz, hs1, hyb⟩ := info_at eltFr.hi
  rcases Nat.eq_zero_or_pos n with h0 | h0
  · subst h0
    have hl : ys = [] := List.eq_nil_of_length_eq_zero hy.len
    subst hl
    obtain ⟨va, vc, rfl, hvc, _⟩ := hown.slice
    have hsrc : Src Tryz.prog i0.size 38 (.slice ad 0 c) 0 [] w := by
      cases ad with
      | none => exact Src.ofNil w (e' := 58) Tryz.underlying38 c
      | some ad => exact Src.ofSlice w (e' := 58) Tryz.underlying38 ad 0 c [] (by simp) (fun j u hu => by simp at hu) (fun u hu => by cases hu)
    have hrun := run_append_nothing (P := Tryz.prog) w 38 38 o.type 58 i0 Tryz.underlying38 hi va xs.length vc hvc (.slice ad 0 c) hsrc
    refine wpList_plain hgd fun _ hK => ?_
    unfold Oper.wp
    simp [execOp, ho, resolve, invoke, builtin, hs, hx, hrun, Result.andThen]
    refine hK _ _ (h _ _ ?_ (Wrote.refl _ _) (fun q hq => .inl hq))
    rw [List.append_nil]; exact hown
  · obtain ⟨b, off, he, hc⟩ := hy.reads.2 h0
    subst he
    refine wpList_append_at w hgd s x 38 ho B 58 i0 eltFr.z 5 56 Tryz.underlying38 hi hz hs1 hyb rfl (by decide) v xs.length (xs.flatMap Fr.vals) hs hown.own ⟨b, off, none⟩ n c (ys.flatMap Fr.vals) hx
      (by rw [flat_len Fr.vals 5 (fun _ => rfl), hy.len]) (fun j u hu => ?_) (fun u hu => ?_) (by unfold maxLen; omega) (by omega) hB (fun v' w' hown' hg _ hv' => ?_)
    · have := hc j u hu
      unfold Addr.add
      split
      · rename_i hj; subst hj; exact this
      · exact this
    · obtain ⟨r, _, hr⟩ := List.mem_flatMap.1 hu
      exact eltFr.h1 r u hr
    · refine h v' w' ⟨?_⟩ (Wrote.of_grown hg (fun q hq => hq)) hv'
      rw [List.length_append, List.flatMap_append, hy.len]
      exact hown'

/-! The document's sort, on findings as they lie. -/
def mgF (A B : List Fr) : List Fr := List.merge A B (fun x y => leF x.fd y.fd)
theorem mgF_map : ∀ (A B : List Fr), (mgF A B).map Fr.fd = List.merge (A.map Fr.fd) (B.map Fr.fd) leF
  | [], B => by simp [mgF]
  | x :: A, [] => by simp [mgF]
  | x :: A, y :: B => by
    unfold mgF
    rw [List.merge.eq_def, List.map_cons, List.map_cons, List.merge.eq_def]
    simp only
    cases h : leF x.fd y.fd
    · simp only [Bool.false_eq_true, if_false, List.map_cons]
      have := mgF_map (x :: A) B
      unfold mgF at this
      rw [this, List.map_cons]
    · simp only [if_true, List.map_cons]
      have := mgF_map A (y :: B)
      unfold mgF at this
      rw [this, List.map_cons]
  termination_by A B => A.length + B.length
theorem mgF_left {x y : Fr} {A B : List Fr} (h : leF x.fd y.fd = true) : mgF (x :: A) (y :: B) = x :: mgF A (y :: B) := by
  unfold mgF; rw [List.merge.eq_def]; simp only [h, if_true]
theorem mgF_right {x y : Fr} {A B : List Fr} (h : leF x.fd y.fd = false) : mgF (x :: A) (y :: B) = y :: mgF (x :: A) B := by
  unfold mgF; rw [List.merge.eq_def]; simp only [h, Bool.false_eq_true, if_false]
theorem mgF_nil (B : List Fr) : mgF [] B = B := by simp [mgF]
theorem mgF_nil' (A : List Fr) : mgF A [] = A := by cases A <;> simp [mgF]
theorem mgF_mem {A B : List Fr} {r : Fr} (h : r ∈ mgF A B) : r ∈ A ∨ r ∈ B := by
  unfold mgF at h
  exact List.mem_merge.1 h
def lenV : Value → Nat
  | .slice _ n _ => n
  | _ => 0
end Go.Proofs.YtadngicebbnnlaaGreat

namespace Go.Proofs.YtadngicebbnnlaaGreat
open Go.ChangeShapes Go.WideShapes Go.ChangeAt Go.RowKit Go.Deep

set_option maxRecDepth 20000 in
set_option maxHeartbeats 4000000 in
theorem fequal_calls {w : World} {a0 b0 : Option Addr} {n m c d : Nat} {xs : List Int} (h : IsInts w a0 n c xs) (h' : IsInts w b0 m d xs) :
    Calls Tryz.prog 34 #[.slice a0 n c, .slice b0 m d] w fun e w' => e = .returned (.bool true) ∧ Below w.heap.size w w' := by
  have hm : m = n := h'.len.symm.trans h.len
  subst hm
  have hnb := h.bd
  have Ha := Lib.hid h
  have Hb := Lib.hid h'
  have hnn : ((m : Int) != (m : Int)) = false := by simp
  clear h h'
  go_enter Tryz.func34, Tryz.ntmps34
  go_wp2_with fail
  go_loopw [5] (fun x wr => ∃ k : Nat, k ≤ m ∧ x = .int .i64 k ∧ Hid (Below w.heap.size w wr)) (fun x _ => m - (intOf x).toNat)
  case atStart => exact ⟨0, Nat.zero_le _, by go_num, Below.refl ..⟩
  case round =>
    obtain ⟨k, hk, rfl, HB⟩ := hrel
    by_cases hkn : k < m
    · obtain ⟨b, off, x, rfl, hx, _, c0⟩ := (Ha.out.below HB.out).at hkn
      obtain ⟨b', off', y, rfl, hy, _, d0⟩ := (Hb.out.below HB.out).at hkn
      obtain rfl : x = y := Option.some.inj (hx.symm.trans hy)
      have hxx : (x != x) = false := by simp
      clear hx hy
      go_wp2_with fail
      refine wp_ext_draw 9 mixed (by kernel_rfl) ?_
      simp only [List.take_succ_cons, List.take_zero, List.drop_succ_cons, List.drop_zero]
      repeat ((first | ((apply TextRun.go rfl rfl rfl); (focus (intro w1 hS K hK; have hc := bcell hS; have hs := blt hS; have c0 := keep hS c0; have d0 := keep hS d0; go_wp2_with (fail); first | done | exact hS | exact hS.trans (hb.mono hS.size)))) | (refine TextRun.skip rfl ?_) | ((refine TextRun.wantedT rfl rfl rfl ?_); (apply Exists.intro); (apply And.intro); (focus (intro w1 hS K hK; have hc := bcell hS; have hs := blt hS; have c0 := keep hS c0; have d0 := keep hS d0; go_wp2_with (fail); first | done | exact hS | exact hS.trans (hb.mono hS.size))))); (simp only [Act.put, List.setIfInBounds_toArray, List.set_cons_zero, List.set_cons_succ]))
      refine TextRun.done ?_
      intro w2 hb
      have HB2 := Lib.hid (HB.out.trans (hb.mono HB.out.size))
      clear hb c0 d0 HB
      go_wp2
      go_roundw
      case rel => exact ⟨k + 1, hkn, by go_num, HB2.out⟩
      case measure => exact measD hkn
    · have hkn : k = m := Nat.le_antisymm hk (Nat.le_of_not_lt hkn)
      subst hkn
      go_wp2
      go_ret
      exact ⟨rfl, HB.out⟩

theorem strip_at {A B : List Fr} (h : A.map (fun r => r.fd.strip) = B.map (fun r => r.fd.strip)) {i : Nat} {x y : Fr} (hx : A[i]? = some x) (hy : B[i]? = some y) : SameF x.fd y.fd := by
  have h1 := congrArg (fun l => l[i]?) h
  simp only [List.getElem?_map, hx, hy, Option.map_some, Option.some.injEq] at h1
  unfold Fd.strip at h1
  simp only [Fd.mk.injEq, and_true] at h1
  exact h1
set_option maxRecDepth 20000 in
set_option maxHeartbeats 4000000 in
theorem falike_calls {w : World} {a0 b0 : Option Addr} {n m c d : Nat} {A B : List Fr} (h : IsFds w a0 n c A) (h' : IsFds w b0 m d B) (hs : A.map (fun r => r.fd.strip) = B.map (fun r => r.fd.strip)) :
    Calls Tryz.prog 18 #[.slice a0 n c, .slice b0 m d] w fun e w' => e = .returned (.bool true) ∧ Below w.heap.size w w' := by
  have hm : m = n := by
    have := congrArg List.length hs
    rw [List.length_map, List.length_map, h.len, h'.len] at this
    exact this.symm
  subst hm
  have hnb := h.bd
  have Ha := Lib.hid h
  have Hb := Lib.hid h'
  have Hs := Lib.hid hs
  have hnn : ((m : Int) != (m : Int)) = false := by simp
  clear h h' hs
  go_enter Tryz.func18, Tryz.ntmps18
  go_wp2_with fail
  go_loopw [5] (fun x wr => ∃ k : Nat, k ≤ m ∧ x = .int .i64 k ∧ Hid (Below w.heap.size w wr)) (fun x _ => m - (intOf x).toNat)
  case atStart => exact ⟨0, Nat.zero_le _, by go_num, Below.refl ..⟩
  case round =>
    obtain ⟨k, hk, rfl, HB⟩ := hrel
    by_cases hkn : k < m
    · obtain ⟨b, off, x, rfl, hx, _, _, c0, c1, c2, c3, c4⟩ := (Ha.out.below HB.out).at hkn
      obtain ⟨b', off', y, rfl, hy, _, _, d0, d1, d2, d3, d4⟩ := (Hb.out.below HB.out).at hkn
      have hz := cmpF_zero.2 (strip_at Hs.out hx hy)
      rw [← cmp4_is] at hz
      have Hc := Lib.hid (fun W => rfcmp_calls x.k x.t x.o x.x y.k y.t y.o y.x x.a y.a x.n x.c y.n y.c W)
      rw [hz] at Hc
      obtain ⟨xk, xt, xo, xx, xa, xn, xc, xs⟩ := x
      obtain ⟨yk, yt, yo, yx, ya, yn, yc, ys⟩ := y
      simp only at c0 c1 c2 c3 c4 d0 d1 d2 d3 d4 Hc
      clear hx hy hz
      go_wp2_with fail
      refine wp_ext_draw 10 mixed (by kernel_rfl) ?_
      simp only [List.take_succ_cons, List.take_zero, List.drop_succ_cons, List.drop_zero]
      repeat ((first | ((apply TextRun.go rfl rfl rfl); (focus (intro w1 hS K hK; have hc := bcell hS; have hs := blt hS; have c0 := keep hS c0; have c1 := keep hS c1; have c2 := keep hS c2; have c3 := keep hS c3; have c4 := keep hS c4; have d0 := keep hS d0; have d1 := keep hS d1; have d2 := keep hS d2; have d3 := keep hS d3; have d4 := keep hS d4; go_wp2_with ((with_reducible refine (Hc.out _).mono ?_); rintro e w' ⟨rfl, hb⟩); first | done | exact hS | exact hS.trans (hb.mono hS.size)))) | (refine TextRun.skip rfl ?_) | ((refine TextRun.wantedT rfl rfl rfl ?_); (apply Exists.intro); (apply And.intro); (focus (intro w1 hS K hK; have hc := bcell hS; have hs := blt hS; have c0 := keep hS c0; have c1 := keep hS c1; have c2 := keep hS c2; have c3 := keep hS c3; have c4 := keep hS c4; have d0 := keep hS d0; have d1 := keep hS d1; have d2 := keep hS d2; have d3 := keep hS d3; have d4 := keep hS d4; go_wp2_with ((with_reducible refine (Hc.out _).mono ?_); rintro e w' ⟨rfl, hb⟩); first | done | exact hS | exact hS.trans (hb.mono hS.size))))); (simp only [Act.put, List.setIfInBounds_toArray, List.set_cons_zero, List.set_cons_succ]))
      refine TextRun.done ?_
      intro w2 hb
      have HB2 := Lib.hid (HB.out.trans (hb.mono HB.out.size))
      clear hb c0 c1 c2 c3 c4 d0 d1 d2 d3 d4 HB Hc
      go_wp2
      go_roundw
      case rel => exact ⟨k + 1, hkn, by go_num, HB2.out⟩
      case measure => exact measD hkn
    · have hkn : k = m := Nat.le_antisymm hk (Nat.le_of_not_lt hkn)
      subst hkn
      go_wp2
      go_ret
      exact ⟨rfl, HB.out⟩

set_option maxRecDepth 20000 in
set_option maxHeartbeats 4000000 in
theorem fsame_calls {w : World} {a0 b0 : Option Addr} {n m c d : Nat} {A B : List Fr} (h : IsFds w a0 n c A) (h' : IsFds w b0 m d B) (hs : A.map Fr.fd = B.map Fr.fd) :
    Calls Tryz.prog 15 #[.slice a0 n c, .slice b0 m d] w fun e w' => e = .returned (.bool true) ∧ Below w.heap.size w w' := by
  have hst : A.map (fun r => r.fd.strip) = B.map (fun r => r.fd.strip) := by
    have := congrArg (List.map Fd.strip) hs
    rw [List.map_map, List.map_map] at this
    exact this
  have hm : m = n := by
    have := congrArg List.length hs
    rw [List.length_map, List.length_map, h.len, h'.len] at this
    exact this.symm
  subst hm
  have hnb := h.bd
  have Ha := Lib.hid h
  have Hb := Lib.hid h'
  have Hs := Lib.hid hs
  have Hal := Lib.hid (falike_calls h h' hst)
  clear h h' hs hst
  go_enter Tryz.func15, Tryz.ntmps15
  go_wp2_with fail
  refine Hal.out.mono ?_
  rintro e w1 ⟨rfl, hb⟩
  have HB1 := Lib.hid hb
  clear hb Hal
  go_wp2_with fail
  go_loopw [6] (fun x wr => ∃ k : Nat, k ≤ m ∧ x = .int .i64 k ∧ Hid (Below w.heap.size w wr)) (fun x _ => m - (intOf x).toNat)
  case atStart => exact ⟨0, Nat.zero_le _, by go_num, HB1.out⟩
  case round =>
    obtain ⟨k, hk, rfl, HB⟩ := hrel
    by_cases hkn : k < m
    · obtain ⟨b, off, x, rfl, hx, _, sx, _, _, _, _, c4⟩ := (Ha.out.below HB.out).at hkn
      obtain ⟨b', off', y, rfl, hy, _, sy, _, _, _, _, d4⟩ := (Hb.out.below HB.out).at hkn
      have hsc : x.s = y.s := by
        have h1 := congrArg (fun l => l[k]?) Hs.out
        simp only [List.getElem?_map, hx, hy, Option.map_some, Option.some.injEq] at h1
        exact congrArg Fd.s h1
      have sy' := sy.is
      rw [← hsc] at sy'
      have Hc : Hid (∀ W, Below wr.heap.size wr W → Calls Tryz.prog 34 #[.slice x.a x.n x.c, .slice y.a y.n y.c] W fun e w' => e = .returned (.bool true) ∧ Below W.heap.size W w') := fun W hW => fequal_calls (sx.is.below hW) (sy'.below hW)
      obtain ⟨xk, xt, xo, xx, xa, xn, xc, xs⟩ := x
      obtain ⟨yk, yt, yo, yx, ya, yn, yc, ys⟩ := y
      simp only at c4 d4 Hc
      clear hx hy hsc sx sy sy'
      go_wp2_with fail
      refine wp_ext_draw 12 mixed (by kernel_rfl) ?_
      simp only [List.take_succ_cons, List.take_zero, List.drop_succ_cons, List.drop_zero]
      repeat ((first | ((apply TextRun.go rfl rfl rfl); (focus (intro w1 hS K hK; have hc := bcell hS; have hs := blt hS; have c4 := keep hS c4; have d4 := keep hS d4; go_wp2_with ((with_reducible refine (Hc.out _ hS).mono ?_); rintro e w' ⟨rfl, hb⟩); first | done | exact hS | exact hS.trans (hb.mono hS.size)))) | (refine TextRun.skip rfl ?_) | ((refine TextRun.wantedT rfl rfl rfl ?_); (apply Exists.intro); (apply And.intro); (focus (intro w1 hS K hK; have hc := bcell hS; have hs := blt hS; have c4 := keep hS c4; have d4 := keep hS d4; go_wp2_with ((with_reducible refine (Hc.out _ hS).mono ?_); rintro e w' ⟨rfl, hb⟩); first | done | exact hS | exact hS.trans (hb.mono hS.size))))); (simp only [Act.put, List.setIfInBounds_toArray, List.set_cons_zero, List.set_cons_succ]))
      refine TextRun.done ?_
      intro w2 hb
      have HB2 := Lib.hid (HB.out.trans (hb.mono HB.out.size))
      clear hb c4 d4 HB Hc
      go_wp2
      go_roundw
      case rel => exact ⟨k + 1, hkn, by go_num, HB2.out⟩
      case measure => exact measD hkn
    · have hkn : k = m := Nat.le_antisymm hk (Nat.le_of_not_lt hkn)
      subst hkn
      go_wp2
      go_ret
      exact ⟨rfl, HB.out⟩
end Go.Proofs.YtadngicebbnnlaaGreat

namespace Go.Proofs.YtadngicebbnnlaaGreat
open Go.ChangeShapes Go.WideShapes Go.ChangeAt Go.RowKit Go.Deep

def SrtPost (w : World) (R : List Fr) (e : Ending) (w' : World) : Prop :=
  ∃ (x : Option Addr) (c : Nat) (R' : List Fr), e = .returned (.slice x R'.length c) ∧ IsFds w' x R'.length c R' ∧ Sorts (R.map Fr.fd) (R'.map Fr.fd) ∧ (∀ r ∈ R', r ∈ R) ∧ Below w.heap.size w w'

end Go.Proofs.YtadngicebbnnlaaGreat

namespace Go.Proofs.YtadngicebbnnlaaGreat
open Go.ChangeShapes Go.WideShapes Go.ChangeAt Go.RowKit Go.Deep

theorem keepAt_of {R : List Fr} {i : Nat} {x y : Fr} (hx : R[i]? = some x) (hy : R[i + 1]? = some y) : keepAt (R.map Fr.fd) (i + 1) = !sameB x.fd y.fd := by
  unfold keepAt
  rw [List.getElem?_map, List.getElem?_map, hy, Nat.add_sub_cancel, hx]
  rfl
/-- The firsts of each run, as they lie. -/
def dedF (R : List Fr) (i : Nat) : List Fr := (List.range i).filterMap fun j => if keepAt (R.map Fr.fd) j then R[j]? else none
theorem dedF_succ {R : List Fr} {i : Nat} {r : Fr} (h : R[i]? = some r) : dedF R (i + 1) = dedF R i ++ if keepAt (R.map Fr.fd) i then [r] else [] := by
  unfold dedF
  rw [List.range_succ, List.filterMap_append]
  congr 1
  simp only [List.filterMap_cons, List.filterMap_nil, h]
  cases keepAt (R.map Fr.fd) i <;> rfl
theorem dedF_map (R : List Fr) (i : Nat) : (dedF R i).map Fr.fd = dedN (R.map Fr.fd) i := by
  unfold dedF dedN
  rw [List.map_filterMap]
  congr 1
  funext j
  rw [List.getElem?_map]
  cases keepAt (R.map Fr.fd) j
  · rfl
  · rfl
theorem dedF_len (R : List Fr) (i : Nat) : (dedF R i).length ≤ i := by
  have := dedN_len (R.map Fr.fd) i
  rw [← dedF_map, List.length_map] at this
  exact this
theorem dedF_mem {R : List Fr} {i : Nat} {r : Fr} (h : r ∈ dedF R i) : r ∈ R := by
  unfold dedF at h
  obtain ⟨j, _, hj⟩ := List.mem_filterMap.1 h
  split at hj
  · exact List.mem_of_getElem? hj
  · cases hj

end Go.Proofs.YtadngicebbnnlaaGreat

namespace Go.Proofs.YtadngicebbnnlaaGreat
open Go.ChangeShapes Go.WideShapes Go.ChangeAt Go.RowKit Go.Deep

set_option maxRecDepth 20000 in
set_option maxHeartbeats 8000000 in
theorem sched_calls {w : World} {a0 : Option Addr} {n c : Nat} {l : List Ev} (h : IsEvs w a0 n c l) (hn : n ≤ 1000) :
    Calls Tryz.prog 27 #[.slice a0 n c] w fun e w' => ∃ g, e = .returned (.slice (some ⟨g, 0, none⟩) n n) ∧ IsInts w' (some ⟨g, 0, none⟩) n n (l.map Ev.t) ∧ w.heap.size ≤ g ∧ g < w'.heap.size ∧ Below w.heap.size w w' := by
  have Hev := Lib.hid h
  clear h
  go_enter Tryz.func27, Tryz.ntmps27
  go_upto_region 2 with (refine wpList_makeI rfl _ _ rfl n hn rfl rfl ?_)
  have hR : RowI n (fun _ => 0) w.heap.size w (w.alloc (.cells (intsA n fun _ => 0) 3)) := ⟨(MapKept.heap_alloc w _).1, (Below.refl _ w).alloc (Nat.le_refl _) _⟩
  have HR := Lib.hid hR
  revert HR
  generalize w.alloc (.cells (intsA n fun _ => 0) 3) = w1
  intro HR
  clear hR
  generalize hg : w.heap.size = g at *
  have Hg := Lib.hid hg
  clear hg
  go_wp2_with fail
  go_loopw [11] (fun x wr => ∃ i : Nat, i ≤ n ∧ x = .int .i64 i ∧ Hid (RowI n (fun k => if k < i then thE l k else 0) g w wr)) (fun x _ => n - (intOf x).toNat)
  case atStart => exact ⟨0, Nat.zero_le _, by go_num, HR.out.of (fun i _ => by simp)⟩
  case round =>
    obtain ⟨i, hi, rfl, HL⟩ := hrel
    by_cases hin : i < n
    · obtain ⟨b, off, x, rfl, hx, _, c0, c1, c2, c3, c4⟩ := (Hev.out.below (by rw [Hg.out]; exact HL.out.below)).at hin
      have hth : thE l i = x.t := by unfold thE; rw [List.getD_eq_getElem?_getD, hx]; rfl
      have Hth := Lib.hid hth
      obtain ⟨xt, xk, xo, xv, xb⟩ := x
      simp only at c0 c1 c2 c3 c4 Hth
      clear hx hth
      go_upto_region 5 with (fail)
      have hN := one_newF wr #[.int .i64 xt, .int .i64 xk, .int .i64 xo, .int .i64 xv, .int .i64 xb] 46
      have HL2 := Lib.hid (HL.out.go hN.2)
      have hA := hN.1
      clear hN HL c0 c1 c2 c3 c4
      revert hA HL2
      generalize wr.alloc (.cells #[.int .i64 xt, .int .i64 xk, .int .i64 xo, .int .i64 xv, .int .i64 xb] 46) = y1
      generalize wr.heap.size = g1
      intro HL2 hA
      have e0 : y1.cell? ⟨g1, 0, none⟩ = some (.int .i64 xt) := cell_of_block hA
      obtain ⟨r0, r1⟩ := HL2.out.get hin
      have HN : Hid (RowI n (fun k => if k < i + 1 then thE l k else 0) g w (y1.setCell ⟨g, i, none⟩ (.int .i64 xt))) := (HL2.out.put i xt).of (fun k _ => by
        by_cases h1 : k = i
        · subst h1; rw [if_pos rfl, if_pos (by omega), Hth.out]
        · rw [if_neg h1]
          by_cases h2 : k < i
          · rw [if_pos h2, if_pos (by omega)]
          · rw [if_neg h2, if_neg (by omega)])
      clear hA HL2
      go_wp2
      go_roundw
      case rel => exact ⟨i + 1, hin, by go_num, HN.out⟩
      case measure => exact measD hin
    · have hin : i = n := Nat.le_antisymm hi (Nat.le_of_not_lt hin)
      subst hin
      have hI : IsInts wr (some ⟨g, 0, none⟩) i i (l.map Ev.t) := by
        refine ⟨⟨by rw [List.length_map, List.length_map, Hev.out.len, Nat.mul_one], fun _ => ⟨g, 0, rfl, fun j u hu => ?_⟩⟩, by rw [List.length_map, Hev.out.len], Nat.le_refl _, by unfold maxLen; omega, fun x hx => ?_⟩
        · have hj : j < i := by
            have := (List.getElem?_eq_some_iff.1 hu).1
            rw [List.length_map, List.length_map, Hev.out.len] at this
            exact this
          rw [Nat.zero_add, (HL.out.get hj).1, if_pos hj]
          rw [List.getElem?_map, List.getElem?_map, List.getElem?_eq_getElem (show j < l.length by rw [Hev.out.len]; exact hj)] at hu
          rw [← hu]
          unfold thE
          rw [List.getD_eq_getElem?_getD, List.getElem?_eq_getElem (show j < l.length by rw [Hev.out.len]; exact hj)]
          rfl
        · obtain ⟨e, he, rfl⟩ := List.mem_map.1 hx
          exact (Hev.out.wf e he).1
      have Hq := Lib.hid (And.intro hI (And.intro HL.out.lt (show Below w.heap.size w wr by rw [Hg.out]; exact HL.out.below)))
      clear hI HL
      go_wp2
      go_ret
      exact ⟨g, rfl, Hq.out.1, Nat.le_of_eq Hg.out, Hq.out.2.1, Hq.out.2.2⟩

def stuckV : Option Nat → Value
  | some t => .tuple #[.int .i64 (t : Int), .bool true]
  | none => .tuple #[.int .i64 0, .bool false]
set_option maxRecDepth 20000 in
set_option maxHeartbeats 8000000 in
theorem stuck_calls {w : World} {B b : Nat} {vl va : Value} {S : LogS} {a1 : Option Addr} {n1 c1 : Nat} {next : List Ac} (h : LogAt w B b vl va S) (hn : IsAcs w a1 n1 c1 next) :
    Calls Tryz.prog 28 #[.pointer (some ⟨b, 0, none⟩), .slice a1 n1 c1] w fun e w' => e = .returned (stuckV (stuckR S next)) ∧ Below w.heap.size w w' := by
  have hnb := hn.bd
  have HL := Lib.hid h
  have Hn := Lib.hid hn
  have hlen := hn.len
  have Hlen := Lib.hid hlen
  obtain ⟨r, hr⟩ : ∃ r, r = stuckV (stuckR S next) := ⟨_, rfl⟩
  rw [← hr]
  have Hr := Lib.hid hr
  clear h hn hlen hr
  go_enter Tryz.func28, Tryz.ntmps28
  go_wp2_with fail
  go_loopw [11] (fun x wr => ∃ i : Nat, i ≤ n1 ∧ x = .int .i64 i ∧ Hid (canAny S next i = false ∧ Below w.heap.size w wr)) (fun x _ => n1 - (intOf x).toNat)
  case atStart => exact ⟨0, Nat.zero_le _, by go_num, rfl, Below.refl ..⟩
  case round =>
    obtain ⟨i, hi, rfl, HB⟩ := hrel
    by_cases hin : i < n1
    · obtain ⟨b0, off, x, rfl, hx, _, c0, c1'⟩ := (Hn.out.below HB.out.2).at hin
      have Hx := Lib.hid hx
      obtain ⟨xk, xo⟩ := x
      simp only at c0 c1'
      clear hx
      go_upto_region 4 with (fail)
      have hN := one_newF wr #[.int .i64 xk, .int .i64 xo] 92
      have HB2 := Lib.hid (HB.out.2.trans (hN.2.mono HB.out.2.size))
      have hA := hN.1
      have Hc0 := Lib.hid HB.out.1
      clear hN HB c0 c1'
      revert hA HB2
      generalize wr.alloc (.cells #[.int .i64 xk, .int .i64 xo] 92) = y1
      generalize wr.heap.size = g1
      intro HB2 hA
      have e0 : y1.cell? ⟨g1, 0, none⟩ = some (.int .i64 xk) := cell_of_block hA
      have e1 : y1.cell? ⟨g1, 1, none⟩ = some (.int .i64 xo) := cell_of_block hA
      clear hA
      go_wp2_with fail
      refine (can_calls (HL.out.below HB2.out) (i : Int) xk xo).mono ?_
      rintro e y2 ⟨rfl, hb⟩
      have HB3 := Lib.hid (HB2.out.trans (hb.mono HB2.out.size))
      have Hcs := Lib.hid (canAny_succ S next Hx.out)
      clear hb HB2 e0 e1
      revert Hcs
      simp only
      generalize canB S (i : Int) xk xo = cb
      intro Hcs
      cases cb
      case true =>
        have Hv : Hid (r = .tuple #[.int .i64 0, .bool false]) := by
          rw [Hid, Hr.out, stuckR_can (m := i + 1) (by rw [Hlen.out]; exact hin) (by rw [Hcs.out, Bool.or_true])]; rfl
        go_wp2
        go_returns
        exact ⟨by rw [Hv.out]; rfl, HB3.out⟩
      case false =>
        have HN : Hid (canAny S next (i + 1) = false ∧ Below w.heap.size w y2) := ⟨by rw [Hcs.out, Hc0.out]; rfl, HB3.out⟩
        clear Hcs Hc0 HB3
        go_wp2
        go_roundw
        case rel => exact ⟨i + 1, hin, by go_num, HN.out⟩
        case measure => exact measD hin
    · have hin : i = n1 := Nat.le_antisymm hi (Nat.le_of_not_lt hin)
      subst hin
      have Hcn : Hid (canAny S next next.length = false) := by rw [Hid, Hlen.out]; exact HB.out.1
      have HB1 := Lib.hid HB.out.2
      clear HB
      go_wp2_with fail
      go_loopw [21] (fun x wq => ∃ t : Nat, t ≤ 8 ∧ x = .int .i64 t ∧ Hid (noRun S t = true ∧ Below w.heap.size w wq)) (fun x _ => 8 - (intOf x).toNat)
      case atStart => exact ⟨0, Nat.zero_le _, by go_num, rfl, HB1.out⟩
      case round =>
        obtain ⟨t, ht, rfl, HQ⟩ := hrel
        by_cases ht8 : t < 8
        · have hst : statB S (t : Int) = S.st t := by
            unfold statB
            rw [inB_iff.2 ⟨by omega, by omega⟩]
            rfl
          go_wp2_with fail
          refine (status_calls (HL.out.below HQ.out.2) (t : Int)).mono ?_
          rintro e y2 ⟨rfl, hb⟩
          rw [hst]
          have HB3 := Lib.hid (HQ.out.2.trans (hb.mono HQ.out.2.size))
          clear hb hst
          by_cases h2 : S.st t = 2
          · have hsb : (S.st t == 2) = true := by rw [h2]; rfl
            have Hv : Hid (r = .tuple #[.int .i64 (t : Int), .bool true]) := by
              rw [Hid, Hr.out, stuckR_at Hcn.out ht8 HQ.out.1 h2]; rfl
            clear h2 HQ
            generalize S.st t = z at *
            go_wp2
            go_returns
            exact ⟨by rw [Hv.out]; rfl, HB3.out⟩
          · have hsb : (S.st t == 2) = false := by simpa using h2
            have HN : Hid (noRun S (t + 1) = true ∧ Below w.heap.size w y2) := ⟨by rw [noRun_succ, HQ.out.1]; simpa [bne] using hsb, HB3.out⟩
            clear h2 HQ
            generalize S.st t = z at *
            go_wp2
            go_roundw
            case rel => exact ⟨t + 1, ht8, by go_num, HN.out⟩
            case measure => exact measD ht8
        · have ht8 : t = 8 := Nat.le_antisymm ht (Nat.le_of_not_lt ht8)
          subst ht8
          have Hv : Hid (r = .tuple #[.int .i64 0, .bool false]) := by
            rw [Hid, Hr.out, stuckR_none Hcn.out HQ.out.1]; rfl
          go_wp2
          go_returns
          exact ⟨by rw [Hv.out]; rfl, HQ.out.2⟩
end Go.Proofs.YtadngicebbnnlaaGreat

namespace Go.Proofs.YtadngicebbnnlaaGreat
open Go.ChangeShapes Go.WideShapes Go.ChangeAt Go.RowKit Go.Deep

/-- The findings under way, in a variable behind the block that came last in wo. -/
structure FndAt (wo w : World) (R : List Fr) : Prop where
  ex : ∃ v, w.cell? ⟨wo.heap.size, 0, none⟩ = some v ∧ OwnL eltFr w (wo.heap.size + 1) v R ∧ ∀ r ∈ R, r.wf ∧ r.n ≤ 1000 ∧ SchAt w r ∧ ∃ g, r.a = some ⟨g, 0, none⟩ ∧ wo.heap.size < g ∧ g < w.heap.size ∧ v.ownBlock ≠ some g
  fr : w.frozen? ⟨wo.heap.size, 0, none⟩ = false
  below : Below wo.heap.size wo w
  lt : wo.heap.size < w.heap.size
theorem FndAt.go {wo w w' : World} {R : List Fr} (h : FndAt wo w R) (hb : Below w.heap.size w w') : FndAt wo w' R := by
  obtain ⟨v, h1, h2, h3⟩ := h.ex
  refine ⟨⟨v, keep hb h1, h2.below hb, fun r hr => ?_⟩, ?_, h.below.trans (hb.mono (Nat.le_of_lt h.lt)), Nat.lt_of_lt_of_le h.lt hb.size⟩
  · obtain ⟨k1, k2, k3, g, k4, k5, k6, k7⟩ := h3 r hr
    exact ⟨k1, k2, k3.below hb, g, k4, k5, Nat.lt_of_lt_of_le k6 hb.size, k7⟩
  · rw [hb.frozen h.lt]; exact h.fr

set_option maxRecDepth 20000 in
set_option maxHeartbeats 8000000 in
theorem add21_calls {wo w : World} {R : List Fr} {gl : Nat} {a0 : Option Addr} {n c : Nat} {l : List Ev} (hF : FndAt wo w R) (hev : IsEvs wo a0 n c l) (hgl : wo.cell? ⟨gl, 0, none⟩ = some (.slice a0 n c)) (hn : n ≤ 1000) (hR : R.length < 100000)
    (k t o x : Int) (hk : Fit k ∧ Fit t ∧ Fit o ∧ Fit x) :
    Calls Tryz.prog 26 #[.int .i64 k, .int .i64 t, .int .i64 o, .int .i64 x, .pointer (some ⟨wo.heap.size, 0, none⟩), .pointer (some ⟨gl, 0, none⟩)] w fun e w' => e = .returned (.tuple #[]) ∧ ∃ r : Fr, r.fd = ⟨k, t, o, x, l.map Ev.t⟩ ∧ FndAt wo w' (R ++ [r]) := by
  obtain ⟨v, hv, hown, hall⟩ := hF.ex
  have hc1 : w.cell? ⟨gl, 0, none⟩ = some (.slice a0 n c) := keep hF.below hgl
  have HF := Lib.hid hF
  have Hown := Lib.hid hown
  have Hall := Lib.hid hall
  have Hev := Lib.hid hev
  have Hk := Lib.hid hk
  have Hgl := Lib.hid hgl
  clear hF hown hall hev hk hgl
  go_enter Tryz.func26, Tryz.ntmps26
  go_wp2_with fail
  refine wp_plan2_draw 9 [0, 1, 2, 3, 4, 5] [6, 7, 8] (fun z => z.cell? ⟨wo.heap.size, 0, none⟩ = some v ∧ z.cell? ⟨gl, 0, none⟩ = some (.slice a0 n c)) mixed (by kernel_rfl) (fun c a d v w h => by cases d <;> exact h) ⟨hv, hc1⟩ ?_
  simp only [picks, List.map_cons, List.map_nil, List.getD_cons_zero, List.getD_cons_succ]
  repeat ((apply ReadRun.go rfl); (intro z1 hS; (obtain ⟨s0, s1⟩ := hS); go_simp; first | done | exact rfl); (simp only [Act.put, List.setIfInBounds_toArray, List.set_cons_zero, List.set_cons_succ]))
  refine ReadRun.done ?_
  refine MakeRun.go rfl (fun K hK => ?_)
  go_wp2_with fail
  refine (sched_calls ((Hev.out.below HF.out.below).below (Below.refl _ w).drew) hn).mono ?_
  rintro e y1 ⟨g, rfl, hI, hg0, hg1, hb⟩
  have hb1 : Below w.heap.size w y1 := ((Below.refl _ w).drew).trans hb
  refine hK _ _ ⟨⟨keep hb1 hv, keep hb1 hc1⟩, ?_⟩
  (try simp only [Act.put, List.setIfInBounds_toArray, List.set_cons_zero, List.set_cons_succ])
  clear hK
  refine MakeRun.go rfl (fun K hK => ?_)
  go_wp2_with fail
  refine ⟨⟨keep hb1 hv, keep hb1 hc1⟩, ?_⟩
  refine MakeRun.go rfl (fun K hK => ?_)
  go_wp2_with fail
  have hb2 : Below y1.heap.size y1 (y1.alloc (.cells #[.int .i64 k, .int .i64 t, .int .i64 o, .int .i64 x, .slice (some ⟨g, 0, none⟩) n n] 58)) := (Below.refl _ y1).alloc (Nat.le_refl _) _
  refine ⟨⟨keep hb2 (keep hb1 hv), keep hb2 (keep hb1 hc1)⟩, ?_⟩
  refine MakeRun.done ?_
  simp only [List.drop_succ_cons, List.drop_zero]
  have hown1 := Hown.out.below hb1
  have hwo : wo.heap.size + 1 ≤ y1.heap.size := Nat.le_trans HF.out.lt hb1.size
  refine wpList_push eltFr rfl (.tmp 10) (.tmp 18) rfl (⟨k, t, o, x, some ⟨g, 0, none⟩, n, n, l.map Ev.t⟩ : Fr) rfl rfl rfl hown1 hwo (by omega) ?_
  intro v' y3 hown3 hw3 hv3
  have hvne : ∀ q, v.ownBlock = some q → wo.heap.size < q := fun q hq => (Hown.out.lt hq).1
  have hcell3 : y3.cell? ⟨wo.heap.size, 0, none⟩ = some v := by
    rw [hw3.cell (p := ⟨wo.heap.size, 0, none⟩) (by show wo.heap.size < y1.heap.size; omega) (fun e => by have := hvne _ e; exact absurd this (Nat.lt_irrefl _))]
    exact keep hb1 hv
  have hfr3 : y3.frozen? ⟨wo.heap.size, 0, none⟩ = false := by
    have hbk := hw3.block wo.heap.size (by omega) (fun e => by have := hvne _ e; exact absurd this (Nat.lt_irrefl _))
    have hbk2 := hb1.block wo.heap.size HF.out.lt
    have hf := HF.out.fr
    simp only [World.frozen?] at hf ⊢
    rw [hbk, hbk2]; exact hf
  obtain ⟨va, vc, hve, _⟩ := hown3.slice
  subst hve
  have hN : FndAt wo (y3.setCell ⟨wo.heap.size, 0, none⟩ (.slice va (R ++ [(⟨k, t, o, x, some ⟨g, 0, none⟩, n, n, l.map Ev.t⟩ : Fr)]).length vc)) (R ++ [(⟨k, t, o, x, some ⟨g, 0, none⟩, n, n, l.map Ev.t⟩ : Fr)]) := by
    have hW : Wrote (fun q => q = wo.heap.size) y3 (y3.setCell ⟨wo.heap.size, 0, none⟩ (.slice va (R ++ [(⟨k, t, o, x, some ⟨g, 0, none⟩, n, n, l.map Ev.t⟩ : Fr)]).length vc)) := Wrote.setCell (R := fun q => q = wo.heap.size) y3 (p := ⟨wo.heap.size, 0, none⟩) _ rfl
    have hv'ne : ∀ q, (Value.slice va (R ++ [(⟨k, t, o, x, some ⟨g, 0, none⟩, n, n, l.map Ev.t⟩ : Fr)]).length vc).ownBlock = some q → wo.heap.size < q := fun q hq => (hown3.lt hq).1
    have hbw : Below wo.heap.size wo y1 := HF.out.below.trans (hb1.mono (Nat.le_of_lt HF.out.lt))
    refine ⟨⟨_, by apply World.cell?_setCell_same; exact hcell3, hown3.wrote hW (fun q hq e => by have := hv'ne q hq; omega), fun r hr => ?_⟩, by rw [World.frozen?_setCell]; exact hfr3, ?_, ?_⟩
    · rcases List.mem_append.1 hr with hr | hr
      · obtain ⟨k1, k2, k3, q, k4, k5, k6, k7⟩ := Hall.out r hr
        refine ⟨k1, k2, ((k3.below hb1).wrote hw3 fun g' o' s' e => ?_).wrote hW fun g' o' s' e => ?_, q, k4, k5, Nat.lt_of_lt_of_le (Nat.lt_of_lt_of_le k6 hb1.size) (Nat.le_trans hw3.size hW.size), fun e => ?_⟩
        · rw [k4] at e; cases e; exact k7
        · rw [k4] at e; cases e; omega
        · rcases hv3 q e with h1 | h1
          · exact k7 h1
          · have := hb1.size; omega
      · obtain rfl := List.mem_singleton.1 hr
        have hs : SchAt y1 ⟨k, t, o, x, some ⟨g, 0, none⟩, n, n, l.map Ev.t⟩ := ⟨hI, fun h => by cases h⟩
        have hgv : v.ownBlock ≠ some g := fun e => by
          have := (Hown.out.lt e).2
          have h0 : w.heap.size ≤ g := hg0
          omega
        have hgw : wo.heap.size < g := by
          have h0 : w.heap.size ≤ g := hg0
          have := HF.out.lt
          omega
        refine ⟨Hk.out, hn, (hs.wrote hw3 fun g' o' s' e => ?_).wrote hW fun g' o' s' e => ?_, g, rfl, hgw, Nat.lt_of_lt_of_le hg1 (Nat.le_trans hw3.size hW.size), fun e => ?_⟩
        · cases e; exact hgv
        · cases e; omega
        · rcases hv3 g e with h1 | h1
          · exact hgv h1
          · omega
    · exact Wrote.below (Wrote.below hbw hw3 hbw.size (fun q hq => by have := hvne q hq; omega)) hW (Nat.le_trans hbw.size hw3.size) (fun q hq => by omega)
    · have := hw3.size; have := hW.size; omega
  have hl1 : (R ++ [(⟨k, t, o, x, some ⟨g, 0, none⟩, n, n, l.map Ev.t⟩ : Fr)]).length = R.length + 1 := by simp
  rw [hl1] at hN hown3 ⊢
  have HN := Lib.hid hN
  clear hN hown3 hw3 hv3 hown1 hvne hI hg0 hg1 hb1 hb hb2 hwo Hown Hall hv hc1
  go_wp2
  go_end0
  exact ⟨rfl, _, rfl, HN.out⟩
end Go.Proofs.YtadngicebbnnlaaGreat

namespace Go.Proofs.YtadngicebbnnlaaGreat
open Go.ChangeShapes Go.WideShapes Go.ChangeAt Go.RowKit Go.Deep

theorem row_set {y W : World} {g g' : Nat} {Z C : Array Value} {T : TypeId} {o : Obj} (hb : Below y.heap.size y W) (hg : W.heap[g]? = some (.cells Z T (0, 0))) (hg' : W.heap[g']? = some o) (hne : g' ≠ g) (hy : y.heap.size ≤ g) :
    (W.setRow g C).heap[g]? = some (.cells C T (0, 0)) ∧ (W.setRow g C).heap[g']? = some o ∧ Below y.heap.size y (W.setRow g C) := by
  have hW : Wrote (fun x => x = g) W (W.setRow g C) := Wrote.of_grown (setRow_wrote _ _ _) (fun k hk => (Option.some.inj hk).symm)
  exact ⟨setRow_heap _ _ _ _ _ _ hg, (hW.block g' (Array.getElem?_eq_some_iff.1 hg').1 hne).trans hg', Wrote.below hb hW hb.size (fun x hx => by omega)⟩
theorem evSize : (Tryz.prog.info? 46).map (·.size) = some 5 := by kernel_rfl
theorem evOne (a b c d e : Int) : (#[.int .i64 a, .int .i64 b, .int .i64 c, .int .i64 d, .int .i64 e] : Array Value).all (·.oneCell') = true := by simp [Value.oneCell']
theorem fit_min {a b : Int} (h : Fit a) (h' : Fit b) : Fit (min a b) := by
  rcases Int.le_total a b with h1 | h1
  · rw [Int.min_eq_left h1]; exact h
  · rw [Int.min_eq_right h1]; exact h'
theorem fit_max {a b : Int} (h : Fit a) (h' : Fit b) : Fit (max a b) := by
  rcases Int.le_total a b with h1 | h1
  · rw [Int.max_eq_right h1]; exact h'
  · rw [Int.max_eq_left h1]; exact h
/-- What Of hands back. -/
def FofPost (w : World) (n : Nat) (l : List Ev) (next : List Ac) (e : Ending) (w' : World) : Prop :=
  Below w.heap.size w w' ∧ ((wrongS n l ≠ 0 ∧ e = .returned (.tuple #[.slice none 0 0, .int .i64 (wrongS n l)])) ∨
    (wrongS n l = 0 ∧ ∃ (S : LogS) (x : Option Addr) (k : Nat) (R : List Fr), ofS l = (S, 0, 0) ∧ e = .returned (.tuple #[.slice x k k, .int .i64 0]) ∧ IsFds w' x k k R ∧ Merged (foundL l S next) (R.map Fr.fd)))

set_option maxRecDepth 20000 in
set_option maxHeartbeats 16000000 in
theorem fdof_calls {w : World} {a0 a1 : Option Addr} {n c n1 c1 : Nat} {l : List Ev} {next : List Ac} (h : IsEvs w a0 n c l) (hx : IsAcs w a1 n1 c1 next) :
    Calls Tryz.prog 13 #[.slice a0 n c, .slice a1 n1 c1] w (FofPost w n l next) := by
  have hnm : n ≤ 9223372036854775807 := by have := h.le; have := h.cap; unfold maxLen at *; omega
  have Hev := Lib.hid h
  have Hac := Lib.hid hx
  clear h hx
  go_enter Tryz.func13, Tryz.ntmps13
  go_wp2_with fail
  have hbx : Below w.heap.size w (w.alloc (.cells #[.slice a0 n c] 22)) := (Below.refl _ w).alloc (Nat.le_refl _) _
  have hcx : (w.alloc (.cells #[.slice a0 n c] 22)).cell? ⟨w.heap.size, 0, none⟩ = some (.slice a0 n c) := cell_new rfl
  have hszx : (w.alloc (.cells #[.slice a0 n c] 22)).heap.size = w.heap.size + 1 := by simp
  revert hbx hcx hszx
  generalize w.alloc (.cells #[.slice a0 n c] 22) = w1
  intro hbx hcx hszx
  have HX := Lib.hid (And.intro hbx (And.intro hcx hszx))
  clear hbx hcx hszx
  refine (cfraces_calls (Hev.out.below HX.out.1)).mono ?_
  rintro e w2 ⟨v, rfl, hs, hb⟩
  have HB2 := Lib.hid (HX.out.1.trans (hb.mono HX.out.1.size))
  have HX2 := Lib.hid (keep hb HX.out.2.1)
  have Hw12 := Lib.hid hb.size
  by_cases hz : wrongS n l = 0
  case neg =>
    rw [confRes_bad hz] at hs ⊢
    have hz' : (wrongS n l != 0) = true := by simpa [bne] using hz
    obtain ⟨ra, rc, rfl, _⟩ := hs.nats
    have Hq : Hid (FofPost w n l next (.returned (.tuple #[.slice none 0 0, .int .i64 (wrongS n l)])) w2) := ⟨HB2.out, .inl ⟨hz, rfl⟩⟩
    clear hs hb hz HB2 HX2 HX Hw12
    generalize wrongS n l = z at *
    go_wp2
    go_returns
    exact Hq.out
  obtain ⟨S, hS⟩ := wrong_ofC hz
  have hn100 : n ≤ 100 := wrong_leC hz
  rw [confRes_good hz] at hs ⊢
  simp only at hs ⊢
  obtain ⟨ra, rc, rfl, hrc⟩ := hs.nats
  have hRl : (docC l n).length ≤ 10000 := by have := docC_len l n hn100; have : n * 100 ≤ 100 * 100 := Nat.mul_le_mul_right _ hn100; omega
  have HSe := Lib.hid hs
  have Hz := Lib.hid hz
  have HS := Lib.hid hS
  have Hrc := Lib.hid hrc
  clear hs hb hz hS hrc HX
  have cl2 := HX2.out
  go_wp2_with fail
  refine (lof_ok (Hev.out.below HB2.out) (by omega) HS.out).mono ?_
  rintro e w3 ⟨lb, vl, va, rfl, hL, hb⟩
  have HB3 := Lib.hid (HB2.out.trans (hb.mono HB2.out.size))
  have HL3 := Lib.hid hL
  have HSe3 := Lib.hid (HSe.out.below hb)
  have hcl3 := keep hb cl2
  have HC3 := Lib.hid hcl3
  have hglt : w.heap.size < w3.heap.size := World.block_lt_of_cell? w3 _ hcl3
  have Hglt := Lib.hid hglt
  clear hL hb cl2 HX2 HSe HB2 hcl3 hglt Hw12
  go_upto_region 8 with (fail)
  have hF0 : FndAt w3 (w3.alloc (.cells #[.slice none 0 0] 38)) [] :=
    ⟨⟨.slice none 0 0, cell_new rfl, OwnL.nil .., fun r hr => by cases hr⟩, free_of_block (MapKept.heap_alloc w3 _).1, (Below.refl _ w3).alloc (Nat.le_refl _) _, by simp⟩
  have HF0 := Lib.hid hF0
  clear hF0
  revert HF0
  generalize w3.alloc (.cells #[.slice none 0 0] 38) = w4
  intro HF0
  have cl4 := keep HF0.out.below HC3.out
  have HLn := Lib.hid Hev.out.len
  go_wp2_with fail
  clear cl4
  go_loopw [40] (fun x wr => ∃ (i : Nat) (R : List Fr), i ≤ n ∧ x = .int .i64 i ∧ Hid (FndAt w3 wr R ∧ R.map Fr.fd = badsN l (l.map Ev.t) i)) (fun x _ => n - (intOf x).toNat)
  case atStart => exact ⟨0, [], Nat.zero_le _, by go_num, HF0.out, rfl⟩
  case round =>
    clear HF0
    obtain ⟨i, R, hi, rfl, HL⟩ := hrel
    by_cases hin : i < n
    · obtain ⟨b, off, x, rfl, hx, hxw, c0, c1', c2, c3, c4⟩ := (Hev.out.below (HB3.out.trans (HL.out.1.below.mono HB3.out.size))).at hin
      have Hbs := Lib.hid (badsN_succ (s := l.map Ev.t) hx)
      have Hxw := Lib.hid hxw
      have hRlen : R.length < 100000 := by
        have h1 := congrArg List.length HL.out.2
        have h2 := badsN_len l (l.map Ev.t) i
        rw [List.length_map] at h1
        omega
      have Hev3 := Lib.hid (Hev.out.below HB3.out)
      obtain ⟨xt, xk, xo, xv, xb⟩ := x
      simp only at c0 c1' c2 c3 c4
      clear hx hxw
      go_upto_region 12 with (fail)
      have hN := one_newF wr #[.int .i64 xt, .int .i64 xk, .int .i64 xo, .int .i64 xv, .int .i64 xb] 46
      have HF := Lib.hid (HL.out.1.go hN.2)
      have HR := Lib.hid HL.out.2
      have hA := hN.1
      clear hN HL c0 c1' c2 c3 c4
      revert hA HF
      generalize wr.alloc (.cells #[.int .i64 xt, .int .i64 xk, .int .i64 xo, .int .i64 xv, .int .i64 xb] 46) = y1
      generalize wr.heap.size = g1
      intro HF hA
      have e0 : y1.cell? ⟨g1, 0, none⟩ = some (.int .i64 xt) := cell_of_block hA
      have e4 : y1.cell? ⟨g1, 4, none⟩ = some (.int .i64 xb) := cell_of_block hA
      clear hA
      by_cases hb0 : xb = 0
      · subst hb0
        have HN : Hid (FndAt w3 y1 R ∧ R.map Fr.fd = badsN l (l.map Ev.t) (i + 1)) := ⟨HF.out, by rw [Hbs.out, HR.out]; simp [badF]⟩
        clear HF HR Hbs
        go_wp2
        go_roundw
        case rel => exact ⟨i + 1, R, hin, by go_num, HN.out⟩
        case measure => exact measD hin
      · have hb0b : (xb == 0) = false := by simpa using hb0
        by_cases hb1 : xb = 1
        · subst hb1
          have Hbs2 : Hid (badsN l (l.map Ev.t) (i + 1) = badsN l (l.map Ev.t) i ++ [⟨1, xt, 0, 0, l.map Ev.t⟩]) := by rw [Hid, Hbs.out]; rfl
          clear Hbs hb0
          go_wp2_with fail
          refine (add21_calls HF.out Hev3.out HC3.out (by omega) hRlen _ _ _ _ ⟨Fit.of (by decide) (by decide), Hxw.out.1, Fit.of (by decide) (by decide), Fit.of (by decide) (by decide)⟩).mono ?_
          rintro e y2 ⟨rfl, r, hrf, hF2⟩
          have HN : Hid (FndAt w3 y2 (R ++ [r]) ∧ (R ++ [r]).map Fr.fd = badsN l (l.map Ev.t) (i + 1)) := ⟨hF2, by rw [Hbs2.out, List.map_append, HR.out, List.map_singleton, hrf]⟩
          clear hrf hF2 HF HR Hbs2 e0 e4
          go_wp2
          go_roundw
          case rel => exact ⟨i + 1, _, hin, by go_num, HN.out⟩
          case measure => exact measD hin
        · have hb1b : (xb == 1) = false := by simpa using hb1
          have Hbs2 : Hid (badsN l (l.map Ev.t) (i + 1) = badsN l (l.map Ev.t) i ++ [⟨2, xt, 0, xb, l.map Ev.t⟩]) := by rw [Hid, Hbs.out]; simp [badF, hb0, hb1]
          clear Hbs hb0 hb1
          go_wp2_with fail
          refine (add21_calls HF.out Hev3.out HC3.out (by omega) hRlen _ _ _ _ ⟨Fit.of (by decide) (by decide), Hxw.out.1, Fit.of (by decide) (by decide), Hxw.out.2.2.2.2⟩).mono ?_
          rintro e y2 ⟨rfl, r, hrf, hF2⟩
          have HN : Hid (FndAt w3 y2 (R ++ [r]) ∧ (R ++ [r]).map Fr.fd = badsN l (l.map Ev.t) (i + 1)) := ⟨hF2, by rw [Hbs2.out, List.map_append, HR.out, List.map_singleton, hrf]⟩
          clear hrf hF2 HF HR Hbs2 e0 e4
          go_wp2
          go_roundw
          case rel => exact ⟨i + 1, _, hin, by go_num, HN.out⟩
          case measure => exact measD hin
    · have hin : i = n := Nat.le_antisymm hi (Nat.le_of_not_lt hin)
      subst hin
      have HF5 := Lib.hid HL.out.1
      have HR5 := Lib.hid HL.out.2
      clear HL
      obtain ⟨m, hm⟩ : ∃ m, m = (docC l i).length := ⟨_, rfl⟩
      rw [← hm] at HSe3 Hrc hRl ⊢
      have hmm : m ≤ 9223372036854775807 := by omega
      have Hm := Lib.hid hm
      clear hm
      have HRl := Lib.hid hRl
      have hn1 : i ≤ 100 := hn100
      clear hRl
      go_wp2_with fail
      clear hi hn100
      go_loopw [63] (fun x wr => ∃ (q : Nat) (R : List Fr), q ≤ m ∧ x = .int .i64 q ∧ Hid (FndAt w3 wr R ∧ R.map Fr.fd = badsN l (l.map Ev.t) i ++ ((docC l i).take q).map (raceF l (l.map Ev.t)))) (fun x _ => m - (intOf x).toNat)
      case atStart => exact ⟨0, R, Nat.zero_le _, by go_num, HF5.out, by rw [HR5.out]; simp⟩
      case round =>
        clear HF5 HR5
        obtain ⟨q, R, hq, rfl, HL⟩ := hrel
        by_cases hqm : q < m
        · obtain ⟨⟨P1, P2⟩, hp⟩ : ∃ p, (docC l i)[q]? = some p := ⟨_, List.getElem?_eq_getElem (by rw [← Hm.out]; exact hqm)⟩
          have hmem := docC_mem.1 (List.mem_of_getElem? hp)
          simp only at hmem
          have hP1 : P1 < i := by omega
          have hP2 : P2 < i := hmem.1
          obtain ⟨gr, hra, p0, p1⟩ := HSe3.out.nat_at hp
          simp only at p0 p1
          have p0 := keep HL.out.1.below p0
          have p1 := keep HL.out.1.below p1
          subst hra
          have hRlen : R.length < 100000 := by
            have h1 := congrArg List.length HL.out.2
            have h2 := badsN_len l (l.map Ev.t) i
            rw [List.length_map, List.length_append, List.length_map, List.length_take] at h1
            have := HRl.out
            omega
          have hevw := Hev.out.below (HB3.out.trans (HL.out.1.below.mono HB3.out.size))
          obtain ⟨b, off, x, ha0, hx, hxw, c0, c1', c2, c3, c4⟩ := hevw.at hP1
          obtain ⟨b', off', y, ha0', hy, hyw, d0, d1, d2, d3, d4⟩ := hevw.at hP2
          subst ha0
          cases ha0'
          have Htk : Hid (((docC l i).take (q + 1)).map (raceF l (l.map Ev.t)) = ((docC l i).take q).map (raceF l (l.map Ev.t)) ++ [⟨4, min x.t y.t, max x.t y.t, x.o, l.map Ev.t⟩]) := by
            rw [Hid, List.take_add_one, hp]
            simp only [Option.toList, List.map_append, List.map_cons, List.map_nil]
            unfold raceF
            simp only
            rw [getD_of hx, getD_of hy]
          have hcl := keep HL.out.1.below HC3.out
          have Hev3 := Lib.hid (Hev.out.below HB3.out)
          have Hxw := Lib.hid (And.intro hxw hyw)
          obtain ⟨at', ak, ao, av, ab⟩ := x
          obtain ⟨bt, bk, bo, bv, bb⟩ := y
          simp only at c0 c1' c2 c3 c4 d0 d1 d2 d3 d4 Htk
          clear hx hy hxw hyw hmem hp hevw
          go_upto_region 21 with (fail)
          have hN := one_newF wr #[.int .i64 (P1 : Int), .int .i64 (P2 : Int)] 25
          have HF := Lib.hid (HL.out.1.go hN.2)
          have HR := Lib.hid HL.out.2
          have hA := hN.1
          have hb := hN.2
          have c0 := keep hb c0
          have c1' := keep hb c1'
          have c2 := keep hb c2
          have c3 := keep hb c3
          have c4 := keep hb c4
          have d0 := keep hb d0
          have d1 := keep hb d1
          have d2 := keep hb d2
          have d3 := keep hb d3
          have d4 := keep hb d4
          have hcl := keep hb hcl
          clear hN hb HL p0 p1
          revert hA HF c0 c1' c2 c3 c4 d0 d1 d2 d3 d4 hcl
          generalize wr.alloc (.cells #[.int .i64 (P1 : Int), .int .i64 (P2 : Int)] 25) = y1
          generalize wr.heap.size = g1
          intro HF hA c0 c1' c2 c3 c4 d0 d1 d2 d3 d4 hcl
          have e0 : y1.cell? ⟨g1, 0, none⟩ = some (.int .i64 (P1 : Int)) := cell_of_block hA
          have e1 : y1.cell? ⟨g1, 1, none⟩ = some (.int .i64 (P2 : Int)) := cell_of_block hA
          clear hA
          have HSt : Hid (∀ z, Below y1.heap.size y1 z → (z.cell? ⟨w.heap.size, 0, none⟩ = some (.slice (some ⟨b, off, none⟩) i c) ∧ z.cell? ⟨g1, 0, none⟩ = some (.int .i64 (P1 : Int)) ∧ z.cell? ⟨g1, 1, none⟩ = some (.int .i64 (P2 : Int))) ∧ (z.cell? ⟨b, off + P1 * 5, none⟩ = some (.int .i64 at') ∧ z.cell? ⟨b, off + P1 * 5 + 1, none⟩ = some (.int .i64 ak) ∧ z.cell? ⟨b, off + P1 * 5 + 2, none⟩ = some (.int .i64 ao) ∧ z.cell? ⟨b, off + P1 * 5 + 3, none⟩ = some (.int .i64 av) ∧ z.cell? ⟨b, off + P1 * 5 + 4, none⟩ = some (.int .i64 ab)) ∧ (z.cell? ⟨b, off + P2 * 5, none⟩ = some (.int .i64 bt) ∧ z.cell? ⟨b, off + P2 * 5 + 1, none⟩ = some (.int .i64 bk) ∧ z.cell? ⟨b, off + P2 * 5 + 2, none⟩ = some (.int .i64 bo) ∧ z.cell? ⟨b, off + P2 * 5 + 3, none⟩ = some (.int .i64 bv) ∧ z.cell? ⟨b, off + P2 * 5 + 4, none⟩ = some (.int .i64 bb))) := fun z hb => ⟨⟨keep hb hcl, keep hb e0, keep hb e1⟩, ⟨keep hb c0, keep hb c1', keep hb c2, keep hb c3, keep hb c4⟩, keep hb d0, keep hb d1, keep hb d2, keep hb d3, keep hb d4⟩
          clear c0 c1' c2 c3 c4 d0 d1 d2 d3 d4 hcl e0 e1
          refine wp_duo_draw 13 [0, 1, 2, 3, 4, 5, 6, 7, 8, 9] 10 11 12 (fun z => (z.cell? ⟨w.heap.size, 0, none⟩ = some (.slice (some ⟨b, off, none⟩) i c) ∧ z.cell? ⟨g1, 0, none⟩ = some (.int .i64 (P1 : Int)) ∧ z.cell? ⟨g1, 1, none⟩ = some (.int .i64 (P2 : Int))) ∧ (z.cell? ⟨b, off + P1 * 5, none⟩ = some (.int .i64 at') ∧ z.cell? ⟨b, off + P1 * 5 + 1, none⟩ = some (.int .i64 ak) ∧ z.cell? ⟨b, off + P1 * 5 + 2, none⟩ = some (.int .i64 ao) ∧ z.cell? ⟨b, off + P1 * 5 + 3, none⟩ = some (.int .i64 av) ∧ z.cell? ⟨b, off + P1 * 5 + 4, none⟩ = some (.int .i64 ab)) ∧ (z.cell? ⟨b, off + P2 * 5, none⟩ = some (.int .i64 bt) ∧ z.cell? ⟨b, off + P2 * 5 + 1, none⟩ = some (.int .i64 bk) ∧ z.cell? ⟨b, off + P2 * 5 + 2, none⟩ = some (.int .i64 bo) ∧ z.cell? ⟨b, off + P2 * 5 + 3, none⟩ = some (.int .i64 bv) ∧ z.cell? ⟨b, off + P2 * 5 + 4, none⟩ = some (.int .i64 bb))) mixed (by kernel_rfl) (fun c a d v w h => by cases d <;> exact h) (HSt.out _ (Below.refl _ y1).drew) ?_
          simp only [picks, List.map_cons, List.map_nil, List.getD_cons_zero, List.getD_cons_succ]
          repeat ((apply ReadRun.go rfl); (intro z1 hS; (obtain ⟨⟨s0, s1, s2⟩, ⟨r0, r1, r2, r3, r4⟩, t0, t1, t2, t3, t4⟩ := hS); go_simp; first | done | exact rfl); (simp only [Act.put, List.setIfInBounds_toArray, List.set_cons_zero, List.set_cons_succ]))
          refine ReadRun.done ?_
          refine DuoRun.cut (fun u v w' => ∃ ga gb, u = .pointer (some ⟨ga, 0, none⟩) ∧ v = .pointer (some ⟨gb, 0, none⟩) ∧ w'.heap[ga]? = some (.cells #[.int .i64 at', .int .i64 ak, .int .i64 ao, .int .i64 av, .int .i64 ab] 46 (0, 0)) ∧ w'.heap[gb]? = some (.cells #[.int .i64 0, .int .i64 0, .int .i64 0, .int .i64 0, .int .i64 0] 46 (0, 0)) ∧ ga ≠ gb ∧ y1.heap.size ≤ ga ∧ y1.heap.size ≤ gb ∧ Below y1.heap.size y1 w') ?_ ?_
          · refine ⟨MStep.go rfl (fun K hK => ?_), MStep.go rfl (fun K hK => ?_)⟩
            · go_wp2_with fail
              have hT := heap_two y1 #[.int .i64 0, .int .i64 0, .int .i64 0, .int .i64 0, .int .i64 0] #[.int .i64 0, .int .i64 0, .int .i64 0, .int .i64 0, .int .i64 0] 46
              have h1 : Below y1.heap.size y1 (y1.alloc (.cells #[.int .i64 0, .int .i64 0, .int .i64 0, .int .i64 0, .int .i64 0] 46)) := (Below.refl _ y1).alloc (Nat.le_refl _) _
              refine ⟨HSt.out _ h1, MStep.go rfl (fun K hK => ?_)⟩
              go_wp2_with fail
              refine ⟨HSt.out _ hT.2.2.1.drew, MStep.go rfl (fun K hK => ?_)⟩
              have hrs := row_set (g := y1.heap.size) (g' := y1.heap.size + 1) (C := #[.int .i64 at', .int .i64 ak, .int .i64 ao, .int .i64 av, .int .i64 ab]) hT.2.2.1.drew hT.1 hT.2.1 (by omega) (by omega)
              refine wp_store_row 46 _ _ rfl (y1.heap.size) #[.int .i64 at', .int .i64 ak, .int .i64 ao, .int .i64 av, .int .i64 ab] rfl rfl 46 #[.int .i64 0, .int .i64 0, .int .i64 0, .int .i64 0, .int .i64 0] hT.1 evSize rfl (evOne _ _ _ _ _) ?_
              exact hK _ _ ⟨HSt.out _ hrs.2.2, _, _, rfl, y1.heap.size, rfl, y1.heap.size + 1, rfl, hrs.1, hrs.2.1, by omega, by omega, by omega, hrs.2.2⟩
            · go_wp2_with fail
              have hT := heap_two y1 #[.int .i64 0, .int .i64 0, .int .i64 0, .int .i64 0, .int .i64 0] #[.int .i64 0, .int .i64 0, .int .i64 0, .int .i64 0, .int .i64 0] 46
              have h1 : Below y1.heap.size y1 (y1.alloc (.cells #[.int .i64 0, .int .i64 0, .int .i64 0, .int .i64 0, .int .i64 0] 46)) := (Below.refl _ y1).alloc (Nat.le_refl _) _
              refine ⟨HSt.out _ h1, MStep.go rfl (fun K hK => ?_)⟩
              go_wp2_with fail
              refine ⟨HSt.out _ hT.2.2.1.drew, MStep.go rfl (fun K hK => ?_)⟩
              have hrs := row_set (g := y1.heap.size + 1) (g' := y1.heap.size) (C := #[.int .i64 at', .int .i64 ak, .int .i64 ao, .int .i64 av, .int .i64 ab]) hT.2.2.1.drew hT.2.1 hT.1 (by omega) (by omega)
              refine wp_store_row 46 _ _ rfl (y1.heap.size + 1) #[.int .i64 at', .int .i64 ak, .int .i64 ao, .int .i64 av, .int .i64 ab] rfl rfl 46 #[.int .i64 0, .int .i64 0, .int .i64 0, .int .i64 0, .int .i64 0] hT.2.1 evSize rfl (evOne _ _ _ _ _) ?_
              exact hK _ _ ⟨HSt.out _ hrs.2.2, _, _, rfl, y1.heap.size + 1, rfl, y1.heap.size, rfl, hrs.1, hrs.2.1, by omega, by omega, by omega, hrs.2.2⟩
          · rintro u v y2 ⟨ga, gb, rfl, rfl, hga, hgb, hne, hyg, hyb, hb⟩
            simp only [Act.put, List.setIfInBounds_toArray, List.set_cons_zero, List.set_cons_succ]
            simp only [List.drop_succ_cons, List.drop_zero]
            have hrs := row_set (g := gb) (g' := ga) (C := #[.int .i64 bt, .int .i64 bk, .int .i64 bo, .int .i64 bv, .int .i64 bb]) hb hgb hga hne hyb
            refine wpList_store_row rfl 46 (.tmp 17) (.tmp 76) rfl gb #[.int .i64 bt, .int .i64 bk, .int .i64 bo, .int .i64 bv, .int .i64 bb] rfl rfl 46 #[.int .i64 0, .int .i64 0, .int .i64 0, .int .i64 0, .int .i64 0] hgb evSize rfl (evOne _ _ _ _ _) ?_
            have HF2 := Lib.hid (HF.out.go hrs.2.2)
            have f0 : (y2.setRow gb #[.int .i64 bt, .int .i64 bk, .int .i64 bo, .int .i64 bv, .int .i64 bb]).cell? ⟨ga, 0, none⟩ = some (.int .i64 at') := cell_of_block hrs.2.1
            have f2 : (y2.setRow gb #[.int .i64 bt, .int .i64 bk, .int .i64 bo, .int .i64 bv, .int .i64 bb]).cell? ⟨ga, 2, none⟩ = some (.int .i64 ao) := cell_of_block hrs.2.1
            have g0 : (y2.setRow gb #[.int .i64 bt, .int .i64 bk, .int .i64 bo, .int .i64 bv, .int .i64 bb]).cell? ⟨gb, 0, none⟩ = some (.int .i64 bt) := cell_of_block hrs.1
            clear hga hgb hne hyg hyb hb hrs HF HSt
            revert HF2 f0 f2 g0
            generalize y2.setRow gb #[.int .i64 bt, .int .i64 bk, .int .i64 bo, .int .i64 bv, .int .i64 bb] = y3
            intro HF2 f0 f2 g0
            go_wp2_with fail
            refine (add21_calls HF2.out Hev3.out HC3.out (by omega) hRlen _ _ _ _ ⟨Fit.of (by decide) (by decide), fit_min Hxw.out.1.1 Hxw.out.2.1, fit_max Hxw.out.1.1 Hxw.out.2.1, Hxw.out.1.2.2.1⟩).mono ?_
            rintro e y4 ⟨rfl, r, hrf, hF4⟩
            have HN : Hid (FndAt w3 y4 (R ++ [r]) ∧ (R ++ [r]).map Fr.fd = badsN l (l.map Ev.t) i ++ ((docC l i).take (q + 1)).map (raceF l (l.map Ev.t))) := ⟨hF4, by rw [Htk.out, List.map_append, HR.out, List.map_singleton, hrf, List.append_assoc]⟩
            clear hrf hF4 HF2 HR Htk f0 f2 g0
            go_wp2
            go_roundw
            case rel => exact ⟨q + 1, _, hqm, by go_num, HN.out⟩
            case measure => exact measD hqm
        · have hqm : q = m := Nat.le_antisymm hq (Nat.le_of_not_lt hqm)
          subst hqm
          have HF6 := Lib.hid HL.out.1
          have HR6 : Hid (R.map Fr.fd = badsN l (l.map Ev.t) i ++ (docC l i).map (raceF l (l.map Ev.t))) := by
            rw [Hid, HL.out.2, List.take_of_length_le (by rw [← Hm.out]; exact Nat.le_refl _)]
          have hRlen : R.length < 100000 := by
            have h1 := congrArg List.length HR6.out
            have h2 := badsN_len l (l.map Ev.t) i
            rw [List.length_map, List.length_append, List.length_map] at h1
            have := HRl.out
            have := Hm.out
            omega
          have HLw := Lib.hid (HL3.out.below HF6.out.below)
          have HAw := Lib.hid (Hac.out.below (HB3.out.trans (HF6.out.below.mono HB3.out.size)))
          clear HL
          go_wp2_with fail
          refine (stuck_calls HLw.out HAw.out).mono ?_
          rintro e y1 ⟨rfl, hb⟩
          have HF7 := Lib.hid (HF6.out.go hb)
          clear hb HF6 HLw HAw
          -- the end of both ways
          have Hfin : Hid (∀ (y : World) (RR : List Fr), FndAt w3 y RR → RR.map Fr.fd = foundL l S next → ∃ (va : Option Addr) (vc : Nat), y.cell? ⟨w3.heap.size, 0, none⟩ = some (.slice va RR.length vc) ∧ IsFds y va RR.length vc RR ∧ (∀ r ∈ RR, r.n ≤ 2000000) ∧ Below w.heap.size w y) := fun y RR hy _ => by
            obtain ⟨v, h1, h2, h3⟩ := hy.ex
            obtain ⟨va, vc, rfl, hF⟩ := h2.fds (fun r hr => (h3 r hr).1) (fun r hr => (h3 r hr).2.2.1)
            exact ⟨va, vc, h1, hF, fun r hr => Nat.le_trans (h3 r hr).2.1 (by omega), HB3.out.trans (hy.below.mono HB3.out.size)⟩
          cases hsr : stuckR S next with
          | none =>
            have HR7 : Hid (R.map Fr.fd = foundL l S next) := by
              unfold foundL
              rw [Hid, HR6.out, hsr, HLn.out]; simp [deadF]
            obtain ⟨va', vc', h1, h2, h3, h4⟩ := Hfin.out _ _ HF7.out HR7.out
            have HX := Lib.hid (And.intro h2 (And.intro h3 h4))
            clear h2 h3 h4 hsr
            simp only [stuckV]
            go_wp2_with fail
            refine (fmerge_calls HX.out.1 (IsFds.nil y1) (by omega) (fun r hr => HX.out.2.1 r (by rw [List.append_nil] at hr; exact hr))).mono ?_
            rintro e y9 ⟨x9, k9, RM, rfl, hF9, hM9, _, _, hb9⟩
            have Hq : Hid (FofPost w i l next (.returned (.tuple #[.slice x9 k9 k9, .int .i64 0])) y9) := by
              rw [List.append_nil, HR7.out] at hM9
              exact ⟨HX.out.2.2.trans (hb9.mono HX.out.2.2.size), .inr ⟨Hz.out, S, x9, k9, RM, HS.out, rfl, hF9, hM9⟩⟩
            clear hF9 hM9 hb9 HX HR7
            go_wp2
            go_returns
            exact Hq.out
          | some tk =>
            have htk : tk < 8 := stuckR_lt hsr
            have Hev3 := Lib.hid (Hev.out.below HB3.out)
            have Hsr := Lib.hid hsr
            clear hsr
            simp only [stuckV]
            go_wp2_with fail
            refine (add21_calls HF7.out Hev3.out HC3.out (by omega) hRlen _ _ _ _ ⟨Fit.of (by decide) (by decide), Fit.of (by omega) (by omega), Fit.of (by decide) (by decide), Fit.of (by decide) (by decide)⟩).mono ?_
            rintro e y2 ⟨rfl, r, hrf, hF8⟩
            have HR7 : Hid ((R ++ [r]).map Fr.fd = foundL l S next) := by
              unfold foundL
              rw [Hid, List.map_append, HR6.out, Hsr.out, List.map_singleton, hrf, HLn.out]; rfl
            obtain ⟨va', vc', h1, h2, h3, h4⟩ := Hfin.out _ _ hF8 HR7.out
            have hlr : (R ++ [r]).length = R.length + 1 := by simp
            rw [hlr] at h1 h2
            have HX := Lib.hid (And.intro h2 (And.intro h3 h4))
            clear h2 h3 h4 hF8 hrf HF7 hlr
            go_wp2_with fail
            refine (fmerge_calls HX.out.1 (IsFds.nil y2) (by omega) (fun r hr => HX.out.2.1 r (by rw [List.append_nil] at hr; exact hr))).mono ?_
            rintro e y9 ⟨x9, k9, RM, rfl, hF9, hM9, _, _, hb9⟩
            have Hq : Hid (FofPost w i l next (.returned (.tuple #[.slice x9 k9 k9, .int .i64 0])) y9) := by
              rw [List.append_nil, HR7.out] at hM9
              exact ⟨HX.out.2.2.trans (hb9.mono HX.out.2.2.size), .inr ⟨Hz.out, S, x9, k9, RM, HS.out, rfl, hF9, hM9⟩⟩
            clear hF9 hM9 hb9 HX HR7
            go_wp2
            go_returns
            exact Hq.out
end Go.Proofs.YtadngicebbnnlaaGreat

namespace Go.Proofs.YtadngicebbnnlaaGreat
open Go.ChangeShapes Go.WideShapes Go.ChangeAt Go.RowKit Go.Deep

def aw21 : List Ev := [⟨0, 8, 0, 0, 1⟩]
theorem aw21_wrong : wrongS 1 aw21 = 0 := by decide
theorem aw21_docC : docC aw21 1 = [] := rfl
theorem aw21_stuck : stuckR (ofS aw21).1 [] = none := by decide
theorem aw21_found {S : LogS} (h : ofS aw21 = (S, 0, 0)) : foundL aw21 S [] = [⟨1, 0, 0, 0, [0]⟩] := by
  have hS : S = (ofS aw21).1 := by rw [h]
  unfold foundL
  rw [hS, aw21_stuck, show aw21.length = 1 from rfl, aw21_docC]
  rfl
theorem merged_one {f : Fd} {m : List Fd} (h : Merged [f] m) : m = [f] :=
  h.eq (merged_of_sort (l := [f]) (ys := [f]) (.refl _) (List.pairwise_singleton _ _))
theorem aw21_evs (w : World) : IsEvs (w.alloc (.cells #[.int .i64 0, .int .i64 8, .int .i64 0, .int .i64 0, .int .i64 1] 46)) (some ⟨w.heap.size, 0, none⟩) 1 1 aw21 := by
  refine ⟨⟨rfl, fun _ => ⟨w.heap.size, 0, rfl, fun j u hj => ?_⟩⟩, rfl, Nat.le_refl _, by unfold maxLen; omega, fun e he => ?_⟩
  · rw [Nat.zero_add]; exact cell_new (by rw [← Array.getElem?_toList]; exact hj)
  · simp only [aw21, List.mem_cons, List.not_mem_nil, or_false] at he
    subst he
    exact ⟨Fit.of (by decide) (by decide), Fit.of (by decide) (by decide), Fit.of (by decide) (by decide), Fit.of (by decide) (by decide), Fit.of (by decide) (by decide)⟩
theorem acs_nil (w : World) : IsAcs w none 0 0 [] := ⟨Reads.nil, rfl, Nat.le_refl _, Nat.zero_le _, fun e he => by cases he⟩
set_option maxHeartbeats 4000000 in
theorem awake21_calls (w : World) : Calls Tryz.prog 12 #[] w fun e w' => e = .returned (.bool true) ∧ Below w.heap.size w w' := by
  have HE := Lib.hid (aw21_evs w)
  have HbE : Hid (Below w.heap.size w (w.alloc (.cells #[.int .i64 0, .int .i64 8, .int .i64 0, .int .i64 0, .int .i64 1] 46))) := (Below.refl _ w).alloc (Nat.le_refl _) _
  go_enter Tryz.func12, Tryz.ntmps12
  go_wp2_with fail
  refine (fdof_calls HE.out (acs_nil _)).mono ?_
  rintro e w1 ⟨hb, ⟨hz, _⟩ | ⟨_, S, x, k, R, hS, rfl, hF, hM⟩⟩
  · exact absurd aw21_wrong hz
  have HB1 := Lib.hid (HbE.out.trans (hb.mono HbE.out.size))
  rw [aw21_found hS] at hM
  have hR := merged_one hM
  obtain ⟨r, rfl⟩ : ∃ r, R = [r] := by
    have := congrArg List.length hR
    rw [List.length_map] at this
    match R, this with
    | [r], _ => exact ⟨r, rfl⟩
  have hk : k = 1 := hF.len.symm
  subst hk
  obtain ⟨b, off, r', rfl, hr, _, _, c0, _⟩ := hF.at (show 0 < 1 by omega)
  obtain rfl : r = r' := by simpa using hr
  have hrk : r.k = 1 := by
    simp only [List.map_cons, List.map_nil, List.cons.injEq, and_true] at hR
    exact congrArg Fd.k hR
  rw [hrk] at c0
  simp only [Nat.zero_mul, Nat.add_zero] at c0
  clear hF hM hR hr hb HE HbE hS hrk
  go_wp2
  go_ret
  exact ⟨rfl, HB1.out⟩

end Go.Proofs.YtadngicebbnnlaaGreat

namespace Go.Proofs.YtadngicebbnnlaaGreat
open Go.ChangeShapes Go.WideShapes Go.ChangeAt Go.RowKit Go.Deep

theorem find_up {m : List Fd} (h : m.Pairwise ltFd) {f : Fd} (hf : f ∈ m) : m.find? (sameB f) = some f := by
  induction m with
  | nil => cases hf
  | cons g m ih =>
    rw [List.find?_cons]
    rcases List.mem_cons.1 hf with rfl | hf
    · rw [sameB_iff.2 (SameF.refl _)]
    · have hlt := List.rel_of_pairwise_cons h hf
      have : sameB f g = false := by
        cases hs : sameB f g
        · rfl
        · exact absurd (sameB_iff.1 hs).symm hlt.not_same
      rw [this]
      exact ih h.of_cons hf
/-- Merged once more with what it came of. -/
theorem Merged.again {l m a : List Fd} (h : Merged l m) (ha : ∀ f ∈ a, f ∈ l) : Merged (m ++ a) m := by
  refine ⟨h.up, fun f => ?_⟩
  rw [List.find?_append]
  constructor
  · intro hf
    rw [find_up h.up hf]; rfl
  · intro hf
    cases hm : m.find? (sameB f) with
    | some g =>
      rw [hm] at hf
      have : g = f := by simpa using hf
      subst this
      exact List.mem_of_find?_eq_some hm
    | none =>
      rw [hm] at hf
      simp only [Option.none_or] at hf
      have h1 := ha f (List.mem_of_find?_eq_some hf)
      have h2 : l.any (sameB f) = true := List.any_eq_true.2 ⟨f, h1, sameB_iff.2 (SameF.refl f)⟩
      rw [← h.any] at h2
      obtain ⟨g, hg, hs⟩ := List.any_eq_true.1 h2
      exact absurd hs (by simpa using List.find?_eq_none.1 hm g hg)
theorem up_at {R : List Fr} (h : (R.map Fr.fd).Pairwise ltFd) {i : Nat} {x y : Fr} (hx : R[i]? = some x) (hy : R[i + 1]? = some y) : cmpF x.fd y.fd = -1 := by
  have h1 : ltFd x.fd y.fd := by
    have hi := (List.getElem?_eq_some_iff.1 hx).1
    have hi2 := (List.getElem?_eq_some_iff.1 hy).1
    have := List.pairwise_iff_getElem.1 h i (i + 1) (by rw [List.length_map]; exact hi) (by rw [List.length_map]; exact hi2) (by omega)
    simp only [List.getElem_map] at this
    rw [(List.getElem?_eq_some_iff.1 hx).2, (List.getElem?_eq_some_iff.1 hy).2] at this
    exact this
  rcases cmpF_cases x.fd y.fd with ⟨_, e⟩ | ⟨hs, _⟩ | ⟨hl, _⟩
  · exact e
  · exact absurd hs h1.not_same
  · exact absurd hl h1.not_symm

end Go.Proofs.YtadngicebbnnlaaGreat
