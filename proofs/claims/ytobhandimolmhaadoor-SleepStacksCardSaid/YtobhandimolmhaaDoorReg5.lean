/-
  Regions whose order is drawn, with two chains of makers beside one another (p ahead of q; r by itself): three ways, each walked. Nothing of this seat's program stands here.
-/
import Derived.Test.YtobhandimolmhaaDoorReg3
set_option linter.unusedSimpArgs false
set_option linter.unusedVariables false
namespace Go.Proofs.YtobhandimolmhaaDoor
open Go Go.RowKit

section
variable {P : Program} {ops : Array Oper} {md : Region.Mode} {S : World → Prop} {Q : Exit → Act → World → Prop}

/-- One maker; F: what is behind it. -/
def MStep (P : Program) (S : World → Prop) (Q : Exit → Act → World → Prop) (F : Act → World → Prop) (o : Oper) (a : Act) (w : World) : Prop :=
  o.guard = none ∧ ∀ K : Act → World → Prop, (∀ a' w', S w' → F a' w' → K a' w') → o.wp P a w K Q
theorem MStep.go {F : Act → World → Prop} {o : Oper} {a : Act} {w : World} (hg : o.guard = none) (h : ∀ K : Act → World → Prop, (∀ a' w', S w' ∧ F a' w' → K a' w') → o.wp P a w K Q) : MStep P S Q F o a w := ⟨hg, fun K hK => h K (fun a' w' h' => hK a' w' h'.1 h'.2)⟩
theorem step_any {n f x : Nat} {L : Array Bool → Act → World → Prop} {F : Act → World → Prop} {listed : Array Bool} {o : Oper} {a : Act} {w : World} (ho : ops[x]? = some o) (h : MStep P S Q F o a w)
    (k : ∀ a' w', S w' → F a' w' → anyHL P md ops Q S n L f (listed.setIfInBounds x true) a' w') : wpOp P ops Q x (fun a' w' => S w' ∧ anyHL P md ops Q S n L f (listed.setIfInBounds x true) a' w') a w := by
  unfold wpOp
  simp only [ho]
  rw [if_pos (by simp [Region.wanted, h.1])]
  exact .inl (h.2 _ (fun a' w' hS ht => ⟨hS, k a' w' hS ht⟩))
theorem node1 {n f x : Nat} {L : Array Bool → Act → World → Prop} {F : Act → World → Prop} {listed : Array Bool} {o : Oper} {a : Act} {w : World} (hr : Region.ready md ops listed = [x]) (hx : x < n) (ho : ops[x]? = some o) (h : MStep P S Q F o a w)
    (k : ∀ a' w', S w' → F a' w' → anyHL P md ops Q S n L f (listed.setIfInBounds x true) a' w') : anyHL P md ops Q S n L (f + 1) listed a w := by
  refine ⟨by rw [hr]; simp, fun i hi => ?_⟩
  rw [hr] at hi
  have hix : i = x := by simpa using hi
  subst hix
  exact ⟨hx, step_any ho h k⟩
theorem node2 {n f x y : Nat} {L : Array Bool → Act → World → Prop} {F G : Act → World → Prop} {listed : Array Bool} {o u : Oper} {a : Act} {w : World} (hr : Region.ready md ops listed = [x, y]) (hx : x < n) (hy : y < n) (ho : ops[x]? = some o) (hu : ops[y]? = some u)
    (h : MStep P S Q F o a w) (k : ∀ a' w', S w' → F a' w' → anyHL P md ops Q S n L f (listed.setIfInBounds x true) a' w')
    (h' : MStep P S Q G u a w) (k' : ∀ a' w', S w' → G a' w' → anyHL P md ops Q S n L f (listed.setIfInBounds y true) a' w') : anyHL P md ops Q S n L (f + 1) listed a w := by
  refine ⟨by rw [hr]; simp, fun i hi => ?_⟩
  rw [hr] at hi
  rcases List.mem_cons.1 hi with rfl | hi
  · exact ⟨hx, step_any ho h k⟩
  · have hiy : i = y := by simpa using hi
    subst hiy
    exact ⟨hy, step_any hu h' k'⟩

/-- p ahead of q, r by itself. -/
def VeeRun (P : Program) (S : World → Prop) (Q : Exit → Act → World → Prop) (F : Act → World → Prop) (p q r : Oper) (a : Act) (w : World) : Prop :=
  MStep P S Q (fun a w => MStep P S Q (MStep P S Q F r) q a w ∧ MStep P S Q (MStep P S Q F q) r a w) p a w ∧ MStep P S Q (MStep P S Q (MStep P S Q F q) p) r a w
def veeB (md : Region.Mode) (ops : Array Oper) (n p q r : Nat) (L : Array Bool) : Bool :=
  decide (p < n) && decide (q < n) && decide (r < n) &&
  decide (Region.ready md ops L = [p, r]) && decide (Region.ready md ops (L.setIfInBounds p true) = [q, r]) && decide (Region.ready md ops ((L.setIfInBounds p true).setIfInBounds q true) = [r]) &&
  decide (Region.ready md ops ((L.setIfInBounds p true).setIfInBounds r true) = [q]) && decide (Region.ready md ops (L.setIfInBounds r true) = [p]) && decide (Region.ready md ops ((L.setIfInBounds r true).setIfInBounds p true) = [q]) &&
  Region.seqB md ops (ops.size - n) n (((L.setIfInBounds p true).setIfInBounds q true).setIfInBounds r true) && Region.seqB md ops (ops.size - n) n (((L.setIfInBounds p true).setIfInBounds r true).setIfInBounds q true) &&
  Region.seqB md ops (ops.size - n) n (((L.setIfInBounds r true).setIfInBounds p true).setIfInBounds q true)
theorem vee_any {n p q r : Nat} {F : Act → World → Prop} {op oq or : Oper} {listed : Array Bool} {a : Act} {w : World} (hp : ops[p]? = some op) (hq : ops[q]? = some oq) (hr : ops[r]? = some or) (hB : veeB md ops n p q r listed = true) (h : VeeRun P S Q F op oq or a w) :
    anyHL P md ops Q S n (fun l' a' w' => Region.seqB md ops (ops.size - n) n l' = true ∧ F a' w') 3 listed a w := by
  simp only [veeB, Bool.and_eq_true, decide_eq_true_eq] at hB
  obtain ⟨⟨⟨⟨⟨⟨⟨⟨⟨⟨⟨b1, b2⟩, b3⟩, r1⟩, r2⟩, r3⟩, r4⟩, r5⟩, r6⟩, s1⟩, s2⟩, s3⟩ := hB
  refine node2 r1 b1 b3 hp hr h.1 (fun a1 w1 _ h1 => ?_) h.2 (fun a1 w1 _ h1 => ?_)
  · exact node2 r2 b2 b3 hq hr h1.1 (fun a2 w2 _ h2 => node1 r3 b3 hr h2 (fun a3 w3 _ h3 => ⟨s1, h3⟩)) h1.2 (fun a2 w2 _ h2 => node1 r4 b2 hq h2 (fun a3 w3 _ h3 => ⟨s2, h3⟩))
  · exact node1 r5 b1 hp h1 (fun a2 w2 _ h2 => node1 r6 b2 hq h2 (fun a3 w3 _ h3 => ⟨s3, h3⟩))

/-- THE RULE: heads hs (they only read), then makers p ahead of q with r beside them, the rest from n on (they wait for all). -/
theorem wp_vee_draw {id : Nat} {a : Act} {w : World} {l : List Oper} (n : Nat) (hs : List Nat) (p q r : Nat) (S : World → Prop) (hm : P.follows .mixedOrders = true)
    (hB : ((Region.noSelect l.toArray && (decide (n = l.toArray.size) || decide (n < l.toArray.size) && Region.sinkB .any l.toArray n && Region.chainB .any l.toArray n) && decide (hs.length + 3 = n) &&
      plan3Head .any l.toArray n (veeB .any l.toArray n p q r) hs (Array.replicate l.toArray.size false)) && (hs ++ [p, q, r]).all (fun t => decide (t < l.length))) = true)
    (hQ : ∀ c (a : Act) (d : Option Tmp) v w, Q (.panic c) (a.put d v) w → Q (.panic c) a w) (hS : S { w with drawn := w.drawn + 1 })
    (h : ReadRun P l.toArray S (fun a' => VeeRun P S Q (fun a2 w2 => wpList P l.toArray Q (l.drop n) a2 w2) (l.getD p default) (l.getD q default) (l.getD r default) a' { w with drawn := w.drawn + 1 }) (picks l hs) a) : (Code.region id l.toArray true).wp P Q a w := by
  simp only [Bool.and_eq_true, decide_eq_true_eq, List.all_append] at hB
  obtain ⟨⟨⟨⟨hsel, ht⟩, hlen⟩, hB⟩, hb1, hb2⟩ := hB
  obtain ⟨hn, htail⟩ := textB_tail ht
  have hdl : (l.drop n).length = l.toArray.size - n := by simp
  have inv0 : HeadInv .any l.toArray n (Array.replicate l.toArray.size false) :=
    ⟨by simp, fun j oj _ hl => (by rw [getD_replicate_false] at hl; cases hl), fun t _ ht => getD_in (by simpa using ht) (getD_replicate_false _ _)⟩
  have hat : ∀ t, t < l.length → l.toArray[t]? = some (l.getD t default) := fun t ht => by
    rw [List.getElem?_toArray, List.getD_eq_getElem?_getD, List.getElem?_eq_getElem ht]; rfl
  simp only [List.all_cons, List.all_nil, Bool.and_true, Bool.and_eq_true, decide_eq_true_eq] at hb2
  have H := head3_any (md := .any) (S := S) (Q := Q) (n := n) (f2 := 3) (g := l.toArray.size - n) (G := fun a' w' => wpList P l.toArray Q (l.drop n) a' w') hsel hS htail hQ
    (fun listed a hE inv hF => vee_any (hat p hb2.1) (hat q hb2.2.1) (hat r hb2.2.2) hE hF)
    hs (picks l hs) _ a (picks_spec l hs hb1) inv0 hB h
  refine wp_region_any hm ?_
  have := wpAny_of_anyHL (g := l.toArray.size - n) (fun listed a' w' hL => by
    have := wpAny_of_seq (md := .any) (Q' := Q) (l.drop n) n listed a' w' (fun j => by simp [List.getElem?_drop]) (by rw [hdl]; exact hL.1) hL.2
    rwa [hdl] at this) _ _ _ _ H
  rw [hlen, show n + (l.toArray.size - n) = l.toArray.size by omega] at this
  exact this
theorem MStep.mono {F G : Act → World → Prop} {o : Oper} {a : Act} {w : World} (h : MStep P S Q F o a w) (hk : ∀ a' w', S w' → F a' w' → G a' w') : MStep P S Q G o a w :=
  ⟨h.1, fun K hK => h.2 K fun a' w' hS hf => hK a' w' hS (hk a' w' hS hf)⟩
/-- The ways meet again: what is left of the order are the three values and what is said of them. -/
theorem VeeRun.cut {F : Act → World → Prop} {p q r : Oper} {A : Act} {w : World} (R : Value → Value → Value → World → Prop)
    (h : VeeRun P S Q (fun a2 w2 => ∃ u v x, a2 = ((A.put p.dst u).put q.dst v).put r.dst x ∧ R u v x w2) p q r A w)
    (k : ∀ u v x w2, R u v x w2 → F (((A.put p.dst u).put q.dst v).put r.dst x) w2) : VeeRun P S Q F p q r A w := by
  have hk : ∀ a2 w2, S w2 → (∃ u v x, a2 = ((A.put p.dst u).put q.dst v).put r.dst x ∧ R u v x w2) → F a2 w2 := fun a2 w2 _ ⟨u, v, x, he, hr⟩ => by rw [he]; exact k u v x w2 hr
  exact ⟨h.1.mono fun a1 w1 _ h1 => ⟨h1.1.mono fun a2 w2 _ h2 => h2.mono hk, h1.2.mono fun a2 w2 _ h2 => h2.mono hk⟩, h.2.mono fun a1 w1 _ h1 => h1.mono fun a2 w2 _ h2 => h2.mono hk⟩
end
end Go.Proofs.YtobhandimolmhaaDoor
