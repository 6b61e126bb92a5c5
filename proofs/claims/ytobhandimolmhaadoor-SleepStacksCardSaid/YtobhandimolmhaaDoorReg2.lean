/-
  Regions whose order is drawn: some operations only read (taken first), some make or write (one behind the other), the last ones wait for all. Nothing of this seat's program stands here.
-/
import Derived.Test.YtobhandimolmhaaDoorReg
set_option linter.unusedSimpArgs false
set_option linter.unusedVariables false
namespace Go.Proofs.YtobhandimolmhaaDoor
open Go Go.RowKit

section
variable {P : Program} {ops : Array Oper} {md : Region.Mode} {S : World → Prop} {Q : Exit → Act → World → Prop}

def anyHL (P : Program) (md : Region.Mode) (ops : Array Oper) (Q : Exit → Act → World → Prop) (S : World → Prop) (n : Nat) (L : Array Bool → Act → World → Prop) : Nat → Array Bool → Act → World → Prop
  | 0, listed, a, w => L listed a w
  | f + 1, listed, a, w =>
    Region.ready md ops listed ≠ [] ∧ ∀ i ∈ Region.ready md ops listed, i < n ∧ wpOp P ops Q i (fun a' w' => S w' ∧ anyHL P md ops Q S n L f (listed.setIfInBounds i true) a' w') a w

theorem wpAny_of_anyHL {n g : Nat} {L : Array Bool → Act → World → Prop} (hL : ∀ listed a w, L listed a w → wpAny P md ops Q g listed a w) :
    ∀ (f : Nat) (listed : Array Bool) (a : Act) (w : World), anyHL P md ops Q S n L f listed a w → wpAny P md ops Q (f + g) listed a w
  | 0, listed, a, w, h => by rw [Nat.zero_add]; exact hL _ _ _ h
  | f + 1, listed, a, w, h => by
    rw [show f + 1 + g = (f + g) + 1 by omega]
    exact ⟨fun h0 => absurd h0 h.1, fun i hi => wpOp_mono (fun a' w' h' => wpAny_of_anyHL hL f _ a' w' h'.2) (h.2 i hi).2⟩

theorem anyHL_first {n i : Nat} {oi : Oper} {v : Value} {L : Array Bool → Act → World → Prop} (hi : ops[i]? = some oi) (hsel : ∀ (j : Nat) (o : Oper) cs b, ops[j]? = some o → o.op ≠ .select cs b)
    (hdone : ∀ listed a w, L listed a w → ∀ j ∈ Region.ready md ops listed, n ≤ j) (htail : ∀ listed, HeadInv md ops n listed → listed.getD i true = false → ∀ t, n ≤ t → t ∉ Region.ready md ops listed) (hin : i < n)
    (hQ : ∀ c a w, Q (.panic c) (a.put oi.dst v) w → Q (.panic c) a w) :
    ∀ (f : Nat) (listed : Array Bool) (a : Act) (w : World), HeadInv md ops n listed →
      (∀ j oj, ops[j]? = some oj → j ≠ i → listed.getD j true = false → (∀ e ∈ oj.after, Region.binds md e = true → e.on ≠ i) → oi.apart ops oj = true) →
      i ∈ Region.ready md ops listed → YieldsIf P ops S oi v a → S w →
      anyHL P md ops Q S n L f (listed.setIfInBounds i true) (a.put oi.dst v) w → anyHL P md ops Q S n L (f + 1) listed a w := by
  intro f
  induction f with
  | zero =>
    intro listed a w inv _ hr hy hS H
    have hun := (mem_ready.1 hr).1
    refine ⟨fun h => (by rw [h] at hr; cases hr), fun j hj => ?_⟩
    have hjn : j < n := by
      rcases Nat.lt_or_ge j n with h | h
      · exact h
      · exact absurd hj (htail listed inv hun j h)
    refine ⟨hjn, ?_⟩
    by_cases hji : j = i
    · subst hji; exact hy.wpOp hi hS ⟨hS, H⟩
    · have := hdone _ _ _ H j (ready_mono hj hji)
      omega
  | succ f ih =>
    intro listed a w inv hfree hr hy hS H
    have hun := (mem_ready.1 hr).1
    refine ⟨fun h => (by rw [h] at hr; cases hr), fun j hj => ?_⟩
    have hjn : j < n := by
      rcases Nat.lt_or_ge j n with h | h
      · exact h
      · exact absurd hj (htail listed inv hun j h)
    refine ⟨hjn, ?_⟩
    by_cases hji : j = i
    · subst hji; exact hy.wpOp hi hS ⟨hS, H⟩
    · have h1 := (H.2 j (ready_mono hj hji)).2
      obtain ⟨hjun, oj, hoj, hall⟩ := mem_ready.1 hj
      have hnot : ∀ e ∈ oj.after, Region.binds md e = true → e.on ≠ i := fun e he hb heq => by
        have h1 := hall e he hb
        rw [heq, getD_both hun] at h1
        cases h1
      have h2 := wpOp_putIf hoj (hfree j oj hoj hji hjun hnot) (fun cs b => hsel i oi cs b hi) (fun cs b => hsel j oj cs b hoj) hQ hy h1
      have hfree' : ∀ k ok, ops[k]? = some ok → k ≠ i → (listed.setIfInBounds j true).getD k true = false →
          (∀ e ∈ ok.after, Region.binds md e = true → e.on ≠ i) → oi.apart ops ok = true := fun k ok hk hki hun hno => by
        refine hfree k ok hk hki ?_ hno
        by_cases hjk : j = k
        · subst hjk; exact hjun
        · rw [getD_set_ne true hjk] at hun; exact hun
      refine wpOp_mono (fun a' w' h3 => ⟨h3.2.1, ih (listed.setIfInBounds j true) a' w' (inv.set hj hjn) hfree' (ready_mono hr (Ne.symm hji)) h3.1 h3.2.1 ?_⟩) h2
      rw [Array.setIfInBounds_comm _ _ hji]
      exact h3.2.2

def plan2Tail (md : Region.Mode) (ops : Array Oper) (n g : Nat) : List Nat → Array Bool → Bool
  | [], listed => Region.seqB md ops g n listed
  | t :: ts, listed => decide (t < n) && decide (Region.ready md ops listed = [t]) && plan2Tail md ops n g ts (listed.setIfInBounds t true)
def plan2Head (md : Region.Mode) (ops : Array Oper) (n g : Nat) (ts : List Nat) : List Nat → Array Bool → Bool
  | [], listed => plan2Tail md ops n g ts listed
  | h :: hs, listed => decide (h < n) && (Region.ready md ops listed).contains h && Region.free md ops listed h && plan2Head md ops n g ts hs (listed.setIfInBounds h true)
def plan2B (md : Region.Mode) (ops : Array Oper) (n : Nat) (hs ts : List Nat) : Bool :=
  Region.noSelect ops && (decide (n = ops.size) || decide (n < ops.size) && Region.sinkB md ops n && Region.chainB md ops n) && decide (hs.length + ts.length = n) && plan2Head md ops n (ops.size - n) ts hs (Array.replicate ops.size false)

/-- The makers, one behind the other; F: what is behind them. -/
def MakeRun (P : Program) (S : World → Prop) (Q : Exit → Act → World → Prop) (F : Act → World → Prop) : List Oper → Act → World → Prop
  | [], a, w => F a w
  | o :: rest, a, w => o.guard = none ∧ ∀ K : Act → World → Prop, (∀ a' w', S w' → MakeRun P S Q F rest a' w' → K a' w') → o.wp P a w K Q

theorem make_any {n g : Nat} {F : Act → World → Prop} : ∀ (ts : List Nat) (l : List Oper) (listed : Array Bool) (a : Act) (w : World), l.map some = ts.map (fun t => ops[t]?) →
    plan2Tail md ops n g ts listed = true → MakeRun P S Q F l a w → anyHL P md ops Q S n (fun listed' a' w' => Region.seqB md ops g n listed' = true ∧ F a' w') ts.length listed a w
  | [], l, listed, a, w, hl, hB, h => by
    have : l = [] := by simpa using hl
    subst this
    exact ⟨by simpa [plan2Tail] using hB, h⟩
  | t :: ts, l, listed, a, w, hl, hB, h => by
    cases l with
    | nil => simp at hl
    | cons o l =>
      simp only [List.map_cons, List.cons.injEq] at hl
      simp only [plan2Tail, Bool.and_eq_true, decide_eq_true_eq] at hB
      refine ⟨by rw [hB.1.2]; simp, fun i hi => ?_⟩
      rw [hB.1.2] at hi
      have hit : i = t := by simpa using hi
      subst hit
      refine ⟨hB.1.1, ?_⟩
      unfold wpOp
      simp only [← hl.1]
      rw [if_pos (by simp [Region.wanted, h.1])]
      exact .inl (h.2 _ (fun a' w' hS ht => ⟨hS, make_any ts l _ a' w' hl.2 hB.2 ht⟩))

theorem head2_any {n g : Nat} {F : Act → World → Prop} {ts : List Nat} {lt : List Oper} {w : World} (hsel : Region.noSelect ops = true) (hlt : lt.map some = ts.map (fun t => ops[t]?)) (hS : S w)
    (htail : ∀ i, i < n → ∀ listed, HeadInv md ops n listed → listed.getD i true = false → ∀ t, n ≤ t → t ∉ Region.ready md ops listed)
    (hQ : ∀ c (a : Act) (d : Option Tmp) v w, Q (.panic c) (a.put d v) w → Q (.panic c) a w) :
    ∀ (hs : List Nat) (l : List Oper) (listed : Array Bool) (a : Act), l.map some = hs.map (fun t => ops[t]?) → HeadInv md ops n listed →
    plan2Head md ops n g ts hs listed = true → ReadRun P ops S (fun a' => MakeRun P S Q F lt a' w) l a →
    anyHL P md ops Q S n (fun listed' a' w' => Region.seqB md ops g n listed' = true ∧ F a' w') (hs.length + ts.length) listed a w
  | [], l, listed, a, hl, _, hB, h => by
    have : l = [] := by simpa using hl
    subst this
    simp only [List.length_nil, Nat.zero_add]
    exact make_any ts lt listed a w hlt (by simpa [plan2Head] using hB) h
  | i :: hs, l, listed, a, hl, inv, hB, h => by
    cases l with
    | nil => simp at hl
    | cons o l =>
      simp only [List.map_cons, List.cons.injEq] at hl
      simp only [plan2Head, Bool.and_eq_true, decide_eq_true_eq] at hB
      obtain ⟨⟨⟨hin, hr⟩, hf⟩, hB'⟩ := hB
      obtain ⟨v, hy, hk⟩ := h
      have hr' : i ∈ Region.ready md ops listed := by simpa using hr
      have := anyHL_first (md := md) hl.1.symm (Region.noSelect_spec hsel) (fun listed' a' w' hL => seqB_ready hL.1) (htail i hin) hin (fun c a w => hQ c a _ _ w) (hs.length + ts.length) listed a w inv
        (Region.free_spec hl.1.symm hf) hr' hy hS (head2_any hsel hlt hS htail hQ hs l _ _ hl.2 (inv.set hr' hin) hB' hk)
      rwa [show (i :: hs).length + ts.length = hs.length + ts.length + 1 by simp only [List.length_cons]; omega]

/-- THE RULE: heads hs (they only read), makers ts (one behind the other), the rest from n on (they wait for all). -/
theorem wp_plan2_draw {id : Nat} {a : Act} {w : World} {l : List Oper} (n : Nat) (hs ts : List Nat) (S : World → Prop) (hm : P.follows .mixedOrders = true)
    (hB : (plan2B .any l.toArray n hs ts && (hs ++ ts).all (fun t => decide (t < l.length))) = true)
    (hQ : ∀ c (a : Act) (d : Option Tmp) v w, Q (.panic c) (a.put d v) w → Q (.panic c) a w) (hS : S { w with drawn := w.drawn + 1 })
    (h : ReadRun P l.toArray S (fun a' => MakeRun P S Q (fun a'' w'' => wpList P l.toArray Q (l.drop n) a'' w'') (picks l ts) a' { w with drawn := w.drawn + 1 }) (picks l hs) a) : (Code.region id l.toArray true).wp P Q a w := by
  simp only [plan2B, Bool.and_eq_true, decide_eq_true_eq, List.all_append] at hB
  obtain ⟨⟨⟨⟨hsel, ht⟩, hlen⟩, hB⟩, hb1, hb2⟩ := hB
  obtain ⟨hn, htail⟩ := textB_tail ht
  have hdl : (l.drop n).length = l.toArray.size - n := by simp
  have inv0 : HeadInv .any l.toArray n (Array.replicate l.toArray.size false) :=
    ⟨by simp, fun j oj _ hl => (by rw [getD_replicate_false] at hl; cases hl), fun t _ ht => getD_in (by simpa using ht) (getD_replicate_false _ _)⟩
  have H := head2_any (md := .any) (g := l.toArray.size - n) hsel (picks_spec l ts hb2) hS htail hQ hs (picks l hs) _ a (picks_spec l hs hb1) inv0 hB h
  refine wp_region_any hm ?_
  have := wpAny_of_anyHL (g := l.toArray.size - n) (fun listed a' w' hL => by
    have := wpAny_of_seq (md := .any) (Q' := Q) (l.drop n) n listed a' w' (fun j => by simp [List.getElem?_drop]) (by rw [hdl]; exact hL.1) hL.2
    rwa [hdl] at this) _ _ _ _ H
  rw [hlen, show n + (l.toArray.size - n) = l.toArray.size by omega] at this
  exact this

theorem MakeRun.go {F : Act → World → Prop} {o : Oper} {rest : List Oper} {a : Act} {w : World} (hg : o.guard = none)
    (h : ∀ K : Act → World → Prop, (∀ a' w', S w' ∧ MakeRun P S Q F rest a' w' → K a' w') → o.wp P a w K Q) : MakeRun P S Q F (o :: rest) a w :=
  ⟨hg, fun K hK => h K (fun a' w' h' => hK a' w' h'.1 h'.2)⟩
theorem MakeRun.done {F : Act → World → Prop} {a : Act} {w : World} (h : F a w) : MakeRun P S Q F [] a w := h
theorem noPanicOn {f : Func} {R : Ending → World → Prop} {K : Act → World → Prop} : ∀ c (a : Act) (d : Option Tmp) v w, Exit.then K (bodyPost P f R) (.panic c) (a.put d v) w → Exit.then K (bodyPost P f R) (.panic c) a w :=
  fun c a d v w h => by cases d <;> exact h
end
end Go.Proofs.YtobhandimolmhaaDoor
