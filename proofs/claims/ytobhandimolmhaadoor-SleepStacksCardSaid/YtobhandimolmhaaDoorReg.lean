/-
  Regions whose order is drawn, walked once, in the text's order; ways that meet again behind guarded operations. Nothing of this seat's program stands here.
-/
import Derived.WalkKit
import Derived.StillTail
import Derived.OrdersHeld
set_option linter.unusedSimpArgs false
set_option linter.unusedVariables false
namespace Go.Proofs.YtobhandimolmhaaDoor
open Go Go.RowKit

/-- In every world that meets S the operation yields v and leaves a world that meets S. -/
def StepR (P : Program) (S : World → Prop) (o : Oper) (v : Value) (ρ : Operand → Value) : Prop :=
  ∀ w, S w → match (execOp ρ o).run P w with
    | .ok (.value u) w' => u = v ∧ S w'
    | .ok .skip w' => undef = v ∧ S w'
    | .ok (.enter f args) w' => Calls P f args w' fun e w'' => e = .returned v ∧ S w''
    | .ok (.row row args) w' => Rows P row args w' fun u w'' => u = v ∧ S w''
    | _ => False

def Does (P : Program) (ops : Array Oper) (S : World → Prop) (o : Oper) (v : Value) (a : Act) : Prop :=
  (Region.wanted o (yielded ops a.tmps) = true → StepR P S o v a.eval) ∧ (Region.wanted o (yielded ops a.tmps) = false → v = undef)

section
variable {P : Program} {ops : Array Oper} {md : Region.Mode} {S : World → Prop}

theorem Does.of_same {o : Oper} {v : Value} {a a' : Act} (hy : Does P ops S o v a) (he : execOp a'.eval o = execOp a.eval o)
    (hw : Region.wanted o (yielded ops a'.tmps) = Region.wanted o (yielded ops a.tmps)) : Does P ops S o v a' := by
  unfold Does StepR at *
  rw [he, hw]
  exact hy

/-- What has been shown of an operation by the walk: whatever K. -/
theorem stepR_of_wp {o : Oper} {v : Value} {a : Act} {d : Tmp} (hd : o.dst = some d) (hlt : d < a.tmps.size)
    (h : ∀ w, S w → ∀ K : Act → World → Prop, (∀ w', S w' → K (a.put (some d) v) w') → o.wp P a w K (fun _ _ _ => False)) : StepR P S o v a.eval := by
  intro w hS
  have inj : ∀ u, a.put (some d) u = a.put (some d) v → u = v := by
    intro u hu
    have h1 : (a.put (some d) u).tmps[d]? = (a.put (some d) v).tmps[d]? := by rw [hu]
    simpa [Act.put, hlt] using h1
  have h1 := h w hS (fun a' w' => a' = a.put (some d) v ∧ S w') (fun w' hw' => ⟨rfl, hw'⟩)
  unfold Oper.wp at h1
  generalize (execOp a.eval o).run P w = r at *
  cases r with
  | ok n w' =>
    cases n <;> simp only [Oper.upon, hd] at h1 ⊢
    case value u => exact ⟨inj u h1.1, h1.2⟩
    case enter f args =>
      refine Calls.mono h1 fun e w'' he => ?_
      cases e with
      | returned u => exact ⟨by rw [inj u he.1], he.2⟩
      | panicked c => exact he.elim
      | outgrown => obtain ⟨_, _, hf⟩ := he; exact hf.elim
    case skip => exact ⟨inj _ h1.1, h1.2⟩
    case defer d' =>
      exfalso
      have := congrArg Act.defers h1.1
      simp [Act.put] at this
    case row row args => exact Rows.mono h1 fun u w'' hu => ⟨inj u hu.1, hu.2⟩
  | halt x w' => cases x <;> simp only [Oper.upon] at h1 ⊢

/-- Number i is done, in the text's place or earlier. -/
def stepS (P : Program) (ops : Array Oper) (S : World → Prop) (i : Nat) (K : Act → Prop) (a : Act) : Prop :=
  ∃ o v, ops[i]? = some o ∧ Does P ops S o v a ∧ K (a.put o.dst v)

theorem stepS_mono {i : Nat} {K K' : Act → Prop} {a : Act} (hk : ∀ a, K a → K' a) (h : stepS P ops S i K a) : stepS P ops S i K' a :=
  let ⟨o, v, h1, h2, h3⟩ := h; ⟨o, v, h1, h2, hk _ h3⟩

theorem stepS_put {j : Nat} {oi oj : Oper} {v : Value} (hj : ops[j]? = some oj) (hap : oi.apart ops oj = true)
    (hsi : ∀ cs b, oi.op ≠ .select cs b) (hsj : ∀ cs b, oj.op ≠ .select cs b) {K : Act → Prop} {a : Act}
    (hy : Does P ops S oi v a) (h : stepS P ops S j K (a.put oi.dst v)) :
    stepS P ops S j (fun a' => Does P ops S oi v a' ∧ K (a'.put oi.dst v)) a := by
  obtain ⟨h1, h2, h3⟩ := Oper.apart_spec hap
  obtain ⟨o, u, ho, hd, hk⟩ := h
  have : o = oj := Option.some.inj (ho.symm.trans hj)
  subst this
  refine ⟨o, u, ho, hd.of_same (execOp_put o hsj a oi.dst v h1).symm (wanted_put o a oi.dst v h1).symm, ?_, ?_⟩
  · exact hy.of_same (execOp_put oi hsi a o.dst u h3) (wanted_put oi a o.dst u h3)
  · rw [← Act.put_comm a v u h2]; exact hk

def anyS (P : Program) (md : Region.Mode) (ops : Array Oper) (S : World → Prop) (n : Nat) (L : Array Bool → Act → Prop) : Nat → Array Bool → Act → Prop
  | 0, listed, a => L listed a
  | f + 1, listed, a =>
    Region.ready md ops listed ≠ [] ∧ ∀ i ∈ Region.ready md ops listed, i < n ∧ stepS P ops S i (anyS P md ops S n L f (listed.setIfInBounds i true)) a

theorem wpOp_of_stepS {Q : Exit → Act → World → Prop} {i : Nat} {K : Act → Prop} {a : Act} {w : World} (hS : S w) (h : stepS P ops S i K a) :
    wpOp P ops Q i (fun a' w' => S w' ∧ K a') a w := by
  obtain ⟨o, v, ho, hd, hk⟩ := h
  unfold wpOp
  simp only [ho]
  cases hw : Region.wanted o (yielded ops a.tmps) with
  | false => simp only [Bool.false_eq_true, if_false]; rw [← hd.2 hw]; exact ⟨hS, hk⟩
  | true =>
    simp only [if_true]
    refine .inl ?_
    have h1 := hd.1 hw w hS
    unfold Oper.wp
    generalize (execOp a.eval o).run P w = r at *
    cases r with
    | ok n w' =>
      cases n <;> simp only [Oper.upon] at h1 ⊢
      case value u => obtain ⟨rfl, hs⟩ := h1; exact ⟨hs, hk⟩
      case skip => obtain ⟨rfl, hs⟩ := h1; exact ⟨hs, hk⟩
      case enter f args =>
        refine Calls.mono h1 fun e w'' he => ?_
        obtain ⟨rfl, hs⟩ := he
        exact ⟨hs, hk⟩
      case row row args =>
        refine Rows.mono h1 fun u w'' he => ?_
        obtain ⟨rfl, hs⟩ := he
        exact ⟨hs, hk⟩
    | halt x w' => cases x <;> simp only at h1

theorem wpAny_of_anyS {n g : Nat} {L : Array Bool → Act → Prop} {Q : Exit → Act → World → Prop} (hL : ∀ listed a w, L listed a → S w → wpAny P md ops Q g listed a w) :
    ∀ (f : Nat) (listed : Array Bool) (a : Act) (w : World), S w → anyS P md ops S n L f listed a → wpAny P md ops Q (f + g) listed a w
  | 0, listed, a, w, hS, h => by rw [Nat.zero_add]; exact hL _ _ _ h hS
  | f + 1, listed, a, w, hS, h => by
    rw [show f + 1 + g = (f + g) + 1 by omega]
    exact ⟨fun h0 => absurd h0 h.1, fun i hi => wpOp_mono (fun a' w' h' => wpAny_of_anyS hL f _ a' w' h'.1 h'.2) (wpOp_of_stepS hS (h.2 i hi).2)⟩

theorem anyS_first {n i : Nat} {oi : Oper} {v : Value} {L : Array Bool → Act → Prop} (hi : ops[i]? = some oi) (hsel : ∀ (j : Nat) (o : Oper) cs b, ops[j]? = some o → o.op ≠ .select cs b)
    (hdone : ∀ listed a, L listed a → ∀ j ∈ Region.ready md ops listed, n ≤ j) (htail : ∀ listed, HeadInv md ops n listed → listed.getD i true = false → ∀ t, n ≤ t → t ∉ Region.ready md ops listed) (hin : i < n) :
    ∀ (f : Nat) (listed : Array Bool) (a : Act), HeadInv md ops n listed →
      (∀ j oj, ops[j]? = some oj → j ≠ i → listed.getD j true = false → (∀ e ∈ oj.after, Region.binds md e = true → e.on ≠ i) → oi.apart ops oj = true) →
      i ∈ Region.ready md ops listed → Does P ops S oi v a →
      anyS P md ops S n L f (listed.setIfInBounds i true) (a.put oi.dst v) → anyS P md ops S n L (f + 1) listed a := by
  intro f
  induction f with
  | zero =>
    intro listed a inv _ hr hy H
    have hun := (mem_ready.1 hr).1
    refine ⟨fun h => (by rw [h] at hr; cases hr), fun j hj => ?_⟩
    have hjn : j < n := by
      rcases Nat.lt_or_ge j n with h | h
      · exact h
      · exact absurd hj (htail listed inv hun j h)
    refine ⟨hjn, ?_⟩
    by_cases hji : j = i
    · subst hji; exact ⟨oi, v, hi, hy, H⟩
    · have := hdone _ _ H j (ready_mono hj hji)
      omega
  | succ f ih =>
    intro listed a inv hfree hr hy H
    have hun := (mem_ready.1 hr).1
    refine ⟨fun h => (by rw [h] at hr; cases hr), fun j hj => ?_⟩
    have hjn : j < n := by
      rcases Nat.lt_or_ge j n with h | h
      · exact h
      · exact absurd hj (htail listed inv hun j h)
    refine ⟨hjn, ?_⟩
    by_cases hji : j = i
    · subst hji; exact ⟨oi, v, hi, hy, H⟩
    · have h1 := (H.2 j (ready_mono hj hji)).2
      obtain ⟨hjun, oj, hoj, hall⟩ := mem_ready.1 hj
      have hnot : ∀ e ∈ oj.after, Region.binds md e = true → e.on ≠ i := fun e he hb heq => by
        have h1 := hall e he hb
        rw [heq, getD_both hun] at h1
        cases h1
      have h2 := stepS_put hoj (hfree j oj hoj hji hjun hnot) (fun cs b => hsel i oi cs b hi) (fun cs b => hsel j oj cs b hoj) hy h1
      have hfree' : ∀ k ok, ops[k]? = some ok → k ≠ i → (listed.setIfInBounds j true).getD k true = false →
          (∀ e ∈ ok.after, Region.binds md e = true → e.on ≠ i) → oi.apart ops ok = true := fun k ok hk hki hun hno => by
        refine hfree k ok hk hki ?_ hno
        by_cases hjk : j = k
        · subst hjk; exact hjun
        · rw [getD_set_ne true hjk] at hun; exact hun
      refine stepS_mono (fun a' h3 => ih (listed.setIfInBounds j true) a' (inv.set hj hjn) hfree' (ready_mono hr (Ne.symm hji)) h3.1 ?_) h2
      rw [Array.setIfInBounds_comm _ _ hji]
      exact h3.2

/-- THE HEAD IN THE TEXT's ORDER. -/
def TextRun (P : Program) (ops : Array Oper) (S : World → Prop) (F : Act → Prop) : List Oper → Act → Prop
  | [], a => F a
  | o :: rest, a => ∃ v, Does P ops S o v a ∧ TextRun P ops S F rest (a.put o.dst v)

theorem anyS_lex {n g : Nat} {F : Act → Prop} (hsel : Region.noSelect ops = true)
    (htail : ∀ i, i < n → ∀ listed, HeadInv md ops n listed → listed.getD i true = false → ∀ t, n ≤ t → t ∉ Region.ready md ops listed) (hn : n ≤ ops.size) :
    ∀ (l : List Oper) (k : Nat) (listed : Array Bool) (a : Act), (∀ j, j < l.length → l[j]? = ops[k + j]?) → k + l.length = n → HeadInv md ops n listed →
    Region.lexHead md ops g l.length k listed = true → TextRun P ops S F l a →
    anyS P md ops S n (fun listed' a' => Region.seqB md ops g n listed' = true ∧ F a') l.length listed a
  | [], k, listed, a, _, hk, _, hB, h => by
    have : k = n := by simpa using hk
    subst this
    exact ⟨by simpa [Region.lexHead] using hB, h⟩
  | o :: l, k, listed, a, hl, hk, inv, hB, h => by
    have h0 : ops[k]? = some o := by simpa using (hl 0 (by simp)).symm
    simp only [List.length_cons, Region.lexHead, Bool.and_eq_true] at hB
    obtain ⟨⟨hr, hf⟩, hB'⟩ := hB
    have hkn : k < n := by simp only [List.length_cons] at hk; omega
    have hr' : k ∈ Region.ready md ops listed := by simpa using hr
    obtain ⟨v, hy, hK⟩ := h
    exact anyS_first h0 (Region.noSelect_spec hsel) (fun listed' a' hL => seqB_ready hL.1) (htail k hkn) hkn l.length listed a inv (Region.free_spec h0 hf) hr' hy
      (anyS_lex hsel htail hn l (k + 1) _ _ (fun j hj => by have := hl (j + 1) (by simp; omega); simpa [Nat.add_assoc, Nat.add_comm 1 j] using this) (by simp only [List.length_cons] at hk; omega) (inv.set hr' hkn) hB' hK)

def Region.textB (md : Region.Mode) (ops : Array Oper) (n : Nat) : Bool :=
  Region.noSelect ops && (decide (n = ops.size) || decide (n < ops.size) && Region.sinkB md ops n && Region.chainB md ops n) && Region.lexHead md ops (ops.size - n) n 0 (Array.replicate ops.size false)

theorem textB_tail {n : Nat} (h : (decide (n = ops.size) || decide (n < ops.size) && Region.sinkB md ops n && Region.chainB md ops n) = true) :
    n ≤ ops.size ∧ ∀ i, i < n → ∀ listed, HeadInv md ops n listed → listed.getD i true = false → ∀ t, n ≤ t → t ∉ Region.ready md ops listed := by
  simp only [Bool.or_eq_true, Bool.and_eq_true, decide_eq_true_eq] at h
  rcases h with h | ⟨⟨hn, hs⟩, hc⟩
  · refine ⟨by omega, fun i hi listed inv hun t ht hr => ?_⟩
    obtain ⟨_, o, ho, _⟩ := mem_ready.1 hr
    have := (Array.getElem?_eq_some_iff.1 ho).1
    omega
  · exact ⟨by omega, fun i hi listed inv hun => tail_waits hs hc hn inv _ i rfl hi hun⟩

/-- A REGION THAT DRAWS ITS ORDER, WALKED IN THE TEXT's ORDER: its first n operations each yield one value in every world that meets S, and leave S; the rest waits for them, one behind the other. -/
theorem wp_text_draw {id : Nat} {Q : Exit → Act → World → Prop} {a : Act} {w : World} {l : List Oper} (n : Nat) (S : World → Prop) (hm : P.follows .mixedOrders = true)
    (hB : Region.textB .any l.toArray n = true) (hS : S { w with drawn := w.drawn + 1 })
    (h : TextRun P l.toArray S (fun a' => ∀ w', S w' → wpList P l.toArray Q (l.drop n) a' w') (l.take n) a) : (Code.region id l.toArray true).wp P Q a w := by
  simp only [Region.textB, Bool.and_eq_true] at hB
  obtain ⟨⟨hsel, ht⟩, hlex⟩ := hB
  obtain ⟨hn, htail⟩ := textB_tail ht
  have hn' : n ≤ l.length := by simpa using hn
  have htl : (l.take n).length = n := by simp; omega
  have hdl : (l.drop n).length = l.toArray.size - n := by simp
  have inv0 : HeadInv .any l.toArray n (Array.replicate l.toArray.size false) :=
    ⟨by simp, fun j oj _ hl => (by rw [getD_replicate_false] at hl; cases hl), fun t _ ht => getD_in (by simpa using ht) (getD_replicate_false _ _)⟩
  have H := anyS_lex (md := .any) (g := l.toArray.size - n) hsel htail hn (l.take n) 0 _ a (fun j hj => by
    have hj' : j < n := by rw [htl] at hj; exact hj
    simp [hj']) (by simpa using htl) inv0 (by rw [htl]; exact hlex) h
  refine wp_region_any hm ?_
  have := wpAny_of_anyS (Q := Q) (g := l.toArray.size - n) (fun listed a' w' hL hw => by
    have := wpAny_of_seq (md := .any) (Q' := Q) (l.drop n) n listed a' w' (fun j => by simp [List.getElem?_drop]) (by rw [hdl]; exact hL.1) (hL.2 w' hw)
    rwa [hdl] at this) _ _ _ _ hS H
  rw [htl, show n + (l.toArray.size - n) = l.toArray.size by omega] at this
  exact this

theorem wpList_of_text {Q : Exit → Act → World → Prop} {r : List Oper} : ∀ (l : List Oper) (a : Act) (w : World), S w →
    TextRun P ops S (fun a' => ∀ w', S w' → wpList P ops Q r a' w') l a → wpList P ops Q (l ++ r) a w
  | [], a, w, hS, h => h w hS
  | o :: l, a, w, hS, h => by
    obtain ⟨v, hd, hk⟩ := h
    simp only [List.cons_append, wpList]
    cases hw : Region.wanted o (yielded ops a.tmps) with
    | false => simp only [Bool.false_eq_true, if_false]; rw [← hd.2 hw]; exact wpList_of_text l _ w hS hk
    | true =>
      simp only [if_true]
      refine .inl ?_
      have h1 := hd.1 hw w hS
      unfold Oper.wp
      generalize (execOp a.eval o).run P w = r at *
      cases r with
      | ok n w' =>
        cases n <;> simp only [Oper.upon] at h1 ⊢
        case value u => obtain ⟨rfl, hs⟩ := h1; exact wpList_of_text l _ _ hs hk
        case skip => obtain ⟨rfl, hs⟩ := h1; exact wpList_of_text l _ _ hs hk
        case enter f args =>
          refine Calls.mono h1 fun e w'' he => ?_
          obtain ⟨rfl, hs⟩ := he
          exact wpList_of_text l _ _ hs hk
        case row row args =>
          refine Rows.mono h1 fun u w'' he => ?_
          obtain ⟨rfl, hs⟩ := he
          exact wpList_of_text l _ _ hs hk
      | halt x w' => cases x <;> simp only at h1

/-- The same for a region without a draw: WAYS MEET AGAIN behind guarded operations. -/
theorem wp_text {id : Nat} {Q : Exit → Act → World → Prop} {a : Act} {w : World} {l : List Oper} (n : Nat) (S : World → Prop) (hS : S w)
    (h : TextRun P l.toArray S (fun a' => ∀ w', S w' → wpList P l.toArray Q (l.drop n) a' w') (l.take n) a) : (Code.region id l.toArray false).wp P Q a w := by
  refine wp_region_lit ?_
  have := wpList_of_text (Q := Q) (r := l.drop n) (l.take n) a w hS h
  rwa [List.take_append_drop] at this

/-- The two, where S says: nothing of what stands here has turned. -/
theorem wp_ext_draw {id : Nat} {Q : Exit → Act → World → Prop} {a : Act} {w : World} {l : List Oper} (n : Nat) (hm : P.follows .mixedOrders = true)
    (hB : Region.textB .any l.toArray n = true)
    (h : TextRun P l.toArray (Below w.heap.size w) (fun a' => ∀ w', Below w.heap.size w w' → wpList P l.toArray Q (l.drop n) a' w') (l.take n) a) : (Code.region id l.toArray true).wp P Q a w :=
  wp_text_draw n (Below w.heap.size w) hm hB ⟨rfl, rfl, rfl, Nat.le_refl _, fun _ _ => rfl⟩ h
theorem wp_ext {id : Nat} {Q : Exit → Act → World → Prop} {a : Act} {w : World} {l : List Oper} (n : Nat)
    (h : TextRun P l.toArray (Below w.heap.size w) (fun a' => ∀ w', Below w.heap.size w w' → wpList P l.toArray Q (l.drop n) a' w') (l.take n) a) : (Code.region id l.toArray false).wp P Q a w :=
  wp_text n (Below w.heap.size w) (Below.refl _ _) h

/-- What a world behind calls that turned nothing says of the cells that stood. -/
theorem bcell {W w1 : World} (hb : Below W.heap.size W w1) : (∀ b o, b < W.heap.size → w1.cell? ⟨b, o, none⟩ = W.cell? ⟨b, o, none⟩) ∧ (∀ b o, b < W.heap.size → w1.frozen? ⟨b, o, none⟩ = W.frozen? ⟨b, o, none⟩) :=
  ⟨fun b o h => hb.cell (p := ⟨b, o, none⟩) h, fun b o h => hb.frozen (p := ⟨b, o, none⟩) h⟩

theorem keep {W w1 : World} (hb : Below W.heap.size W w1) {p : Addr} {v : Value} (h : W.cell? p = some v) : w1.cell? p = some v := by
  have hlt : p.block < W.heap.size := by
    rcases Nat.lt_or_ge p.block W.heap.size with h' | h'
    · exact h'
    · simp [World.cell?, Array.getElem?_eq_none h'] at h
  rw [hb.cell hlt]; exact h
theorem blt {W w1 : World} (hb : Below W.heap.size W w1) : ∀ x, x < W.heap.size → x < w1.heap.size := fun _ h => Nat.lt_of_lt_of_le h hb.size
/-- For the walk: a block that stood stands behind new ones. -/
theorem lt_size_add {w : World} {x i : Nat} (h : x < w.heap.size) : (x < w.heap.size + i) = True := by simp; omega
attribute [go_sem] lt_size_add

/-! The moves. -/
theorem TextRun.go {F : Act → Prop} {o : Oper} {rest : List Oper} {a : Act} {d : Tmp} {v : Value} (hg : o.guard = none) (hd : o.dst = some d) (hlt : Nat.blt d a.tmps.size = true)
    (h : ∀ w, S w → ∀ K : Act → World → Prop, (∀ w', S w' → K (a.put (some d) v) w') → o.wp P a w K (fun _ _ _ => False))
    (hr : TextRun P ops S F rest (a.put (some d) v)) : TextRun P ops S F (o :: rest) a :=
  ⟨v, ⟨fun _ => stepR_of_wp hd (by simpa [Nat.blt_eq] using hlt) h, fun hw => by simp [Region.wanted, hg] at hw⟩, by rw [hd]; exact hr⟩

/-- A guarded operation; c: the guard's outcome, whichever it is. -/
theorem TextRun.guarded {F : Act → Prop} {o : Oper} {rest : List Oper} {a : Act} {d : Tmp} {v : Value} (c : Bool) (hg : Region.wanted o (yielded ops a.tmps) = c) (hd : o.dst = some d) (hlt : Nat.blt d a.tmps.size = true)
    (h : c = true → ∀ w, S w → ∀ K : Act → World → Prop, (∀ w', S w' → K (a.put (some d) v) w') → o.wp P a w K (fun _ _ _ => False)) (hu : c = false → v = undef)
    (hr : TextRun P ops S F rest (a.put (some d) v)) : TextRun P ops S F (o :: rest) a :=
  ⟨v, ⟨fun hw => stepR_of_wp hd (by simpa [Nat.blt_eq] using hlt) (h (hg ▸ hw)), fun hw => hu (hg ▸ hw)⟩, by rw [hd]; exact hr⟩
theorem TextRun.wantedT {F : Act → Prop} {o : Oper} {rest : List Oper} {a : Act} {d : Tmp} (hg : Region.wanted o (yielded ops a.tmps) = true) (hd : o.dst = some d) (hlt : Nat.blt d a.tmps.size = true)
    (h : ∃ v, (∀ w, S w → ∀ K : Act → World → Prop, (∀ w', S w' → K (a.put (some d) v) w') → o.wp P a w K (fun _ _ _ => False)) ∧ TextRun P ops S F rest (a.put (some d) v)) : TextRun P ops S F (o :: rest) a :=
  let ⟨v, h1, h2⟩ := h
  ⟨v, ⟨fun _ => stepR_of_wp hd (by simpa [Nat.blt_eq] using hlt) h1, fun hw => by rw [hg] at hw; cases hw⟩, by rw [hd]; exact h2⟩
theorem TextRun.skip {F : Act → Prop} {o : Oper} {rest : List Oper} {a : Act} (hg : Region.wanted o (yielded ops a.tmps) = false)
    (hr : TextRun P ops S F rest (a.put o.dst undef)) : TextRun P ops S F (o :: rest) a :=
  ⟨undef, ⟨fun hw => (by rw [hg] at hw; cases hw), fun _ => rfl⟩, hr⟩
theorem TextRun.done {F : Act → Prop} {a : Act} (h : F a) : TextRun P ops S F [] a := h

/-! A region that draws its order, some of whose operations only read (they are taken first), the others one behind the other. -/
def planTail (md : Region.Mode) (ops : Array Oper) : List Nat → Array Bool → Bool
  | [], listed => (Region.ready md ops listed).isEmpty
  | t :: ts, listed => decide (Region.ready md ops listed = [t]) && planTail md ops ts (listed.setIfInBounds t true)
def planHead (md : Region.Mode) (ops : Array Oper) (ts : List Nat) : List Nat → Array Bool → Bool
  | [], listed => planTail md ops ts listed
  | h :: hs, listed => (Region.ready md ops listed).contains h && Region.free md ops listed h && planHead md ops ts hs (listed.setIfInBounds h true)
def planB (md : Region.Mode) (ops : Array Oper) (hs ts : List Nat) : Bool :=
  Region.noSelect ops && decide (hs.length + ts.length = ops.size) && planHead md ops ts hs (Array.replicate ops.size false)

def TailRun (P : Program) (S : World → Prop) (Q : Exit → Act → World → Prop) : List Oper → Act → World → Prop
  | [], a, w => Q .normal a w
  | o :: rest, a, w => o.guard = none ∧ ∀ K : Act → World → Prop, (∀ a' w', S w' → TailRun P S Q rest a' w' → K a' w') → o.wp P a w K Q
def ReadRun (P : Program) (ops : Array Oper) (S : World → Prop) (F : Act → Prop) : List Oper → Act → Prop
  | [], a => F a
  | o :: rest, a => ∃ v, YieldsIf P ops S o v a ∧ ReadRun P ops S F rest (a.put o.dst v)

theorem tail_any {Q : Exit → Act → World → Prop} : ∀ (ts : List Nat) (l : List Oper) (listed : Array Bool) (a : Act) (w : World), l.map some = ts.map (fun t => ops[t]?) →
    planTail md ops ts listed = true → TailRun P S Q l a w → wpAnyH P md ops Q S ts.length listed a w
  | [], l, listed, a, w, hl, hB, h => by
    have : l = [] := by simpa using hl
    subst this
    exact wpAnyH_done (by simpa [planTail] using hB) h _
  | t :: ts, l, listed, a, w, hl, hB, h => by
    cases l with
    | nil => simp at hl
    | cons o l =>
      simp only [List.map_cons, List.cons.injEq] at hl
      simp only [planTail, Bool.and_eq_true, decide_eq_true_eq] at hB
      refine wpAnyH_all hB.1 (by simp) (fun i hi => ?_)
      have hit : i = t := by simpa using hi
      subst hit
      unfold wpOp
      simp only [← hl.1]
      rw [if_pos (by simp [Region.wanted, h.1])]
      exact .inl (h.2 _ (fun a' w' hS ht => ⟨hS, tail_any ts l _ a' w' hl.2 hB.2 ht⟩))

theorem head_any {Q : Exit → Act → World → Prop} {ts : List Nat} {lt : List Oper} {w : World} (hsel : Region.noSelect ops = true) (hlt : lt.map some = ts.map (fun t => ops[t]?)) (hS : S w) (hQ : ∀ c (a : Act) (d : Option Tmp) v w, Q (.panic c) (a.put d v) w → Q (.panic c) a w) :
    ∀ (hs : List Nat) (l : List Oper) (listed : Array Bool) (a : Act), l.map some = hs.map (fun t => ops[t]?) →
    planHead md ops ts hs listed = true → ReadRun P ops S (fun a' => TailRun P S Q lt a' w) l a → wpAnyH P md ops Q S (hs.length + ts.length) listed a w
  | [], l, listed, a, hl, hB, h => by
    have : l = [] := by simpa using hl
    subst this
    simp only [List.length_nil, Nat.zero_add]
    exact tail_any ts lt listed a w hlt (by simpa [planHead] using hB) h
  | i :: hs, l, listed, a, hl, hB, h => by
    cases l with
    | nil => simp at hl
    | cons o l =>
      simp only [List.map_cons, List.cons.injEq] at hl
      simp only [planHead, Bool.and_eq_true] at hB
      obtain ⟨v, hy, hk⟩ := h
      have := wpAnyH_take (i := i) (oi := o) (v := v) (fuel := hs.length + ts.length) (listed := listed) (a := a) (w := w) hl.1.symm hsel hB.1.2 hB.1.1 (fun c a w => hQ c a _ _ w) hy hS (head_any hsel hlt hS hQ hs l _ _ hl.2 hB.2 hk)
      rwa [show (i :: hs).length + ts.length = hs.length + ts.length + 1 by simp only [List.length_cons]; omega]

def picks (l : List Oper) (hs : List Nat) : List Oper := hs.map (fun t => l.getD t default)
theorem picks_spec (l : List Oper) : ∀ (hs : List Nat), hs.all (fun t => decide (t < l.length)) = true → (picks l hs).map some = hs.map (fun t => l.toArray[t]?)
  | [], _ => rfl
  | t :: hs, h => by
    simp only [List.all_cons, Bool.and_eq_true, decide_eq_true_eq] at h
    have ih := picks_spec l hs h.2
    unfold picks at *
    simp only [List.map_cons, ih]
    congr 1
    simp [List.getElem?_eq_getElem h.1]
theorem wp_plan_draw {id : Nat} {Q : Exit → Act → World → Prop} {a : Act} {w : World} {l : List Oper} (hs ts : List Nat) (S : World → Prop) (hm : P.follows .mixedOrders = true)
    (hB : (planB .any l.toArray hs ts && (hs ++ ts).all (fun t => decide (t < l.length))) = true)
    (hQ : ∀ c (a : Act) (d : Option Tmp) v w, Q (.panic c) (a.put d v) w → Q (.panic c) a w) (hS : S { w with drawn := w.drawn + 1 })
    (h : ReadRun P l.toArray S (fun a' => TailRun P S Q (picks l ts) a' { w with drawn := w.drawn + 1 }) (picks l hs) a) : (Code.region id l.toArray true).wp P Q a w := by
  simp only [planB, Bool.and_eq_true, decide_eq_true_eq, List.all_append] at hB
  obtain ⟨⟨⟨hsel, hlen⟩, hB⟩, hb1, hb2⟩ := hB
  refine wp_region_held (S := S) hm ?_
  have := head_any (md := .any) (Q := Q) hsel (picks_spec l ts hb2) hS hQ hs (picks l hs) (Array.replicate l.toArray.size false) a (picks_spec l hs hb1) hB h
  rwa [hlen] at this

theorem ReadRun.go {F : Act → Prop} {o : Oper} {rest : List Oper} {a : Act} {v : Value} (hg : o.guard = none)
    (h : ∀ w, S w → (execOp a.eval o).run P w = .ok (.value v) w) (hr : ReadRun P ops S F rest (a.put o.dst v)) : ReadRun P ops S F (o :: rest) a :=
  ⟨v, .inl ⟨by simp [Region.wanted, hg], h⟩, hr⟩
theorem ReadRun.done {F : Act → Prop} {a : Act} (h : F a) : ReadRun P ops S F [] a := h
theorem TailRun.go {Q : Exit → Act → World → Prop} {o : Oper} {rest : List Oper} {a : Act} {w : World} (hg : o.guard = none)
    (h : ∀ K : Act → World → Prop, (∀ a' w', S w' ∧ TailRun P S Q rest a' w' → K a' w') → o.wp P a w K Q) : TailRun P S Q (o :: rest) a w :=
  ⟨hg, fun K hK => h K (fun a' w' h' => hK a' w' h'.1 h'.2)⟩
theorem TailRun.done {Q : Exit → Act → World → Prop} {a : Act} {w : World} (h : Q .normal a w) : TailRun P S Q [] a w := h

/-! One row may have been written. -/
theorem mod_refl (w : World) (row : Option Nat) : w.grownBy w row := ⟨rfl, rfl, rfl, Nat.le_refl _, fun _ _ _ => rfl⟩
theorem mod_below {w w' w'' : World} {row : Option Nat} (h : w.grownBy w' row) (hb : Below w'.heap.size w' w'') : w.grownBy w'' row :=
  ⟨hb.os.trans h.os, hb.tape.trans h.tape, hb.output.trans h.output, Nat.le_trans h.size hb.size, fun k hk hne => (hb.block k (Nat.lt_of_lt_of_le hk h.size)).trans (h.block k hk hne)⟩
theorem mod_set {w w' : World} {g : Nat} (h : w.grownBy w' (some g)) (o : Nat) (v : Value) : w.grownBy (w'.setCell ⟨g, o, none⟩ v) (some g) :=
  ⟨h.os, h.tape, h.output, by rw [World.size_setCell]; exact h.size, fun k hk hne => by rw [Below.heap_setCell _ _ _ _ (fun e => hne (by rw [e]))]; exact h.block k hk hne⟩
theorem mod_trans {w w' w'' : World} {row : Option Nat} (h : w.grownBy w' row) (h' : w'.grownBy w'' row) : w.grownBy w'' row :=
  ⟨h'.os.trans h.os, h'.tape.trans h.tape, h'.output.trans h.output, Nat.le_trans h.size h'.size, fun k hk hne => (h'.block k (Nat.lt_of_lt_of_le hk h.size) hne).trans (h.block k hk hne)⟩
theorem mod_of_below {w w' : World} (row : Option Nat) (hb : Below w.heap.size w w') : w.grownBy w' row := mod_below (mod_refl w row) hb
theorem below_of_mod {B : Nat} {a w w' : World} {g : Nat} (h : Below B a w) (hm : w.grownBy w' (some g)) (hB : B ≤ w.heap.size) (hg : B ≤ g) : Below B a w' :=
  h.grown hm hB (fun k hk => by cases hk; exact hg)
end
end Go.Proofs.YtobhandimolmhaaDoor
