/-
  SleepWaits: a thread that sleeps on can do its action behind an event just if it could ahead of it, and both ways round are the same execution but for exchanges; for every input (the tables laid).
-/
import Derived.Test.YtjhlehepnhbbaaaDoorSwpA
import Derived.Deep.Upon
import Derived.Test.YtjhlehepnhbbaaaDoorReg3
import Derived.Test.YtjhlehepnhbbaaaDoorBehind
import Derived.Deep.Cut
import Derived.Test.YtjhlehepnhbbaaaDoorLaid
set_option linter.unusedSimpArgs false
set_option linter.unusedVariables false
namespace Go.Proofs.YtjhlehepnhbbaaaDoor
open Go.ChangeShapes Go.WideShapes Go.ChangeAt Go.RowKit Go.Deep

/-- An append of a slice of events that came in to nothing. -/
theorem wpList_cpEvs {w : World} {ops : Array Oper} {rest : List Oper} {o : Oper} {a : Act} {Q : Exit → Act → World → Prop} {a0 : Option Addr} {n c : Nat} {l : List Ev} (h : IsEvs w a0 n c l) (hgd : o.guard = none) (s x : Operand)
    (ho : o.op = .call { callee := .builtin .append, args := #[s, x], argTypes := #[22, 22] }) (base : Nat) {va : Option Addr} (hs : a.eval s = .slice va 0 0) (hown : w.ownsRow base 24 5 (.slice va 0 0) 0 []) (hx : a.eval x = .slice a0 n c) (hcap : n ≤ 1000) (hbase : base ≤ w.heap.size)
    (hk : ∀ v' w', OwnL eltEv w' base v' l → Wrote (fun q => Value.ownBlock (.slice va 0 0) = some q) w w' → wpList Tryd.prog ops Q rest (a.put o.dst v') w') : wpList Tryd.prog ops Q (o :: rest) a w := by
  obtain ⟨i0, hi, hz0, hz1, hz2⟩ := info_parts infoEv
  rcases Nat.eq_zero_or_pos n with h0 | h0
  · subst h0
    have hl : l = [] := List.eq_nil_of_length_eq_zero h.len
    subst hl
    have hsrc : Src Tryd.prog i0.size 22 (.slice a0 0 c) 0 [] w := by
      cases a0 with
      | none => exact Src.ofNil w (e' := 24) Tryd.underlying22 c
      | some ad => exact Src.ofSlice w (e' := 24) Tryd.underlying22 ad 0 c [] (by simp) (fun j u hu => by simp at hu) (fun u hu => by cases hu)
    have hrun := run_append_nothing (P := Tryd.prog) w 22 22 o.type 24 i0 Tryd.underlying22 hi va 0 0 (Nat.le_refl _) (.slice a0 0 c) hsrc
    refine wpList_plain hgd fun K hK => ?_
    unfold Oper.wp
    simp [execOp, ho, resolve, invoke, builtin, hs, hx, hrun, Result.andThen]
    exact hK _ _ (hk _ _ ⟨hown⟩ (Wrote.of_below (Below.refl _ _)))
  · obtain ⟨b, off, he, hc⟩ := h.reads.2 h0
    subst he
    refine wpList_append_own w hgd s x 22 ho base 24 i0 (.agg #[.int .i64 0, .int .i64 0, .int .i64 0, .int .i64 0, .int .i64 0]) 5 40 Tryd.underlying22 hi hz0 hz1 hz2 rfl (by decide) _ 0 [] hs hown ⟨b, off, none⟩ n c (evCells l) hx (by rw [evCells, flat_len Ev.vals 5 (fun _ => rfl), h.len]) (fun j u hu => by
      have := hc j u hu
      unfold Addr.add
      split
      · rename_i hj; subst hj; exact this
      · exact this) (cells_one l) (by unfold maxLen; omega) (by omega) hbase ?_
    intro v' w' h1 h2 _
    refine hk v' w' ⟨?_⟩ (Wrote.of_grown h2 (fun q hq => hq))
    rw [h.len]
    have h3 : w'.ownsRow base 24 5 v' n (evCells l) := by simpa using h1
    exact h3

end Go.Proofs.YtjhlehepnhbbaaaDoor

namespace Go.Proofs.YtjhlehepnhbbaaaDoor
open Go Go.RowKit

theorem Ex.two {l : List Ev} {e w : Ev} (h : depE w e = false) : Ex (l ++ [w, e]) (l ++ [e, w]) l.length := by
  have g0 : (l ++ [w, e]).getD l.length ev00 = w := by rw [List.getD_eq_getElem?_getD, List.getElem?_append_right (Nat.le_refl _), Nat.sub_self]; rfl
  have g1 : (l ++ [w, e]).getD (l.length + 1) ev00 = e := by rw [List.getD_eq_getElem?_getD, List.getElem?_append_right (by omega), show l.length + 1 - l.length = 1 by omega]; rfl
  have hx := Ex.of (l := l ++ [w, e]) (i := l.length) (by simp) (by rw [g0, g1]; exact h)
  rw [g0, g1] at hx
  have : swapAt (l ++ [w, e]) l.length w e = l ++ [e, w] := by
    unfold swapAt
    rw [List.set_append_right _ _ (Nat.le_refl _), Nat.sub_self, List.set_append_right _ _ (by omega), show l.length + 1 - l.length = 1 by omega]
    rfl
  rw [this] at hx
  exact hx
structure WaitsAt (n : Nat) (l : List Ev) (S : LogS) (e w : Ev) : Prop where
  can : canB (addS S e) w.t w.k w.o = canB S w.t w.k w.o
  y : addE S w = 0 → n + 2 ≤ 100 → wrongS (n + 2) (l ++ [w, e]) = 0
  x : addE S w = 0 → n + 2 ≤ 100 → wrongS (n + 2) (l ++ [e, w]) = 0
  tr : Tr (l ++ [w, e]) (l ++ [e, w])
theorem waitsAt {n : Nat} {l : List Ev} {S : LogS} {e w : Ev} (hR : ofS l = (S, 0, 0)) (he : addE S e = 0) (hd : depE w e = false) : WaitsAt n l S e w := by
  have hi : Indep w e := Indep.of hd
  have ht : Tr (l ++ [w, e]) (l ++ [e, w]) := Tr.one (Ex.two hd)
  obtain ⟨re, ke⟩ := addE_ok he
  have hS : takes log0 l = S := (ofS_takes hR).symm
  have hy : addE S w = 0 → okL log0 (l ++ [w, e]) := fun hw => by
    obtain ⟨rw', kw⟩ := addE_ok hw
    refine okL_app.2 ⟨okL_of hR, ?_⟩
    rw [hS]
    refine ⟨hw, ?_, trivial⟩
    rw [addE_zero hw]
    exact addE_of re (by rw [okB_off rw' kw hi re]; exact ke)
  refine ⟨by rw [addE_zero he]; exact canB_off re ke hi.symm, fun hw hn => ?_, fun hw hn => ?_, ht⟩
  · unfold wrongS; rw [if_neg (by omega), ofS_okL (hy hw)]
  · obtain ⟨T, hT, _⟩ := ht.ok (ofS_okL (hy hw))
    unfold wrongS; rw [if_neg (by omega), hT]
end Go.Proofs.YtjhlehepnhbbaaaDoor

namespace Go.Proofs.YtjhlehepnhbbaaaDoor
open Go Go.RowKit

section
variable {P : Program} {ops : Array Oper} {md : Region.Mode} {S : World → Prop} {Q : Exit → Act → World → Prop}

/-- One maker; F: what is behind it. -/
def MStep (P : Program) (S : World → Prop) (Q : Exit → Act → World → Prop) (F : Act → World → Prop) (o : Oper) (a : Act) (w : World) : Prop :=
  o.guard = none ∧ ∀ K : Act → World → Prop, (∀ a' w', S w' → F a' w' → K a' w') → o.wp P a w K Q
theorem MStep.go {F : Act → World → Prop} {o : Oper} {a : Act} {w : World} (hg : o.guard = none) (h : ∀ K : Act → World → Prop, (∀ a' w', S w' ∧ F a' w' → K a' w') → o.wp P a w K Q) : MStep P S Q F o a w := ⟨hg, fun K hK => h K (fun a' w' h' => hK a' w' h'.1 h'.2)⟩
theorem step_any {n f x : Nat} {L : Array Bool → Act → World → Prop} {F : Act → World → Prop} {listed : Array Bool} {o : Oper} {a : Act} {w : World} (ho : ops[x]? = some o) (h : MStep P S Q F o a w)
    (k : ∀ a' w', S w' → F a' w' → anyHL P md ops Q S n L f (listed.setIfInBounds x true) a' w') : wpOp P ops Q x (fun a' w' => S w' ∧ anyHL P md ops Q S n L f (listed.setIfInBounds x true) a' w') a w := by
  unfold wpOp
  simp only [ho]
  rw [if_pos (by simp [Region.wanted, h.1])]
  exact .inl (h.2 _ (fun a' w' hS ht => ⟨hS, k a' w' hS ht⟩))
theorem node1 {n f x : Nat} {L : Array Bool → Act → World → Prop} {F : Act → World → Prop} {listed : Array Bool} {o : Oper} {a : Act} {w : World} (hr : Region.ready md ops listed = [x]) (hx : x < n) (ho : ops[x]? = some o) (h : MStep P S Q F o a w)
    (k : ∀ a' w', S w' → F a' w' → anyHL P md ops Q S n L f (listed.setIfInBounds x true) a' w') : anyHL P md ops Q S n L (f + 1) listed a w := by
  refine ⟨by rw [hr]; simp, fun i hi => ?_⟩
  rw [hr] at hi
  have hix : i = x := by simpa using hi
  subst hix
  exact ⟨hx, step_any ho h k⟩
theorem node2 {n f x y : Nat} {L : Array Bool → Act → World → Prop} {F G : Act → World → Prop} {listed : Array Bool} {o u : Oper} {a : Act} {w : World} (hr : Region.ready md ops listed = [x, y]) (hx : x < n) (hy : y < n) (ho : ops[x]? = some o) (hu : ops[y]? = some u)
    (h : MStep P S Q F o a w) (k : ∀ a' w', S w' → F a' w' → anyHL P md ops Q S n L f (listed.setIfInBounds x true) a' w')
    (h' : MStep P S Q G u a w) (k' : ∀ a' w', S w' → G a' w' → anyHL P md ops Q S n L f (listed.setIfInBounds y true) a' w') : anyHL P md ops Q S n L (f + 1) listed a w := by
  refine ⟨by rw [hr]; simp, fun i hi => ?_⟩
  rw [hr] at hi
  rcases List.mem_cons.1 hi with rfl | hi
  · exact ⟨hx, step_any ho h k⟩
  · have hiy : i = y := by simpa using hi
    subst hiy
    exact ⟨hy, step_any hu h' k'⟩

/-- p ahead of q, r by itself. -/
def VeeRun (P : Program) (S : World → Prop) (Q : Exit → Act → World → Prop) (F : Act → World → Prop) (p q r : Oper) (a : Act) (w : World) : Prop :=
  MStep P S Q (fun a w => MStep P S Q (MStep P S Q F r) q a w ∧ MStep P S Q (MStep P S Q F q) r a w) p a w ∧ MStep P S Q (MStep P S Q (MStep P S Q F q) p) r a w
def veeB (md : Region.Mode) (ops : Array Oper) (n p q r : Nat) (L : Array Bool) : Bool :=
  decide (p < n) && decide (q < n) && decide (r < n) &&
  decide (Region.ready md ops L = [p, r]) && decide (Region.ready md ops (L.setIfInBounds p true) = [q, r]) && decide (Region.ready md ops ((L.setIfInBounds p true).setIfInBounds q true) = [r]) &&
  decide (Region.ready md ops ((L.setIfInBounds p true).setIfInBounds r true) = [q]) && decide (Region.ready md ops (L.setIfInBounds r true) = [p]) && decide (Region.ready md ops ((L.setIfInBounds r true).setIfInBounds p true) = [q]) &&
  Region.seqB md ops (ops.size - n) n (((L.setIfInBounds p true).setIfInBounds q true).setIfInBounds r true) && Region.seqB md ops (ops.size - n) n (((L.setIfInBounds p true).setIfInBounds r true).setIfInBounds q true) &&
  Region.seqB md ops (ops.size - n) n (((L.setIfInBounds r true).setIfInBounds p true).setIfInBounds q true)
theorem vee_any {n p q r : Nat} {F : Act → World → Prop} {op oq or : Oper} {listed : Array Bool} {a : Act} {w : World} (hp : ops[p]? = some op) (hq : ops[q]? = some oq) (hr : ops[r]? = some or) (hB : veeB md ops n p q r listed = true) (h : VeeRun P S Q F op oq or a w) :
    anyHL P md ops Q S n (fun l' a' w' => Region.seqB md ops (ops.size - n) n l' = true ∧ F a' w') 3 listed a w := by
  simp only [veeB, Bool.and_eq_true, decide_eq_true_eq] at hB
  obtain ⟨⟨⟨⟨⟨⟨⟨⟨⟨⟨⟨b1, b2⟩, b3⟩, r1⟩, r2⟩, r3⟩, r4⟩, r5⟩, r6⟩, s1⟩, s2⟩, s3⟩ := hB
  refine node2 r1 b1 b3 hp hr h.1 (fun a1 w1 _ h1 => ?_) h.2 (fun a1 w1 _ h1 => ?_)
  · exact node2 r2 b2 b3 hq hr h1.1 (fun a2 w2 _ h2 => node1 r3 b3 hr h2 (fun a3 w3 _ h3 => ⟨s1, h3⟩)) h1.2 (fun a2 w2 _ h2 => node1 r4 b2 hq h2 (fun a3 w3 _ h3 => ⟨s2, h3⟩))
  · exact node1 r5 b1 hp h1 (fun a2 w2 _ h2 => node1 r6 b2 hq h2 (fun a3 w3 _ h3 => ⟨s3, h3⟩))

/-- THE RULE: heads hs (they only read), then makers p ahead of q with r beside them, the rest from n on (they wait for all). -/
theorem wp_vee_draw {id : Nat} {a : Act} {w : World} {l : List Oper} (n : Nat) (hs : List Nat) (p q r : Nat) (S : World → Prop) (hm : P.follows .mixedOrders = true)
    (hB : ((Region.noSelect l.toArray && (decide (n = l.toArray.size) || decide (n < l.toArray.size) && Region.sinkB .any l.toArray n && Region.chainB .any l.toArray n) && decide (hs.length + 3 = n) &&
      plan3Head .any l.toArray n (veeB .any l.toArray n p q r) hs (Array.replicate l.toArray.size false)) && (hs ++ [p, q, r]).all (fun t => decide (t < l.length))) = true)
    (hQ : ∀ c (a : Act) (d : Option Tmp) v w, Q (.panic c) (a.put d v) w → Q (.panic c) a w) (hS : S { w with drawn := w.drawn + 1 })
    (h : ReadRun P l.toArray S (fun a' => VeeRun P S Q (fun a2 w2 => wpList P l.toArray Q (l.drop n) a2 w2) (l.getD p default) (l.getD q default) (l.getD r default) a' { w with drawn := w.drawn + 1 }) (picks l hs) a) : (Code.region id l.toArray true).wp P Q a w := by
  simp only [Bool.and_eq_true, decide_eq_true_eq, List.all_append] at hB
  obtain ⟨⟨⟨⟨hsel, ht⟩, hlen⟩, hB⟩, hb1, hb2⟩ := hB
  obtain ⟨hn, htail⟩ := textB_tail ht
  have hdl : (l.drop n).length = l.toArray.size - n := by simp
  have inv0 : HeadInv .any l.toArray n (Array.replicate l.toArray.size false) :=
    ⟨by simp, fun j oj _ hl => (by rw [getD_replicate_false] at hl; cases hl), fun t _ ht => getD_in (by simpa using ht) (getD_replicate_false _ _)⟩
  have hat : ∀ t, t < l.length → l.toArray[t]? = some (l.getD t default) := fun t ht => by
    rw [List.getElem?_toArray, List.getD_eq_getElem?_getD, List.getElem?_eq_getElem ht]; rfl
  simp only [List.all_cons, List.all_nil, Bool.and_true, Bool.and_eq_true, decide_eq_true_eq] at hb2
  have H := head3_any (md := .any) (S := S) (Q := Q) (n := n) (f2 := 3) (g := l.toArray.size - n) (G := fun a' w' => wpList P l.toArray Q (l.drop n) a' w') hsel hS htail hQ
    (fun listed a hE inv hF => vee_any (hat p hb2.1) (hat q hb2.2.1) (hat r hb2.2.2) hE hF)
    hs (picks l hs) _ a (picks_spec l hs hb1) inv0 hB h
  refine wp_region_any hm ?_
  have := wpAny_of_anyHL (g := l.toArray.size - n) (fun listed a' w' hL => by
    have := wpAny_of_seq (md := .any) (Q' := Q) (l.drop n) n listed a' w' (fun j => by simp [List.getElem?_drop]) (by rw [hdl]; exact hL.1) hL.2
    rwa [hdl] at this) _ _ _ _ H
  rw [hlen, show n + (l.toArray.size - n) = l.toArray.size by omega] at this
  exact this
theorem MStep.mono {F G : Act → World → Prop} {o : Oper} {a : Act} {w : World} (h : MStep P S Q F o a w) (hk : ∀ a' w', S w' → F a' w' → G a' w') : MStep P S Q G o a w :=
  ⟨h.1, fun K hK => h.2 K fun a' w' hS hf => hK a' w' hS (hk a' w' hS hf)⟩
/-- The ways meet again: what is left of the order are the three values and what is said of them. -/
theorem VeeRun.cut {F : Act → World → Prop} {p q r : Oper} {A : Act} {w : World} (R : Value → Value → Value → World → Prop)
    (h : VeeRun P S Q (fun a2 w2 => ∃ u v x, a2 = ((A.put p.dst u).put q.dst v).put r.dst x ∧ R u v x w2) p q r A w)
    (k : ∀ u v x w2, R u v x w2 → F (((A.put p.dst u).put q.dst v).put r.dst x) w2) : VeeRun P S Q F p q r A w := by
  have hk : ∀ a2 w2, S w2 → (∃ u v x, a2 = ((A.put p.dst u).put q.dst v).put r.dst x ∧ R u v x w2) → F a2 w2 := fun a2 w2 _ ⟨u, v, x, he, hr⟩ => by rw [he]; exact k u v x w2 hr
  exact ⟨h.1.mono fun a1 w1 _ h1 => ⟨h1.1.mono fun a2 w2 _ h2 => h2.mono hk, h1.2.mono fun a2 w2 _ h2 => h2.mono hk⟩, h.2.mono fun a1 w1 _ h1 => h1.mono fun a2 w2 _ h2 => h2.mono hk⟩
end
end Go.Proofs.YtjhlehepnhbbaaaDoor

namespace Go.Proofs.YtjhlehepnhbbaaaDoor
open Go.ChangeShapes Go.WideShapes Go.ChangeAt Go.RowKit Go.Deep

theorem wp_cpEvs {w : World} {o : Oper} {a : Act} {K : Act → World → Prop} {Q : Exit → Act → World → Prop} {a0 : Option Addr} {n c : Nat} {l : List Ev} (h : IsEvs w a0 n c l) (s x : Operand)
    (ho : o.op = .call { callee := .builtin .append, args := #[s, x], argTypes := #[22, 22] }) (base : Nat) {va : Option Addr} (hs : a.eval s = .slice va 0 0) (hown : w.ownsRow base 24 5 (.slice va 0 0) 0 []) (hx : a.eval x = .slice a0 n c) (hcap : n ≤ 1000) (hbase : base ≤ w.heap.size)
    (hk : ∀ v' w', OwnL eltEv w' base v' l → Wrote (fun q => Value.ownBlock (.slice va 0 0) = some q) w w' → (∀ q, v'.ownBlock = some q → base ≤ q) → K (a.put o.dst v') w') : o.wp Tryd.prog a w K Q := by
  obtain ⟨i0, hi, hz0, hz1, hz2⟩ := info_parts infoEv
  rcases Nat.eq_zero_or_pos n with h0 | h0
  · subst h0
    have hl : l = [] := List.eq_nil_of_length_eq_zero h.len
    subst hl
    have hsrc : Src Tryd.prog i0.size 22 (.slice a0 0 c) 0 [] w := by
      cases a0 with
      | none => exact Src.ofNil w (e' := 24) Tryd.underlying22 c
      | some ad => exact Src.ofSlice w (e' := 24) Tryd.underlying22 ad 0 c [] (by simp) (fun j u hu => by simp at hu) (fun u hu => by cases hu)
    have hrun := run_append_nothing (P := Tryd.prog) w 22 22 o.type 24 i0 Tryd.underlying22 hi va 0 0 (Nat.le_refl _) (.slice a0 0 c) hsrc
    unfold Oper.wp
    simp [execOp, ho, resolve, invoke, builtin, hs, hx, hrun, Result.andThen]
    exact hk _ _ ⟨hown⟩ (Wrote.of_below (Below.refl _ _)) (fun q hq => (hown.lt q hq).1)
  · obtain ⟨b, off, he, hc⟩ := h.reads.2 h0
    subst he
    refine wp_append_at w s x 22 ho base 24 i0 (.agg #[.int .i64 0, .int .i64 0, .int .i64 0, .int .i64 0, .int .i64 0]) 5 40 Tryd.underlying22 hi hz0 hz1 hz2 rfl (by decide) _ 0 [] hs hown ⟨b, off, none⟩ n c (evCells l) hx (by rw [evCells, flat_len Ev.vals 5 (fun _ => rfl), h.len]) (fun j u hu => by
      have := hc j u hu
      unfold Addr.add
      split
      · rename_i hj; subst hj; exact this
      · exact this) (cells_one l) (by unfold maxLen; omega) (by omega) hbase ?_
    intro v' w' h1 h2 _ _
    refine hk v' w' ⟨?_⟩ (Wrote.of_grown h2 (fun q hq => hq)) (fun q hq => (h1.lt q hq).1)
    rw [h.len]
    have h3 : w'.ownsRow base 24 5 v' n (evCells l) := by simpa using h1
    exact h3

/-- A list of events behind a list of one's own. -/
theorem wpList_pushRow {w : World} {ops : Array Oper} {rest : List Oper} {o : Oper} {a : Act} {Q : Exit → Act → World → Prop} (hgd : o.guard = none) (s x : Operand)
    (ho : o.op = .call { callee := .builtin .append, args := #[s, x], argTypes := #[22, 22] }) {v : Value} {B : Nat} {xs ys : List Ev} {b off c : Nat}
    (hs : a.eval s = v) (hx : a.eval x = .slice (some ⟨b, off, none⟩) ys.length c) (hown : OwnL eltEv w B v xs) (hy : IsEvs w (some ⟨b, off, none⟩) ys.length c ys) (h0 : 0 < ys.length) (hB : B ≤ w.heap.size) (hcap : xs.length + ys.length < 1000000)
    (h : ∀ v' w', OwnL eltEv w' B v' (xs ++ ys) → Wrote (fun q => v.ownBlock = some q) w w' → (∀ q, v'.ownBlock = some q → v.ownBlock = some q ∨ w.heap.size ≤ q) → wpList Tryd.prog ops Q rest (a.put o.dst v') w') :
    wpList Tryd.prog ops Q (o :: rest) a w := by
  obtain ⟨i0, hi, hz, hs1, hyb⟩ := info_at infoEv
  refine wpList_append_at w hgd s x 22 ho B 24 i0 (.agg #[.int .i64 0, .int .i64 0, .int .i64 0, .int .i64 0, .int .i64 0]) 5 40 Tryd.underlying22 hi hz hs1 hyb rfl (by decide) v xs.length (evCells xs) hs hown.own ⟨b, off, none⟩ ys.length c (evCells ys) hx
    (flat_len Ev.vals 5 (fun _ => rfl) ys) (fun j u hu => ?_) (cells_one ys) (by unfold maxLen; omega) (by omega) hB (fun v' w' hown' hg _ hv' => ?_)
  · obtain ⟨b', off', he, hc⟩ := hy.reads.2 h0
    cases he
    have := hc j u hu
    unfold Addr.add
    split
    · rename_i hj; subst hj; exact this
    · exact this
  · refine h v' w' ⟨?_⟩ (Wrote.of_grown hg (fun q hq => hq)) hv'
    rw [List.length_append, List.flatMap_append]
    exact hown'

/-- Two events in a row of their own. -/
theorem evs_two (W : World) (x y : Ev) (hx : x.wf) (hy : y.wf) : IsEvs (W.alloc (.cells #[.int .i64 x.t, .int .i64 x.k, .int .i64 x.o, .int .i64 x.v, .int .i64 x.b, .int .i64 y.t, .int .i64 y.k, .int .i64 y.o, .int .i64 y.v, .int .i64 y.b] 24)) (some ⟨W.heap.size, 0, none⟩) 2 2 [x, y] := by
  have h := (MapKept.heap_alloc W (.cells #[.int .i64 x.t, .int .i64 x.k, .int .i64 x.o, .int .i64 x.v, .int .i64 x.b, .int .i64 y.t, .int .i64 y.k, .int .i64 y.o, .int .i64 y.v, .int .i64 y.b] 24)).1
  refine ⟨⟨rfl, fun _ => ⟨W.heap.size, 0, rfl, fun j u hu => ?_⟩⟩, rfl, Nat.le_refl _, by unfold maxLen; omega, fun e he => ?_⟩
  · rw [Nat.zero_add]
    simp only [World.cell?, h]
    have hj : (evCells [x, y])[j]? = some u := hu
    have e1 : evCells [x, y] = [.int .i64 x.t, .int .i64 x.k, .int .i64 x.o, .int .i64 x.v, .int .i64 x.b, .int .i64 y.t, .int .i64 y.k, .int .i64 y.o, .int .i64 y.v, .int .i64 y.b] := rfl
    rw [e1] at hj
    simpa using hj
  · simp only [List.mem_cons, List.not_mem_nil, or_false] at he
    rcases he with rfl | rfl
    · exact hx
    · exact hy
end Go.Proofs.YtjhlehepnhbbaaaDoor

namespace Go.Proofs.YtjhlehepnhbbaaaDoor
open Go.ChangeShapes Go.WideShapes Go.ChangeAt Go.RowKit Go.Deep

theorem wrong_tr {n : Nat} {l m : List Ev} (h : Tr l m) (hw : wrongS n l = 0) : wrongS n m = 0 := by
  have hn := wrong_le16 hw
  obtain ⟨S, hS⟩ : ∃ S, ofS l = (S, 0, 0) := wrong_ofS hw
  obtain ⟨T, hT, _⟩ := h.ok hS
  unfold wrongS
  rw [if_neg (by omega), hT]
theorem swp_ok {n : Nat} {x : List Ev} {i : Int} (hw : wrongS n x = 0) (hl : x.length = n) (h : (swpRes n x i).2 = 0) : Tr x (swpRes n x i).1 ∧ (swpRes n x i).1.length = n := by
  unfold swpRes at h ⊢
  rw [if_neg (by rw [hw]; simp)] at h ⊢
  by_cases h1 : i < 0 ∨ (n : Int) - 1 ≤ i
  · rw [if_pos h1] at h; simp at h
  · rw [if_neg h1] at h ⊢
    by_cases h2 : depE (x.getD i.toNat ev00) (x.getD (i.toNat + 1) ev00) = true
    · rw [if_pos h2] at h; simp at h
    · rw [if_neg h2]
      exact ⟨Tr.one (Ex.of (by omega) (by simpa using h2)), by rw [swap_len]; exact hl⟩

/-- What exchanged hands back. -/
def ExPost (w : World) (n : Nat) (l : List Ev) (e : Ending) (w' : World) : Prop := ∃ x a c, e = .returned (.slice a n c) ∧ IsEvs w' a n c x ∧ Tr l x ∧ Below w.heap.size w w'
end Go.Proofs.YtjhlehepnhbbaaaDoor

namespace Go.Proofs.YtjhlehepnhbbaaaDoor
open Go.ChangeShapes Go.WideShapes Go.ChangeAt Go.RowKit Go.Deep

theorem two_ints (w : World) : IsInts (w.alloc (.cells #[.int .i64 0, .int .i64 1] 3)) (some ⟨w.heap.size, 0, none⟩) 2 2 [0, 1] := by
  have h := (MapKept.heap_alloc w (.cells #[.int .i64 0, .int .i64 1] 3)).1
  refine ⟨⟨by simp, fun _ => ⟨w.heap.size, 0, rfl, fun j u hu => ?_⟩⟩, rfl, Nat.le_refl _, by unfold maxLen; omega, fun x hx => ?_⟩
  · rw [cell_blk h, Nat.zero_add]
    have hj : j < 2 := by
      have := (List.getElem?_eq_some_iff.1 hu).1
      simpa using this
    obtain rfl | rfl : j = 0 ∨ j = 1 := by omega
    all_goals exact hu
  · simp only [List.mem_cons, List.not_mem_nil, or_false] at hx
    rcases hx with rfl | rfl
    all_goals exact Fit.of (by decide) (by decide)

set_option maxHeartbeats 1000000 in
theorem awake17_calls (w : World) : Calls Tryd.prog 4 #[] w fun e w' => e = .returned (.bool true) ∧ Below w.heap.size w w' := by
  have e1 : maskN [0, 1] = 3 := by decide
  have e2 : popT (3 % 256) 8 = 2 := by decide
  have hlen : ∀ W, Calls Tryd.prog 13 #[.int .u64 3] W fun e w' => e = .returned (.int .i64 2) ∧ W = w' := fun W => by
    have := len_calls W (s := 3) (by omega)
    rw [e2] at this
    exact this
  have ht := Lib.hid (two_ints w)
  have H1 := Lib.hid e1
  clear e1 e2
  go_enter Tryd.func4, Tryd.ntmps4
  go_wp2_with fail
  refine (sof_calls ht.out).mono ?_
  rintro e w1 ⟨rfl, hb⟩
  rw [H1.out]
  have hB_w1 : Below w.heap.size w w1 := Below.trans ((Below.refl _ _).alloc (Nat.le_refl _) _) (hb.mono (by simp))
  clear hb
  go_wp2_with fail
  refine (hlen _).mono ?_
  rintro e w2 ⟨rfl, rfl⟩
  go_wp2
  go_ret
  exact ⟨rfl, hB_w1⟩

/-- A state like the one a bad list leaves. -/
def logZ : LogS := { l := [], st := fun _ => 0, la := fun _ => -1, ow := fun _ => 0 }
theorem zArr_st : zArr = stArr logZ.st logZ.ow := rfl
theorem goodZ : ∀ i, logZ.st i ≠ 2 := fun i => by unfold logZ; simp
set_option maxRecDepth 20000 in
set_option maxHeartbeats 8000000 in
theorem sadd_still {w : World} {b : Nat} {S : LogS} (h : StateAt w b S) (e : Ev) (hr : rB e = true) (hn : S.st e.t.toNat ≠ 2) :
    Calls Tryd.prog 6 #[.pointer (some ⟨b, 0, none⟩), .agg #[.int .i64 e.t, .int .i64 e.k, .int .i64 e.o, .int .i64 e.v, .int .i64 e.b]] w (SPost b S e w) := by
  have hcan := canB_of (S := S) hr
  obtain ⟨t0, t8⟩ := inB_iff.1 (right_in hr)
  have Hr := Lib.hid hr
  have H := Lib.hid h
  have hno := fun w' hb (hz : addE S e = 121) => SPost.no (w' := w') (e := e) h hb hz (by
    unfold addE at hz; rw [if_pos hr] at hz
    unfold addS; rw [hr, Bool.true_and]
    split at hz
    · cases hz
    · rename_i hk; rw [if_neg hk])
  have Hno := Lib.hid hno
  clear hno
  unfold rB at hr
  obtain ⟨t, k, o, v, x⟩ := e
  simp only at hr t0 t8 hcan Hno hn
  obtain ⟨i, rfl⟩ := Int.eq_ofNat_of_zero_le t0
  have hi8 : i < 8 := by omega
  have c1 := h.cst hi8
  rw [Int.toNat_natCast] at hcan
  have hblt := h.lt
  clear t0 t8 h
  rw [Int.toNat_natCast] at hn
  have hs : (S.st i == 2) = false := by simpa using hn
  have hs' : (S.st i != 2) = true := by rw [bne, hs]; rfl
  have hz : addE S ⟨i, k, o, v, x⟩ = 121 := by
    unfold addE; rw [Hr.out, if_pos rfl]; unfold okB; simp only; rw [hcan, hs]; rfl
  have Hz := Lib.hid hz
  clear hz hcan hs
  go_enter Tryd.func6, Tryd.ntmps6
  go_wp2_with fail
  refine (rright_calls _ _ _ _ _ _).mono ?_
  rintro e y1 ⟨rfl, hb⟩
  have hc_y1 := bcell hb
  have hB_y1 : Below w.heap.size w y1 := Below.trans (by go_grown) (hb.mono (by first | omega | (simp <;> omega)))
  have hS_y1 := hb.size
  try simp at hS_y1
  have hA_y1_0 : ∀ x, x < w.heap.size + 1 → x < y1.heap.size := (fun x hx => by omega)
  have hL_y1 : ∀ x, x < w.heap.size → x < y1.heap.size := (fun x hx => by omega)
  clear hb
  have c1_y1 := keep hB_y1 c1
  rw [hr]
  have e0 : y1.cell? ⟨w.heap.size, 0, none⟩ = some (.int .i64 i) := (hc_y1.1 _ _ (by simp)).trans (cell_new rfl)
  have e1 : y1.cell? ⟨w.heap.size, 1, none⟩ = some (.int .i64 k) := (hc_y1.1 _ _ (by simp)).trans (cell_new rfl)
  have e2 : y1.cell? ⟨w.heap.size, 2, none⟩ = some (.int .i64 o) := (hc_y1.1 _ _ (by simp)).trans (cell_new rfl)
  have e3 : y1.cell? ⟨w.heap.size, 3, none⟩ = some (.int .i64 v) := (hc_y1.1 _ _ (by simp)).trans (cell_new rfl)
  have e4 : y1.cell? ⟨w.heap.size, 4, none⟩ = some (.int .i64 x) := (hc_y1.1 _ _ (by simp)).trans (cell_new rfl)
  have hE1 : EvBox y1 w.heap.size i k o v x := ⟨e0, e1, e2, e3, e4⟩
  go_wp2_with fail
  refine wp_ext_draw 8 mixed (by kernel_rfl) ?_
  simp only [List.take_succ_cons, List.take_zero, List.drop_succ_cons, List.drop_zero]
  repeat ((first | ((apply TextRun.go rfl rfl rfl); (focus (intro w1 hS K hK; have hc := bcell hS; have hs := blt hS; have e0 := keep (Below.trans (show Below y1.heap.size y1 _ by go_grown) (hS.mono (by first | omega | (simp <;> omega)))) e0; have c1_y1 := keep (Below.trans (show Below y1.heap.size y1 _ by go_grown) (hS.mono (by first | omega | (simp <;> omega)))) c1_y1; go_wp2_with (fail); first | done | exact hS | exact hS.trans (hb.mono hS.size)))) | (refine TextRun.skip rfl ?_) | ((refine TextRun.wantedT rfl rfl rfl ?_); (apply Exists.intro); (apply And.intro); (focus (intro w1 hS K hK; have hc := bcell hS; have hs := blt hS; have e0 := keep (Below.trans (show Below y1.heap.size y1 _ by go_grown) (hS.mono (by first | omega | (simp <;> omega)))) e0; have c1_y1 := keep (Below.trans (show Below y1.heap.size y1 _ by go_grown) (hS.mono (by first | omega | (simp <;> omega)))) c1_y1; go_wp2_with (fail); first | done | exact hS | exact hS.trans (hb.mono hS.size))))); (simp only [Act.put, List.setIfInBounds_toArray, List.set_cons_zero, List.set_cons_succ]))
  refine TextRun.done ?_
  intro y2 hb
  have hB2 := hB_y1.trans (hb.mono hB_y1.size)
  have hE2 := hE1.below hb
  clear hb e0 e1 e2 e3 e4 hE1 hc_y1 hS_y1 hA_y1_0 hL_y1 c1_y1 hB_y1
  go_wp2
  go_ret
  exact Hno.out _ hB2 Hz.out
theorem sadd_some {w : World} {b : Nat} {S : LogS} (h : StateAt w b S) (hg : Good S ∨ ∀ i, S.st i ≠ 2) (e : Ev) :
    Calls Tryd.prog 6 #[.pointer (some ⟨b, 0, none⟩), .agg #[.int .i64 e.t, .int .i64 e.k, .int .i64 e.o, .int .i64 e.v, .int .i64 e.b]] w (SPost b S e w) := by
  rcases hg with hg | hg
  · exact sadd_calls h hg e
  cases hr : rB e
  · exact sadd_form h e hr
  · exact sadd_still h e hr (hg _)


theorem infoAcs : (Tryd.prog.info? 35).map (fun i => (i.zero, i.size, i.bytes)) = some (some (.agg #[.int .i64 0, .int .i64 0]), 2, 16) := by kernel_rfl
theorem made_acs : madeCells #[.int .i64 0, .int .i64 0] 16 = #[.int .i64 0, .int .i64 0, .int .i64 0, .int .i64 0, .int .i64 0, .int .i64 0, .int .i64 0, .int .i64 0, .int .i64 0, .int .i64 0, .int .i64 0, .int .i64 0, .int .i64 0, .int .i64 0, .int .i64 0, .int .i64 0] := by first | kernel_rfl | (unfold madeCells; rfl) | (apply Array.ext'; simp [madeCells, List.range, List.range.loop]; done) | (simp [madeCells, Array.range]; decide)
theorem run_makeAc (w : World) : (Instr.makeSlice 33 (.int .i64 8) (.int .i64 8)).run Tryd.prog w = .ok (.slice (some ⟨w.heap.size, 0, none⟩) 8 8) (w.alloc (.cells #[.int .i64 0, .int .i64 0, .int .i64 0, .int .i64 0, .int .i64 0, .int .i64 0, .int .i64 0, .int .i64 0, .int .i64 0, .int .i64 0, .int .i64 0, .int .i64 0, .int .i64 0, .int .i64 0, .int .i64 0, .int .i64 0] 35)) := by
  obtain ⟨i0, hi, hz, hs, hb⟩ := info_at infoAcs
  have hr := run_make (P := Tryd.prog) w 33 35 i0 (.agg #[.int .i64 0, .int .i64 0]) Tryd.underlying33 hi hz .i64 .i64 8 8 (by omega) (Int.le_refl _) (by rw [hb]; decide) (by omega)
  rw [hs] at hr
  rw [← made_acs]
  exact hr
theorem wpList_makeAc {w : World} {ops : Array Oper} {rest : List Oper} {o : Oper} {a : Act} {Q : Exit → Act → World → Prop} (hg : o.guard = none) (l c : Operand) (ho : o.op = .makeSlice 33 l c)
    (hl : a.eval l = .int .i64 8) (hc : a.eval c = .int .i64 8)
    (h : wpList Tryd.prog ops Q rest (a.put o.dst (.slice (some ⟨w.heap.size, 0, none⟩) 8 8)) (w.alloc (.cells #[.int .i64 0, .int .i64 0, .int .i64 0, .int .i64 0, .int .i64 0, .int .i64 0, .int .i64 0, .int .i64 0, .int .i64 0, .int .i64 0, .int .i64 0, .int .i64 0, .int .i64 0, .int .i64 0, .int .i64 0, .int .i64 0] 35))) : wpList Tryd.prog ops Q (o :: rest) a w := by
  refine wpList_plain hg fun _ hK => ?_
  unfold Oper.wp
  simp only [execOp, ho, hl, hc, Sem.run_bind, run_makeAc w, Result.andThen_ok]
  exact hK _ _ h
theorem one_int (W : World) (z : Int) (hz : Fit z) : IsInts (W.alloc (.cells #[.int .i64 z] 3)).drew (some ⟨W.heap.size, 0, none⟩) 1 1 [z] := by
  have h := (MapKept.heap_alloc W (.cells #[.int .i64 z] 3)).1
  have h2 : (W.alloc (.cells #[.int .i64 z] 3)).drew.heap[W.heap.size]? = some (.cells #[.int .i64 z] 3 (0, 0)) := h
  refine ⟨⟨by simp, fun _ => ⟨W.heap.size, 0, rfl, fun j u hu => ?_⟩⟩, rfl, Nat.le_refl _, by unfold maxLen; omega, fun x hx => ?_⟩
  · rw [cell_blk h2, Nat.zero_add]
    have hj : j < 1 := by
      have := (List.getElem?_eq_some_iff.1 hu).1
      simpa using this
    obtain rfl : j = 0 := by omega
    exact hu
  · rw [List.mem_singleton.1 hx]; exact hz
/-- The row of actions with one in it. -/
def nextL (tk : Nat) (a : Ac) : List Ac := (List.range 8).map fun i => if i = tk then a else ⟨0, 0⟩
theorem nextL_get {tk : Nat} {a : Ac} (h : tk < 8) : (nextL tk a)[tk]? = some a := by
  unfold nextL
  rw [List.getElem?_map, List.getElem?_range h]; simp
theorem acs_row {W : World} {g tk : Nat} {a : Ac} (hw : a.wf) (h : W.heap[g]? = some (.cells #[.int .i64 0, .int .i64 0, .int .i64 0, .int .i64 0, .int .i64 0, .int .i64 0, .int .i64 0, .int .i64 0, .int .i64 0, .int .i64 0, .int .i64 0, .int .i64 0, .int .i64 0, .int .i64 0, .int .i64 0, .int .i64 0] 35 (0, 0))) (ht : tk < 8) :
    IsAcs ((W.setCell ⟨g, tk * 2, none⟩ (.int .i64 a.k)).setCell ⟨g, tk * 2 + 1, none⟩ (.int .i64 a.o)) (some ⟨g, 0, none⟩) 8 8 (nextL tk a) := by
  have hb : ((W.setCell ⟨g, tk * 2, none⟩ (.int .i64 a.k)).setCell ⟨g, tk * 2 + 1, none⟩ (.int .i64 a.o)).heap[g]? = some (.cells (((#[.int .i64 0, .int .i64 0, .int .i64 0, .int .i64 0, .int .i64 0, .int .i64 0, .int .i64 0, .int .i64 0, .int .i64 0, .int .i64 0, .int .i64 0, .int .i64 0, .int .i64 0, .int .i64 0, .int .i64 0, .int .i64 0] : Array Value).setIfInBounds (tk * 2) (.int .i64 a.k)).setIfInBounds (tk * 2 + 1) (.int .i64 a.o)) 35 (0, 0)) := by
    simp [World.setCell, Array.getElem?_modify, h]
  have e : acCells (nextL tk a) = (((#[.int .i64 0, .int .i64 0, .int .i64 0, .int .i64 0, .int .i64 0, .int .i64 0, .int .i64 0, .int .i64 0, .int .i64 0, .int .i64 0, .int .i64 0, .int .i64 0, .int .i64 0, .int .i64 0, .int .i64 0, .int .i64 0] : Array Value).setIfInBounds (tk * 2) (.int .i64 a.k)).setIfInBounds (tk * 2 + 1) (.int .i64 a.o)).toList := by
    rcases lt8 ht with rfl | rfl | rfl | rfl | rfl | rfl | rfl | rfl <;> rfl
  refine ⟨⟨by rw [e]; simp, fun _ => ⟨g, 0, rfl, fun j u hu => ?_⟩⟩, by unfold nextL; simp, Nat.le_refl _, by unfold maxLen; omega, fun x hx => ?_⟩
  · rw [Nat.zero_add]
    rw [e] at hu
    simp only [World.cell?, hb]
    simpa using hu
  · unfold nextL at hx
    obtain ⟨i, _, rfl⟩ := List.mem_map.1 hx
    split
    · exact hw
    · exact ⟨Fit.of (by decide) (by decide), Fit.of (by decide) (by decide)⟩
/-- Who sleeps on alone. -/
theorem beh_one {tk : Nat} {a : Ac} {e : Ev} (ht : tk < 8) (h : behN (maskN [(tk : Int)]) (nextL tk a) e ≠ 0) : dependsB (tk : Int) a.k a.o e.t e.k e.o = false := by
  obtain ⟨j, hj⟩ : ∃ j, (behN (maskN [(tk : Int)]) (nextL tk a) e).testBit j = true := by
    rcases Classical.em (∃ j, (behN (maskN [(tk : Int)]) (nextL tk a) e).testBit j = true) with h1 | h1
    · exact h1
    · refine absurd (Nat.eq_of_testBit_eq fun i => ?_) h
      rw [Nat.zero_testBit]
      cases hb : (behN (maskN [(tk : Int)]) (nextL tk a) e).testBit i
      · rfl
      · exact absurd ⟨i, hb⟩ h1
  have hj8 : j < 8 := by
    rcases Nat.lt_or_ge j 8 with h1 | h1
    · exact h1
    · have := Nat.testBit_lt_two_pow (Nat.lt_of_lt_of_le (behN_lt (maskN [(tk : Int)]) (nextL tk a) e) (show 256 ≤ 2 ^ j from Nat.pow_le_pow_right (n := 2) (i := 8) (by omega) h1))
      rw [this] at hj; cases hj
  rw [behN_bit hj8, Bool.and_eq_true, Bool.and_eq_true] at hj
  have hm : maskN [(tk : Int)] = 2 ^ tk := by
    unfold maskN
    simp only [List.foldl_cons, List.foldl_nil, Nat.zero_or]
    exact oneN_fin ⟨tk, ht⟩
  have hjt : j = tk := by
    have h1 := hj.1.1
    rw [bit_mod _ _ hj8, hm, Nat.testBit_two_pow] at h1
    have := of_decide_eq_true h1
    omega
  subst hjt
  have h2 := hj.2
  unfold keepT at h2
  rw [nextL_get ht] at h2
  simp only [Bool.and_eq_true] at h2
  simpa using h2.2

theorem IsEvs.wroteB {R : Nat → Prop} {w w' : World} {b : Nat} {n c : Nat} {l : List Ev} (h : IsEvs w (some ⟨b, 0, none⟩) n c l) (hw : Wrote R w w') (hn : ¬ R b) : IsEvs w' (some ⟨b, 0, none⟩) n c l := by
  refine ⟨⟨h.reads.1, fun h0 => ?_⟩, h.len, h.le, h.cap, h.wf⟩
  obtain ⟨b', off, he, hc⟩ := h.reads.2 h0
  cases he
  refine ⟨b, 0, rfl, fun j u hu => ?_⟩
  have h1 := hc j u hu
  rw [hw.cell (p := ⟨b, 0 + j, none⟩) (World.block_lt_of_cell? w _ h1) hn]
  exact h1
set_option maxRecDepth 20000 in
set_option maxHeartbeats 16000000 in
theorem swait_law' {w : World} (hT : TabOk w) {a0 : Option Addr} {n c : Nat} {l : List Ev} (h : IsEvs w a0 n c l) (et ek eo ev eb wt wk wo wv wb : Int) (hew : (⟨et, ek, eo, ev, eb⟩ : Ev).wf) (hww : (⟨wt, wk, wo, wv, wb⟩ : Ev).wf) :
    Calls Tryd.prog 3 #[.slice a0 n c, .agg #[.int .i64 et, .int .i64 ek, .int .i64 eo, .int .i64 ev, .int .i64 eb], .agg #[.int .i64 wt, .int .i64 wk, .int .i64 wo, .int .i64 wv, .int .i64 wb]] w fun x w' => x = .returned (.bool true) ∧ Below w.heap.size w w' := by
  have HT0 := Lib.hid hT
  have Hev := Lib.hid h
  have hnm : n ≤ 9223372036854775807 := by have := h.le; have := h.cap; unfold maxLen at *; omega
  have Hew := Lib.hid hew
  have Hww := Lib.hid hww
  have hR : ∃ (S : LogS) (z : Int) (p : Nat), ofS l = ((ofS l).1, z, p) ∧ (if (ofS l).2.1 = 0 then stArr (ofS l).1.st (ofS l).1.ow else zArr) = stArr S.st S.ow ∧ (Good S ∨ ∀ i, S.st i ≠ 2) ∧ (z = 0 → ofS l = (S, 0, 0) ∧ S.l = l) := by
    rcases ofS_cases l with ⟨S, hR, hl, hg⟩ | ⟨S, z, p, hR, hz⟩
    · exact ⟨S, 0, 0, by rw [hR], by rw [hR]; rfl, .inl hg, fun _ => ⟨hR, hl⟩⟩
    · exact ⟨logZ, z, p, by rw [hR], by rw [hR]; simp only; rw [if_neg hz]; exact zArr_st, .inr goodZ, fun h => absurd h hz⟩
  obtain ⟨S, z, p, hRz, hRa, hGd, hRo⟩ := hR
  have HRof : Hid (∀ W, Below w.heap.size w W → Calls Tryd.prog 5 #[.slice a0 n c] W fun e w' => e = .returned (.tuple #[.agg (stArr S.st S.ow), .int .i64 z, .int .i64 (p : Int)]) ∧ Below W.heap.size W w') := fun W hb => (rof_calls (Hev.out.below hb)).mono fun e w' ⟨h1, h2⟩ => ⟨by rw [h2, hRa, hRz], h1⟩
  have HGd := Lib.hid hGd
  have HRo := Lib.hid hRo
  clear h hT hew hww hRz hRa hGd hRo
  go_enter Tryd.func3, Tryd.ntmps3
  go_wp2_with fail
  have hN := one_newR w #[.int .i64 et, .int .i64 ek, .int .i64 eo, .int .i64 ev, .int .i64 eb] 24
  have hN2 := one_newR (w.alloc (.cells #[.int .i64 et, .int .i64 ek, .int .i64 eo, .int .i64 ev, .int .i64 eb] 24)) #[.int .i64 wt, .int .i64 wk, .int .i64 wo, .int .i64 wv, .int .i64 wb] 24
  have hsz : (w.alloc (.cells #[.int .i64 et, .int .i64 ek, .int .i64 eo, .int .i64 ev, .int .i64 eb] 24)).heap.size = w.heap.size + 1 := by simp
  have HE0 : Hid (EvBox ((w.alloc (.cells #[.int .i64 et, .int .i64 ek, .int .i64 eo, .int .i64 ev, .int .i64 eb] 24)).alloc (.cells #[.int .i64 wt, .int .i64 wk, .int .i64 wo, .int .i64 wv, .int .i64 wb] 24)) w.heap.size et ek eo ev eb) := EvBox.below (w := w.alloc (.cells #[.int .i64 et, .int .i64 ek, .int .i64 eo, .int .i64 ev, .int .i64 eb] 24)) ⟨cell_of_block hN.1, cell_of_block hN.1, cell_of_block hN.1, cell_of_block hN.1, cell_of_block hN.1⟩ hN2.2
  have HB0 := Lib.hid (hN.2.trans (hN2.2.mono hN.2.size))
  have HW0 : Hid (EvBox ((w.alloc (.cells #[.int .i64 et, .int .i64 ek, .int .i64 eo, .int .i64 ev, .int .i64 eb] 24)).alloc (.cells #[.int .i64 wt, .int .i64 wk, .int .i64 wo, .int .i64 wv, .int .i64 wb] 24)) (w.heap.size + 1) wt wk wo wv wb) := by
    rw [← hsz]; exact ⟨cell_of_block hN2.1, cell_of_block hN2.1, cell_of_block hN2.1, cell_of_block hN2.1, cell_of_block hN2.1⟩
  clear hN hN2 hsz
  revert HE0 HB0 HW0
  generalize (w.alloc (.cells #[.int .i64 et, .int .i64 ek, .int .i64 eo, .int .i64 ev, .int .i64 eb] 24)).alloc (.cells #[.int .i64 wt, .int .i64 wk, .int .i64 wo, .int .i64 wv, .int .i64 wb] 24) = w0
  obtain ⟨gW, hgW⟩ : ∃ g, g = w.heap.size + 1 := ⟨_, rfl⟩
  obtain ⟨gE, hgE⟩ : ∃ g, g = w.heap.size := ⟨_, rfl⟩
  rw [← hgW, ← hgE]
  intro HE0 HB0 HW0
  have HB0 : Hid (Below w.heap.size w w0) := by rw [hgE] at HB0; exact HB0
  clear hgW hgE
  refine (awake17_calls _).mono ?_
  rintro e w1 ⟨rfl, hb⟩
  have HB1 := Lib.hid (HB0.out.trans (hb.mono HB0.out.size))
  have HE1 := Lib.hid (HE0.out.below hb)
  have HW1 := Lib.hid (HW0.out.below hb)
  clear hb HE0 HW0 HB0
  go_wp2_with fail
  refine (HRof.out _ HB1.out).mono ?_
  rintro e w2 ⟨rfl, hb⟩
  have HB2 := Lib.hid (HB1.out.trans (hb.mono HB1.out.size))
  have HE2 := Lib.hid (HE1.out.below hb)
  have HW2 := Lib.hid (HW1.out.below hb)
  clear hb HE1 HW1 HB1 HRof
  go_upto_region 3 with (refine wpList_store_row rfl 28 (.tmp 8) (.tmp 31) rfl w2.heap.size (stArr S.st S.ow) rfl rfl 28 #[.int .i64 0, .int .i64 0, .int .i64 0, .int .i64 0, .int .i64 0, .int .i64 0, .int .i64 0, .int .i64 0, .int .i64 0, .int .i64 0, .int .i64 0, .int .i64 0, .int .i64 0, .int .i64 0, .int .i64 0, .int .i64 0] (MapKept.heap_alloc w2 _).1 infoState rfl (stArr_one _ _) ?_)
  have hrow := row_made w2 #[.int .i64 0, .int .i64 0, .int .i64 0, .int .i64 0, .int .i64 0, .int .i64 0, .int .i64 0, .int .i64 0, .int .i64 0, .int .i64 0, .int .i64 0, .int .i64 0, .int .i64 0, .int .i64 0, .int .i64 0, .int .i64 0] (stArr S.st S.ow) 28
  revert hrow
  generalize ((w2.alloc (.cells #[.int .i64 0, .int .i64 0, .int .i64 0, .int .i64 0, .int .i64 0, .int .i64 0, .int .i64 0, .int .i64 0, .int .i64 0, .int .i64 0, .int .i64 0, .int .i64 0, .int .i64 0, .int .i64 0, .int .i64 0, .int .i64 0] 28)).setRow w2.heap.size (stArr S.st S.ow)) = w3
  rintro ⟨hrow, hb⟩
  have HB3 := Lib.hid (HB2.out.trans (hb.mono HB2.out.size))
  have HE3 := Lib.hid (HE2.out.below hb)
  have HW3 := Lib.hid (HW2.out.below hb)
  revert hrow
  generalize w2.heap.size = g8
  intro hrow
  have HS3 := Lib.hid hrow
  clear hb hrow HE2 HW2 HB2
  go_upto_region 4 with (first | (refine wpList_load_row rfl 28 (.tmp 8) rfl g8 rfl 28 (stArr S.st S.ow) (0, 0) _ HS3.out Tryd.underlying28 rfl (by kernel_rfl) ?_) | (refine wpList_store_row rfl 28 (.tmp 11) (.tmp 34) rfl w3.heap.size (stArr S.st S.ow) rfl rfl 28 #[.int .i64 0, .int .i64 0, .int .i64 0, .int .i64 0, .int .i64 0, .int .i64 0, .int .i64 0, .int .i64 0, .int .i64 0, .int .i64 0, .int .i64 0, .int .i64 0, .int .i64 0, .int .i64 0, .int .i64 0, .int .i64 0] (MapKept.heap_alloc w3 _).1 infoState rfl (stArr_one _ _) ?_))
  have hrow := row_made w3 #[.int .i64 0, .int .i64 0, .int .i64 0, .int .i64 0, .int .i64 0, .int .i64 0, .int .i64 0, .int .i64 0, .int .i64 0, .int .i64 0, .int .i64 0, .int .i64 0, .int .i64 0, .int .i64 0, .int .i64 0, .int .i64 0] (stArr S.st S.ow) 28
  revert hrow
  generalize ((w3.alloc (.cells #[.int .i64 0, .int .i64 0, .int .i64 0, .int .i64 0, .int .i64 0, .int .i64 0, .int .i64 0, .int .i64 0, .int .i64 0, .int .i64 0, .int .i64 0, .int .i64 0, .int .i64 0, .int .i64 0, .int .i64 0, .int .i64 0] 28)).setRow w3.heap.size (stArr S.st S.ow)) = w4
  rintro ⟨hrow, hb⟩
  have HB4 := Lib.hid (HB3.out.trans (hb.mono HB3.out.size))
  have HE4 := Lib.hid (HE3.out.below hb)
  have HW4 := Lib.hid (HW3.out.below hb)
  have hs8 := HS3.out
  have h8lt : g8 < w3.heap.size := (Array.getElem?_eq_some_iff.1 hs8).1
  have HS4 : Hid (StateAt w4 g8 S) := (hb.block g8 h8lt).trans hs8
  have hT4 : StateAt w4 w3.heap.size S := hrow
  have hgE : gE < w3.heap.size := World.block_lt_of_cell? w3 _ HE3.out.e0
  have hgW : gW < w3.heap.size := World.block_lt_of_cell? w3 _ HW3.out.e0
  have hw0 := HB3.out.size
  revert hT4 hgE hgW h8lt hw0
  generalize w3.heap.size = g11
  intro h8lt hT4 hgE hgW hw0
  have HT4 := Lib.hid hT4
  obtain ⟨e0, e1, e2, e3, e4⟩ := HE4.out.all
  clear hb hrow hs8 HS3 hT4 HE3 HW3 HB3
  go_wp2_with fail
  refine (sadd_some HT4.out HGd.out ⟨et, ek, eo, ev, eb⟩).mono ?_
  rintro e w5 ⟨rfl, hst, hgr⟩
  have hWr : Wrote (fun q => q = g11) w4 w5 := Wrote.of_grown hgr (fun k hk => (Option.some.inj hk).symm)
  have HE5 := Lib.hid (HE4.out.wrote hWr (by omega))
  have HW5 := Lib.hid (HW4.out.wrote hWr (by omega))
  have HS5 : Hid (StateAt w5 g8 S) := (hWr.block g8 (Array.getElem?_eq_some_iff.1 HS4.out).1 (by omega)).trans HS4.out
  have HB5 := Lib.hid (Wrote.below HB4.out hWr HB4.out.size (fun q hq => by omega))
  clear hst hgr hWr HE4 HW4 HS4 HT4 HB4 e0 e1 e2 e3 e4
  obtain ⟨d0, d1, d2, d3, d4⟩ := HW5.out.all
  by_cases hz : z = 0
  case neg =>
    have hzb : (z != 0) = true := by simpa [bne] using hz
    clear hz d1 d2 d3 d4
    generalize addE S ⟨et, ek, eo, ev, eb⟩ = y at *
    go_wp2
    go_ret
    exact ⟨rfl, HB5.out⟩
  subst hz
  obtain ⟨hRS, hSl⟩ := HRo.out rfl
  by_cases hy : addE S ⟨et, ek, eo, ev, eb⟩ = 0
  case neg =>
    have hyb : (addE S ⟨et, ek, eo, ev, eb⟩ != 0) = true := by simpa [bne] using hy
    clear hy d1 d2 d3 d4
    generalize addE S ⟨et, ek, eo, ev, eb⟩ = y at *
    go_wp2
    go_ret
    exact ⟨rfl, HB5.out⟩
  rw [hy]
  have Hy := Lib.hid hy
  have HRS := Lib.hid hRS
  have HSl := Lib.hid hSl
  clear hy hRS hSl HRo
  by_cases hw1 : wt < 0
  · have hwb : decide (wt < 0) = true := decide_eq_true hw1
    clear d1 d2 d3 d4
    go_wp2
    go_ret
    exact ⟨rfl, HB5.out⟩
  by_cases hw8 : 8 ≤ wt
  · have hwb : decide (wt < 0) = false := decide_eq_false hw1
    have hwc : decide (8 ≤ wt) = true := decide_eq_true hw8
    clear d1 d2 d3 d4
    go_wp2
    go_ret
    exact ⟨rfl, HB5.out⟩
  obtain ⟨tk, rfl⟩ := Int.eq_ofNat_of_zero_le (show 0 ≤ wt by omega)
  have htk : tk < 8 := by omega
  by_cases hn90 : 90 < n
  · have hwb : decide ((90 : Int) < (n : Int)) = true := decide_eq_true (by omega)
    have hwd : decide ((tk : Int) < 0) = false := decide_eq_false (by omega)
    have hwc : decide (8 ≤ (tk : Int)) = false := decide_eq_false (by omega)
    clear d1 d2 d3 d4
    go_wp2
    go_ret
    exact ⟨rfl, HB5.out⟩
  have hwb : decide ((90 : Int) < (n : Int)) = false := decide_eq_false (by omega)
  have hwd : decide ((tk : Int) < 0) = false := decide_eq_false (by omega)
  have hwc : decide (8 ≤ (tk : Int)) = false := decide_eq_false (by omega)
  have hn90 : n ≤ 90 := by omega
  clear hw1 hw8
  go_upto_region 8 with (refine wpList_makeAc rfl _ _ rfl rfl rfl ?_)
  have hN := one_newR w5 #[.int .i64 0, .int .i64 0, .int .i64 0, .int .i64 0, .int .i64 0, .int .i64 0, .int .i64 0, .int .i64 0, .int .i64 0, .int .i64 0, .int .i64 0, .int .i64 0, .int .i64 0, .int .i64 0, .int .i64 0, .int .i64 0] 35
  have HB6 := Lib.hid (HB5.out.trans (hN.2.mono HB5.out.size))
  have HE6 := Lib.hid (HE5.out.below hN.2)
  have HW6 := Lib.hid (HW5.out.below hN.2)
  have HS6 : Hid (StateAt (w5.alloc (.cells #[.int .i64 0, .int .i64 0, .int .i64 0, .int .i64 0, .int .i64 0, .int .i64 0, .int .i64 0, .int .i64 0, .int .i64 0, .int .i64 0, .int .i64 0, .int .i64 0, .int .i64 0, .int .i64 0, .int .i64 0, .int .i64 0] 35)) g8 S) := (hN.2.block g8 (Array.getElem?_eq_some_iff.1 HS5.out).1).trans HS5.out
  have hrow13 := hN.1
  revert HB6 HE6 HW6 HS6 hrow13
  generalize w5.alloc (.cells #[.int .i64 0, .int .i64 0, .int .i64 0, .int .i64 0, .int .i64 0, .int .i64 0, .int .i64 0, .int .i64 0, .int .i64 0, .int .i64 0, .int .i64 0, .int .i64 0, .int .i64 0, .int .i64 0, .int .i64 0, .int .i64 0] 35) = w6
  have hwg13 : w.heap.size ≤ w5.heap.size := HB5.out.size
  have h8g : g8 < w5.heap.size := (Array.getElem?_eq_some_iff.1 HS5.out).1
  have hEg : gE < w5.heap.size := World.block_lt_of_cell? w5 _ HE5.out.e0
  have hWg : gW < w5.heap.size := World.block_lt_of_cell? w5 _ HW5.out.e0
  revert hwg13 h8g hEg hWg
  generalize w5.heap.size = g13
  intro hwg13 h8g hEg hWg HB6 HE6 HW6 HS6 hrow13
  clear hN HE5 HW5 HS5 HB5
  have ht2 : tk * 2 < 16 := by omega
  have q0 : w6.cell? ⟨g13, tk * 2, none⟩ = some (.int .i64 0) := by
    simp only [World.cell?, hrow13]
    rcases lt8 htk with rfl | rfl | rfl | rfl | rfl | rfl | rfl | rfl <;> rfl
  have q1 : w6.cell? ⟨g13, tk * 2 + 1, none⟩ = some (.int .i64 0) := by
    simp only [World.cell?, hrow13]
    rcases lt8 htk with rfl | rfl | rfl | rfl | rfl | rfl | rfl | rfl <;> rfl
  have qf : ∀ o, w6.frozen? ⟨g13, o, none⟩ = false := fun o => by simp [World.frozen?, hrow13]
  obtain ⟨d0, d1, d2, d3, d4⟩ := HW6.out.all
  go_upto_region 9 with (fail)
  have hAc := acs_row (tk := tk) (a := ⟨wk, wo⟩) ⟨Hww.out.2.1, Hww.out.2.2.1⟩ hrow13 htk
  have hWr : Wrote (fun q => q = g13) w6 ((w6.setCell ⟨g13, tk * 2, none⟩ (.int .i64 wk)).setCell ⟨g13, tk * 2 + 1, none⟩ (.int .i64 wo)) := (Wrote.setCell (R := fun q => q = g13) w6 (p := ⟨g13, tk * 2, none⟩) _ rfl).trans (Wrote.setCell (R := fun q => q = g13) _ (p := ⟨g13, tk * 2 + 1, none⟩) _ rfl) (fun q hq => .inl hq)
  have HAc7 := Lib.hid hAc
  have HE7 := Lib.hid (HE6.out.wrote hWr (by omega))
  have HW7 := Lib.hid (HW6.out.wrote hWr (by omega))
  have HS7 : Hid (StateAt ((w6.setCell ⟨g13, tk * 2, none⟩ (.int .i64 wk)).setCell ⟨g13, tk * 2 + 1, none⟩ (.int .i64 wo)) g8 S) := (hWr.block g8 (Array.getElem?_eq_some_iff.1 HS6.out).1 (by omega)).trans HS6.out
  have HB7 := Lib.hid (Wrote.below HB6.out hWr HB6.out.size (fun q hq => by omega))
  clear hAc hWr HE6 HW6 HS6 HB6 q0 q1 qf hrow13 d0 d1 d2 d3 d4
  revert HAc7 HE7 HW7 HS7 HB7
  generalize (w6.setCell ⟨g13, tk * 2, none⟩ (.int .i64 wk)).setCell ⟨g13, tk * 2 + 1, none⟩ (.int .i64 wo) = w7
  intro HAc7 HE7 HW7 HS7 HB7
  have HT7 := Lib.hid (HT0.out.below HB7.out)
  refine wp_plan2_draw 6 [0, 1, 4, 5] [2, 3] (fun w' => EvBox w' gE et ek eo ev eb ∧ EvBox w' gW (tk : Int) wk wo wv wb) mixed (by kernel_rfl) (fun c a d v w h => by cases d <;> exact h) ⟨HE7.out.below (Below.refl _ w7).drew, HW7.out.below (Below.refl _ w7).drew⟩ ?_
  simp only [picks, List.map_cons, List.map_nil, List.getD_cons_zero, List.getD_cons_succ]
  repeat ((apply ReadRun.go rfl); (intro z1 hS; (obtain ⟨⟨s0, s1, s2, s3, s4⟩, r0, r1, r2, r3, r4⟩ := hS); go_simp; first | done | exact rfl); (simp only [Act.put, List.setIfInBounds_toArray, List.set_cons_zero, List.set_cons_succ]))
  refine ReadRun.done ?_
  refine MakeRun.go rfl (fun K hK => ?_)
  go_wp2_with fail
  have hA : Below w7.heap.size w7 (w7.alloc (.cells #[.int .i64 (tk : Int)] 3)).drew := ((Below.refl _ w7).alloc (Nat.le_refl _) _).drew
  refine ⟨⟨HE7.out.below hA, HW7.out.below hA⟩, ?_⟩
  try simp only [Act.put, List.setIfInBounds_toArray, List.set_cons_zero, List.set_cons_succ]
  have HI := Lib.hid (one_int w7 (tk : Int) (Fit.of (by omega) (by omega)))
  refine MakeRun.go rfl (fun K hK => ?_)
  go_wp2_with fail
  refine (sof_calls HI.out).mono ?_
  rintro e w8 ⟨rfl, hb⟩
  have hb8 := hA.trans (hb.mono hA.size)
  clear hb hA
  have HE8 := Lib.hid (HE7.out.below hb8)
  have HW8 := Lib.hid (HW7.out.below hb8)
  have HS8 : Hid (StateAt w8 g8 S) := (hb8.block g8 (Array.getElem?_eq_some_iff.1 HS7.out).1).trans HS7.out
  have HAc8 := Lib.hid (HAc7.out.below hb8)
  have HT8 := Lib.hid (HT7.out.below hb8)
  have HB8 := Lib.hid (HB7.out.trans (hb8.mono HB7.out.size))
  clear hb8 HE7 HW7 HS7 HAc7 HT7 HB7 HI
  refine hK _ _ ⟨⟨HE8.out, HW8.out⟩, ?_⟩
  try simp only [Act.put, List.setIfInBounds_toArray, List.set_cons_zero, List.set_cons_succ]
  refine MakeRun.done ?_
  clear hK
  have hmk : maskN [(tk : Int)] < 18446744073709551616 := Nat.lt_trans (maskN_lt _) (by omega)
  go_wp2_with fail
  refine (behind_calls HT8.out hmk HAc8.out ⟨et, ek, eo, ev, eb⟩).mono ?_
  rintro e w9 ⟨rfl, hb⟩
  have HE9 := Lib.hid (HE8.out.below hb)
  have HW9 := Lib.hid (HW8.out.below hb)
  have HS9 : Hid (StateAt w9 g8 S) := (hb.block g8 (Array.getElem?_eq_some_iff.1 HS8.out).1).trans HS8.out
  have HAc9 := Lib.hid (HAc8.out.below hb)
  have HB9 := Lib.hid (HB8.out.trans (hb.mono HB8.out.size))
  clear hb HE8 HW8 HS8 HAc8 HT8 HB8 hmk
  by_cases hon : behN (maskN [(tk : Int)]) (nextL tk ⟨wk, wo⟩) ⟨et, ek, eo, ev, eb⟩ = 0
  · rw [hon]
    go_wp2
    go_ret
    exact ⟨rfl, HB9.out⟩
  have honb : ((behN (maskN [(tk : Int)]) (nextL tk ⟨wk, wo⟩) ⟨et, ek, eo, ev, eb⟩ : Int) == 0) = false := by simpa using hon
  have HWt := Lib.hid (waitsAt (n := n) HRS.out Hy.out (show depE ⟨(tk : Int), wk, wo, wv, wb⟩ ⟨et, ek, eo, ev, eb⟩ = false from beh_one htk hon))
  clear hon
  revert honb
  generalize behN (maskN [(tk : Int)]) (nextL tk ⟨wk, wo⟩) ⟨et, ek, eo, ev, eb⟩ = on
  intro honb
  go_wp2_with fail
  refine (lof_ok (Hev.out.below HB9.out) (by omega) HRS.out).mono ?_
  rintro e w10 ⟨lb, vl, va, rfl, hL, hb⟩
  have HL10 := Lib.hid hL
  have HK10 : Hid (Below w9.heap.size w9 w10) := hb
  clear hb hL
  have HAc : Hid (∀ W, Below w9.heap.size w9 W → W.cell? ⟨g13, tk * 2, none⟩ = some (.int .i64 wk) ∧ W.cell? ⟨g13, tk * 2 + 1, none⟩ = some (.int .i64 wo)) := fun W hb => by
    obtain ⟨b, off, a, he, ha, _, q0, q1⟩ := (HAc9.out.below hb).at htk
    cases he
    rw [nextL_get htk] at ha
    cases ha
    rw [Nat.zero_add] at q0 q1
    exact ⟨q0, q1⟩
  have Hcan : Hid (∀ W, Below w10.heap.size w10 W → Calls Tryd.prog 10 #[.pointer (some ⟨lb, 0, none⟩), .int .i64 (tk : Int), .agg #[.int .i64 wk, .int .i64 wo]] W fun e w' => e = .returned (.bool (canB S (tk : Int) wk wo)) ∧ Below W.heap.size W w') := fun W hb => can_calls (HL10.out.below hb) _ _ _
  obtain ⟨q0, q1⟩ := HAc.out w10 HK10.out
  obtain ⟨d0, d1, d2, d3, d4⟩ := (HW9.out.below HK10.out).all
  clear HAc9
  go_upto_region 15 with (fail)
  have ht8 : (tk : Int) < 8 := by omega
  refine wp_ext_draw 10 mixed (by kernel_rfl) ?_
  simp only [List.take_succ_cons, List.take_zero, List.drop_succ_cons, List.drop_zero]
  repeat ((first | ((apply TextRun.go rfl rfl rfl); (focus (intro w1 hS K hK; have hc := bcell hS; have hs := blt hS; have q0 := keep hS q0; have q1 := keep hS q1; have d0 := keep hS d0; go_wp2_with ((with_reducible refine (Hcan.out _ hS).mono ?_); rintro x' w4 ⟨rfl, hb⟩); first | done | exact hS | exact hS.trans (hb.mono hS.size)))) | (refine TextRun.skip rfl ?_) | ((refine TextRun.wantedT rfl rfl rfl ?_); (apply Exists.intro); (apply And.intro); (focus (intro w1 hS K hK; have hc := bcell hS; have hs := blt hS; have q0 := keep hS q0; have q1 := keep hS q1; have d0 := keep hS d0; go_wp2_with ((with_reducible refine (Hcan.out _ hS).mono ?_); rintro x' w4 ⟨rfl, hb⟩); first | done | exact hS | exact hS.trans (hb.mono hS.size))))); (simp only [Act.put, List.setIfInBounds_toArray, List.set_cons_zero, List.set_cons_succ]))
  refine TextRun.done ?_
  intro w11 hb
  have HK11 := Lib.hid (HK10.out.trans (hb.mono HK10.out.size))
  have HL11 := Lib.hid (HL10.out.below hb)
  obtain ⟨e0, e1, e2, e3, e4⟩ := (HE9.out.below HK11.out).all
  clear hb q0 q1 d0 d1 d2 d3 d4 HK10 HL10 Hcan
  have hn2 : (S.l.length + 1) * 40 ≤ 140737488355328 := by rw [HSl.out, Hev.out.len]; omega
  go_wp2_with fail
  refine (add_calls HL11.out ⟨et, ek, eo, ev, eb⟩ hn2).mono ?_
  rintro e w12 ⟨vl', va', rfl, hL, hWr, _⟩
  have hK12 : Below w9.heap.size w9 w12 := Wrote.below HK11.out hWr HK11.out.size (fun x hx => HL11.out.base x hx)
  have HK12 := Lib.hid hK12
  have HL12 := Lib.hid hL
  rw [Hy.out]
  clear hL hWr hK12 HL11 HK11 e0 e1 e2 e3 e4 hn2
  have Hcan2 : Hid (∀ W, Below w12.heap.size w12 W → Calls Tryd.prog 10 #[.pointer (some ⟨lb, 0, none⟩), .int .i64 (tk : Int), .agg #[.int .i64 wk, .int .i64 wo]] W fun e w' => e = .returned (.bool (canB S (tk : Int) wk wo)) ∧ Below W.heap.size W w') := fun W hb => by
    have := can_calls (HL12.out.below hb) (tk : Int) wk wo
    rw [HWt.out.can] at this
    exact this
  obtain ⟨q0, q1⟩ := HAc.out w12 HK12.out
  obtain ⟨d0, d1, d2, d3, d4⟩ := (HW9.out.below HK12.out).all
  generalize canB S (tk : Int) wk wo = cb at *
  go_upto_region 17 with (fail)
  refine wp_ext_draw 10 mixed (by kernel_rfl) ?_
  simp only [List.take_succ_cons, List.take_zero, List.drop_succ_cons, List.drop_zero]
  repeat ((first | ((apply TextRun.go rfl rfl rfl); (focus (intro w1 hS K hK; have hc := bcell hS; have hs := blt hS; have q0 := keep hS q0; have q1 := keep hS q1; have d0 := keep hS d0; go_wp2_with ((with_reducible refine (Hcan2.out _ hS).mono ?_); rintro x' w4 ⟨rfl, hb⟩); first | done | exact hS | exact hS.trans (hb.mono hS.size)))) | (refine TextRun.skip rfl ?_) | ((refine TextRun.wantedT rfl rfl rfl ?_); (apply Exists.intro); (apply And.intro); (focus (intro w1 hS K hK; have hc := bcell hS; have hs := blt hS; have q0 := keep hS q0; have q1 := keep hS q1; have d0 := keep hS d0; go_wp2_with ((with_reducible refine (Hcan2.out _ hS).mono ?_); rintro x' w4 ⟨rfl, hb⟩); first | done | exact hS | exact hS.trans (hb.mono hS.size))))); (simp only [Act.put, List.setIfInBounds_toArray, List.set_cons_zero, List.set_cons_succ]))
  refine TextRun.done ?_
  intro w13 hb
  have HK13 := Lib.hid (HK12.out.trans (hb.mono HK12.out.size))
  have hcc : (cb != cb) = false := by simp
  clear hb q0 q1 d0 d1 d2 d3 d4 HK12 HL12 Hcan2 HAc
  have HB13 := Lib.hid (HB9.out.trans (HK13.out.mono HB9.out.size))
  have HS13 : Hid (StateAt w13 g8 S) := (HK13.out.block g8 (Array.getElem?_eq_some_iff.1 HS9.out).1).trans HS9.out
  have HE13 := Lib.hid (HE9.out.below HK13.out)
  have HW13 := Lib.hid (HW9.out.below HK13.out)
  clear HS9 HE9 HW9 HB9 HK13
  go_upto_region 21 with (first | (refine wpList_load_row rfl 28 (.tmp 8) rfl g8 rfl 28 (stArr S.st S.ow) (0, 0) _ HS13.out Tryd.underlying28 rfl (by kernel_rfl) ?_) | (refine wpList_store_row rfl 28 (.tmp 21) (.tmp 115) rfl w13.heap.size (stArr S.st S.ow) rfl rfl 28 #[.int .i64 0, .int .i64 0, .int .i64 0, .int .i64 0, .int .i64 0, .int .i64 0, .int .i64 0, .int .i64 0, .int .i64 0, .int .i64 0, .int .i64 0, .int .i64 0, .int .i64 0, .int .i64 0, .int .i64 0, .int .i64 0] (MapKept.heap_alloc w13 _).1 infoState rfl (stArr_one _ _) ?_))
  have hrow := row_made w13 #[.int .i64 0, .int .i64 0, .int .i64 0, .int .i64 0, .int .i64 0, .int .i64 0, .int .i64 0, .int .i64 0, .int .i64 0, .int .i64 0, .int .i64 0, .int .i64 0, .int .i64 0, .int .i64 0, .int .i64 0, .int .i64 0] (stArr S.st S.ow) 28
  revert hrow
  generalize ((w13.alloc (.cells #[.int .i64 0, .int .i64 0, .int .i64 0, .int .i64 0, .int .i64 0, .int .i64 0, .int .i64 0, .int .i64 0, .int .i64 0, .int .i64 0, .int .i64 0, .int .i64 0, .int .i64 0, .int .i64 0, .int .i64 0, .int .i64 0] 28)).setRow w13.heap.size (stArr S.st S.ow)) = w14
  rintro ⟨hrow, hb⟩
  have HB14 := Lib.hid (HB13.out.trans (hb.mono HB13.out.size))
  have HE14 := Lib.hid (HE13.out.below hb)
  have HW14 := Lib.hid (HW13.out.below hb)
  have hT14 : StateAt w14 w13.heap.size S := hrow
  have hgE : gE < w13.heap.size := World.block_lt_of_cell? w13 _ HE13.out.e0
  have hgW : gW < w13.heap.size := World.block_lt_of_cell? w13 _ HW13.out.e0
  have hw0 := HB13.out.size
  revert hT14 hgE hgW hw0
  generalize w13.heap.size = g21
  intro hT14 hgE hgW hw0
  have HT14 := Lib.hid hT14
  obtain ⟨d0, d1, d2, d3, d4⟩ := HW14.out.all
  clear hb hrow hT14 HE13 HW13 HB13 HS13
  go_wp2_with fail
  refine (sadd_some HT14.out HGd.out ⟨(tk : Int), wk, wo, wv, wb⟩).mono ?_
  rintro e w15 ⟨rfl, _, hgr⟩
  have hWr : Wrote (fun q => q = g21) w14 w15 := Wrote.of_grown hgr (fun k hk => (Option.some.inj hk).symm)
  have HE15 := Lib.hid (HE14.out.wrote hWr (by omega))
  have HW15 := Lib.hid (HW14.out.wrote hWr (by omega))
  have HB15 := Lib.hid (Wrote.below HB14.out hWr HB14.out.size (fun q hq => by omega))
  clear hgr hWr HE14 HW14 HT14 HB14 d0 d1 d2 d3 d4
  by_cases hy2 : addE S ⟨(tk : Int), wk, wo, wv, wb⟩ = 0
  case neg =>
    have hyb : (addE S ⟨(tk : Int), wk, wo, wv, wb⟩ != 0) = true := by simpa [bne] using hy2
    clear hy2
    generalize addE S ⟨(tk : Int), wk, wo, wv, wb⟩ = y at *
    go_wp2
    go_ret
    exact ⟨rfl, HB15.out⟩
  rw [hy2]
  have HwX := Lib.hid (HWt.out.x hy2 (by omega))
  have HwY := Lib.hid (HWt.out.y hy2 (by omega))
  have Htr := Lib.hid HWt.out.tr
  clear hy2 HWt
  have HI15 := Lib.hid (Hev.out.below HB15.out)
  go_upto_region 24 with (fail)
  refine wp_vee_draw 6 [1, 3, 4] 0 2 5 (fun w' => EvBox w' gE et ek eo ev eb ∧ EvBox w' gW (tk : Int) wk wo wv wb) mixed (by kernel_rfl) (fun c a d v w h => by cases d <;> exact h) ⟨HE15.out.below (Below.refl _ w15).drew, HW15.out.below (Below.refl _ w15).drew⟩ ?_
  simp only [picks, List.map_cons, List.map_nil, List.getD_cons_zero, List.getD_cons_succ]
  repeat ((apply ReadRun.go rfl); (intro z1 hS; (obtain ⟨⟨s0, s1, s2, s3, s4⟩, r0, r1, r2, r3, r4⟩ := hS); go_simp; first | done | exact rfl); (simp only [Act.put, List.setIfInBounds_toArray, List.set_cons_zero, List.set_cons_succ]))
  refine ReadRun.done ?_
  refine VeeRun.cut (fun u v x w' => OwnL eltEv w' w15.heap.size v l ∧ (∃ g, x = .slice (some ⟨g, 0, none⟩) 2 2 ∧ IsEvs w' (some ⟨g, 0, none⟩) 2 2 [(⟨et, ek, eo, ev, eb⟩ : Ev), (⟨(tk : Int), wk, wo, wv, wb⟩ : Ev)]) ∧ Below w15.heap.size w15 w') ?_ ?_
  · refine ⟨MStep.go rfl (fun K hK => ?_), MStep.go rfl (fun K hK => ?_)⟩
    · go_wp2_with fail
      have hP : Below w15.heap.size w15 (w15.alloc (.cells #[] 24)).drew := ((Below.refl _ w15).alloc (Nat.le_refl _) _).drew
      have hmd : ((w15.alloc (.cells #[] 24)).drew).ownsRow w15.heap.size 24 5 (.slice (some ⟨w15.heap.size, 0, none⟩) 0 0) 0 [] := World.ownsRow_made w15 #[] 0 (Nat.le_refl _) (Nat.zero_le _) rfl
      refine ⟨⟨HE15.out.below hP, HW15.out.below hP⟩, MStep.go rfl (fun K hK => ?_), MStep.go rfl (fun K hK => ?_)⟩
      · refine wp_cpEvs (HI15.out.below hP) _ _ rfl w15.heap.size rfl hmd rfl (by omega) hP.size ?_
        intro v' y1 hown hwr hge
        have hQ : Below w15.heap.size w15 y1 := Wrote.below hP hwr hP.size (fun q hq => by cases hq; exact Nat.le_refl _)
        refine hK _ _ ⟨⟨HE15.out.below hQ, HW15.out.below hQ⟩, MStep.go rfl (fun K hK => ?_)⟩
        (try simp only [Act.put, List.setIfInBounds_toArray, List.set_cons_zero, List.set_cons_succ])
        go_wp2_with fail
        have hev := evs_two y1 ⟨et, ek, eo, ev, eb⟩ ⟨(tk : Int), wk, wo, wv, wb⟩ Hew.out Hww.out
        have hR : Below w15.heap.size w15 (y1.alloc (.cells #[.int .i64 et, .int .i64 ek, .int .i64 eo, .int .i64 ev, .int .i64 eb, .int .i64 (tk : Int), .int .i64 wk, .int .i64 wo, .int .i64 wv, .int .i64 wb] 24)) := hQ.alloc hQ.size _
        have hR1 : Below y1.heap.size y1 (y1.alloc (.cells #[.int .i64 et, .int .i64 ek, .int .i64 eo, .int .i64 ev, .int .i64 eb, .int .i64 (tk : Int), .int .i64 wk, .int .i64 wo, .int .i64 wv, .int .i64 wb] 24)) := (Below.refl _ y1).alloc (Nat.le_refl _) _
        exact ⟨⟨HE15.out.below hR, HW15.out.below hR⟩, _, v', _, rfl, hown.below hR1, ⟨_, rfl, hev⟩, hR⟩
      · go_wp2_with fail
        have hev := evs_two (w15.alloc (.cells #[] 24)).drew ⟨et, ek, eo, ev, eb⟩ ⟨(tk : Int), wk, wo, wv, wb⟩ Hew.out Hww.out
        have hR : Below w15.heap.size w15 ((w15.alloc (.cells #[] 24)).drew.alloc (.cells #[.int .i64 et, .int .i64 ek, .int .i64 eo, .int .i64 ev, .int .i64 eb, .int .i64 (tk : Int), .int .i64 wk, .int .i64 wo, .int .i64 wv, .int .i64 wb] 24)) := hP.alloc hP.size _
        have hmd2 := hmd.alloc (.cells #[.int .i64 et, .int .i64 ek, .int .i64 eo, .int .i64 ev, .int .i64 eb, .int .i64 (tk : Int), .int .i64 wk, .int .i64 wo, .int .i64 wv, .int .i64 wb] 24)
        have hsP : (w15.alloc (.cells #[] 24)).drew.heap.size = w15.heap.size + 1 := (show (w15.alloc (.cells #[] 24)).heap.size = _ by simp)
        rw [hsP] at hev
        refine ⟨⟨HE15.out.below hR, HW15.out.below hR⟩, MStep.go rfl (fun K hK => ?_)⟩
        (try simp only [Act.put, List.setIfInBounds_toArray, List.set_cons_zero, List.set_cons_succ])
        refine wp_cpEvs (HI15.out.below hR) _ _ rfl w15.heap.size rfl hmd2 rfl (by omega) hR.size ?_
        intro v' y1 hown hwr hge
        have hQ : Below w15.heap.size w15 y1 := Wrote.below hR hwr hR.size (fun q hq => by cases hq; exact Nat.le_refl _)
        refine hK _ _ ⟨⟨HE15.out.below hQ, HW15.out.below hQ⟩, _, v', _, rfl, hown, ⟨_, rfl, hev.wroteB hwr (fun e => ?_)⟩, hQ⟩
        have e1 : w15.heap.size = w15.heap.size + 1 := Option.some.inj e
        omega
    · go_wp2_with fail
      have hev := evs_two w15 ⟨et, ek, eo, ev, eb⟩ ⟨(tk : Int), wk, wo, wv, wb⟩ Hew.out Hww.out
      have hP : Below w15.heap.size w15 (w15.alloc (.cells #[.int .i64 et, .int .i64 ek, .int .i64 eo, .int .i64 ev, .int .i64 eb, .int .i64 (tk : Int), .int .i64 wk, .int .i64 wo, .int .i64 wv, .int .i64 wb] 24)).drew := ((Below.refl _ w15).alloc (Nat.le_refl _) _).drew
      refine ⟨⟨HE15.out.below hP, HW15.out.below hP⟩, MStep.go rfl (fun K hK => ?_)⟩
      go_wp2_with fail
      have hR : Below w15.heap.size w15 ((w15.alloc (.cells #[.int .i64 et, .int .i64 ek, .int .i64 eo, .int .i64 ev, .int .i64 eb, .int .i64 (tk : Int), .int .i64 wk, .int .i64 wo, .int .i64 wv, .int .i64 wb] 24)).drew.alloc (.cells #[] 24)) := hP.alloc hP.size _
      have hmd : ((w15.alloc (.cells #[.int .i64 et, .int .i64 ek, .int .i64 eo, .int .i64 ev, .int .i64 eb, .int .i64 (tk : Int), .int .i64 wk, .int .i64 wo, .int .i64 wv, .int .i64 wb] 24)).drew.alloc (.cells #[] 24)).ownsRow w15.heap.size 24 5 (.slice (some ⟨(w15.alloc (.cells #[.int .i64 et, .int .i64 ek, .int .i64 eo, .int .i64 ev, .int .i64 eb, .int .i64 (tk : Int), .int .i64 wk, .int .i64 wo, .int .i64 wv, .int .i64 wb] 24)).drew.heap.size, 0, none⟩) 0 0) 0 [] := World.ownsRow_made _ #[] 0 hP.size (Nat.zero_le _) rfl
      have hev2 := hev.below (w' := (w15.alloc (.cells #[.int .i64 et, .int .i64 ek, .int .i64 eo, .int .i64 ev, .int .i64 eb, .int .i64 (tk : Int), .int .i64 wk, .int .i64 wo, .int .i64 wv, .int .i64 wb] 24)).drew.alloc (.cells #[] 24)) (((Below.refl _ (w15.alloc (.cells #[.int .i64 et, .int .i64 ek, .int .i64 eo, .int .i64 ev, .int .i64 eb, .int .i64 (tk : Int), .int .i64 wk, .int .i64 wo, .int .i64 wv, .int .i64 wb] 24))).drew).alloc (Nat.le_refl _) _)
      have hsP : (w15.alloc (.cells #[.int .i64 et, .int .i64 ek, .int .i64 eo, .int .i64 ev, .int .i64 eb, .int .i64 (tk : Int), .int .i64 wk, .int .i64 wo, .int .i64 wv, .int .i64 wb] 24)).drew.heap.size = w15.heap.size + 1 := (show (w15.alloc (.cells #[.int .i64 et, .int .i64 ek, .int .i64 eo, .int .i64 ev, .int .i64 eb, .int .i64 (tk : Int), .int .i64 wk, .int .i64 wo, .int .i64 wv, .int .i64 wb] 24)).heap.size = _ by simp)
      rw [hsP] at hmd
      refine ⟨⟨HE15.out.below hR, HW15.out.below hR⟩, MStep.go rfl (fun K hK => ?_)⟩
      (try simp only [Act.put, List.setIfInBounds_toArray, List.set_cons_zero, List.set_cons_succ])
      refine wp_cpEvs (HI15.out.below hR) _ _ rfl w15.heap.size rfl hmd rfl (by omega) hR.size ?_
      intro v' y1 hown hwr hge
      have hQ : Below w15.heap.size w15 y1 := Wrote.below hR hwr hR.size (fun q hq => by have e1 : w15.heap.size + 1 = q := Option.some.inj hq; omega)
      refine hK _ _ ⟨⟨HE15.out.below hQ, HW15.out.below hQ⟩, _, v', _, rfl, hown, ⟨_, rfl, hev2.wroteB hwr (fun e => ?_)⟩, hQ⟩
      have e1 : w15.heap.size + 1 = w15.heap.size := Option.some.inj e
      omega
  · rintro u v x w16 ⟨hown, ⟨g, rfl, hev2⟩, hb⟩
    have HO16 := Lib.hid hown
    have HV16 := Lib.hid hev2
    have HK16 := Lib.hid hb
    have hcap : l.length + 2 < 1000000 := by rw [Hev.out.len]; omega
    clear hown hev2 hb
    simp only [List.drop_succ_cons, List.drop_zero, Act.put, List.setIfInBounds_toArray, List.set_cons_zero, List.set_cons_succ]
    refine wpList_pushRow rfl (.tmp 123) (.tmp 126) rfl (ys := [(⟨et, ek, eo, ev, eb⟩ : Ev), (⟨(tk : Int), wk, wo, wv, wb⟩ : Ev)]) rfl rfl HO16.out HV16.out (Nat.succ_pos _) HK16.out.size hcap ?_
    intro v2 w17 hown2 hwr2 _
    have hK17 : Below w15.heap.size w15 w17 := Wrote.below HK16.out hwr2 HK16.out.size (fun q hq => (HO16.out.lt hq).1)
    have hwfX : ∀ y ∈ l ++ [(⟨et, ek, eo, ev, eb⟩ : Ev), (⟨(tk : Int), wk, wo, wv, wb⟩ : Ev)], y.wf := fun y hy => by
      rcases List.mem_append.1 hy with hy | hy
      · exact Hev.out.wf y hy
      · simp only [List.mem_cons, List.not_mem_nil, or_false] at hy
        rcases hy with rfl | rfl
        · exact Hew.out
        · exact Hww.out
    obtain ⟨xa, xc, rfl, hX⟩ := hown2.evs hwfX
    have hlX : (l ++ [(⟨et, ek, eo, ev, eb⟩ : Ev), (⟨(tk : Int), wk, wo, wv, wb⟩ : Ev)]).length = n + 2 := by rw [List.length_append, Hev.out.len]; rfl
    rw [hlX] at hX ⊢
    have HX17 := Lib.hid hX
    have HB17 := Lib.hid (HB15.out.trans (hK17.mono HB15.out.size))
    have HE17 := Lib.hid (HE15.out.below hK17)
    have HW17 := Lib.hid (HW15.out.below hK17)
    have HI17 := Lib.hid (HI15.out.below hK17)
    clear hown2 hwr2 hX HO16 HV16 HK16 hK17 HE15 HW15 HI15 HB15 hwfX hlX
    go_upto_region 25 with (fail)
    refine wp_vee_draw 6 [1, 3, 4] 0 2 5 (fun w' => EvBox w' gE et ek eo ev eb ∧ EvBox w' gW (tk : Int) wk wo wv wb) mixed (by kernel_rfl) (fun c a d v w h => by cases d <;> exact h) ⟨HE17.out.below (Below.refl _ w17).drew, HW17.out.below (Below.refl _ w17).drew⟩ ?_
    simp only [picks, List.map_cons, List.map_nil, List.getD_cons_zero, List.getD_cons_succ]
    repeat ((apply ReadRun.go rfl); (intro z1 hS; (obtain ⟨⟨s0, s1, s2, s3, s4⟩, r0, r1, r2, r3, r4⟩ := hS); go_simp; first | done | exact rfl); (simp only [Act.put, List.setIfInBounds_toArray, List.set_cons_zero, List.set_cons_succ]))
    refine ReadRun.done ?_
    refine VeeRun.cut (fun u v x w' => OwnL eltEv w' w17.heap.size v l ∧ (∃ g, x = .slice (some ⟨g, 0, none⟩) 2 2 ∧ IsEvs w' (some ⟨g, 0, none⟩) 2 2 [(⟨(tk : Int), wk, wo, wv, wb⟩ : Ev), (⟨et, ek, eo, ev, eb⟩ : Ev)]) ∧ Below w17.heap.size w17 w') ?_ ?_
    · refine ⟨MStep.go rfl (fun K hK => ?_), MStep.go rfl (fun K hK => ?_)⟩
      · go_wp2_with fail
        have hP : Below w17.heap.size w17 (w17.alloc (.cells #[] 24)).drew := ((Below.refl _ w17).alloc (Nat.le_refl _) _).drew
        have hmd : ((w17.alloc (.cells #[] 24)).drew).ownsRow w17.heap.size 24 5 (.slice (some ⟨w17.heap.size, 0, none⟩) 0 0) 0 [] := World.ownsRow_made w17 #[] 0 (Nat.le_refl _) (Nat.zero_le _) rfl
        refine ⟨⟨HE17.out.below hP, HW17.out.below hP⟩, MStep.go rfl (fun K hK => ?_), MStep.go rfl (fun K hK => ?_)⟩
        · refine wp_cpEvs (HI17.out.below hP) _ _ rfl w17.heap.size rfl hmd rfl (by omega) hP.size ?_
          intro v' y1 hown hwr hge
          have hQ : Below w17.heap.size w17 y1 := Wrote.below hP hwr hP.size (fun q hq => by cases hq; exact Nat.le_refl _)
          refine hK _ _ ⟨⟨HE17.out.below hQ, HW17.out.below hQ⟩, MStep.go rfl (fun K hK => ?_)⟩
          (try simp only [Act.put, List.setIfInBounds_toArray, List.set_cons_zero, List.set_cons_succ])
          go_wp2_with fail
          have hev := evs_two y1 ⟨(tk : Int), wk, wo, wv, wb⟩ ⟨et, ek, eo, ev, eb⟩ Hww.out Hew.out
          have hR : Below w17.heap.size w17 (y1.alloc (.cells #[.int .i64 (tk : Int), .int .i64 wk, .int .i64 wo, .int .i64 wv, .int .i64 wb, .int .i64 et, .int .i64 ek, .int .i64 eo, .int .i64 ev, .int .i64 eb] 24)) := hQ.alloc hQ.size _
          have hR1 : Below y1.heap.size y1 (y1.alloc (.cells #[.int .i64 (tk : Int), .int .i64 wk, .int .i64 wo, .int .i64 wv, .int .i64 wb, .int .i64 et, .int .i64 ek, .int .i64 eo, .int .i64 ev, .int .i64 eb] 24)) := (Below.refl _ y1).alloc (Nat.le_refl _) _
          exact ⟨⟨HE17.out.below hR, HW17.out.below hR⟩, _, v', _, rfl, hown.below hR1, ⟨_, rfl, hev⟩, hR⟩
        · go_wp2_with fail
          have hev := evs_two (w17.alloc (.cells #[] 24)).drew ⟨(tk : Int), wk, wo, wv, wb⟩ ⟨et, ek, eo, ev, eb⟩ Hww.out Hew.out
          have hR : Below w17.heap.size w17 ((w17.alloc (.cells #[] 24)).drew.alloc (.cells #[.int .i64 (tk : Int), .int .i64 wk, .int .i64 wo, .int .i64 wv, .int .i64 wb, .int .i64 et, .int .i64 ek, .int .i64 eo, .int .i64 ev, .int .i64 eb] 24)) := hP.alloc hP.size _
          have hmd2 := hmd.alloc (.cells #[.int .i64 (tk : Int), .int .i64 wk, .int .i64 wo, .int .i64 wv, .int .i64 wb, .int .i64 et, .int .i64 ek, .int .i64 eo, .int .i64 ev, .int .i64 eb] 24)
          have hsP : (w17.alloc (.cells #[] 24)).drew.heap.size = w17.heap.size + 1 := (show (w17.alloc (.cells #[] 24)).heap.size = _ by simp)
          rw [hsP] at hev
          refine ⟨⟨HE17.out.below hR, HW17.out.below hR⟩, MStep.go rfl (fun K hK => ?_)⟩
          (try simp only [Act.put, List.setIfInBounds_toArray, List.set_cons_zero, List.set_cons_succ])
          refine wp_cpEvs (HI17.out.below hR) _ _ rfl w17.heap.size rfl hmd2 rfl (by omega) hR.size ?_
          intro v' y1 hown hwr hge
          have hQ : Below w17.heap.size w17 y1 := Wrote.below hR hwr hR.size (fun q hq => by cases hq; exact Nat.le_refl _)
          refine hK _ _ ⟨⟨HE17.out.below hQ, HW17.out.below hQ⟩, _, v', _, rfl, hown, ⟨_, rfl, hev.wroteB hwr (fun e => ?_)⟩, hQ⟩
          have e1 : w17.heap.size = w17.heap.size + 1 := Option.some.inj e
          omega
      · go_wp2_with fail
        have hev := evs_two w17 ⟨(tk : Int), wk, wo, wv, wb⟩ ⟨et, ek, eo, ev, eb⟩ Hww.out Hew.out
        have hP : Below w17.heap.size w17 (w17.alloc (.cells #[.int .i64 (tk : Int), .int .i64 wk, .int .i64 wo, .int .i64 wv, .int .i64 wb, .int .i64 et, .int .i64 ek, .int .i64 eo, .int .i64 ev, .int .i64 eb] 24)).drew := ((Below.refl _ w17).alloc (Nat.le_refl _) _).drew
        refine ⟨⟨HE17.out.below hP, HW17.out.below hP⟩, MStep.go rfl (fun K hK => ?_)⟩
        go_wp2_with fail
        have hR : Below w17.heap.size w17 ((w17.alloc (.cells #[.int .i64 (tk : Int), .int .i64 wk, .int .i64 wo, .int .i64 wv, .int .i64 wb, .int .i64 et, .int .i64 ek, .int .i64 eo, .int .i64 ev, .int .i64 eb] 24)).drew.alloc (.cells #[] 24)) := hP.alloc hP.size _
        have hmd : ((w17.alloc (.cells #[.int .i64 (tk : Int), .int .i64 wk, .int .i64 wo, .int .i64 wv, .int .i64 wb, .int .i64 et, .int .i64 ek, .int .i64 eo, .int .i64 ev, .int .i64 eb] 24)).drew.alloc (.cells #[] 24)).ownsRow w17.heap.size 24 5 (.slice (some ⟨(w17.alloc (.cells #[.int .i64 (tk : Int), .int .i64 wk, .int .i64 wo, .int .i64 wv, .int .i64 wb, .int .i64 et, .int .i64 ek, .int .i64 eo, .int .i64 ev, .int .i64 eb] 24)).drew.heap.size, 0, none⟩) 0 0) 0 [] := World.ownsRow_made _ #[] 0 hP.size (Nat.zero_le _) rfl
        have hev2 := hev.below (w' := (w17.alloc (.cells #[.int .i64 (tk : Int), .int .i64 wk, .int .i64 wo, .int .i64 wv, .int .i64 wb, .int .i64 et, .int .i64 ek, .int .i64 eo, .int .i64 ev, .int .i64 eb] 24)).drew.alloc (.cells #[] 24)) (((Below.refl _ (w17.alloc (.cells #[.int .i64 (tk : Int), .int .i64 wk, .int .i64 wo, .int .i64 wv, .int .i64 wb, .int .i64 et, .int .i64 ek, .int .i64 eo, .int .i64 ev, .int .i64 eb] 24))).drew).alloc (Nat.le_refl _) _)
        have hsP : (w17.alloc (.cells #[.int .i64 (tk : Int), .int .i64 wk, .int .i64 wo, .int .i64 wv, .int .i64 wb, .int .i64 et, .int .i64 ek, .int .i64 eo, .int .i64 ev, .int .i64 eb] 24)).drew.heap.size = w17.heap.size + 1 := (show (w17.alloc (.cells #[.int .i64 (tk : Int), .int .i64 wk, .int .i64 wo, .int .i64 wv, .int .i64 wb, .int .i64 et, .int .i64 ek, .int .i64 eo, .int .i64 ev, .int .i64 eb] 24)).heap.size = _ by simp)
        rw [hsP] at hmd
        refine ⟨⟨HE17.out.below hR, HW17.out.below hR⟩, MStep.go rfl (fun K hK => ?_)⟩
        (try simp only [Act.put, List.setIfInBounds_toArray, List.set_cons_zero, List.set_cons_succ])
        refine wp_cpEvs (HI17.out.below hR) _ _ rfl w17.heap.size rfl hmd rfl (by omega) hR.size ?_
        intro v' y1 hown hwr hge
        have hQ : Below w17.heap.size w17 y1 := Wrote.below hR hwr hR.size (fun q hq => by have e1 : w17.heap.size + 1 = q := Option.some.inj hq; omega)
        refine hK _ _ ⟨⟨HE17.out.below hQ, HW17.out.below hQ⟩, _, v', _, rfl, hown, ⟨_, rfl, hev2.wroteB hwr (fun e => ?_)⟩, hQ⟩
        have e1 : w17.heap.size + 1 = w17.heap.size := Option.some.inj e
        omega
    · rintro u3 v3 x3 w18 ⟨hown, ⟨g3, rfl, hev2⟩, hb⟩
      have HO16 := Lib.hid hown
      have HV16 := Lib.hid hev2
      have HK16 := Lib.hid hb
      clear hown hev2 hb
      simp only [List.drop_succ_cons, List.drop_zero, Act.put, List.setIfInBounds_toArray, List.set_cons_zero, List.set_cons_succ]
      refine wpList_pushRow rfl (.tmp 130) (.tmp 133) rfl (ys := [(⟨(tk : Int), wk, wo, wv, wb⟩ : Ev), (⟨et, ek, eo, ev, eb⟩ : Ev)]) rfl rfl HO16.out HV16.out (Nat.succ_pos _) HK16.out.size hcap ?_
      intro v4 w19 hown2 hwr2 _
      have hK19 : Below w17.heap.size w17 w19 := Wrote.below HK16.out hwr2 HK16.out.size (fun q hq => (HO16.out.lt hq).1)
      have hwfY : ∀ y ∈ l ++ [(⟨(tk : Int), wk, wo, wv, wb⟩ : Ev), (⟨et, ek, eo, ev, eb⟩ : Ev)], y.wf := fun y hy => by
        rcases List.mem_append.1 hy with hy | hy
        · exact Hev.out.wf y hy
        · simp only [List.mem_cons, List.not_mem_nil, or_false] at hy
          rcases hy with rfl | rfl
          · exact Hww.out
          · exact Hew.out
      obtain ⟨ya, yc, rfl, hY⟩ := hown2.evs hwfY
      have hlY : (l ++ [(⟨(tk : Int), wk, wo, wv, wb⟩ : Ev), (⟨et, ek, eo, ev, eb⟩ : Ev)]).length = n + 2 := by rw [List.length_append, Hev.out.len]; rfl
      rw [hlY] at hY ⊢
      have HY19 := Lib.hid hY
      have HX19 := Lib.hid (HX17.out.below hK19)
      have HB19 := Lib.hid (HB17.out.trans (hK19.mono HB17.out.size))
      have Hres : Hid (sameRes (n + 2) (n + 2) (l ++ [(⟨et, ek, eo, ev, eb⟩ : Ev), (⟨(tk : Int), wk, wo, wv, wb⟩ : Ev)]) (l ++ [(⟨(tk : Int), wk, wo, wv, wb⟩ : Ev), (⟨et, ek, eo, ev, eb⟩ : Ev)]) = (true, 0)) := by
        rw [Hid, sameRes_ok HwX.out HwY.out, normL_tr Htr.out, eqB_self]
      clear hown2 hwr2 hY HO16 HV16 HK16 hK19 HE17 HW17 HI17 HB17 HX17 hwfY hlY
      go_wp2_with fail
      refine (same_calls HX19.out HY19.out).mono ?_
      rintro e w20 ⟨rfl, hb⟩
      rw [Hres.out]
      have HB20 := Lib.hid (HB19.out.trans (hb.mono HB19.out.size))
      clear hb HX19 HY19 HB19 Hres
      go_wp2
      go_ret
      exact ⟨rfl, HB20.out⟩
end Go.Proofs.YtjhlehepnhbbaaaDoor

namespace Go.Proofs.YtjhlehepnhbbaaaDoor
open Go.ChangeShapes Go.WideShapes Go.ChangeAt Go.RowKit Go.Deep

set_option maxRecDepth 100000 in
theorem sleepWaits_lifted (os : Os) (started : os.Started) (H : Type) (enc : TypeId × Value → H) :
    ReturnsInHanded {} Tryd.checked os 3 .any (fun w args => (Rows.sleepWaitsSpec.pre enc Tryd.prog Tryd.f3 [] false w args ∧ laidMetH Tryd.prog laid2 w) ∧ sizedMet enc Tryd.prog Tryd.f3 (OpenSpec.ofChange Rows.sleepWaitsSpec) false w args)
      (Rows.sleepWaitsSpec.post enc Tryd.prog Tryd.f3 false true false false) := by
  refine returnsInHanded_of_change_and (C := Tryd.checked) (X := fun w _ => laidMetH Tryd.prog laid2 w) (fun _ _ _ hh h => h.of_heap hh) own started (by kernel_rfl) Tryd.func3
    (ChangeSpec.witness_shaped (enc := enc) (C := Tryd.checked) (os := os) (X := fun w _ => laidMetH Tryd.prog laid2 w) false (World.doorLaid Tryd.prog 19 os) #[.slice none 0 0, .agg #[.int .i64 0, .int .i64 0, .int .i64 0, .int .i64 0, .int .i64 0], .agg #[.int .i64 0, .int .i64 0, .int .i64 0, .int .i64 0, .int .i64 0]] 8 rfl (World.shaped_of_RefB (by kernel_rfl) (by kernel_rfl)) (by kernel_rfl) (by kernel_rfl) (by kernel_rfl) (door_met os _)) ?_
  intro W base args ds gs before hval0 hW _ _ hL _
  have hT := tab_of_laid hL
  have hval : ∀ (j : Nat) t v, Tryd.f3.params[j]? = some t → args[j]? = some v → Value.okWide Tryd.prog W .any base t v := hval0
  have hW' := hW
  obtain ⟨p, q, hA0, hV, rfl, hfz, hnd⟩ := hW
  have hA : DataW.TrodAll enc Tryd.prog W 0 (fun _ => true) true Tryd.f3.params.toList args.toList ds p := hA0
  have hA1 := hA
  rw [Tryd.params3] at hA hval
  obtain ⟨v0, vs0, d0, ds0, p0, q0, hargs, rfl, rfl, h0, r0⟩ := trodAll_cons hA
  obtain ⟨v1, vs1, d1, ds1, p1, q1, rfl, rfl, rfl, h1, r1⟩ := trodAll_cons r0
  obtain ⟨v2, vs2, d2, ds2, p2, q2, rfl, rfl, rfl, h2, r2⟩ := trodAll_cons r1
  obtain ⟨rfl, rfl, rfl⟩ := trodAll_nil r2
  obtain rfl : args = #[v0, v1, v2] := by cases args; simp_all
  obtain ⟨rfl, rfl⟩ := trodVars_none hV
  obtain ⟨a0, n0, c0, rfl⟩ := okWide_slice Tryd.underlying22 (hval 0 22 v0 rfl rfl)
  obtain ⟨x0, wf0⟩ := open_evs h0
  obtain ⟨x1, rfl, wf1⟩ := open_ev (hval 1 24 v1 rfl rfl) h1
  obtain ⟨x2, rfl, wf2⟩ := open_ev (hval 2 24 v2 rfl rfl) h2
  clear hA0 hval0
  refine (swait_law' hT wf0 _ _ _ _ _ _ _ _ _ _ wf1 wf2).mono fun e W' ⟨he, bel⟩ => ?_
  subst he
  exact ⟨_, rfl, law_post (bt := 4) hW' hA1 (by kernel_rfl) rfl Tryd.underlying4 rfl rfl bel⟩

theorem sleepWaits_holds : Rows.SleepWaitsSaid :=
  OpenClaim.holds_of_wide 3 Tryd.f3 rfl rfl rfl rfl rfl rfl rfl ⟨rfl, rfl, rfl, rfl, rfl⟩ rfl rfl rfl rfl rfl (by kernel_rfl) Tryd.func3 (by kernel_rfl)
    (of_decide_eq_true (by kernel_rfl)) (by unfold Func.isWrapper; first | (rw [if_pos (by decide +kernel)]; kernel_rfl) | (rw [if_neg (by decide +kernel)]; exact ⟨rfl, rfl⟩))
    (fun os started H enc _ => sleepWaits_lifted os started H enc)
#print axioms sleepWaits_holds

theorem sleepWaitsCard_holds : Rows.SleepWaitsCardSaid :=
  Claim7.holds_tied_plain_at .later [] [.data, .data] true (true, "31404d60cfcf2387db8bd4b721e3d939c98ee4c099136ef5a90dab808b4214b7") true
    sleepWaits_holds (fun _ h => by cases h) (by kernel_rfl) (fun _ h => by cases h) sleepWaits_row_tie rfl ⟨rfl, rfl⟩ (by kernel_rfl) rfl
    (fun f fn hf hfn => by
      obtain rfl : f = 3 := Option.some.inj ((show Tryd.prog.funcNamed Rows.sleepWaitsRow.func = some 3 by kernel_rfl).symm.trans hf) |>.symm
      obtain rfl : fn = Tryd.f3 := (Option.some.inj (Tryd.func3.symm.trans hfn)).symm
      exact ⟨by kernel_rfl, fun j t ht => by
        rw [Tryd.params3] at ht
        have hm : t ∈ [22, 24, 24] := by simpa using Array.mem_of_getElem? ht
        have hall : ([22, 24, 24].all fun u => !Tryd.prog.wantsStandIn u) = true := by kernel_rfl
        exact (show Tryd.prog.wantsStandIn t = false by simpa using List.all_eq_true.1 hall t hm)⟩)
    (by kernel_rfl)
#print axioms sleepWaitsCard_holds
end Go.Proofs.YtjhlehepnhbbaaaDoor
