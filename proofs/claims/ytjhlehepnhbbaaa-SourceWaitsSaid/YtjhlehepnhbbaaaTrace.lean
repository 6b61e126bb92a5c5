/-
  Executions that are the same but for exchanges: plain theory. One event after another is taken that depends on none ahead of it; the least thread first: one list alone comes out, whatever is exchanged.
-/
import Derived.Test.YtjhlehepnhbbaaaRaceB
set_option linter.unusedSimpArgs false
set_option linter.unusedVariables false
namespace Go.Proofs.Ytjhlehepnhbbaaa
open Go Go.RowKit

theorem depE_symm {a b : Ev} (h : depE a b = false) : depE b a = false := dep_symm h
theorem depE_same {a b : Ev} (h : a.t = b.t) : depE a b = true := by
  unfold depE; rw [depends_is]; unfold rdepB; simp [h]
theorem depE_ne {a b : Ev} (h : depE a b = false) : a.t ≠ b.t := fun e => by rw [depE_same e] at h; cases h
theorem getD_at {l : List Ev} {p : Nat} (h : p < l.length) : l[p]? = some (l.getD p ev00) := by
  rw [List.getD_eq_getElem?_getD, List.getElem?_eq_getElem h]; rfl
theorem ext_getD {l m : List Ev} (h : l.length = m.length) (hg : ∀ u, u < l.length → l.getD u ev00 = m.getD u ev00) : l = m := by
  refine List.ext_getElem h fun u h1 h2 => ?_
  have := hg u h1
  rw [List.getD_eq_getElem?_getD, List.getD_eq_getElem?_getD, List.getElem?_eq_getElem h1, List.getElem?_eq_getElem h2] at this
  exact this
theorem getD_erase (l : List Ev) (p u : Nat) : (l.eraseIdx p).getD u ev00 = if u < p then l.getD u ev00 else l.getD (u + 1) ev00 := by
  rw [List.getD_eq_getElem?_getD, List.getElem?_eraseIdx]
  split <;> simp [List.getD_eq_getElem?_getD]

/-- The event at p depends on none ahead of it. -/
def FreeAt (l : List Ev) (p : Nat) : Prop := p < l.length ∧ ∀ k, k < p → depE (l.getD k ev00) (l.getD p ev00) = false
def LeastAt (l : List Ev) (p : Nat) : Prop := FreeAt l p ∧ ∀ q, FreeAt l q → thE l p ≤ thE l q
inductive Lin : List Ev → List Ev → Prop
  | nil : Lin [] []
  | cons {l n : List Ev} {p : Nat} (h : FreeAt l p) (hn : Lin (l.eraseIdx p) n) : Lin l (l.getD p ev00 :: n)
inductive Norm : List Ev → List Ev → Prop
  | nil : Norm [] []
  | cons {l n : List Ev} {p : Nat} (h : LeastAt l p) (hn : Norm (l.eraseIdx p) n) : Norm l (l.getD p ev00 :: n)
theorem Norm.lin {l n : List Ev} (h : Norm l n) : Lin l n := by
  induction h with
  | nil => exact .nil
  | cons h _ ih => exact .cons h.1 ih
theorem erase_len {l : List Ev} {p : Nat} (h : p < l.length) : (l.eraseIdx p).length + 1 = l.length := by
  rw [List.length_eraseIdx_of_lt h]; omega
theorem Lin.len {l n : List Ev} (h : Lin l n) : n.length = l.length := by
  induction h with
  | nil => rfl
  | cons h _ ih => rw [List.length_cons, ih, erase_len h.1]
theorem free_uniq {l : List Ev} {p q : Nat} (hp : FreeAt l p) (hq : FreeAt l q) (ht : thE l p = thE l q) : p = q := by
  rcases Nat.lt_trichotomy p q with h | h | h
  · have := hq.2 p h; rw [depE_same (by exact ht)] at this; cases this
  · exact h
  · have := hp.2 q h; rw [depE_same (by exact ht.symm)] at this; cases this
theorem least_uniq {l : List Ev} {p q : Nat} (hp : LeastAt l p) (hq : LeastAt l q) : p = q :=
  free_uniq hp.1 hq.1 (Int.le_antisymm (hp.2 q hq.1) (hq.2 p hp.1))
theorem Norm.inv {l m : List Ev} (h : Norm l m) : (l = [] ∧ m = []) ∨ ∃ p n, LeastAt l p ∧ Norm (l.eraseIdx p) n ∧ m = l.getD p ev00 :: n := by
  cases h with
  | nil => exact .inl ⟨rfl, rfl⟩
  | cons h hn => exact .inr ⟨_, _, h, hn, rfl⟩
theorem Norm.det {l n m : List Ev} (h : Norm l n) (k : Norm l m) : n = m := by
  induction h generalizing m with
  | nil =>
    rcases k.inv with ⟨_, rfl⟩ | ⟨p, _, hp, _⟩
    · rfl
    · exact absurd hp.1.1 (Nat.not_lt_zero _)
  | cons h _ ih =>
    rcases k.inv with ⟨rfl, _⟩ | ⟨p, n', hp, hn, rfl⟩
    · exact absurd h.1.1 (Nat.not_lt_zero _)
    · obtain rfl := least_uniq h hp
      rw [ih hn]

/-- l' is l with the events at i and i + 1 exchanged, which do not depend. -/
structure Ex (l l' : List Ev) (i : Nat) : Prop where
  get : ∀ u, l'.getD (sw i u) ev00 = l.getD u ev00
  dep : depE (l.getD i ev00) (l.getD (i + 1) ev00) = false
  len : l'.length = l.length
  lt : i + 1 < l.length
theorem Ex.at_i {l l' : List Ev} {i : Nat} (h : Ex l l' i) : l'.getD i ev00 = l.getD (i + 1) ev00 := by have := h.get (i + 1); rw [sw_i1] at this; exact this
theorem Ex.at_i1 {l l' : List Ev} {i : Nat} (h : Ex l l' i) : l'.getD (i + 1) ev00 = l.getD i ev00 := by have := h.get i; rw [sw_i] at this; exact this
theorem Ex.out {l l' : List Ev} {i k : Nat} (h : Ex l l' i) (h1 : k ≠ i) (h2 : k ≠ i + 1) : l'.getD k ev00 = l.getD k ev00 := by have := h.get k; rw [sw_out h1 h2] at this; exact this
theorem Ex.symm {l l' : List Ev} {i : Nat} (h : Ex l l' i) : Ex l' l i where
  get u := by rw [← h.get (sw i u), sw_sw]
  dep := by rw [h.at_i, h.at_i1]; exact depE_symm h.dep
  len := h.len.symm
  lt := by rw [h.len]; exact h.lt
theorem Ex.of {l : List Ev} {i : Nat} (hi : i + 1 < l.length) (hd : depE (l.getD i ev00) (l.getD (i + 1) ev00) = false) : Ex l (swapAt l i (l.getD i ev00) (l.getD (i + 1) ev00)) i where
  get := swap_get (getD_at (by omega)) (getD_at hi)
  dep := hd
  len := swap_len ..
  lt := hi
theorem Ex.eq {l l' : List Ev} {i : Nat} (h : Ex l l' i) : l' = swapAt l i (l.getD i ev00) (l.getD (i + 1) ev00) := by
  have k := Ex.of h.lt h.dep
  refine ext_getD (by rw [h.len, k.len]) fun u _ => ?_
  have := h.get (sw i u); rw [sw_sw] at this
  have k2 := k.get (sw i u); rw [sw_sw] at k2
  rw [this, k2]
theorem Ex.th {l l' : List Ev} {i : Nat} (h : Ex l l' i) (u : Nat) : thE l' (sw i u) = thE l u := by unfold thE; rw [h.get]
theorem Ex.swlt {l l' : List Ev} {i : Nat} (h : Ex l l' i) {u : Nat} (hu : u < l.length) : sw i u < l'.length := by rw [h.len]; exact sw_lt h.lt hu
theorem Ex.free {l l' : List Ev} {i p : Nat} (h : Ex l l' i) (hp : FreeAt l p) : FreeAt l' (sw i p) := by
  refine ⟨h.swlt hp.1, fun k hk => ?_⟩
  obtain ⟨u, rfl⟩ : ∃ u, k = sw i u := ⟨sw i k, by rw [sw_sw]⟩
  rw [h.get, h.get]
  rcases Nat.lt_trichotomy u p with hu | hu | hu
  · exact hp.2 u hu
  · subst hu; omega
  · have : p = i ∧ u = i + 1 := by
      unfold sw at hk
      split at hk
      · split at hk
        · omega
        · split at hk <;> omega
      · split at hk
        · split at hk
          · omega
          · split at hk <;> omega
        · split at hk
          · omega
          · split at hk <;> omega
    obtain ⟨rfl, rfl⟩ := this
    exact depE_symm h.dep
theorem Ex.least {l l' : List Ev} {i p : Nat} (h : Ex l l' i) (hp : LeastAt l p) : LeastAt l' (sw i p) := by
  refine ⟨h.free hp.1, fun q hq => ?_⟩
  have h1 := hp.2 _ (h.symm.free hq)
  rw [h.th]
  have h2 := h.th (sw i q)
  rw [sw_sw] at h2
  rw [h2]; exact h1
/-- One of the two taken away. -/
theorem Ex.erase_in {l l' : List Ev} {i p : Nat} (h : Ex l l' i) (hp : p = i ∨ p = i + 1) : l'.eraseIdx (sw i p) = l.eraseIdx p := by
  have hlt := h.lt
  have hlen := h.len
  have hsw : sw i p < l'.length := by rw [hlen]; exact sw_lt hlt (by omega)
  refine ext_getD ?_ fun u hu => ?_
  · have := erase_len hsw
    have := erase_len (l := l) (p := p) (by omega)
    omega
  · rw [getD_erase, getD_erase]
    rcases hp with rfl | rfl
    · rw [sw_i]
      by_cases h1 : u < p
      · rw [if_pos (by omega), if_pos h1, h.out (by omega) (by omega)]
      · by_cases h2 : u = p
        · subst h2; rw [if_pos (by omega), if_neg (by omega), h.at_i]
        · rw [if_neg (by omega), if_neg h1, h.out (by omega) (by omega)]
    · rw [sw_i1]
      by_cases h1 : u < i
      · rw [if_pos h1, if_pos (by omega), h.out (by omega) (by omega)]
      · by_cases h2 : u = i
        · subst h2; rw [if_neg (by omega), if_pos (by omega), h.at_i1]
        · rw [if_neg h1, if_neg (by omega), h.out (by omega) (by omega)]
/-- Another one taken away. -/
theorem Ex.erase_out {l l' : List Ev} {i p : Nat} (h : Ex l l' i) (hp : p < l.length) (h1 : p ≠ i) (h2 : p ≠ i + 1) : Ex (l.eraseIdx p) (l'.eraseIdx p) (if p < i then i - 1 else i) := by
  have hlt := h.lt
  have hlen := h.len
  have e1 := erase_len hp
  have e2 := erase_len (l := l') (p := p) (by omega)
  refine ⟨fun u => ?_, ?_, by omega, ?_⟩
  · rw [getD_erase, getD_erase]
    by_cases hpi : p < i
    · rw [if_pos hpi]
      by_cases hu : u < p
      · rw [if_pos hu, sw_lo (by omega), if_pos hu, h.out (by omega) (by omega)]
      · rw [if_neg hu]
        by_cases hu1 : u = i - 1
        · subst hu1
          rw [sw_i, if_neg (by omega), show i - 1 + 1 + 1 = i + 1 by omega, h.at_i1, show i - 1 + 1 = i by omega]
        · by_cases hu2 : u = i - 1 + 1
          · subst hu2
            rw [sw_i1, if_neg (by omega), show i - 1 + 1 = i by omega, h.at_i]
          · rw [sw_out hu1 hu2, if_neg hu, h.out (by omega) (by omega)]
    · rw [if_neg hpi]
      by_cases hu : u < p
      · rw [if_pos hu, if_pos (by unfold sw; split <;> (try split) <;> omega), h.get]
      · rw [if_neg hu, sw_hi (by omega), if_neg hu, h.out (by omega) (by omega)]
  · by_cases hpi : p < i
    · rw [if_pos hpi, getD_erase, getD_erase, if_neg (by omega), if_neg (by omega), show i - 1 + 1 = i by omega]; exact h.dep
    · rw [if_neg hpi, getD_erase, getD_erase, if_pos (by omega), if_pos (by omega)]; exact h.dep
  · split <;> omega
theorem Ex.ne_nil {l' : List Ev} {i : Nat} (h : Ex [] l' i) : False := by have := h.lt; simp at this
theorem Norm.ex {l n : List Ev} (hn : Norm l n) : ∀ {l' : List Ev} {i : Nat}, Ex l l' i → Norm l' n := by
  induction hn with
  | nil => intro l' i h; exact h.ne_nil.elim
  | @cons l n p hp hn ih =>
    intro l' i h
    by_cases hi : p = i ∨ p = i + 1
    · have := Norm.cons (h.least hp) (by rw [h.erase_in hi]; exact hn)
      rw [h.get] at this; exact this
    · have h1 : p ≠ i := fun e => hi (.inl e)
      have h2 : p ≠ i + 1 := fun e => hi (.inr e)
      have h3 := h.least hp
      rw [sw_out h1 h2] at h3
      have := Norm.cons h3 (ih (h.erase_out hp.1.1 h1 h2))
      rw [h.out h1 h2] at this; exact this
theorem Lin.ex {l n : List Ev} (hn : Lin l n) : ∀ {l' : List Ev} {i : Nat}, Ex l l' i → Lin l' n := by
  induction hn with
  | nil => intro l' i h; exact h.ne_nil.elim
  | @cons l n p hp hn ih =>
    intro l' i h
    by_cases hi : p = i ∨ p = i + 1
    · have := Lin.cons (h.free hp) (by rw [h.erase_in hi]; exact hn)
      rw [h.get] at this; exact this
    · have h1 : p ≠ i := fun e => hi (.inl e)
      have h2 : p ≠ i + 1 := fun e => hi (.inr e)
      have h3 := h.free hp
      rw [sw_out h1 h2] at h3
      have := Lin.cons h3 (ih (h.erase_out hp.1 h1 h2))
      rw [h.out h1 h2] at this; exact this

/-- The same but for exchanges. -/
inductive Tr : List Ev → List Ev → Prop
  | refl (l : List Ev) : Tr l l
  | step {l m k : List Ev} {i : Nat} (h : Tr l m) (he : Ex m k i) : Tr l k
theorem Tr.trans {l m k : List Ev} (h1 : Tr l m) (h2 : Tr m k) : Tr l k := by
  induction h2 with
  | refl => exact h1
  | step _ he ih => exact .step ih he
theorem Tr.one {l m : List Ev} {i : Nat} (h : Ex l m i) : Tr l m := .step (.refl l) h
theorem Tr.symm {l m : List Ev} (h : Tr l m) : Tr m l := by
  induction h with
  | refl => exact .refl _
  | step _ he ih => exact (Tr.one he.symm).trans ih
theorem Tr.len {l m : List Ev} (h : Tr l m) : m.length = l.length := by
  induction h with
  | refl => rfl
  | step _ he ih => rw [he.len, ih]
theorem Tr.norm {l m n : List Ev} (h : Tr l m) (hn : Norm l n) : Norm m n := by
  induction h with
  | refl => exact hn
  | step _ he ih => exact ih.ex he
theorem Tr.lin {l m n : List Ev} (h : Tr l m) (hn : Lin l n) : Lin m n := by
  induction h with
  | refl => exact hn
  | step _ he ih => exact ih.ex he
theorem Lin.self : ∀ (l : List Ev), Lin l l
  | [] => .nil
  | x :: l => Lin.cons (l := x :: l) (p := 0) ⟨by simp, fun k hk => absurd hk (Nat.not_lt_zero _)⟩ (by simpa using Lin.self l)
theorem Ex.cons {l m : List Ev} {i : Nat} (x : Ev) (h : Ex l m i) : Ex (x :: l) (x :: m) (i + 1) := by
  refine ⟨fun u => ?_, by simpa using h.dep, by simp [h.len], by simpa using h.lt⟩
  cases u with
  | zero => rw [sw_lo (by omega)]; rfl
  | succ u =>
    have : sw (i + 1) (u + 1) = sw i u + 1 := by
      unfold sw
      split
      · rw [if_pos (by omega)]
      · split
        · rw [if_neg (by omega), if_pos (by omega)]
        · rw [if_neg (by omega), if_neg (by omega)]
    rw [this]
    simpa using h.get u
theorem Tr.cons {l m : List Ev} (x : Ev) (h : Tr l m) : Tr (x :: l) (x :: m) := by
  induction h with
  | refl => exact .refl _
  | step _ he ih => exact .step ih (he.cons x)
theorem free_front {l : List Ev} : ∀ {p : Nat}, FreeAt l p → Tr l (l.getD p ev00 :: l.eraseIdx p)
  | 0, h => by
    cases l with
    | nil => exact absurd h.1 (Nat.not_lt_zero _)
    | cons x l => exact .refl _
  | p + 1, h => by
    have hd := h.2 p (by omega)
    have he := Ex.of h.1 hd
    have h1 := he.free h
    rw [sw_i1] at h1
    have h2 := free_front h1
    have h3 := he.erase_in (.inr rfl)
    rw [sw_i1] at h3
    rw [h3, he.at_i] at h2
    exact (Tr.one he).trans h2
termination_by p => p
theorem Lin.tr {l n : List Ev} (h : Lin l n) : Tr l n := by
  induction h with
  | nil => exact .refl _
  | cons h _ ih => exact (free_front h).trans (ih.cons _)
theorem Norm.tr {l n : List Ev} (h : Norm l n) : Tr l n := h.lin.tr
theorem Norm.idem {l n : List Ev} (h : Norm l n) : Norm n n := h.tr.norm h
theorem Norm.of_tr {l m n : List Ev} (h : Tr l m) (hm : Norm m n) : Norm l n := h.symm.norm hm

theorem exists_least {l : List Ev} (h : l ≠ []) : ∃ p, LeastAt l p := by
  have h0 : FreeAt l 0 := ⟨List.length_pos_iff.2 h, fun k hk => absurd hk (Nat.not_lt_zero _)⟩
  have : ∀ (N : Nat), ∃ p, FreeAt l p ∧ ∀ q, q ≤ N → FreeAt l q → thE l p ≤ thE l q := by
    intro N
    induction N with
    | zero => exact ⟨0, h0, fun q hq _ => by have : q = 0 := by omega
                                             subst this; exact Int.le_refl _⟩
    | succ N ih =>
      obtain ⟨p, hp, hm⟩ := ih
      by_cases hN : FreeAt l (N + 1) ∧ thE l (N + 1) < thE l p
      · refine ⟨N + 1, hN.1, fun q hq hf => ?_⟩
        by_cases hq' : q = N + 1
        · subst hq'; exact Int.le_refl _
        · exact Int.le_trans (Int.le_of_lt hN.2) (hm q (by omega) hf)
      · refine ⟨p, hp, fun q hq hf => ?_⟩
        by_cases hq' : q = N + 1
        · subst hq'
          rcases Int.lt_or_le (thE l (N + 1)) (thE l p) with h1 | h1
          · exact absurd ⟨hf, h1⟩ hN
          · exact h1
        · exact hm q (by omega) hf
  obtain ⟨p, hp, hm⟩ := this l.length
  exact ⟨p, hp, fun q hq => hm q (by have := hq.1; omega) hq⟩
theorem Norm.exists : ∀ (N : Nat) (l : List Ev), l.length = N → ∃ n, Norm l n
  | 0, l, h => by
    have : l = [] := List.length_eq_zero_iff.1 h
    subst this; exact ⟨[], .nil⟩
  | N + 1, l, h => by
    obtain ⟨p, hp⟩ := exists_least (l := l) (fun e => by rw [e] at h; simp at h)
    obtain ⟨n, hn⟩ := Norm.exists N (l.eraseIdx p) (by have := erase_len hp.1.1; omega)
    exact ⟨_, .cons hp hn⟩
/-- No execution that is the same has a lesser thread where they first are unlike. -/
theorem Norm.first {x n : List Ev} (h : Norm x n) : ∀ i, i < x.length → (∀ k, k < i → thE x k = thE n k) → thE x i ≠ thE n i → thE n i < thE x i := by
  induction h with
  | nil => intro i hi; exact absurd hi (Nat.not_lt_zero _)
  | @cons l n p hp hn ih =>
    intro i hi hk hne
    have h0 : FreeAt l 0 := ⟨by omega, fun k hk => absurd hk (Nat.not_lt_zero _)⟩
    have hle := hp.2 0 h0
    have hn0 : thE (l.getD p ev00 :: n) 0 = thE l p := rfl
    cases i with
    | zero =>
      rw [hn0] at hne ⊢
      have : thE l p ≠ thE l 0 := fun e => hne e.symm
      omega
    | succ i =>
      have h1 := hk 0 (by omega)
      rw [hn0] at h1
      obtain rfl : p = 0 := free_uniq hp.1 h0 h1.symm
      have e1 : ∀ u, thE (l.eraseIdx 0) u = thE l (u + 1) := fun u => by unfold thE; rw [getD_erase, if_neg (by omega)]
      have e2 : ∀ u, thE (l.getD 0 ev00 :: n) (u + 1) = thE n u := fun u => rfl
      have := erase_len hp.1.1
      have := ih i (by omega) (fun k hki => by rw [e1, ← e2]; exact hk (k + 1) (by omega)) (by rw [e1, ← e2]; exact hne)
      rw [e1, ← e2] at this
      exact this
theorem Ex.ok {l m : List Ev} {i : Nat} {S : LogS} (h : Ex l m i) (hR : ofS l = (S, 0, 0)) : ∃ T, ofS m = (T, 0, 0) ∧ Like S T := by
  rw [h.eq]
  exact exch_of hR (getD_at (by have := h.lt; omega)) (getD_at h.lt) h.dep
theorem Tr.ok {l m : List Ev} {S : LogS} (h : Tr l m) (hR : ofS l = (S, 0, 0)) : ∃ T, ofS m = (T, 0, 0) ∧ Like S T := by
  induction h with
  | refl => exact ⟨S, hR, Like.refl _⟩
  | step _ he ih =>
    obtain ⟨T, hT, hl⟩ := ih
    obtain ⟨U, hU, hl2⟩ := he.ok hT
    exact ⟨U, hU, hl.trans hl2⟩

/-! Places laid down one by one. -/
noncomputable def availB (l : List Ev) (C : List Nat) (i : Nat) : Bool := !decide (i ∈ C) && (List.range i).all fun k => !hbB (rD l) k i || decide (k ∈ C)
theorem availB_iff {l : List Ev} {C : List Nat} {i : Nat} : availB l C i = true ↔ i ∉ C ∧ ∀ k, HB (rD l) k i → k ∈ C := by
  unfold availB
  rw [Bool.and_eq_true, List.all_eq_true]
  constructor
  · rintro ⟨h1, h2⟩
    refine ⟨by simpa using h1, fun k hk => ?_⟩
    have := h2 k (List.mem_range.2 hk.lt)
    rw [hbB_iff.2 hk] at this
    simpa using this
  · rintro ⟨h1, h2⟩
    refine ⟨by simpa using h1, fun k _ => ?_⟩
    cases hb : hbB (rD l) k i
    · rfl
    · simpa using h2 k (hbB_iff.1 hb)
def leftC (l : List Ev) (C : List Nat) : List Nat := (List.range l.length).filter fun i => !decide (i ∈ C)
theorem leftC_mem {l : List Ev} {C : List Nat} {i : Nat} : i ∈ leftC l C ↔ i < l.length ∧ i ∉ C := by
  unfold leftC
  rw [List.mem_filter, List.mem_range]
  simp
theorem leftC_sorted (l : List Ev) (C : List Nat) : (leftC l C).Pairwise (· < ·) := List.pairwise_lt_range.filter _
/-- What is laid down is closed downwards. -/
structure Laid (l : List Ev) (C : List Nat) : Prop where
  closed : ∀ i, i ∈ C → ∀ k, HB (rD l) k i → k ∈ C
  cnt : (leftC l C).length + C.length = l.length
theorem leftC_nil (l : List Ev) : leftC l [] = List.range l.length := by
  unfold leftC
  rw [List.filter_eq_self]
  intro a _; simp
theorem Laid.nil (l : List Ev) : Laid l [] := ⟨fun i hi => (by cases hi), by rw [leftC_nil]; simp⟩
theorem leftC_cut {l : List Ev} {C : List Nat} {i : Nat} (hi : i < l.length) (hC : i ∉ C) : ∃ A B, leftC l C = A ++ i :: B ∧ leftC l (C ++ [i]) = A ++ B ∧ (∀ a ∈ A, a < i) ∧ ∀ b ∈ B, i < b := by
  have hr : List.range l.length = (List.range l.length).take i ++ i :: (List.range l.length).drop (i + 1) := by
    conv => lhs; rw [← List.take_append_drop i (List.range l.length)]
    rw [List.drop_eq_getElem_cons (by simpa using hi)]
    simp
  have hA : ∀ a ∈ (List.range l.length).take i, a < i := fun a ha => by
    obtain ⟨j, hj, rfl⟩ := List.getElem_of_mem ha
    rw [List.getElem_take, List.getElem_range]
    rw [List.length_take] at hj; omega
  have hB : ∀ b ∈ (List.range l.length).drop (i + 1), i < b := fun b hb => by
    obtain ⟨j, hj, rfl⟩ := List.getElem_of_mem hb
    rw [List.getElem_drop, List.getElem_range]; omega
  refine ⟨((List.range l.length).take i).filter (fun j => !decide (j ∈ C)), ((List.range l.length).drop (i + 1)).filter (fun j => !decide (j ∈ C)), ?_, ?_, ?_, ?_⟩
  · unfold leftC
    conv => lhs; rw [hr]
    rw [List.filter_append, List.filter_cons, if_pos (by simpa using hC)]
  · unfold leftC
    conv => lhs; rw [hr]
    rw [List.filter_append, List.filter_cons, if_neg (by simp)]
    congr 1
    · refine List.filter_congr fun a ha => ?_
      have := hA a ha
      have hne : a ≠ i := by omega
      simp [hne]
    · refine List.filter_congr fun b hb => ?_
      have := hB b hb
      have hne : b ≠ i := by omega
      simp [hne]
  · intro a ha; exact hA a (List.mem_filter.1 ha).1
  · intro b hb; exact hB b (List.mem_filter.1 hb).1
theorem evsAt_getD {l : List Ev} {R : List Nat} {p q : Nat} (h : R[p]? = some q) : (evsAt l R).getD p ev00 = l.getD q ev00 := by
  unfold evsAt
  rw [List.getD_eq_getElem?_getD, List.getElem?_map, h]; rfl
theorem Laid.free {l : List Ev} {C : List Nat} (h : Laid l C) {p q : Nat} (hq : (leftC l C)[p]? = some q) : FreeAt (evsAt l (leftC l C)) p ↔ availB l C q = true := by
  have hp : p < (leftC l C).length := (List.getElem?_eq_some_iff.1 hq).1
  have hqm := leftC_mem.1 (List.mem_of_getElem? hq)
  have hs := List.pairwise_iff_getElem.1 (leftC_sorted l C)
  have hqe : (leftC l C)[p] = q := (List.getElem?_eq_some_iff.1 hq).2
  rw [availB_iff]
  constructor
  · rintro ⟨_, hf⟩
    refine ⟨hqm.2, fun k hk => ?_⟩
    obtain ⟨m, hm, hr, hkm⟩ := HB.iff.1 hk
    have hmC : m ∈ C := by
      refine Classical.byContradiction fun hn => ?_
      have hmR : m ∈ leftC l C := leftC_mem.2 ⟨by omega, hn⟩
      obtain ⟨j, hj, hjm⟩ := List.getElem_of_mem hmR
      have hjp : j < p := by
        rcases Nat.lt_trichotomy j p with h1 | h1 | h1
        · exact h1
        · subst h1; omega
        · have := hs p j hp hj h1; omega
      have := hf j hjp
      rw [evsAt_getD (q := m) (by rw [List.getElem?_eq_getElem hj, hjm]), evsAt_getD hq] at this
      have hr' : depE (l.getD m ev00) (l.getD q ev00) = true := hr
      rw [hr'] at this; cases this
    rcases hkm with rfl | hkm
    · exact hmC
    · exact h.closed m hmC k hkm
  · rintro ⟨_, hk⟩
    refine ⟨by rw [evsAt_len]; exact hp, fun j hj => ?_⟩
    have hjl : j < (leftC l C).length := by omega
    rw [evsAt_getD (q := (leftC l C)[j]) (List.getElem?_eq_getElem hjl), evsAt_getD hq]
    have hlt := hs j p hjl hp hj
    cases hd : depE (l.getD (leftC l C)[j] ev00) (l.getD q ev00)
    · rfl
    · have := hk _ (HB.one (i := (leftC l C)[j]) (j := q) (by omega) hd)
      exact absurd this (leftC_mem.1 (List.getElem_mem hjl)).2
theorem Laid.step {l : List Ev} {C : List Nat} (h : Laid l C) {i : Nat} (hi : i < l.length) (ha : availB l C i = true) : Laid l (C ++ [i]) ∧ ∃ p, (leftC l C)[p]? = some i ∧ evsAt l (leftC l (C ++ [i])) = (evsAt l (leftC l C)).eraseIdx p := by
  obtain ⟨hC, hk⟩ := availB_iff.1 ha
  obtain ⟨A, B, e1, e2, hA, hB⟩ := leftC_cut hi hC
  refine ⟨⟨fun j hj k hkj => ?_, ?_⟩, A.length, ?_, ?_⟩
  · rcases List.mem_append.1 hj with hj | hj
    · exact List.mem_append.2 (.inl (h.closed j hj k hkj))
    · obtain rfl := List.mem_singleton.1 hj
      exact List.mem_append.2 (.inl (hk k hkj))
  · have := h.cnt
    rw [e1] at this
    rw [e2]
    simp only [List.length_append, List.length_cons, List.length_nil] at this ⊢
    omega
  · rw [e1, List.getElem?_append_right (Nat.le_refl _), Nat.sub_self]; rfl
  · rw [e1, e2]
    unfold evsAt
    rw [List.map_append, List.map_append, List.map_cons, List.eraseIdx_append_of_length_le (by simp)]
    simp
theorem Laid.least {l : List Ev} {C : List Nat} (h : Laid l C) {i p : Nat} (hp : (leftC l C)[p]? = some i) (ha : availB l C i = true) (hm : ∀ j, j < l.length → availB l C j = true → thE l i ≤ thE l j) : LeastAt (evsAt l (leftC l C)) p := by
  refine ⟨(h.free hp).2 ha, fun q hq => ?_⟩
  have hql : q < (leftC l C).length := by have := hq.1; rw [evsAt_len] at this; exact this
  have hqg : (leftC l C)[q]? = some (leftC l C)[q] := List.getElem?_eq_getElem hql
  have h1 := hm _ (leftC_mem.1 (List.getElem_mem hql)).1 ((h.free hqg).1 hq)
  unfold thE at h1 ⊢
  rw [evsAt_getD hp, evsAt_getD hqg]; exact h1
theorem Laid.some {l : List Ev} {C : List Nat} (h : Laid l C) (hlt : C.length < l.length) : ∃ i, i < l.length ∧ availB l C i = true := by
  have hc := h.cnt
  have h0 : 0 < (leftC l C).length := by omega
  have hg : (leftC l C)[0]? = Option.some (leftC l C)[0] := List.getElem?_eq_getElem h0
  refine ⟨(leftC l C)[0], (leftC_mem.1 (List.getElem_mem h0)).1, (h.free hg).1 ⟨by rw [evsAt_len]; exact h0, fun k hk => absurd hk (Nat.not_lt_zero _)⟩⟩

/-- The best one below m, as both search it; -1: none. -/
noncomputable def bestI (l : List Ev) (C : List Nat) : Nat → Int
  | 0 => -1
  | m + 1 => if availB l C m && (decide (bestI l C m < 0) || decide (thE l m < thE l (bestI l C m).toNat)) then (m : Int) else bestI l C m
theorem bestI_spec (l : List Ev) (C : List Nat) : ∀ m, (bestI l C m = -1 ∧ ∀ j, j < m → availB l C j = false) ∨ ∃ b : Nat, bestI l C m = (b : Int) ∧ b < m ∧ availB l C b = true ∧ ∀ j, j < m → availB l C j = true → thE l b ≤ thE l j
  | 0 => .inl ⟨rfl, fun j hj => absurd hj (Nat.not_lt_zero _)⟩
  | m + 1 => by
    rw [bestI]
    rcases bestI_spec l C m with ⟨h1, h2⟩ | ⟨b, h1, h2, h3, h4⟩
    · rw [h1]
      cases ha : availB l C m
      · refine .inl ⟨by simp, fun j hj => ?_⟩
        by_cases hjm : j = m
        · subst hjm; exact ha
        · exact h2 j (by omega)
      · refine .inr ⟨m, by simp, by omega, ha, fun j hj hja => ?_⟩
        by_cases hjm : j = m
        · subst hjm; exact Int.le_refl _
        · rw [h2 j (by omega)] at hja; cases hja
    · rw [h1]
      have h0 : decide ((b : Int) < 0) = false := by simp
      rw [h0, Bool.false_or, Int.toNat_natCast]
      by_cases hc : availB l C m = true ∧ thE l m < thE l b
      · rw [hc.1, decide_eq_true hc.2, if_pos (by rfl)]
        refine .inr ⟨m, rfl, by omega, hc.1, fun j hj hja => ?_⟩
        by_cases hjm : j = m
        · subst hjm; exact Int.le_refl _
        · exact Int.le_trans (Int.le_of_lt hc.2) (h4 j (by omega) hja)
      · rw [if_neg (by simpa using hc)]
        refine .inr ⟨b, rfl, by omega, h3, fun j hj hja => ?_⟩
        by_cases hjm : j = m
        · subst hjm
          rcases Int.lt_or_le (thE l j) (thE l b) with h5 | h5
          · exact absurd ⟨hja, h5⟩ hc
          · exact h5
        · exact h4 j (by omega) hja
/-- The places in the order in which both lay them down, m of them. -/
noncomputable def normI (l : List Ev) : Nat → List Nat
  | 0 => []
  | m + 1 => normI l m ++ [(bestI l (normI l m) l.length).toNat]
theorem normI_len (l : List Ev) : ∀ m, (normI l m).length = m
  | 0 => rfl
  | m + 1 => by rw [normI, List.length_append, normI_len l m]; rfl
theorem normI_laid (l : List Ev) : ∀ m, m ≤ l.length → Laid l (normI l m) ∧ ∀ j ∈ normI l m, j < l.length
  | 0, _ => ⟨Laid.nil l, fun j hj => by cases hj⟩
  | m + 1, hm => by
    obtain ⟨h1, h2⟩ := normI_laid l m (by omega)
    obtain ⟨i, hi, ha⟩ := h1.some (by rw [normI_len]; omega)
    rcases bestI_spec l (normI l m) l.length with ⟨_, h4⟩ | ⟨b, h3, h4, h5, _⟩
    · rw [h4 i hi] at ha; cases ha
    · rw [normI, h3, Int.toNat_natCast]
      refine ⟨(h1.step h4 h5).1, fun j hj => ?_⟩
      rcases List.mem_append.1 hj with hj | hj
      · exact h2 j hj
      · rw [List.mem_singleton.1 hj]; exact h4
/-- The one that is laid down next. -/
theorem normI_next {l : List Ev} {m : Nat} (hm : m < l.length) : ∃ b : Nat, bestI l (normI l m) l.length = (b : Int) ∧ b < l.length ∧ availB l (normI l m) b = true ∧ normI l (m + 1) = normI l m ++ [b] ∧ ∀ j, j < l.length → availB l (normI l m) j = true → thE l b ≤ thE l j := by
  obtain ⟨h1, h2⟩ := normI_laid l m (by omega)
  obtain ⟨i, hi, ha⟩ := h1.some (by rw [normI_len]; omega)
  rcases bestI_spec l (normI l m) l.length with ⟨_, h4⟩ | ⟨b, h3, h4, h5, h6⟩
  · rw [h4 i hi] at ha; cases ha
  · exact ⟨b, h3, h4, h5, by rw [normI, h3, Int.toNat_natCast], h6⟩
noncomputable def normL (l : List Ev) : List Ev := evsAt l (normI l l.length)
theorem normI_app (l : List Ev) (m : Nat) : ∀ k, ∃ D, normI l (m + k) = normI l m ++ D
  | 0 => ⟨[], by simp⟩
  | k + 1 => by
    obtain ⟨D, hD⟩ := normI_app l m k
    exact ⟨D ++ [(bestI l (normI l (m + k)) l.length).toNat], by rw [← Nat.add_assoc, normI, hD, List.append_assoc]⟩
theorem normI_drop {l : List Ev} {m : Nat} (hm : m < l.length) : (normI l l.length).drop m = (bestI l (normI l m) l.length).toNat :: (normI l l.length).drop (m + 1) := by
  obtain ⟨D, hD⟩ := normI_app l (m + 1) (l.length - (m + 1))
  rw [show m + 1 + (l.length - (m + 1)) = l.length by omega] at hD
  have h1 := normI_len l m
  have e1 : normI l (m + 1) = normI l m ++ [(bestI l (normI l m) l.length).toNat] := by rw [normI]
  have e2 : (normI l l.length).drop (m + 1) = D := by
    rw [hD, List.drop_append_of_le_length (by rw [normI_len]; exact Nat.le_refl _), List.drop_of_length_le (by rw [normI_len]; exact Nat.le_refl _)]; rfl
  rw [e2, hD, e1, List.append_assoc, List.drop_append_of_le_length (by omega), List.drop_of_length_le (by omega)]
  rfl
theorem norm_from (l : List Ev) : ∀ d m, m + d = l.length → Norm (evsAt l (leftC l (normI l m))) (evsAt l ((normI l l.length).drop m))
  | 0, m, h => by
    have hm : m = l.length := by omega
    subst hm
    have h1 := (normI_laid l l.length (Nat.le_refl _)).1.cnt
    rw [normI_len] at h1
    have h2 : leftC l (normI l l.length) = [] := List.length_eq_zero_iff.1 (by omega)
    rw [h2, List.drop_of_length_le (by rw [normI_len]; exact Nat.le_refl _)]
    exact .nil
  | d + 1, m, h => by
    have hm : m < l.length := by omega
    have ih := norm_from l d (m + 1) (by omega)
    obtain ⟨b, h1, h2, h3, h4, h5⟩ := normI_next hm
    have hL := (normI_laid l m (by omega)).1
    obtain ⟨_, p, h6, h7⟩ := hL.step h2 h3
    rw [normI_drop hm, h1, Int.toNat_natCast]
    rw [h4, h7] at ih
    have := Norm.cons (hL.least h6 h3 h5) ih
    rw [evsAt_getD h6] at this
    exact this
theorem evsAt_all (l : List Ev) : evsAt l (List.range l.length) = l := by
  refine ext_getD (by rw [evsAt_len, List.length_range]) fun u hu => ?_
  rw [evsAt_len, List.length_range] at hu
  exact evsAt_getD (by rw [List.getElem?_range hu])
theorem normL_norm (l : List Ev) : Norm l (normL l) := by
  have := norm_from l l.length 0 (by omega)
  have h0 : leftC l (normI l 0) = List.range l.length := leftC_nil l
  rw [h0, evsAt_all] at this
  exact this
theorem normL_tr {l m : List Ev} (h : Tr l m) : normL m = normL l := (h.symm.norm (normL_norm m)).det (normL_norm l)
theorem normL_idem (l : List Ev) : normL (normL l) = normL l := normL_tr (normL_norm l).tr
theorem normL_len (l : List Ev) : (normL l).length = l.length := (normL_norm l).lin.len
end Go.Proofs.Ytjhlehepnhbbaaa
