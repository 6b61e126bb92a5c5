/-
  Executions that are the same but for exchanges: plain theory; the walks of Swap, Normal, Same on both sides.
-/
import Derived.Test.YtjhlehepnhbbaaaDoorRaceB
import Derived.BigRegion
import Derived.Lib.SliceRun
import Derived.Deep.Cut
set_option linter.unusedSimpArgs false
set_option linter.unusedVariables false
namespace Go.Proofs.YtjhlehepnhbbaaaDoor
open Go Go.RowKit

theorem depE_symm {a b : Ev} (h : depE a b = false) : depE b a = false := dep_symm h
theorem depE_same {a b : Ev} (h : a.t = b.t) : depE a b = true := by
  unfold depE; rw [depends_is]; unfold rdepB; simp [h]
theorem depE_ne {a b : Ev} (h : depE a b = false) : a.t ≠ b.t := fun e => by rw [depE_same e] at h; cases h
theorem getD_at {l : List Ev} {p : Nat} (h : p < l.length) : l[p]? = some (l.getD p ev00) := by
  rw [List.getD_eq_getElem?_getD, List.getElem?_eq_getElem h]; rfl
theorem ext_getD {l m : List Ev} (h : l.length = m.length) (hg : ∀ u, u < l.length → l.getD u ev00 = m.getD u ev00) : l = m := by
  refine List.ext_getElem h fun u h1 h2 => ?_
  have := hg u h1
  rw [List.getD_eq_getElem?_getD, List.getD_eq_getElem?_getD, List.getElem?_eq_getElem h1, List.getElem?_eq_getElem h2] at this
  exact this
theorem getD_erase (l : List Ev) (p u : Nat) : (l.eraseIdx p).getD u ev00 = if u < p then l.getD u ev00 else l.getD (u + 1) ev00 := by
  rw [List.getD_eq_getElem?_getD, List.getElem?_eraseIdx]
  split <;> simp [List.getD_eq_getElem?_getD]

/-- The event at p depends on none ahead of it. -/
def FreeAt (l : List Ev) (p : Nat) : Prop := p < l.length ∧ ∀ k, k < p → depE (l.getD k ev00) (l.getD p ev00) = false
def LeastAt (l : List Ev) (p : Nat) : Prop := FreeAt l p ∧ ∀ q, FreeAt l q → thE l p ≤ thE l q
inductive Lin : List Ev → List Ev → Prop
  | nil : Lin [] []
  | cons {l n : List Ev} {p : Nat} (h : FreeAt l p) (hn : Lin (l.eraseIdx p) n) : Lin l (l.getD p ev00 :: n)
inductive Norm : List Ev → List Ev → Prop
  | nil : Norm [] []
  | cons {l n : List Ev} {p : Nat} (h : LeastAt l p) (hn : Norm (l.eraseIdx p) n) : Norm l (l.getD p ev00 :: n)
theorem Norm.lin {l n : List Ev} (h : Norm l n) : Lin l n := by
  induction h with
  | nil => exact .nil
  | cons h _ ih => exact .cons h.1 ih
theorem erase_len {l : List Ev} {p : Nat} (h : p < l.length) : (l.eraseIdx p).length + 1 = l.length := by
  rw [List.length_eraseIdx_of_lt h]; omega
theorem Lin.len {l n : List Ev} (h : Lin l n) : n.length = l.length := by
  induction h with
  | nil => rfl
  | cons h _ ih => rw [List.length_cons, ih, erase_len h.1]
theorem free_uniq {l : List Ev} {p q : Nat} (hp : FreeAt l p) (hq : FreeAt l q) (ht : thE l p = thE l q) : p = q := by
  rcases Nat.lt_trichotomy p q with h | h | h
  · have := hq.2 p h; rw [depE_same (by exact ht)] at this; cases this
  · exact h
  · have := hp.2 q h; rw [depE_same (by exact ht.symm)] at this; cases this
theorem least_uniq {l : List Ev} {p q : Nat} (hp : LeastAt l p) (hq : LeastAt l q) : p = q :=
  free_uniq hp.1 hq.1 (Int.le_antisymm (hp.2 q hq.1) (hq.2 p hp.1))
theorem Norm.inv {l m : List Ev} (h : Norm l m) : (l = [] ∧ m = []) ∨ ∃ p n, LeastAt l p ∧ Norm (l.eraseIdx p) n ∧ m = l.getD p ev00 :: n := by
  cases h with
  | nil => exact .inl ⟨rfl, rfl⟩
  | cons h hn => exact .inr ⟨_, _, h, hn, rfl⟩
theorem Norm.det {l n m : List Ev} (h : Norm l n) (k : Norm l m) : n = m := by
  induction h generalizing m with
  | nil =>
    rcases k.inv with ⟨_, rfl⟩ | ⟨p, _, hp, _⟩
    · rfl
    · exact absurd hp.1.1 (Nat.not_lt_zero _)
  | cons h _ ih =>
    rcases k.inv with ⟨rfl, _⟩ | ⟨p, n', hp, hn, rfl⟩
    · exact absurd h.1.1 (Nat.not_lt_zero _)
    · obtain rfl := least_uniq h hp
      rw [ih hn]

/-- l' is l with the events at i and i + 1 exchanged, which do not depend. -/
structure Ex (l l' : List Ev) (i : Nat) : Prop where
  get : ∀ u, l'.getD (sw i u) ev00 = l.getD u ev00
  dep : depE (l.getD i ev00) (l.getD (i + 1) ev00) = false
  len : l'.length = l.length
  lt : i + 1 < l.length
theorem Ex.at_i {l l' : List Ev} {i : Nat} (h : Ex l l' i) : l'.getD i ev00 = l.getD (i + 1) ev00 := by have := h.get (i + 1); rw [sw_i1] at this; exact this
theorem Ex.at_i1 {l l' : List Ev} {i : Nat} (h : Ex l l' i) : l'.getD (i + 1) ev00 = l.getD i ev00 := by have := h.get i; rw [sw_i] at this; exact this
theorem Ex.out {l l' : List Ev} {i k : Nat} (h : Ex l l' i) (h1 : k ≠ i) (h2 : k ≠ i + 1) : l'.getD k ev00 = l.getD k ev00 := by have := h.get k; rw [sw_out h1 h2] at this; exact this
theorem Ex.symm {l l' : List Ev} {i : Nat} (h : Ex l l' i) : Ex l' l i where
  get u := by rw [← h.get (sw i u), sw_sw]
  dep := by rw [h.at_i, h.at_i1]; exact depE_symm h.dep
  len := h.len.symm
  lt := by rw [h.len]; exact h.lt
theorem Ex.of {l : List Ev} {i : Nat} (hi : i + 1 < l.length) (hd : depE (l.getD i ev00) (l.getD (i + 1) ev00) = false) : Ex l (swapAt l i (l.getD i ev00) (l.getD (i + 1) ev00)) i where
  get := swap_get (getD_at (by omega)) (getD_at hi)
  dep := hd
  len := swap_len ..
  lt := hi
theorem Ex.eq {l l' : List Ev} {i : Nat} (h : Ex l l' i) : l' = swapAt l i (l.getD i ev00) (l.getD (i + 1) ev00) := by
  have k := Ex.of h.lt h.dep
  refine ext_getD (by rw [h.len, k.len]) fun u _ => ?_
  have := h.get (sw i u); rw [sw_sw] at this
  have k2 := k.get (sw i u); rw [sw_sw] at k2
  rw [this, k2]
theorem Ex.th {l l' : List Ev} {i : Nat} (h : Ex l l' i) (u : Nat) : thE l' (sw i u) = thE l u := by unfold thE; rw [h.get]
theorem Ex.swlt {l l' : List Ev} {i : Nat} (h : Ex l l' i) {u : Nat} (hu : u < l.length) : sw i u < l'.length := by rw [h.len]; exact sw_lt h.lt hu
theorem Ex.free {l l' : List Ev} {i p : Nat} (h : Ex l l' i) (hp : FreeAt l p) : FreeAt l' (sw i p) := by
  refine ⟨h.swlt hp.1, fun k hk => ?_⟩
  obtain ⟨u, rfl⟩ : ∃ u, k = sw i u := ⟨sw i k, by rw [sw_sw]⟩
  rw [h.get, h.get]
  rcases Nat.lt_trichotomy u p with hu | hu | hu
  · exact hp.2 u hu
  · subst hu; omega
  · have : p = i ∧ u = i + 1 := by
      unfold sw at hk
      split at hk
      · split at hk
        · omega
        · split at hk <;> omega
      · split at hk
        · split at hk
          · omega
          · split at hk <;> omega
        · split at hk
          · omega
          · split at hk <;> omega
    obtain ⟨rfl, rfl⟩ := this
    exact depE_symm h.dep
theorem Ex.least {l l' : List Ev} {i p : Nat} (h : Ex l l' i) (hp : LeastAt l p) : LeastAt l' (sw i p) := by
  refine ⟨h.free hp.1, fun q hq => ?_⟩
  have h1 := hp.2 _ (h.symm.free hq)
  rw [h.th]
  have h2 := h.th (sw i q)
  rw [sw_sw] at h2
  rw [h2]; exact h1
/-- One of the two taken away. -/
theorem Ex.erase_in {l l' : List Ev} {i p : Nat} (h : Ex l l' i) (hp : p = i ∨ p = i + 1) : l'.eraseIdx (sw i p) = l.eraseIdx p := by
  have hlt := h.lt
  have hlen := h.len
  have hsw : sw i p < l'.length := by rw [hlen]; exact sw_lt hlt (by omega)
  refine ext_getD ?_ fun u hu => ?_
  · have := erase_len hsw
    have := erase_len (l := l) (p := p) (by omega)
    omega
  · rw [getD_erase, getD_erase]
    rcases hp with rfl | rfl
    · rw [sw_i]
      by_cases h1 : u < p
      · rw [if_pos (by omega), if_pos h1, h.out (by omega) (by omega)]
      · by_cases h2 : u = p
        · subst h2; rw [if_pos (by omega), if_neg (by omega), h.at_i]
        · rw [if_neg (by omega), if_neg h1, h.out (by omega) (by omega)]
    · rw [sw_i1]
      by_cases h1 : u < i
      · rw [if_pos h1, if_pos (by omega), h.out (by omega) (by omega)]
      · by_cases h2 : u = i
        · subst h2; rw [if_neg (by omega), if_pos (by omega), h.at_i1]
        · rw [if_neg h1, if_neg (by omega), h.out (by omega) (by omega)]
/-- Another one taken away. -/
theorem Ex.erase_out {l l' : List Ev} {i p : Nat} (h : Ex l l' i) (hp : p < l.length) (h1 : p ≠ i) (h2 : p ≠ i + 1) : Ex (l.eraseIdx p) (l'.eraseIdx p) (if p < i then i - 1 else i) := by
  have hlt := h.lt
  have hlen := h.len
  have e1 := erase_len hp
  have e2 := erase_len (l := l') (p := p) (by omega)
  refine ⟨fun u => ?_, ?_, by omega, ?_⟩
  · rw [getD_erase, getD_erase]
    by_cases hpi : p < i
    · rw [if_pos hpi]
      by_cases hu : u < p
      · rw [if_pos hu, sw_lo (by omega), if_pos hu, h.out (by omega) (by omega)]
      · rw [if_neg hu]
        by_cases hu1 : u = i - 1
        · subst hu1
          rw [sw_i, if_neg (by omega), show i - 1 + 1 + 1 = i + 1 by omega, h.at_i1, show i - 1 + 1 = i by omega]
        · by_cases hu2 : u = i - 1 + 1
          · subst hu2
            rw [sw_i1, if_neg (by omega), show i - 1 + 1 = i by omega, h.at_i]
          · rw [sw_out hu1 hu2, if_neg hu, h.out (by omega) (by omega)]
    · rw [if_neg hpi]
      by_cases hu : u < p
      · rw [if_pos hu, if_pos (by unfold sw; split <;> (try split) <;> omega), h.get]
      · rw [if_neg hu, sw_hi (by omega), if_neg hu, h.out (by omega) (by omega)]
  · by_cases hpi : p < i
    · rw [if_pos hpi, getD_erase, getD_erase, if_neg (by omega), if_neg (by omega), show i - 1 + 1 = i by omega]; exact h.dep
    · rw [if_neg hpi, getD_erase, getD_erase, if_pos (by omega), if_pos (by omega)]; exact h.dep
  · split <;> omega
theorem Ex.ne_nil {l' : List Ev} {i : Nat} (h : Ex [] l' i) : False := by have := h.lt; simp at this
theorem Norm.ex {l n : List Ev} (hn : Norm l n) : ∀ {l' : List Ev} {i : Nat}, Ex l l' i → Norm l' n := by
  induction hn with
  | nil => intro l' i h; exact h.ne_nil.elim
  | @cons l n p hp hn ih =>
    intro l' i h
    by_cases hi : p = i ∨ p = i + 1
    · have := Norm.cons (h.least hp) (by rw [h.erase_in hi]; exact hn)
      rw [h.get] at this; exact this
    · have h1 : p ≠ i := fun e => hi (.inl e)
      have h2 : p ≠ i + 1 := fun e => hi (.inr e)
      have h3 := h.least hp
      rw [sw_out h1 h2] at h3
      have := Norm.cons h3 (ih (h.erase_out hp.1.1 h1 h2))
      rw [h.out h1 h2] at this; exact this
theorem Lin.ex {l n : List Ev} (hn : Lin l n) : ∀ {l' : List Ev} {i : Nat}, Ex l l' i → Lin l' n := by
  induction hn with
  | nil => intro l' i h; exact h.ne_nil.elim
  | @cons l n p hp hn ih =>
    intro l' i h
    by_cases hi : p = i ∨ p = i + 1
    · have := Lin.cons (h.free hp) (by rw [h.erase_in hi]; exact hn)
      rw [h.get] at this; exact this
    · have h1 : p ≠ i := fun e => hi (.inl e)
      have h2 : p ≠ i + 1 := fun e => hi (.inr e)
      have h3 := h.free hp
      rw [sw_out h1 h2] at h3
      have := Lin.cons h3 (ih (h.erase_out hp.1 h1 h2))
      rw [h.out h1 h2] at this; exact this

/-- The same but for exchanges. -/
inductive Tr : List Ev → List Ev → Prop
  | refl (l : List Ev) : Tr l l
  | step {l m k : List Ev} {i : Nat} (h : Tr l m) (he : Ex m k i) : Tr l k
theorem Tr.trans {l m k : List Ev} (h1 : Tr l m) (h2 : Tr m k) : Tr l k := by
  induction h2 with
  | refl => exact h1
  | step _ he ih => exact .step ih he
theorem Tr.one {l m : List Ev} {i : Nat} (h : Ex l m i) : Tr l m := .step (.refl l) h
theorem Tr.symm {l m : List Ev} (h : Tr l m) : Tr m l := by
  induction h with
  | refl => exact .refl _
  | step _ he ih => exact (Tr.one he.symm).trans ih
theorem Tr.len {l m : List Ev} (h : Tr l m) : m.length = l.length := by
  induction h with
  | refl => rfl
  | step _ he ih => rw [he.len, ih]
theorem Tr.norm {l m n : List Ev} (h : Tr l m) (hn : Norm l n) : Norm m n := by
  induction h with
  | refl => exact hn
  | step _ he ih => exact ih.ex he
theorem Tr.lin {l m n : List Ev} (h : Tr l m) (hn : Lin l n) : Lin m n := by
  induction h with
  | refl => exact hn
  | step _ he ih => exact ih.ex he
theorem Lin.self : ∀ (l : List Ev), Lin l l
  | [] => .nil
  | x :: l => Lin.cons (l := x :: l) (p := 0) ⟨by simp, fun k hk => absurd hk (Nat.not_lt_zero _)⟩ (by simpa using Lin.self l)
theorem Ex.cons {l m : List Ev} {i : Nat} (x : Ev) (h : Ex l m i) : Ex (x :: l) (x :: m) (i + 1) := by
  refine ⟨fun u => ?_, by simpa using h.dep, by simp [h.len], by simpa using h.lt⟩
  cases u with
  | zero => rw [sw_lo (by omega)]; rfl
  | succ u =>
    have : sw (i + 1) (u + 1) = sw i u + 1 := by
      unfold sw
      split
      · rw [if_pos (by omega)]
      · split
        · rw [if_neg (by omega), if_pos (by omega)]
        · rw [if_neg (by omega), if_neg (by omega)]
    rw [this]
    simpa using h.get u
theorem Tr.cons {l m : List Ev} (x : Ev) (h : Tr l m) : Tr (x :: l) (x :: m) := by
  induction h with
  | refl => exact .refl _
  | step _ he ih => exact .step ih (he.cons x)
theorem free_front {l : List Ev} : ∀ {p : Nat}, FreeAt l p → Tr l (l.getD p ev00 :: l.eraseIdx p)
  | 0, h => by
    cases l with
    | nil => exact absurd h.1 (Nat.not_lt_zero _)
    | cons x l => exact .refl _
  | p + 1, h => by
    have hd := h.2 p (by omega)
    have he := Ex.of h.1 hd
    have h1 := he.free h
    rw [sw_i1] at h1
    have h2 := free_front h1
    have h3 := he.erase_in (.inr rfl)
    rw [sw_i1] at h3
    rw [h3, he.at_i] at h2
    exact (Tr.one he).trans h2
termination_by p => p
theorem Lin.tr {l n : List Ev} (h : Lin l n) : Tr l n := by
  induction h with
  | nil => exact .refl _
  | cons h _ ih => exact (free_front h).trans (ih.cons _)
theorem Norm.tr {l n : List Ev} (h : Norm l n) : Tr l n := h.lin.tr
theorem Norm.idem {l n : List Ev} (h : Norm l n) : Norm n n := h.tr.norm h
theorem Norm.of_tr {l m n : List Ev} (h : Tr l m) (hm : Norm m n) : Norm l n := h.symm.norm hm

theorem exists_least {l : List Ev} (h : l ≠ []) : ∃ p, LeastAt l p := by
  have h0 : FreeAt l 0 := ⟨List.length_pos_iff.2 h, fun k hk => absurd hk (Nat.not_lt_zero _)⟩
  have : ∀ (N : Nat), ∃ p, FreeAt l p ∧ ∀ q, q ≤ N → FreeAt l q → thE l p ≤ thE l q := by
    intro N
    induction N with
    | zero => exact ⟨0, h0, fun q hq _ => by have : q = 0 := by omega
                                             subst this; exact Int.le_refl _⟩
    | succ N ih =>
      obtain ⟨p, hp, hm⟩ := ih
      by_cases hN : FreeAt l (N + 1) ∧ thE l (N + 1) < thE l p
      · refine ⟨N + 1, hN.1, fun q hq hf => ?_⟩
        by_cases hq' : q = N + 1
        · subst hq'; exact Int.le_refl _
        · exact Int.le_trans (Int.le_of_lt hN.2) (hm q (by omega) hf)
      · refine ⟨p, hp, fun q hq hf => ?_⟩
        by_cases hq' : q = N + 1
        · subst hq'
          rcases Int.lt_or_le (thE l (N + 1)) (thE l p) with h1 | h1
          · exact absurd ⟨hf, h1⟩ hN
          · exact h1
        · exact hm q (by omega) hf
  obtain ⟨p, hp, hm⟩ := this l.length
  exact ⟨p, hp, fun q hq => hm q (by have := hq.1; omega) hq⟩
theorem Norm.exists : ∀ (N : Nat) (l : List Ev), l.length = N → ∃ n, Norm l n
  | 0, l, h => by
    have : l = [] := List.length_eq_zero_iff.1 h
    subst this; exact ⟨[], .nil⟩
  | N + 1, l, h => by
    obtain ⟨p, hp⟩ := exists_least (l := l) (fun e => by rw [e] at h; simp at h)
    obtain ⟨n, hn⟩ := Norm.exists N (l.eraseIdx p) (by have := erase_len hp.1.1; omega)
    exact ⟨_, .cons hp hn⟩
/-- No execution that is the same has a lesser thread where they first are unlike. -/
theorem Norm.first {x n : List Ev} (h : Norm x n) : ∀ i, i < x.length → (∀ k, k < i → thE x k = thE n k) → thE x i ≠ thE n i → thE n i < thE x i := by
  induction h with
  | nil => intro i hi; exact absurd hi (Nat.not_lt_zero _)
  | @cons l n p hp hn ih =>
    intro i hi hk hne
    have h0 : FreeAt l 0 := ⟨by omega, fun k hk => absurd hk (Nat.not_lt_zero _)⟩
    have hle := hp.2 0 h0
    have hn0 : thE (l.getD p ev00 :: n) 0 = thE l p := rfl
    cases i with
    | zero =>
      rw [hn0] at hne ⊢
      have : thE l p ≠ thE l 0 := fun e => hne e.symm
      omega
    | succ i =>
      have h1 := hk 0 (by omega)
      rw [hn0] at h1
      obtain rfl : p = 0 := free_uniq hp.1 h0 h1.symm
      have e1 : ∀ u, thE (l.eraseIdx 0) u = thE l (u + 1) := fun u => by unfold thE; rw [getD_erase, if_neg (by omega)]
      have e2 : ∀ u, thE (l.getD 0 ev00 :: n) (u + 1) = thE n u := fun u => rfl
      have := erase_len hp.1.1
      have := ih i (by omega) (fun k hki => by rw [e1, ← e2]; exact hk (k + 1) (by omega)) (by rw [e1, ← e2]; exact hne)
      rw [e1, ← e2] at this
      exact this
theorem Ex.ok {l m : List Ev} {i : Nat} {S : LogS} (h : Ex l m i) (hR : ofS l = (S, 0, 0)) : ∃ T, ofS m = (T, 0, 0) ∧ Like S T := by
  rw [h.eq]
  exact exch_of hR (getD_at (by have := h.lt; omega)) (getD_at h.lt) h.dep
theorem Tr.ok {l m : List Ev} {S : LogS} (h : Tr l m) (hR : ofS l = (S, 0, 0)) : ∃ T, ofS m = (T, 0, 0) ∧ Like S T := by
  induction h with
  | refl => exact ⟨S, hR, Like.refl _⟩
  | step _ he ih =>
    obtain ⟨T, hT, hl⟩ := ih
    obtain ⟨U, hU, hl2⟩ := he.ok hT
    exact ⟨U, hU, hl.trans hl2⟩

/-! Places laid down one by one. -/
noncomputable def availB (l : List Ev) (C : List Nat) (i : Nat) : Bool := !decide (i ∈ C) && (List.range i).all fun k => !hbB (rD l) k i || decide (k ∈ C)
theorem availB_iff {l : List Ev} {C : List Nat} {i : Nat} : availB l C i = true ↔ i ∉ C ∧ ∀ k, HB (rD l) k i → k ∈ C := by
  unfold availB
  rw [Bool.and_eq_true, List.all_eq_true]
  constructor
  · rintro ⟨h1, h2⟩
    refine ⟨by simpa using h1, fun k hk => ?_⟩
    have := h2 k (List.mem_range.2 hk.lt)
    rw [hbB_iff.2 hk] at this
    simpa using this
  · rintro ⟨h1, h2⟩
    refine ⟨by simpa using h1, fun k _ => ?_⟩
    cases hb : hbB (rD l) k i
    · rfl
    · simpa using h2 k (hbB_iff.1 hb)
def leftC (l : List Ev) (C : List Nat) : List Nat := (List.range l.length).filter fun i => !decide (i ∈ C)
theorem leftC_mem {l : List Ev} {C : List Nat} {i : Nat} : i ∈ leftC l C ↔ i < l.length ∧ i ∉ C := by
  unfold leftC
  rw [List.mem_filter, List.mem_range]
  simp
theorem leftC_sorted (l : List Ev) (C : List Nat) : (leftC l C).Pairwise (· < ·) := List.pairwise_lt_range.filter _
/-- What is laid down is closed downwards. -/
structure Laid (l : List Ev) (C : List Nat) : Prop where
  closed : ∀ i, i ∈ C → ∀ k, HB (rD l) k i → k ∈ C
  cnt : (leftC l C).length + C.length = l.length
theorem leftC_nil (l : List Ev) : leftC l [] = List.range l.length := by
  unfold leftC
  rw [List.filter_eq_self]
  intro a _; simp
theorem Laid.nil (l : List Ev) : Laid l [] := ⟨fun i hi => (by cases hi), by rw [leftC_nil]; simp⟩
theorem leftC_cut {l : List Ev} {C : List Nat} {i : Nat} (hi : i < l.length) (hC : i ∉ C) : ∃ A B, leftC l C = A ++ i :: B ∧ leftC l (C ++ [i]) = A ++ B ∧ (∀ a ∈ A, a < i) ∧ ∀ b ∈ B, i < b := by
  have hr : List.range l.length = (List.range l.length).take i ++ i :: (List.range l.length).drop (i + 1) := by
    conv => lhs; rw [← List.take_append_drop i (List.range l.length)]
    rw [List.drop_eq_getElem_cons (by simpa using hi)]
    simp
  have hA : ∀ a ∈ (List.range l.length).take i, a < i := fun a ha => by
    obtain ⟨j, hj, rfl⟩ := List.getElem_of_mem ha
    rw [List.getElem_take, List.getElem_range]
    rw [List.length_take] at hj; omega
  have hB : ∀ b ∈ (List.range l.length).drop (i + 1), i < b := fun b hb => by
    obtain ⟨j, hj, rfl⟩ := List.getElem_of_mem hb
    rw [List.getElem_drop, List.getElem_range]; omega
  refine ⟨((List.range l.length).take i).filter (fun j => !decide (j ∈ C)), ((List.range l.length).drop (i + 1)).filter (fun j => !decide (j ∈ C)), ?_, ?_, ?_, ?_⟩
  · unfold leftC
    conv => lhs; rw [hr]
    rw [List.filter_append, List.filter_cons, if_pos (by simpa using hC)]
  · unfold leftC
    conv => lhs; rw [hr]
    rw [List.filter_append, List.filter_cons, if_neg (by simp)]
    congr 1
    · refine List.filter_congr fun a ha => ?_
      have := hA a ha
      have hne : a ≠ i := by omega
      simp [hne]
    · refine List.filter_congr fun b hb => ?_
      have := hB b hb
      have hne : b ≠ i := by omega
      simp [hne]
  · intro a ha; exact hA a (List.mem_filter.1 ha).1
  · intro b hb; exact hB b (List.mem_filter.1 hb).1
theorem evsAt_getD {l : List Ev} {R : List Nat} {p q : Nat} (h : R[p]? = some q) : (evsAt l R).getD p ev00 = l.getD q ev00 := by
  unfold evsAt
  rw [List.getD_eq_getElem?_getD, List.getElem?_map, h]; rfl
theorem Laid.free {l : List Ev} {C : List Nat} (h : Laid l C) {p q : Nat} (hq : (leftC l C)[p]? = some q) : FreeAt (evsAt l (leftC l C)) p ↔ availB l C q = true := by
  have hp : p < (leftC l C).length := (List.getElem?_eq_some_iff.1 hq).1
  have hqm := leftC_mem.1 (List.mem_of_getElem? hq)
  have hs := List.pairwise_iff_getElem.1 (leftC_sorted l C)
  have hqe : (leftC l C)[p] = q := (List.getElem?_eq_some_iff.1 hq).2
  rw [availB_iff]
  constructor
  · rintro ⟨_, hf⟩
    refine ⟨hqm.2, fun k hk => ?_⟩
    obtain ⟨m, hm, hr, hkm⟩ := HB.iff.1 hk
    have hmC : m ∈ C := by
      refine Classical.byContradiction fun hn => ?_
      have hmR : m ∈ leftC l C := leftC_mem.2 ⟨by omega, hn⟩
      obtain ⟨j, hj, hjm⟩ := List.getElem_of_mem hmR
      have hjp : j < p := by
        rcases Nat.lt_trichotomy j p with h1 | h1 | h1
        · exact h1
        · subst h1; omega
        · have := hs p j hp hj h1; omega
      have := hf j hjp
      rw [evsAt_getD (q := m) (by rw [List.getElem?_eq_getElem hj, hjm]), evsAt_getD hq] at this
      have hr' : depE (l.getD m ev00) (l.getD q ev00) = true := hr
      rw [hr'] at this; cases this
    rcases hkm with rfl | hkm
    · exact hmC
    · exact h.closed m hmC k hkm
  · rintro ⟨_, hk⟩
    refine ⟨by rw [evsAt_len]; exact hp, fun j hj => ?_⟩
    have hjl : j < (leftC l C).length := by omega
    rw [evsAt_getD (q := (leftC l C)[j]) (List.getElem?_eq_getElem hjl), evsAt_getD hq]
    have hlt := hs j p hjl hp hj
    cases hd : depE (l.getD (leftC l C)[j] ev00) (l.getD q ev00)
    · rfl
    · have := hk _ (HB.one (i := (leftC l C)[j]) (j := q) (by omega) hd)
      exact absurd this (leftC_mem.1 (List.getElem_mem hjl)).2
theorem Laid.step {l : List Ev} {C : List Nat} (h : Laid l C) {i : Nat} (hi : i < l.length) (ha : availB l C i = true) : Laid l (C ++ [i]) ∧ ∃ p, (leftC l C)[p]? = some i ∧ evsAt l (leftC l (C ++ [i])) = (evsAt l (leftC l C)).eraseIdx p := by
  obtain ⟨hC, hk⟩ := availB_iff.1 ha
  obtain ⟨A, B, e1, e2, hA, hB⟩ := leftC_cut hi hC
  refine ⟨⟨fun j hj k hkj => ?_, ?_⟩, A.length, ?_, ?_⟩
  · rcases List.mem_append.1 hj with hj | hj
    · exact List.mem_append.2 (.inl (h.closed j hj k hkj))
    · obtain rfl := List.mem_singleton.1 hj
      exact List.mem_append.2 (.inl (hk k hkj))
  · have := h.cnt
    rw [e1] at this
    rw [e2]
    simp only [List.length_append, List.length_cons, List.length_nil] at this ⊢
    omega
  · rw [e1, List.getElem?_append_right (Nat.le_refl _), Nat.sub_self]; rfl
  · rw [e1, e2]
    unfold evsAt
    rw [List.map_append, List.map_append, List.map_cons, List.eraseIdx_append_of_length_le (by simp)]
    simp
theorem Laid.least {l : List Ev} {C : List Nat} (h : Laid l C) {i p : Nat} (hp : (leftC l C)[p]? = some i) (ha : availB l C i = true) (hm : ∀ j, j < l.length → availB l C j = true → thE l i ≤ thE l j) : LeastAt (evsAt l (leftC l C)) p := by
  refine ⟨(h.free hp).2 ha, fun q hq => ?_⟩
  have hql : q < (leftC l C).length := by have := hq.1; rw [evsAt_len] at this; exact this
  have hqg : (leftC l C)[q]? = some (leftC l C)[q] := List.getElem?_eq_getElem hql
  have h1 := hm _ (leftC_mem.1 (List.getElem_mem hql)).1 ((h.free hqg).1 hq)
  unfold thE at h1 ⊢
  rw [evsAt_getD hp, evsAt_getD hqg]; exact h1
theorem Laid.some {l : List Ev} {C : List Nat} (h : Laid l C) (hlt : C.length < l.length) : ∃ i, i < l.length ∧ availB l C i = true := by
  have hc := h.cnt
  have h0 : 0 < (leftC l C).length := by omega
  have hg : (leftC l C)[0]? = Option.some (leftC l C)[0] := List.getElem?_eq_getElem h0
  refine ⟨(leftC l C)[0], (leftC_mem.1 (List.getElem_mem h0)).1, (h.free hg).1 ⟨by rw [evsAt_len]; exact h0, fun k hk => absurd hk (Nat.not_lt_zero _)⟩⟩

/-- The best one below m, as both search it; -1: none. -/
noncomputable def bestI (l : List Ev) (C : List Nat) : Nat → Int
  | 0 => -1
  | m + 1 => if availB l C m && (decide (bestI l C m < 0) || decide (thE l m < thE l (bestI l C m).toNat)) then (m : Int) else bestI l C m
theorem bestI_spec (l : List Ev) (C : List Nat) : ∀ m, (bestI l C m = -1 ∧ ∀ j, j < m → availB l C j = false) ∨ ∃ b : Nat, bestI l C m = (b : Int) ∧ b < m ∧ availB l C b = true ∧ ∀ j, j < m → availB l C j = true → thE l b ≤ thE l j
  | 0 => .inl ⟨rfl, fun j hj => absurd hj (Nat.not_lt_zero _)⟩
  | m + 1 => by
    rw [bestI]
    rcases bestI_spec l C m with ⟨h1, h2⟩ | ⟨b, h1, h2, h3, h4⟩
    · rw [h1]
      cases ha : availB l C m
      · refine .inl ⟨by simp, fun j hj => ?_⟩
        by_cases hjm : j = m
        · subst hjm; exact ha
        · exact h2 j (by omega)
      · refine .inr ⟨m, by simp, by omega, ha, fun j hj hja => ?_⟩
        by_cases hjm : j = m
        · subst hjm; exact Int.le_refl _
        · rw [h2 j (by omega)] at hja; cases hja
    · rw [h1]
      have h0 : decide ((b : Int) < 0) = false := by simp
      rw [h0, Bool.false_or, Int.toNat_natCast]
      by_cases hc : availB l C m = true ∧ thE l m < thE l b
      · rw [hc.1, decide_eq_true hc.2, if_pos (by rfl)]
        refine .inr ⟨m, rfl, by omega, hc.1, fun j hj hja => ?_⟩
        by_cases hjm : j = m
        · subst hjm; exact Int.le_refl _
        · exact Int.le_trans (Int.le_of_lt hc.2) (h4 j (by omega) hja)
      · rw [if_neg (by simpa using hc)]
        refine .inr ⟨b, rfl, by omega, h3, fun j hj hja => ?_⟩
        by_cases hjm : j = m
        · subst hjm
          rcases Int.lt_or_le (thE l j) (thE l b) with h5 | h5
          · exact absurd ⟨hja, h5⟩ hc
          · exact h5
        · exact h4 j (by omega) hja
/-- The places in the order in which both lay them down, m of them. -/
noncomputable def normI (l : List Ev) : Nat → List Nat
  | 0 => []
  | m + 1 => normI l m ++ [(bestI l (normI l m) l.length).toNat]
theorem normI_len (l : List Ev) : ∀ m, (normI l m).length = m
  | 0 => rfl
  | m + 1 => by rw [normI, List.length_append, normI_len l m]; rfl
theorem normI_laid (l : List Ev) : ∀ m, m ≤ l.length → Laid l (normI l m) ∧ ∀ j ∈ normI l m, j < l.length
  | 0, _ => ⟨Laid.nil l, fun j hj => by cases hj⟩
  | m + 1, hm => by
    obtain ⟨h1, h2⟩ := normI_laid l m (by omega)
    obtain ⟨i, hi, ha⟩ := h1.some (by rw [normI_len]; omega)
    rcases bestI_spec l (normI l m) l.length with ⟨_, h4⟩ | ⟨b, h3, h4, h5, _⟩
    · rw [h4 i hi] at ha; cases ha
    · rw [normI, h3, Int.toNat_natCast]
      refine ⟨(h1.step h4 h5).1, fun j hj => ?_⟩
      rcases List.mem_append.1 hj with hj | hj
      · exact h2 j hj
      · rw [List.mem_singleton.1 hj]; exact h4
/-- The one that is laid down next. -/
theorem normI_next {l : List Ev} {m : Nat} (hm : m < l.length) : ∃ b : Nat, bestI l (normI l m) l.length = (b : Int) ∧ b < l.length ∧ availB l (normI l m) b = true ∧ normI l (m + 1) = normI l m ++ [b] ∧ ∀ j, j < l.length → availB l (normI l m) j = true → thE l b ≤ thE l j := by
  obtain ⟨h1, h2⟩ := normI_laid l m (by omega)
  obtain ⟨i, hi, ha⟩ := h1.some (by rw [normI_len]; omega)
  rcases bestI_spec l (normI l m) l.length with ⟨_, h4⟩ | ⟨b, h3, h4, h5, h6⟩
  · rw [h4 i hi] at ha; cases ha
  · exact ⟨b, h3, h4, h5, by rw [normI, h3, Int.toNat_natCast], h6⟩
noncomputable def normL (l : List Ev) : List Ev := evsAt l (normI l l.length)
theorem normI_app (l : List Ev) (m : Nat) : ∀ k, ∃ D, normI l (m + k) = normI l m ++ D
  | 0 => ⟨[], by simp⟩
  | k + 1 => by
    obtain ⟨D, hD⟩ := normI_app l m k
    exact ⟨D ++ [(bestI l (normI l (m + k)) l.length).toNat], by rw [← Nat.add_assoc, normI, hD, List.append_assoc]⟩
theorem normI_drop {l : List Ev} {m : Nat} (hm : m < l.length) : (normI l l.length).drop m = (bestI l (normI l m) l.length).toNat :: (normI l l.length).drop (m + 1) := by
  obtain ⟨D, hD⟩ := normI_app l (m + 1) (l.length - (m + 1))
  rw [show m + 1 + (l.length - (m + 1)) = l.length by omega] at hD
  have h1 := normI_len l m
  have e1 : normI l (m + 1) = normI l m ++ [(bestI l (normI l m) l.length).toNat] := by rw [normI]
  have e2 : (normI l l.length).drop (m + 1) = D := by
    rw [hD, List.drop_append_of_le_length (by rw [normI_len]; exact Nat.le_refl _), List.drop_of_length_le (by rw [normI_len]; exact Nat.le_refl _)]; rfl
  rw [e2, hD, e1, List.append_assoc, List.drop_append_of_le_length (by omega), List.drop_of_length_le (by omega)]
  rfl
theorem norm_from (l : List Ev) : ∀ d m, m + d = l.length → Norm (evsAt l (leftC l (normI l m))) (evsAt l ((normI l l.length).drop m))
  | 0, m, h => by
    have hm : m = l.length := by omega
    subst hm
    have h1 := (normI_laid l l.length (Nat.le_refl _)).1.cnt
    rw [normI_len] at h1
    have h2 : leftC l (normI l l.length) = [] := List.length_eq_zero_iff.1 (by omega)
    rw [h2, List.drop_of_length_le (by rw [normI_len]; exact Nat.le_refl _)]
    exact .nil
  | d + 1, m, h => by
    have hm : m < l.length := by omega
    have ih := norm_from l d (m + 1) (by omega)
    obtain ⟨b, h1, h2, h3, h4, h5⟩ := normI_next hm
    have hL := (normI_laid l m (by omega)).1
    obtain ⟨_, p, h6, h7⟩ := hL.step h2 h3
    rw [normI_drop hm, h1, Int.toNat_natCast]
    rw [h4, h7] at ih
    have := Norm.cons (hL.least h6 h3 h5) ih
    rw [evsAt_getD h6] at this
    exact this
theorem evsAt_all (l : List Ev) : evsAt l (List.range l.length) = l := by
  refine ext_getD (by rw [evsAt_len, List.length_range]) fun u hu => ?_
  rw [evsAt_len, List.length_range] at hu
  exact evsAt_getD (by rw [List.getElem?_range hu])
theorem normL_norm (l : List Ev) : Norm l (normL l) := by
  have := norm_from l l.length 0 (by omega)
  have h0 : leftC l (normI l 0) = List.range l.length := leftC_nil l
  rw [h0, evsAt_all] at this
  exact this
theorem normL_tr {l m : List Ev} (h : Tr l m) : normL m = normL l := (h.symm.norm (normL_norm m)).det (normL_norm l)
theorem normL_idem (l : List Ev) : normL (normL l) = normL l := normL_tr (normL_norm l).tr
theorem normL_len (l : List Ev) : (normL l).length = l.length := (normL_norm l).lin.len
end Go.Proofs.YtjhlehepnhbbaaaDoor

namespace Go.Proofs.YtjhlehepnhbbaaaDoor
open Go.ChangeShapes Go.WideShapes Go.ChangeAt Go.RowKit Go.Deep

def eltEv : Elt Ev where
  T := 22
  e := 24
  z := .agg #[.int .i64 0, .int .i64 0, .int .i64 0, .int .i64 0, .int .i64 0]
  size := 5
  bytes := 40
  f := Ev.vals
  ht := Tryd.underlying22
  hi := infoEv
  hz := rfl
  hs := by decide
  hb := by decide
  hf := fun _ => rfl
  h1 := fun x u hu => by
    unfold Ev.vals at hu
    simp only [List.mem_cons, List.map_cons, List.map_nil, List.not_mem_nil, or_false] at hu
    rcases hu with rfl | rfl | rfl | rfl | rfl <;> rfl
theorem OwnL.evs {w : World} {B : Nat} {v : Value} {xs : List Ev} (h : OwnL eltEv w B v xs) (hw : ∀ x ∈ xs, x.wf) : ∃ a c, v = .slice a xs.length c ∧ IsEvs w a xs.length c xs := by
  obtain ⟨a, c, rfl, h1, h2, h3, h4⟩ := h.slice
  refine ⟨a, c, rfl, ⟨⟨flat_len Ev.vals 5 (fun _ => rfl) xs, fun hn => ?_⟩, rfl, h1, h2, hw⟩⟩
  cases a with
  | none => have := h3 rfl; subst this; simp at hn
  | some ad =>
    obtain ⟨g, o, s⟩ := ad
    obtain ⟨rfl, rfl, _, _, hc⟩ := h4 g o s rfl
    exact ⟨g, 0, rfl, fun j u hu => by rw [Nat.zero_add]; exact hc j u hu⟩
theorem meas {M j : Nat} (h : j < M) : M - (intOf (.int .i64 ((j : Int) + 1))).toNat < M - (intOf (.int .i64 (j : Int))).toNat := by
  simp only [intOf]; omega
theorem one_newR (w : World) (A : Array Value) (t : TypeId) : (w.alloc (.cells A t)).heap[w.heap.size]? = some (.cells A t (0, 0)) ∧ Below w.heap.size w (w.alloc (.cells A t)) := ⟨(MapKept.heap_alloc w (.cells A t)).1, (Below.refl _ w).alloc (Nat.le_refl _) _⟩
theorem evs_nil (w : World) : IsEvs w none 0 0 [] := ⟨Reads.nil, rfl, Nat.le_refl _, Nat.zero_le _, fun e he => by cases he⟩
theorem wrong_le16 {n : Nat} {l : List Ev} (h : wrongS n l = 0) : n ≤ 100 := by
  by_cases h2 : 100 < n
  · rw [wrongS, if_pos h2] at h; cases h
  · omega

/-- Who hands back a list of events and an error. -/
def EvsPost (w : World) (r : List Ev × Int) (e : Ending) (w' : World) : Prop := ∃ a c, e = .returned (.tuple #[.slice a r.1.length c, .int .i64 r.2]) ∧ IsEvs w' a r.1.length c r.1 ∧ Below w.heap.size w w'
theorem EvsPost.none {w w' : World} {z : Int} (hb : Below w.heap.size w w') : EvsPost w ([], z) (.returned (.tuple #[.slice none 0 0, .int .i64 z])) w' := ⟨Option.none, 0, rfl, evs_nil _, hb⟩
noncomputable def swpRes (n : Nat) (l : List Ev) (i : Int) : List Ev × Int :=
  if wrongS n l ≠ 0 then ([], wrongS n l) else if i < 0 ∨ (n : Int) - 1 ≤ i then ([], 1) else if depE (l.getD i.toNat ev00) (l.getD (i.toNat + 1) ev00) = true then ([], 1) else (swapAt l i.toNat (l.getD i.toNat ev00) (l.getD (i.toNat + 1) ev00), 0)
theorem swpRes_bad {n : Nat} {l : List Ev} {i : Int} (h : wrongS n l ≠ 0) : swpRes n l i = ([], wrongS n l) := if_pos h
theorem swpRes_out {n : Nat} {l : List Ev} {i : Int} (h : wrongS n l = 0) (hi : i < 0 ∨ (n : Int) - 1 ≤ i) : swpRes n l i = ([], 1) := by unfold swpRes; rw [if_neg (by rw [h]; simp), if_pos hi]
theorem swpRes_dep {n : Nat} {l : List Ev} {k : Nat} {x y : Ev} (h : wrongS n l = 0) (hk : k + 1 < n) (hx : l[k]? = some x) (hy : l[k + 1]? = some y) (hd : dependsB x.t x.k x.o y.t y.k y.o = true) : swpRes n l (k : Int) = ([], 1) := by
  unfold swpRes; rw [if_neg (by rw [h]; simp), if_neg (by omega), Int.toNat_natCast, getD_of hx, getD_of hy, if_pos (show depE x y = true from hd)]
theorem swpRes_yes {n : Nat} {l : List Ev} {k : Nat} {x y : Ev} (h : wrongS n l = 0) (hk : k + 1 < n) (hx : l[k]? = some x) (hy : l[k + 1]? = some y) (hd : dependsB x.t x.k x.o y.t y.k y.o = false) : swpRes n l (k : Int) = (swapAt l k x y, 0) := by
  unfold swpRes; rw [if_neg (by rw [h]; simp), if_neg (by omega), Int.toNat_natCast, getD_of hx, getD_of hy, if_neg (by unfold depE; rw [hd]; simp)]

end Go.Proofs.YtjhlehepnhbbaaaDoor

namespace Go.Proofs.YtjhlehepnhbbaaaDoor
open Go Go.RowKit

def intsA (n : Nat) (f : Nat → Int) : Array Value := ((List.range n).map fun i => Value.int .i64 (f i)).toArray
theorem intsA_size (n : Nat) (f : Nat → Int) : (intsA n f).size = n := by simp [intsA]
theorem intsA_get {n i : Nat} {f : Nat → Int} (h : i < n) : (intsA n f)[i]? = some (.int .i64 (f i)) := by simp [intsA, h]
theorem intsA_congr {n : Nat} {f g : Nat → Int} (h : ∀ i, i < n → f i = g i) : intsA n f = intsA n g := by
  unfold intsA
  congr 1
  exact List.map_congr_left fun i hi => by rw [h i (List.mem_range.1 hi)]
theorem intsA_put {n i : Nat} {z : Int} {f : Nat → Int} : (intsA n f).setIfInBounds i (.int .i64 z) = intsA n (fun x => if x = i then z else f x) := by
  apply Array.ext
  · simp [intsA]
  · intro j h1 h2
    simp only [intsA, Array.getElem_setIfInBounds, List.getElem_toArray, List.getElem_map, List.getElem_range]
    by_cases hj : i = j
    · subst hj; simp
    · have : ¬ j = i := fun e => hj e.symm
      simp [hj, this]
theorem made_ints (n : Nat) : madeCells #[.int .i64 0] n = intsA n (fun _ => 0) := by
  apply Array.ext
  · simp [intsA, madeCells]
  · intro j h1 h2
    simp [intsA, madeCells, Nat.mod_one]
theorem run_makeI (w : World) (n : Nat) (hn : n ≤ 1000) : (Instr.makeSlice 58 (.int .i64 (n : Int)) (.int .i64 (n : Int))).run Tryd.prog w = .ok (.slice (some ⟨w.heap.size, 0, none⟩) n n) (w.alloc (.cells (intsA n fun _ => 0) 3)) := by
  obtain ⟨i0, hi, hz, hs, hb⟩ := info_at infoInt
  have hr := run_make (P := Tryd.prog) w 58 3 i0 (.int .i64 0) Tryd.underlying58 hi hz .i64 .i64 n n (by omega) (Int.le_refl _) (by rw [hb]; omega) (by omega)
  simp only [Int.toNat_natCast, hs, Nat.mul_one] at hr
  rw [← made_ints]
  exact hr
theorem wpList_makeI {w : World} {ops : Array Oper} {rest : List Oper} {o : Oper} {a : Act} {Q : Exit → Act → World → Prop} (hg : o.guard = none) (l c : Operand) (ho : o.op = .makeSlice 58 l c) (n : Nat) (hn : n ≤ 1000)
    (hl : a.eval l = .int .i64 (n : Int)) (hc : a.eval c = .int .i64 (n : Int))
    (h : wpList Tryd.prog ops Q rest (a.put o.dst (.slice (some ⟨w.heap.size, 0, none⟩) n n)) (w.alloc (.cells (intsA n fun _ => 0) 3))) : wpList Tryd.prog ops Q (o :: rest) a w := by
  refine wpList_plain hg fun _ hK => ?_
  unfold Oper.wp
  simp only [execOp, ho, hl, hc, Sem.run_bind, run_makeI w n hn, Result.andThen_ok]
  exact hK _ _ h
/-- The row under work. -/
structure RowI (n : Nat) (f : Nat → Int) (rb : Nat) (wo wx : World) : Prop where
  row : wx.heap[rb]? = some (.cells (intsA n f) 3 (0, 0))
  below : Below rb wo wx
theorem RowI.of {n : Nat} {f g : Nat → Int} {rb : Nat} {wo wx : World} (h : RowI n f rb wo wx) (e : ∀ i, i < n → f i = g i) : RowI n g rb wo wx := ⟨by rw [← intsA_congr e]; exact h.row, h.below⟩
theorem RowI.lt {n : Nat} {f : Nat → Int} {rb : Nat} {wo wx : World} (h : RowI n f rb wo wx) : rb < wx.heap.size := (Array.getElem?_eq_some_iff.1 h.row).1
theorem RowI.go {n : Nat} {f : Nat → Int} {rb : Nat} {wo wx wy : World} (h : RowI n f rb wo wx) (hb : Below wx.heap.size wx wy) : RowI n f rb wo wy := ⟨(hb.block rb h.lt).trans h.row, h.below.trans (hb.mono (Nat.le_of_lt h.lt))⟩
theorem RowI.put {n : Nat} {f : Nat → Int} {rb : Nat} {wo wx : World} (h : RowI n f rb wo wx) (i : Nat) (z : Int) : RowI n (fun x => if x = i then z else f x) rb wo (wx.setCell ⟨rb, i, none⟩ (.int .i64 z)) :=
  ⟨by rw [← intsA_put]; exact set_block h.row _, h.below.setCell (p := ⟨rb, i, none⟩) (Nat.le_refl _) _⟩
theorem RowI.get {n : Nat} {f : Nat → Int} {rb : Nat} {wo wx : World} (h : RowI n f rb wo wx) {i : Nat} (hi : i < n) : wx.cell? ⟨rb, i, none⟩ = some (.int .i64 (f i)) ∧ wx.frozen? ⟨rb, i, none⟩ = false :=
  ⟨by rw [cell_of_block h.row]; exact intsA_get hi, free_of_block h.row⟩
theorem RowI.wrote {n : Nat} {f : Nat → Int} {rb : Nat} {wo wx wy : World} {R : Nat → Prop} (h : RowI n f rb wo wx) (hw : Wrote R wx wy) (hR : ∀ q, R q → rb < q) : RowI n f rb wo wy :=
  ⟨(hw.block rb h.lt (fun hr => Nat.lt_irrefl _ (hR rb hr))).trans h.row, Wrote.below h.below hw (Nat.le_of_lt h.lt) (fun q hq => Nat.le_of_lt (hR q hq))⟩

/-! The counts. -/
noncomputable def cntU (l : List Ev) (C : List Nat) (N j : Nat) : Nat := ((List.range N).filter fun k => hbB (rD l) k j && !decide (k ∈ C)).length
theorem cntU_succ (l : List Ev) (C : List Nat) (N j : Nat) : cntU l C (N + 1) j = cntU l C N j + (hbB (rD l) N j && !decide (N ∈ C)).toNat := by
  unfold cntU
  rw [List.range_succ, List.filter_append, List.length_append]
  cases h : (hbB (rD l) N j && !decide (N ∈ C)) <;> simp [h]
theorem cntU_le (l : List Ev) (C : List Nat) (N j : Nat) : cntU l C N j ≤ N := by
  unfold cntU
  have := List.length_filter_le (fun k => hbB (rD l) k j && !decide (k ∈ C)) (List.range N)
  rw [List.length_range] at this; exact this
/-- One more laid down. -/
theorem cntU_laid {l : List Ev} {C : List Nat} {b j : Nat} (hb : b ∉ C) : ∀ N, cntU l C N j = cntU l (C ++ [b]) N j + (decide (b < N) && hbB (rD l) b j).toNat
  | 0 => by simp [cntU]
  | N + 1 => by
    rw [cntU_succ, cntU_succ, cntU_laid hb N]
    by_cases hN : N = b
    · subst hN
      have e1 : decide (N ∈ C) = false := decide_eq_false hb
      have e2 : decide (N ∈ C ++ [N]) = true := by simp
      have e3 : decide (N < N) = false := by simp
      have e4 : decide (N < N + 1) = true := by simp
      rw [e1, e2, e3, e4]; simp
    · have e2 : decide (N ∈ C ++ [b]) = decide (N ∈ C) := by
        rw [decide_eq_decide, List.mem_append, List.mem_singleton]
        exact ⟨fun h => h.resolve_right hN, .inl⟩
      have e4 : decide (b < N + 1) = decide (b < N) := by rw [decide_eq_decide]; omega
      rw [e2, e4]; omega
noncomputable def leftF (l : List Ev) (C : List Nat) (j : Nat) : Int := if j ∈ C then -1 else (cntU l C l.length j : Int)
theorem leftF_zero {l : List Ev} {C : List Nat} {i : Nat} (hi : i < l.length) : (leftF l C i == 0) = availB l C i := by
  rw [Bool.eq_iff_iff, availB_iff, beq_iff_eq]
  unfold leftF
  by_cases hC : i ∈ C
  · rw [if_pos hC]; exact ⟨fun h => by omega, fun h => absurd hC h.1⟩
  · rw [if_neg hC]
    constructor
    · intro h
      refine ⟨hC, fun k hk => Classical.byContradiction fun hn => ?_⟩
      have h0 : cntU l C l.length i = 0 := by omega
      unfold cntU at h0
      have := List.length_eq_zero_iff.1 h0
      have hm : k ∈ (List.range l.length).filter (fun k => hbB (rD l) k i && !decide (k ∈ C)) := List.mem_filter.2 ⟨List.mem_range.2 (by have := hk.lt; omega), by rw [hbB_iff.2 hk, decide_eq_false hn]; rfl⟩
      rw [this] at hm; cases hm
    · rintro ⟨_, h⟩
      have : cntU l C l.length i = 0 := by
        unfold cntU
        rw [List.length_eq_zero_iff, List.filter_eq_nil_iff]
        intro k _
        cases hb : hbB (rD l) k i
        · simp
        · have := h k (hbB_iff.1 hb); simp [this]
      omega
theorem leftF_fit (l : List Ev) (C : List Nat) (j : Nat) : -1 ≤ leftF l C j ∧ leftF l C j ≤ l.length := by
  unfold leftF
  have := cntU_le l C l.length j
  split <;> omega
/-- The places behind b, as both hand them back. -/
noncomputable def bhN (l : List Ev) (b : Nat) : List Nat := (List.range l.length).filter fun j => hbB (rD l) b j
theorem bhN_mem {l : List Ev} {b j : Nat} : j ∈ bhN l b ↔ j < l.length ∧ hbB (rD l) b j = true := by unfold bhN; rw [List.mem_filter, List.mem_range]
theorem bhN_nodup (l : List Ev) (b : Nat) : (bhN l b).Nodup := List.nodup_range.filter _
theorem bhN_len (l : List Ev) (b : Nat) : (bhN l b).length ≤ l.length := by
  have := List.length_filter_le (fun j => hbB (rD l) b j) (List.range l.length)
  rw [List.length_range] at this; exact this
theorem marks_bh {l : List Ev} {n b : Nat} (hn : n = l.length) (hb : b < n) : marks (behB (rD l) n (b : Int)) n = natsI (bhN l b) := by
  unfold marks natsI bhN
  rw [← hn]
  congr 1
  refine List.filter_congr fun j hj => ?_
  unfold behB
  rw [befB_nat hb (List.mem_range.1 hj)]
/-- f with s added at the places of D. -/
def addF (f : Nat → Int) (D : List Nat) (s : Int) (j : Nat) : Int := f j + if j ∈ D then s else 0
theorem addF_nil (f : Nat → Int) (s : Int) (j : Nat) : addF f [] s j = f j := by unfold addF; simp
theorem addF_put {f : Nat → Int} {D : List Nat} {s : Int} {p q : Nat} (hD : D.Nodup) (hq : D[p]? = some q) (j : Nat) : (if j = q then addF f (D.take p) s q + s else addF f (D.take p) s j) = addF f (D.take (p + 1)) s j := by
  have hn : q ∉ D.take p := by
    intro hm
    obtain ⟨i, hi⟩ := List.getElem?_of_mem hm
    have hip : i < p := by
      have := (List.getElem?_eq_some_iff.1 hi).1
      rw [List.length_take] at this; omega
    rw [List.getElem?_take_of_lt hip] at hi
    obtain ⟨h1, e1⟩ := List.getElem?_eq_some_iff.1 hi
    obtain ⟨h2, e2⟩ := List.getElem?_eq_some_iff.1 hq
    have := (List.pairwise_iff_getElem.1 hD) i p h1 h2 hip
    exact this (by rw [e1, e2])
  have ht : D.take (p + 1) = D.take p ++ [q] := by rw [List.take_add_one, hq]; rfl
  unfold addF
  rw [ht]
  by_cases hj : j = q
  · subst hj
    rw [if_pos rfl, if_neg hn, if_pos (by simp)]; omega
  · have e : (j ∈ D.take p ++ [q]) ↔ j ∈ D.take p := by simp [hj]
    rw [if_neg hj]
    simp only [e]
theorem addF_mem {f : Nat → Int} {D : List Nat} {s : Int} {p q : Nat} (hD : D.Nodup) (hq : D[p]? = some q) : addF f (D.take p) s q = f q := by
  have h := addF_put (f := f) (s := s) hD hq q
  rw [if_pos rfl] at h
  have ht : q ∈ D.take (p + 1) := by rw [List.take_add_one, hq]; simp
  unfold addF at h ⊢
  rw [if_pos ht] at h
  omega
theorem first_counts {l : List Ev} {i j : Nat} (hj : j < l.length) : addF (fun j => (cntU l [] i j : Int)) (bhN l i) 1 j = (cntU l [] (i + 1) j : Int) := by
  unfold addF
  rw [cntU_succ]
  have e : decide (i ∈ ([] : List Nat)) = false := by simp
  rw [e]
  cases hb : hbB (rD l) i j
  · rw [if_neg (fun h => by rw [(bhN_mem.1 h).2] at hb; cases hb)]; simp
  · rw [if_pos (bhN_mem.2 ⟨hj, hb⟩)]; simp
theorem next_counts {l : List Ev} {C : List Nat} {b j : Nat} (hL : Laid l C) (hb : b < l.length) (ha : availB l C b = true) (hj : j < l.length) :
    addF (fun x => if x = b then -1 else leftF l C x) (bhN l b) (-1) j = leftF l (C ++ [b]) j := by
  obtain ⟨hbC, hk⟩ := availB_iff.1 ha
  unfold addF leftF
  show (if j = b then (-1 : Int) else if j ∈ C then -1 else (cntU l C l.length j : Int)) + (if j ∈ bhN l b then -1 else 0) = _
  have hm : (j ∈ C ++ [b]) ↔ j ∈ C ∨ j = b := by rw [List.mem_append, List.mem_singleton]
  by_cases hjb : j = b
  · subst hjb
    rw [if_pos rfl, if_neg (fun h => by have := hbB_iff.1 (bhN_mem.1 h).2; have := this.lt; omega), if_pos (hm.2 (.inr rfl))]; omega
  · rw [if_neg hjb]
    by_cases hjC : j ∈ C
    · rw [if_pos hjC, if_pos (hm.2 (.inl hjC)), if_neg (fun h => hbC (hL.closed j hjC b (hbB_iff.1 (bhN_mem.1 h).2)))]; omega
    · rw [if_neg hjC, if_neg (fun h => (hm.1 h).elim hjC hjb), cntU_laid hbC l.length]
      have e : decide (b < l.length) = true := decide_eq_true hb
      rw [e, Bool.true_and]
      cases hh : hbB (rD l) b j
      · rw [if_neg (fun h => by rw [(bhN_mem.1 h).2] at hh; cases hh)]; simp
      · rw [if_pos (bhN_mem.2 ⟨hj, hh⟩)]; simp; omega
theorem leftF_start {l : List Ev} (j : Nat) : (cntU l [] l.length j : Int) = leftF l [] j := by unfold leftF; simp
end Go.Proofs.YtjhlehepnhbbaaaDoor

namespace Go.Proofs.YtjhlehepnhbbaaaDoor
open Go.ChangeShapes Go.WideShapes Go.ChangeAt Go.RowKit Go.Deep

noncomputable def normRes (n : Nat) (l : List Ev) : List Ev × Int := if wrongS n l ≠ 0 then ([], wrongS n l) else (normL l, 0)
theorem normRes_bad {n : Nat} {l : List Ev} (h : wrongS n l ≠ 0) : normRes n l = ([], wrongS n l) := if_pos h
theorem normRes_good {n : Nat} {l : List Ev} (h : wrongS n l = 0) : normRes n l = (normL l, 0) := by unfold normRes; rw [if_neg (by rw [h]; simp)]
theorem bestI_no {l : List Ev} {C : List Nat} {i : Nat} (h : availB l C i = false) : bestI l C (i + 1) = bestI l C i := by rw [bestI, h]; simp
theorem bestI_first {l : List Ev} {C : List Nat} {i : Nat} (h : availB l C i = true) (hb : bestI l C i = -1) : bestI l C (i + 1) = (i : Int) := by rw [bestI, h, hb]; simp
theorem bestI_less {l : List Ev} {C : List Nat} {i b : Nat} (h : availB l C i = true) (hb : bestI l C i = (b : Int)) (ht : thE l i < thE l b) : bestI l C (i + 1) = (i : Int) := by
  rw [bestI, h, hb, Int.toNat_natCast, decide_eq_true ht]; simp
theorem bestI_more {l : List Ev} {C : List Nat} {i b : Nat} (hb : bestI l C i = (b : Int)) (ht : ¬ thE l i < thE l b) : bestI l C (i + 1) = (b : Int) := by
  rw [bestI, hb, Int.toNat_natCast, decide_eq_false ht]
  have : decide ((b : Int) < 0) = false := by simp
  rw [this]; simp
theorem normL_wf {l : List Ev} (hw : ∀ e ∈ l, e.wf) : ∀ e ∈ normL l, e.wf := by
  unfold normL
  exact evsAt_wf hw (normI_laid l l.length (Nat.le_refl _)).2
theorem RowI.base {n : Nat} {f : Nat → Int} {rb : Nat} {wo wx : World} (h : RowI n f rb wo wx) (e : rb = wo.heap.size) : Below wo.heap.size wo wx := by rw [← e]; exact h.below
theorem OwnL.natAt {w : World} {B n c : Nat} {a : Option Addr} {R : List Nat} (h : OwnL eltI w B (.slice a n c) (natsI R)) {i q : Nat} (hq : R[i]? = some q) : ∃ g, a = some ⟨g, 0, none⟩ ∧ w.cell? ⟨g, i, none⟩ = some (.int .i64 (q : Int)) := by
  obtain ⟨a', c', he, _, hat⟩ := h.int_at
  cases he
  obtain ⟨g, h1, _, h2⟩ := hat i q (natsI_get hq)
  exact ⟨g, h1, h2⟩
/-- A list of numbers of one's own, while another row is written. -/
theorem OwnL.cell_set {w : World} {B g i : Nat} {v u : Value} {xs : List Int} (h : OwnL eltI w B v xs) (hg : g < B) : OwnL eltI (w.setCell ⟨g, i, none⟩ u) B v xs :=
  h.wrote (Wrote.setCell (R := fun q => q = g) w (p := ⟨g, i, none⟩) u rfl) (fun y hy hR => by have := (h.lt hy).1; omega)
theorem OwnL.cell_setE {w : World} {B g i : Nat} {v u : Value} {xs : List Ev} (h : OwnL eltEv w B v xs) (hg : g < B) : OwnL eltEv (w.setCell ⟨g, i, none⟩ u) B v xs :=
  h.wrote (Wrote.setCell (R := fun q => q = g) w (p := ⟨g, i, none⟩) u rfl) (fun y hy hR => by have := (h.lt hy).1; omega)

set_option maxRecDepth 20000 in
set_option maxHeartbeats 16000000 in
theorem normal_calls {w : World} {a0 : Option Addr} {n c : Nat} {l : List Ev} (h : IsEvs w a0 n c l) :
    Calls Tryd.prog 27 #[.slice a0 n c] w (EvsPost w (normRes n l)) := by
  have hnm : n ≤ 9223372036854775807 := by have := h.le; have := h.cap; unfold maxLen at *; omega
  have Hev := Lib.hid h
  have Ho := Lib.hid (order_calls h)
  have Hl := Lib.hid h.len
  clear h
  go_enter Tryd.func27, Tryd.ntmps27
  go_wp2_with fail
  refine Ho.out.mono ?_
  rintro e w1 ⟨hb1, ⟨hz, rfl⟩ | ⟨hz, hg, b, v, rfl, hO⟩⟩
  · have HB1 := Lib.hid hb1
    have hz' : (wrongS n l != 0) = true := by simpa [bne] using hz
    have Hq : Hid (EvsPost w (normRes n l) (.returned (.tuple #[.slice none 0 0, .int .i64 (wrongS n l)])) w1) := by rw [Hid, normRes_bad hz]; exact EvsPost.none HB1.out
    clear hb1 hz Ho
    generalize wrongS n l = z at *
    go_wp2
    go_returns
    exact Hq.out
  have HB1 := Lib.hid hb1
  have HO := Lib.hid hO
  have HG := Lib.hid hg
  have hn100 : n ≤ 100 := hg.le
  have Hr := Lib.hid (normRes_good hz)
  clear hb1 hg hO hz Ho hnm
  go_wp2_with (refine wpList_makeI rfl (.tmp 25) (.tmp 25) rfl n (by omega) rfl rfl ?_)
  have HS : RowI n (fun j => (cntU l [] 0 j : Int)) w1.heap.size w1 (w1.alloc (.cells (intsA n fun _ => 0) 3)) := ⟨by rw [intsA_congr (g := fun _ => 0) (fun i _ => by simp [cntU])]; exact (MapKept.heap_alloc w1 _).1, (Below.refl _ w1).alloc (Nat.le_refl _) _⟩
  revert HS
  generalize w1.alloc (.cells (intsA n fun _ => 0) 3) = w2
  intro HS
  obtain ⟨gl, hgl⟩ : ∃ gl, gl = w1.heap.size := ⟨_, rfl⟩
  rw [← hgl] at HS ⊢
  have Hgl := Lib.hid hgl
  have HS2 := Lib.hid HS
  clear hgl HS
  go_wp2_with fail
  go_loopw [7, 29] (fun _ x wr => ∃ i : Nat, i ≤ n ∧ x = .int .i64 i ∧ Hid (RowI n (fun j => (cntU l [] i j : Int)) gl w1 wr)) (fun _ x _ => n - (intOf x).toNat)
  case atStart => exact ⟨0, Nat.zero_le _, by go_num, HS2.out⟩
  case round =>
    clear HS2
    obtain ⟨i, hi, rfl, HS⟩ := hrel
    have HBr : Hid (Below w1.heap.size w1 wr) := HS.out.base Hgl.out
    by_cases hin : i < n
    · go_wp2_with fail
      refine (obehind_calls (HO.out.below HBr.out) HG.out (i : Int)).mono ?_
      rintro e wy ⟨ur, rfl, hown, hb⟩
      rw [marks_bh Hl.out.symm hin] at hown
      have HSy := Lib.hid (HS.out.go hb)
      have hgB : gl < wr.heap.size := HS.out.lt
      obtain ⟨B', hB'⟩ : ∃ B', B' = wr.heap.size := ⟨_, rfl⟩
      rw [← hB'] at hown hgB
      obtain ⟨sa, sc, hu, hsc, _⟩ := hown.int_at
      rw [natsI_len] at hu hsc
      subst hu
      have HOw := Lib.hid hown
      have HgB := Lib.hid hgB
      have hDl : (bhN l i).length ≤ 100 := Nat.le_trans (bhN_len l i) (by rw [Hl.out]; exact hn100)
      have HDn : Hid (bhN l i).Nodup := bhN_nodup l i
      have HDm : Hid (∀ q ∈ bhN l i, q < n) := fun q hq => by have := (bhN_mem.1 hq).1; rw [Hl.out] at this; exact this
      have HDf : Hid (∀ j, j < n → addF (fun j => (cntU l [] i j : Int)) (bhN l i) 1 j = (cntU l [] (i + 1) j : Int)) := fun j hj => first_counts (by rw [Hl.out]; exact hj)
      have HCb : Hid (∀ j, (0 : Int) ≤ cntU l [] i j ∧ (cntU l [] i j : Int) ≤ 100) := fun j => by have := cntU_le l [] i j; exact ⟨by omega, by omega⟩
      clear hb hown hB' hgB HS HBr
      revert HOw hDl hsc HDn HDm HDf HCb HSy
      generalize bhN l i = D
      generalize hF : (fun j => (cntU l [] i j : Int)) = F
      intro HSy hsc HOw hDl HDn HDm HDf HCb
      have HCb' : Hid (∀ j, (0 : Int) ≤ F j ∧ F j ≤ 100) := by subst hF; exact HCb.out
      clear HCb hF
      go_wp2_with fail
      go_loopw [9, 36] (fun _ x wq => ∃ p : Nat, p ≤ D.length ∧ x = .int .i64 p ∧ Hid (RowI n (addF F (D.take p) 1) gl w1 wq ∧ OwnL eltI wq B' (.slice sa D.length sc) (natsI D))) (fun _ x _ => D.length - (intOf x).toNat)
      case atStart => exact ⟨0, Nat.zero_le _, by go_num, ⟨HSy.out.of (fun j _ => by rw [List.take_zero, addF_nil]), HOw.out⟩⟩
      case round =>
        clear HSy HOw
        obtain ⟨p, hp, rfl, HQ⟩ := hrel
        by_cases hpl : p < D.length
        · obtain ⟨q, hq⟩ : ∃ q, D[p]? = some q := ⟨_, List.getElem?_eq_getElem hpl⟩
          obtain ⟨g, rfl, cq⟩ := HQ.out.2.natAt hq
          have hqn : q < n := HDm.out q (List.mem_of_getElem? hq)
          obtain ⟨gc, gf⟩ := HQ.out.1.get hqn
          rw [addF_mem HDn.out hq] at gc
          obtain ⟨z, hz⟩ : ∃ z, z = F q := ⟨_, rfl⟩
          obtain ⟨hz0, hz1⟩ := HCb'.out q
          rw [← hz] at gc hz0 hz1
          have HN : Hid (RowI n (addF F (D.take (p + 1)) 1) gl w1 (wr.setCell ⟨gl, q, none⟩ (.int .i64 (z + 1))) ∧ OwnL eltI (wr.setCell ⟨gl, q, none⟩ (.int .i64 (z + 1))) B' (.slice (some ⟨g, 0, none⟩) D.length sc) (natsI D)) :=
            ⟨(HQ.out.1.put q (z + 1)).of (fun j _ => by have := addF_put (f := F) (s := 1) HDn.out hq j; rw [addF_mem HDn.out hq] at this; rw [hz]; exact this), HQ.out.2.cell_set HgB.out⟩
          clear hq hz HQ
          go_wp2
          go_roundw
          case rel => exact ⟨p + 1, hpl, by go_num, HN.out⟩
          case measure => exact meas hpl
        · have hpl : D.length = p := Nat.le_antisymm (Nat.le_of_not_lt hpl) hp
          subst hpl
          have HN : Hid (RowI n (fun j => (cntU l [] (i + 1) j : Int)) gl w1 wr) := HQ.out.1.of (fun j hj => by rw [List.take_length]; exact HDf.out j hj)
          clear HQ
          go_wp2
          go_roundw
          case rel => exact ⟨i + 1, hin, by go_num, HN.out⟩
          case measure => exact meas hin
    · have hin : i = n := by omega
      subst hin
      have HSA : Hid (RowI i (leftF l []) gl w1 wr) := HS.out.of (fun j _ => by rw [← leftF_start, Hl.out])
      have HBr2 := HBr
      clear HS HBr
      obtain ⟨i0, hi0, hz0, hz1, hz2⟩ := info_parts infoEv
      have Hi := Lib.hid hi0
      have Hz0 := Lib.hid hz0
      have Hz1 := Lib.hid hz1
      have Hz2 := Lib.hid hz2
      have hglt : gl + 1 ≤ wr.heap.size := HSA.out.lt
      clear hi0 hz0 hz1 hz2
      go_wp2_with (refine wpList_make_own _ rfl _ (.tmp 49) 22 rfl (gl + 1) 24 i0 (.agg #[.int .i64 0, .int .i64 0, .int .i64 0, .int .i64 0, .int .i64 0]) 5 Tryd.underlying22 Hi.out Hz0.out Hz1.out .i64 .i64 _ i rfl rfl rfl (by rw [Hz2.out]; omega) (by unfold maxLen; omega) hglt ?_; intro w3 hown hgr)
      have hb3 : Below wr.heap.size wr w3 := (Below.refl _ wr).grown hgr (Nat.le_refl _) (fun k hk => by cases hk)
      have HS3 := Lib.hid (HSA.out.go hb3)
      have hO3 : OwnL eltEv w3 (gl + 1) (.slice (some ⟨wr.heap.size, 0, none⟩) 0 i) [] := ⟨hown⟩
      have HO3 := Lib.hid hO3
      clear hown hgr hb3 hO3 HSA HBr2 Hi Hz0 Hz1 Hz2 hglt
      go_wp2_with fail
      go_loopw [10, 11, 12, 53, 57] (fun u _ _ x _ wr => ∃ m : Nat, m ≤ i ∧ x = .int .i64 m ∧ Hid (RowI i (leftF l (normI l m)) gl w1 wr ∧ OwnL eltEv wr (gl + 1) u (evsAt l (normI l m)))) (fun _ _ _ x _ _ => i - (intOf x).toNat)
      case atStart => exact ⟨0, Nat.zero_le _, by go_num, HS3.out, HO3.out⟩
      case round =>
        clear HS3 HO3
        obtain ⟨m, hm, rfl, HL⟩ := hrel
        by_cases hmi : m < i
        · obtain ⟨bb, hb1, hb2, hb3, hb4, hb5⟩ := normI_next (l := l) (m := m) (by rw [Hl.out]; exact hmi)
          obtain ⟨hLa, _⟩ := normI_laid l m (by rw [Hl.out]; exact hm)
          rw [Hl.out] at hb1 hb2
          have HBest := Lib.hid hb1
          have HAv := Lib.hid hb3
          have HNx := Lib.hid hb4
          have HLa := Lib.hid hLa
          have HLen : Hid ((evsAt l (normI l m)).length < 1000000) := by rw [Hid, evsAt_len, normI_len]; omega
          clear hb1 hb3 hb4 hb5 hLa
          revert HL HBest HAv HNx HLa HLen
          generalize normI l m = C
          intro HL HBest HAv HNx HLa HLen
          have HBw := Lib.hid (HB1.out.trans ((HL.out.1.base Hgl.out).mono HB1.out.size))
          go_wp2_with fail
          go_loopw [11, 12, 57] (fun bst _ x wq => ∃ j : Nat, j ≤ i ∧ x = .int .i64 j ∧ bst = .int .i64 (bestI l C j) ∧ Hid (Below wr.heap.size wr wq)) (fun _ _ x _ => i - (intOf x).toNat)
          case atStart => exact ⟨0, Nat.zero_le _, by go_num, rfl, Below.refl ..⟩
          case round =>
            obtain ⟨j, hj, rfl, rfl, HB⟩ := hrel
            by_cases hji : j < i
            · have HBq := Lib.hid (HBw.out.trans (HB.out.mono HBw.out.size))
              obtain ⟨b0, off, x, rfl, hx, _, c0, c1, c2, c3, c4⟩ := (Hev.out.below HBq.out).at hji
              obtain ⟨gi, _⟩ := (HL.out.1.go HB.out).get hji
              have hth : thE l j = x.t := thE_of hx
              have hlf : (leftF l C j == 0) = availB l C j := leftF_zero (by rw [Hl.out]; exact hji)
              obtain ⟨z, hz⟩ : ∃ z, z = leftF l C j := ⟨_, rfl⟩
              rw [← hz] at gi hlf
              obtain ⟨xt, xk, xo, xv, xb⟩ := x
              simp only at c0 c1 c2 c3 c4 hth
              have Hth := Lib.hid hth
              have Hlf := Lib.hid hlf
              clear hx hth hlf hz
              go_wp2_with fail
              have hN := one_newR wr #[.int .i64 xt, .int .i64 xk, .int .i64 xo, .int .i64 xv, .int .i64 xb] 24
              revert hN
              generalize wr.alloc (.cells #[.int .i64 xt, .int .i64 xk, .int .i64 xo, .int .i64 xv, .int .i64 xb] 24) = y1
              rintro ⟨hA, hb⟩
              obtain ⟨g1, hg1⟩ : ∃ g1, g1 = wr.heap.size := ⟨_, rfl⟩
              rw [← hg1] at hA ⊢
              have t0 : y1.cell? ⟨g1, 0, none⟩ = some (.int .i64 xt) := cell_of_block hA
              have gi := keep hb gi
              have HBy := Lib.hid (HB.out.trans (hb.mono HB.out.size))
              have HBz := Lib.hid (HBq.out.trans (hb.mono HBq.out.size))
              clear hA hb hg1 c0 c1 c2 c3 c4 HB HBq
              by_cases hz : z = 0
              · have hz0 : (z == 0) = true := by simpa using hz
                have Hav : Hid (availB l C j = true) := by rw [Hid, ← Hlf.out]; exact hz0
                clear hz Hlf
                rcases bestI_spec l C j with ⟨hb, _⟩ | ⟨b', hb, hbj, _, _⟩
                · have Hb := Lib.hid (bestI_first Hav.out hb)
                  rw [hb]
                  clear hb
                  refine wp_ext_draw 19 mixed (by kernel_rfl) ?_
                  simp only [List.take_succ_cons, List.take_zero, List.drop_succ_cons, List.drop_zero]
                  repeat ((first | ((apply TextRun.go rfl rfl rfl); (focus (intro w1 hS K hK; have hc := bcell hS; have hs := blt hS; have gi := keep hS gi; have t0 := keep hS t0; go_wp2_with (fail); first | done | exact hS | exact hS.trans (hb.mono hS.size)))) | (refine TextRun.skip rfl ?_) | ((refine TextRun.wantedT rfl rfl rfl ?_); (apply Exists.intro); (apply And.intro); (focus (intro w1 hS K hK; have hc := bcell hS; have hs := blt hS; have gi := keep hS gi; have t0 := keep hS t0; go_wp2_with (fail); first | done | exact hS | exact hS.trans (hb.mono hS.size))))); (simp only [Act.put, List.setIfInBounds_toArray, List.set_cons_zero, List.set_cons_succ]))
                  refine TextRun.done ?_
                  intro y2 hb
                  have HB2 := Lib.hid (HBy.out.trans (hb.mono HBy.out.size))
                  clear hb
                  go_wp2
                  go_roundw
                  case rel => exact ⟨j + 1, hji, by go_num, by rw [Hb.out], HB2.out⟩
                  case measure => exact meas hji
                · obtain ⟨b0', off', y, he, hy, _, d0, _, _, _, _⟩ := (Hev.out.below HBz.out).at (show b' < i from Nat.lt_trans hbj hji)
                  cases he
                  have hthb : thE l b' = y.t := thE_of hy
                  have hbi : b' < i := Nat.lt_trans hbj hji
                  obtain ⟨yt, yk, yo, yv, yb⟩ := y
                  simp only at d0 hthb
                  have hb0 : decide ((b' : Int) < 0) = false := by simp
                  by_cases hlt : xt < yt
                  · have hltd : decide (xt < yt) = true := decide_eq_true hlt
                    have Hb := Lib.hid (bestI_less Hav.out hb (by rw [Hth.out, hthb]; exact hlt))
                    rw [hb]
                    clear hb hlt hthb hy
                    refine wp_ext_draw 19 mixed (by kernel_rfl) ?_
                    simp only [List.take_succ_cons, List.take_zero, List.drop_succ_cons, List.drop_zero]
                    repeat ((first | ((apply TextRun.go rfl rfl rfl); (focus (intro w1 hS K hK; have hc := bcell hS; have hs := blt hS; have gi := keep hS gi; have t0 := keep hS t0; have d0 := keep hS d0; go_wp2_with (fail); first | done | exact hS | exact hS.trans (hb.mono hS.size)))) | (refine TextRun.skip rfl ?_) | ((refine TextRun.wantedT rfl rfl rfl ?_); (apply Exists.intro); (apply And.intro); (focus (intro w1 hS K hK; have hc := bcell hS; have hs := blt hS; have gi := keep hS gi; have t0 := keep hS t0; have d0 := keep hS d0; go_wp2_with (fail); first | done | exact hS | exact hS.trans (hb.mono hS.size))))); (simp only [Act.put, List.setIfInBounds_toArray, List.set_cons_zero, List.set_cons_succ]))
                    refine TextRun.done ?_
                    intro y2 hb
                    have HB2 := Lib.hid (HBy.out.trans (hb.mono HBy.out.size))
                    clear hb
                    go_wp2
                    go_roundw
                    case rel => exact ⟨j + 1, hji, by go_num, by rw [Hb.out], HB2.out⟩
                    case measure => exact meas hji
                  · have hltd : decide (xt < yt) = false := decide_eq_false hlt
                    have Hb := Lib.hid (bestI_more (C := C) (i := j) hb (by rw [Hth.out, hthb]; exact hlt))
                    rw [hb]
                    clear hb hlt hthb hy
                    refine wp_ext_draw 19 mixed (by kernel_rfl) ?_
                    simp only [List.take_succ_cons, List.take_zero, List.drop_succ_cons, List.drop_zero]
                    repeat ((first | ((apply TextRun.go rfl rfl rfl); (focus (intro w1 hS K hK; have hc := bcell hS; have hs := blt hS; have gi := keep hS gi; have t0 := keep hS t0; have d0 := keep hS d0; go_wp2_with (fail); first | done | exact hS | exact hS.trans (hb.mono hS.size)))) | (refine TextRun.skip rfl ?_) | ((refine TextRun.wantedT rfl rfl rfl ?_); (apply Exists.intro); (apply And.intro); (focus (intro w1 hS K hK; have hc := bcell hS; have hs := blt hS; have gi := keep hS gi; have t0 := keep hS t0; have d0 := keep hS d0; go_wp2_with (fail); first | done | exact hS | exact hS.trans (hb.mono hS.size))))); (simp only [Act.put, List.setIfInBounds_toArray, List.set_cons_zero, List.set_cons_succ]))
                    refine TextRun.done ?_
                    intro y2 hb
                    have HB2 := Lib.hid (HBy.out.trans (hb.mono HBy.out.size))
                    clear hb
                    go_wp2
                    go_roundw
                    case rel => exact ⟨j + 1, hji, by go_num, by rw [Hb.out], HB2.out⟩
                    case measure => exact meas hji
              · have hz0 : (z == 0) = false := by simpa using hz
                have Hb : Hid (bestI l C (j + 1) = bestI l C j) := bestI_no (by rw [← Hlf.out]; exact hz0)
                clear hz Hlf
                refine wp_ext_draw 19 mixed (by kernel_rfl) ?_
                simp only [List.take_succ_cons, List.take_zero, List.drop_succ_cons, List.drop_zero]
                repeat ((first | ((apply TextRun.go rfl rfl rfl); (focus (intro w1 hS K hK; have hc := bcell hS; have hs := blt hS; have gi := keep hS gi; have t0 := keep hS t0; go_wp2_with (fail); first | done | exact hS | exact hS.trans (hb.mono hS.size)))) | (refine TextRun.skip rfl ?_) | ((refine TextRun.wantedT rfl rfl rfl ?_); (apply Exists.intro); (apply And.intro); (focus (intro w1 hS K hK; have hc := bcell hS; have hs := blt hS; have gi := keep hS gi; have t0 := keep hS t0; go_wp2_with (fail); first | done | exact hS | exact hS.trans (hb.mono hS.size))))); (simp only [Act.put, List.setIfInBounds_toArray, List.set_cons_zero, List.set_cons_succ]))
                refine TextRun.done ?_
                intro y2 hb
                have HB2 := Lib.hid (HBy.out.trans (hb.mono HBy.out.size))
                clear hb
                go_wp2
                go_roundw
                case rel => exact ⟨j + 1, hji, by go_num, by rw [Hb.out], HB2.out⟩
                case measure => exact meas hji
            · have hji : i = j := Nat.le_antisymm (Nat.le_of_not_lt hji) hj
              subst hji
              rw [HBest.out]
              have HL4 := Lib.hid (And.intro (HL.out.1.go HB.out) (HL.out.2.below HB.out))
              obtain ⟨gc, gf⟩ := HL4.out.1.get hb2
              have HL5 : Hid (RowI i (fun x => if x = bb then -1 else leftF l C x) gl w1 (wr.setCell ⟨gl, bb, none⟩ (.int .i64 (-1))) ∧ OwnL eltEv (wr.setCell ⟨gl, bb, none⟩ (.int .i64 (-1))) (gl + 1) u10 (evsAt l C)) := ⟨HL4.out.1.put bb (-1), HL4.out.2.cell_setE (Nat.lt_succ_self gl)⟩
              clear HL4 HL HB HBw HBest
              go_wp2_with fail
              revert HL5
              clear gc gf
              generalize wr.setCell ⟨gl, bb, none⟩ (.int .i64 (-1)) = y1
              intro HL5
              refine (obehind_calls (HO.out.below (HL5.out.1.base Hgl.out)) HG.out (bb : Int)).mono ?_
              rintro e y2 ⟨ur, rfl, hown, hb⟩
              rw [marks_bh Hl.out.symm hb2] at hown
              have HSy := Lib.hid (And.intro (HL5.out.1.go hb) (HL5.out.2.below hb))
              have hgB : gl < y1.heap.size := HL5.out.1.lt
              obtain ⟨B', hB'⟩ : ∃ B', B' = y1.heap.size := ⟨_, rfl⟩
              rw [← hB'] at hown hgB
              obtain ⟨sa, sc, hu, hsc, _⟩ := hown.int_at
              rw [natsI_len] at hu hsc
              subst hu
              have HOw := Lib.hid hown
              have HgB := Lib.hid hgB
              have hDl : (bhN l bb).length ≤ 100 := Nat.le_trans (bhN_len l bb) (by rw [Hl.out]; exact hn100)
              have HDn : Hid (bhN l bb).Nodup := bhN_nodup l bb
              have HDm : Hid (∀ q ∈ bhN l bb, q < i) := fun q hq => by have := (bhN_mem.1 hq).1; rw [Hl.out] at this; exact this
              have HDf : Hid (∀ j, j < i → addF (fun x => if x = bb then -1 else leftF l C x) (bhN l bb) (-1) j = leftF l (C ++ [bb]) j) := fun j hj => next_counts HLa.out (by rw [Hl.out]; exact hb2) HAv.out (by rw [Hl.out]; exact hj)
              have HCb : Hid (∀ j, (-1 : Int) ≤ (if j = bb then -1 else leftF l C j) ∧ (if j = bb then -1 else leftF l C j) ≤ (100 : Int)) := fun j => by
                have := leftF_fit l C j
                rw [Hl.out] at this
                split <;> omega
              clear hb hown hB' hgB HL5
              revert hsc HOw hDl HDn HDm HDf HCb HSy
              generalize bhN l bb = D
              generalize hF : (fun x => if x = bb then -1 else leftF l C x) = F
              intro HSy hsc HOw hDl HDn HDm HDf HCb
              have HCb' : Hid (∀ j, (-1 : Int) ≤ F j ∧ F j ≤ 100) := by subst hF; exact HCb.out
              clear HCb hF
              go_wp2_with fail
              go_loopw [15, 90] (fun _ x wq => ∃ p : Nat, p ≤ D.length ∧ x = .int .i64 p ∧ Hid (RowI i (addF F (D.take p) (-1)) gl w1 wq ∧ OwnL eltI wq B' (.slice sa D.length sc) (natsI D) ∧ OwnL eltEv wq (gl + 1) u10 (evsAt l C))) (fun _ x _ => D.length - (intOf x).toNat)
              case atStart => exact ⟨0, Nat.zero_le _, by go_num, ⟨HSy.out.1.of (fun j _ => by rw [List.take_zero, addF_nil]), HOw.out, HSy.out.2⟩⟩
              case round =>
                clear HSy HOw
                obtain ⟨p, hp, rfl, HQ⟩ := hrel
                by_cases hpl : p < D.length
                · obtain ⟨q, hq⟩ : ∃ q, D[p]? = some q := ⟨_, List.getElem?_eq_getElem hpl⟩
                  obtain ⟨g, rfl, cq⟩ := HQ.out.2.1.natAt hq
                  have hqn : q < i := HDm.out q (List.mem_of_getElem? hq)
                  obtain ⟨gc, gf⟩ := HQ.out.1.get hqn
                  rw [addF_mem HDn.out hq] at gc
                  obtain ⟨z, hz⟩ : ∃ z, z = F q := ⟨_, rfl⟩
                  obtain ⟨hz0, hz1⟩ := HCb'.out q
                  rw [← hz] at gc hz0 hz1
                  have HN : Hid (RowI i (addF F (D.take (p + 1)) (-1)) gl w1 (wr.setCell ⟨gl, q, none⟩ (.int .i64 (z - 1))) ∧ OwnL eltI (wr.setCell ⟨gl, q, none⟩ (.int .i64 (z - 1))) B' (.slice (some ⟨g, 0, none⟩) D.length sc) (natsI D) ∧ OwnL eltEv (wr.setCell ⟨gl, q, none⟩ (.int .i64 (z - 1))) (gl + 1) u10 (evsAt l C)) :=
                    ⟨(HQ.out.1.put q (z - 1)).of (fun j _ => by have := addF_put (f := F) (s := -1) HDn.out hq j; rw [addF_mem HDn.out hq] at this; rw [hz]; exact this), HQ.out.2.1.cell_set HgB.out, HQ.out.2.2.cell_setE (Nat.lt_succ_self gl)⟩
                  clear hq hz HQ
                  go_wp2
                  go_roundw
                  case rel => exact ⟨p + 1, hpl, by go_num, HN.out⟩
                  case measure => exact meas hpl
                · have hpl : D.length = p := Nat.le_antisymm (Nat.le_of_not_lt hpl) hp
                  subst hpl
                  have HN : Hid (RowI i (leftF l (C ++ [bb])) gl w1 wr ∧ OwnL eltEv wr (gl + 1) u10 (evsAt l C)) := ⟨HQ.out.1.of (fun j hj => by rw [List.take_length]; exact HDf.out j hj), HQ.out.2.2⟩
                  clear HQ
                  have HBn := Lib.hid (HB1.out.trans ((HN.out.1.base Hgl.out).mono HB1.out.size))
                  obtain ⟨b0, off, x, rfl, hx, _, c0, c1, c2, c3, c4⟩ := (Hev.out.below HBn.out).at hb2
                  obtain ⟨xt, xk, xo, xv, xb⟩ := x
                  simp only at c0 c1 c2 c3 c4
                  have Hx : Hid (evsAt l (C ++ [bb]) = evsAt l C ++ [⟨xt, xk, xo, xv, xb⟩]) := by rw [Hid, evsAt_app]; unfold evsAt; rw [List.map_cons, List.map_nil, getD_of hx]
                  clear hx
                  have hgl1 : gl + 1 ≤ wr.heap.size := HN.out.1.lt
                  go_wp2_with (at_builtin; go_loud (refine wpList_push eltEv rfl (.tmp 101) (.tmp 106) rfl ⟨xt, xk, xo, xv, xb⟩ rfl rfl rfl HN.out.2 hgl1 HLen.out ?_); intro v' wv hown hw hv; (have HL' := Lib.hid (And.intro (HN.out.1.wrote hw (fun q hq => by have := (HN.out.2.lt hq).1; omega)) (show OwnL eltEv wv (gl + 1) v' (evsAt l (C ++ [bb])) by rw [Hx.out]; exact hown))); clear hown hw hv)
                  go_roundw
                  case rel => exact ⟨m + 1, hmi, by go_num, by rw [HNx.out]; exact HL'.out⟩
                  case measure => exact meas hmi
        · have hmi : i = m := Nat.le_antisymm (Nat.le_of_not_lt hmi) hm
          subst hmi
          have hw2 : ∀ e ∈ evsAt l (normI l i), e.wf := by have := normL_wf (l := l) Hev.out.wf; unfold normL at this; rw [Hl.out] at this; exact this
          obtain ⟨xa, xc, rfl, hE⟩ := HL.out.2.evs hw2
          have Hq : Hid (EvsPost w (normRes i l) (.returned (.tuple #[.slice xa (evsAt l (normI l i)).length xc, .int .i64 0])) wr) := by
            rw [Hid, Hr.out]
            have e1 : normL l = evsAt l (normI l i) := by unfold normL; rw [Hl.out]
            rw [e1]
            exact ⟨xa, xc, rfl, hE, HB1.out.trans ((HL.out.1.base Hgl.out).mono HB1.out.size)⟩
          clear hE hw2 HL
          go_wp2
          go_returns
          exact Hq.out
end Go.Proofs.YtjhlehepnhbbaaaDoor

namespace Go.Proofs.YtjhlehepnhbbaaaDoor
open Go.ChangeShapes Go.WideShapes Go.ChangeAt Go.RowKit Go.Deep

theorem RowAt.wrote {n : Nat} {f : Nat → Bool} {rb : Nat} {wo wx wy : World} {R : Nat → Prop} (h : RowAt n f rb wo wx) (hw : Wrote R wx wy) (hR : ∀ q, R q → rb < q) : RowAt n f rb wo wy :=
  ⟨(hw.block rb h.lt (fun hr => Nat.lt_irrefl _ (hR rb hr))).trans h.row, Wrote.below h.below hw (Nat.le_of_lt h.lt) (fun q hq => Nat.le_of_lt (hR q hq))⟩
theorem RowAt.base {n : Nat} {f : Nat → Bool} {rb : Nat} {wo wx : World} (h : RowAt n f rb wo wx) (e : rb = wo.heap.size) : Below wo.heap.size wo wx := by rw [← e]; exact h.below
noncomputable def freeB (l : List Ev) (f : Nat → Bool) (i K : Nat) : Bool := (List.range K).all fun k => !hbB (rD l) k i || f k
theorem freeB_zero (l : List Ev) (f : Nat → Bool) (i : Nat) : freeB l f i 0 = true := rfl
theorem freeB_succ (l : List Ev) (f : Nat → Bool) (i K : Nat) : freeB l f i (K + 1) = (freeB l f i K && (!hbB (rD l) K i || f K)) := by
  unfold freeB; rw [List.range_succ, List.all_append]; simp
theorem freeB_no {l : List Ev} {f : Nat → Bool} {i k K : Nat} (hk : k < K) (h1 : hbB (rD l) k i = true) (h2 : f k = false) : freeB l f i K = false := by
  unfold freeB
  rw [List.all_eq_false]
  exact ⟨k, List.mem_range.2 hk, by rw [h1, h2]; simp⟩
theorem avail_free {l : List Ev} {C : List Nat} {i : Nat} : availB l C i = (!decide (i ∈ C) && freeB l (fun k => decide (k ∈ C)) i i) := rfl
def lenV : Value → Nat
  | .slice _ n _ => n
  | _ => 0
theorem OwnL.lenE {w : World} {B : Nat} {v : Value} {xs : List Ev} (h : OwnL eltEv w B v xs) : ∃ a c, v = .slice a xs.length c ∧ xs.length ≤ c := by
  obtain ⟨a, c, h1, h2, _⟩ := h.slice
  exact ⟨a, c, h1, h2⟩

end Go.Proofs.YtjhlehepnhbbaaaDoor

namespace Go.Proofs.YtjhlehepnhbbaaaDoor
open Go.ChangeShapes Go.WideShapes Go.ChangeAt Go.RowKit Go.Deep

open Classical in
noncomputable def eqB (xs ys : List Ev) : Bool := decide (xs = ys)
theorem eqB_iff {xs ys : List Ev} : eqB xs ys = true ↔ xs = ys := by unfold eqB; simp
theorem eqB_self (xs : List Ev) : eqB xs xs = true := eqB_iff.2 rfl
theorem eqB_no {xs ys : List Ev} (h : xs ≠ ys) : eqB xs ys = false := by
  cases hb : eqB xs ys
  · rfl
  · exact absurd (eqB_iff.1 hb) h
theorem evs_ne {xs ys : List Ev} {k : Nat} {x y : Ev} (hx : xs[k]? = some x) (hy : ys[k]? = some y) (h : x ≠ y) : eqB xs ys = false :=
  eqB_no fun e => h (by rw [e, hy] at hx; exact (Option.some.inj hx).symm)
theorem evs_eq {xs ys : List Ev} {n : Nat} (hx : xs.length = n) (hy : ys.length = n) (h : ∀ k, k < n → xs.getD k ev00 = ys.getD k ev00) : eqB xs ys = true :=
  eqB_iff.2 (ext_getD (by rw [hx, hy]) (fun u hu => h u (by omega)))
theorem evs_len_ne {xs ys : List Ev} {n m : Nat} (hx : xs.length = n) (hy : ys.length = m) (h : n ≠ m) : eqB xs ys = false :=
  eqB_no fun e => h (by rw [← hx, ← hy, e])

set_option maxRecDepth 20000 in
set_option maxHeartbeats 16000000 in
theorem eqE_calls {w : World} {a0 b0 : Option Addr} {n c m d : Nat} {xs ys : List Ev} (h : IsEvs w a0 n c xs) (h' : IsEvs w b0 m d ys) :
    Calls Tryd.prog 28 #[.slice a0 n c, .slice b0 m d] w fun e w' => e = .returned (.bool (eqB xs ys)) ∧ Below w.heap.size w w' := by
  have hnm : n ≤ 9223372036854775807 := by have := h.le; have := h.cap; unfold maxLen at *; omega
  have hmm : m ≤ 9223372036854775807 := by have := h'.le; have := h'.cap; unfold maxLen at *; omega
  have H := Lib.hid h
  have H' := Lib.hid h'
  clear h h'
  by_cases hnm2 : n = m
  case neg =>
    have Hn := Lib.hid (evs_len_ne H.out.len H'.out.len hnm2)
    have hb1 : ((n : Int) != (m : Int)) = true := by simpa [bne] using (show (n : Int) ≠ (m : Int) by omega)
    have hb2 : (n != m) = true := by simpa [bne] using hnm2
    clear hnm2
    go_enter Tryd.func28, Tryd.ntmps28
    go_wp2
    go_ret
    exact ⟨by rw [Hn.out]; rfl, Below.refl ..⟩
  subst hnm2
  go_enter Tryd.func28, Tryd.ntmps28
  go_wp2_with fail
  go_loopw [5, 13] (fun _ x wr => ∃ k : Nat, k ≤ n ∧ x = .int .i64 k ∧ Hid (∀ u, u < k → xs.getD u ev00 = ys.getD u ev00) ∧ Hid (Below w.heap.size w wr)) (fun _ x _ => n - (intOf x).toNat)
  case atStart => exact ⟨0, Nat.zero_le _, by go_num, fun u hu => absurd hu (Nat.not_lt_zero _), Below.refl ..⟩
  case round =>
    obtain ⟨k, hk, rfl, HP, HB⟩ := hrel
    by_cases hlt : k < n
    · obtain ⟨bx, ox, x, rfl, hx, _, c0, c1, c2, c3, c4⟩ := (H.out.below HB.out).at hlt
      obtain ⟨by', oy, y, rfl, hy, _, d0, d1, d2, d3, d4⟩ := (H'.out.below HB.out).at hlt
      have Hxy := Lib.hid (And.intro hx hy)
      have HNE : Hid (x ≠ y → eqB xs ys = false) := fun h => evs_ne Hxy.out.1 Hxy.out.2 h
      clear hx hy
      obtain ⟨xt, xk, xo, xv, xb⟩ := x
      obtain ⟨yt, yk, yo, yv, yb⟩ := y
      simp only at c0 c1 c2 c3 c4 d0 d1 d2 d3 d4
      go_wp2_with fail
      by_cases ht : xt = yt
      · subst ht
        by_cases hk : xk = yk
        · subst hk
          by_cases ho : xo = yo
          · subst ho
            by_cases hv : xv = yv
            · subst hv
              by_cases hb : xb = yb
              · subst hb
                have HP2 : Hid (∀ u, u < k + 1 → xs.getD u ev00 = ys.getD u ev00) := fun u hu => by
                  by_cases h : u = k
                  · rw [h, getD_of Hxy.out.1, getD_of Hxy.out.2]
                  · exact HP.out u (by omega)
                clear HNE
                refine wp_ext_draw 9 mixed (by kernel_rfl) ?_
                simp only [List.take_succ_cons, List.take_zero, List.drop_succ_cons, List.drop_zero]
                repeat ((first | ((apply TextRun.go rfl rfl rfl); (focus (intro w1 hS K hK; have hc := bcell hS; have hs := blt hS; have c0 := keep hS c0; have c1 := keep hS c1; have c2 := keep hS c2; have c3 := keep hS c3; have c4 := keep hS c4; have d0 := keep hS d0; have d1 := keep hS d1; have d2 := keep hS d2; have d3 := keep hS d3; have d4 := keep hS d4; go_wp2_with (fail); first | done | exact hS | exact hS.trans (hb.mono hS.size)))) | (refine TextRun.skip rfl ?_) | ((refine TextRun.wantedT rfl rfl rfl ?_); (apply Exists.intro); (apply And.intro); (focus (intro w1 hS K hK; have hc := bcell hS; have hs := blt hS; have c0 := keep hS c0; have c1 := keep hS c1; have c2 := keep hS c2; have c3 := keep hS c3; have c4 := keep hS c4; have d0 := keep hS d0; have d1 := keep hS d1; have d2 := keep hS d2; have d3 := keep hS d3; have d4 := keep hS d4; go_wp2_with (fail); first | done | exact hS | exact hS.trans (hb.mono hS.size))))); (simp only [Act.put, List.setIfInBounds_toArray, List.set_cons_zero, List.set_cons_succ]))
                refine TextRun.done ?_
                intro w2 hb
                have HB2 := Lib.hid (HB.out.trans (hb.mono HB.out.size))
                clear hb c0 c1 c2 c3 c4 d0 d1 d2 d3 d4
                go_wp2
                go_roundw
                case rel => exact ⟨k + 1, hlt, by go_num, HP2.out, HB2.out⟩
                case measure => exact meas hlt
              · have hneb : (xb == yb) = false := by simpa using hb
                have Hn := Lib.hid (HNE.out (fun e => hb (congrArg Ev.b e)))
                clear HNE
                refine wp_ext_draw 9 mixed (by kernel_rfl) ?_
                simp only [List.take_succ_cons, List.take_zero, List.drop_succ_cons, List.drop_zero]
                repeat ((first | ((apply TextRun.go rfl rfl rfl); (focus (intro w1 hS K hK; have hc := bcell hS; have hs := blt hS; have c0 := keep hS c0; have c1 := keep hS c1; have c2 := keep hS c2; have c3 := keep hS c3; have c4 := keep hS c4; have d0 := keep hS d0; have d1 := keep hS d1; have d2 := keep hS d2; have d3 := keep hS d3; have d4 := keep hS d4; go_wp2_with (fail); first | done | exact hS | exact hS.trans (hb.mono hS.size)))) | (refine TextRun.skip rfl ?_) | ((refine TextRun.wantedT rfl rfl rfl ?_); (apply Exists.intro); (apply And.intro); (focus (intro w1 hS K hK; have hc := bcell hS; have hs := blt hS; have c0 := keep hS c0; have c1 := keep hS c1; have c2 := keep hS c2; have c3 := keep hS c3; have c4 := keep hS c4; have d0 := keep hS d0; have d1 := keep hS d1; have d2 := keep hS d2; have d3 := keep hS d3; have d4 := keep hS d4; go_wp2_with (fail); first | done | exact hS | exact hS.trans (hb.mono hS.size))))); (simp only [Act.put, List.setIfInBounds_toArray, List.set_cons_zero, List.set_cons_succ]))
                refine TextRun.done ?_
                intro w2 hb
                have HB2 := Lib.hid (HB.out.trans (hb.mono HB.out.size))
                clear hb c0 c1 c2 c3 c4 d0 d1 d2 d3 d4
                go_wp2
                go_ret
                exact ⟨by rw [Hn.out]; rfl, HB2.out⟩
            · have hnev : (xv == yv) = false := by simpa using hv
              have Hn := Lib.hid (HNE.out (fun e => hv (congrArg Ev.v e)))
              clear HNE
              refine wp_ext_draw 9 mixed (by kernel_rfl) ?_
              simp only [List.take_succ_cons, List.take_zero, List.drop_succ_cons, List.drop_zero]
              repeat ((first | ((apply TextRun.go rfl rfl rfl); (focus (intro w1 hS K hK; have hc := bcell hS; have hs := blt hS; have c0 := keep hS c0; have c1 := keep hS c1; have c2 := keep hS c2; have c3 := keep hS c3; have c4 := keep hS c4; have d0 := keep hS d0; have d1 := keep hS d1; have d2 := keep hS d2; have d3 := keep hS d3; have d4 := keep hS d4; go_wp2_with (fail); first | done | exact hS | exact hS.trans (hb.mono hS.size)))) | (refine TextRun.skip rfl ?_) | ((refine TextRun.wantedT rfl rfl rfl ?_); (apply Exists.intro); (apply And.intro); (focus (intro w1 hS K hK; have hc := bcell hS; have hs := blt hS; have c0 := keep hS c0; have c1 := keep hS c1; have c2 := keep hS c2; have c3 := keep hS c3; have c4 := keep hS c4; have d0 := keep hS d0; have d1 := keep hS d1; have d2 := keep hS d2; have d3 := keep hS d3; have d4 := keep hS d4; go_wp2_with (fail); first | done | exact hS | exact hS.trans (hb.mono hS.size))))); (simp only [Act.put, List.setIfInBounds_toArray, List.set_cons_zero, List.set_cons_succ]))
              refine TextRun.done ?_
              intro w2 hb
              have HB2 := Lib.hid (HB.out.trans (hb.mono HB.out.size))
              clear hb c0 c1 c2 c3 c4 d0 d1 d2 d3 d4
              go_wp2
              go_ret
              exact ⟨by rw [Hn.out]; rfl, HB2.out⟩
          · have hneo : (xo == yo) = false := by simpa using ho
            have Hn := Lib.hid (HNE.out (fun e => ho (congrArg Ev.o e)))
            clear HNE
            refine wp_ext_draw 9 mixed (by kernel_rfl) ?_
            simp only [List.take_succ_cons, List.take_zero, List.drop_succ_cons, List.drop_zero]
            repeat ((first | ((apply TextRun.go rfl rfl rfl); (focus (intro w1 hS K hK; have hc := bcell hS; have hs := blt hS; have c0 := keep hS c0; have c1 := keep hS c1; have c2 := keep hS c2; have c3 := keep hS c3; have c4 := keep hS c4; have d0 := keep hS d0; have d1 := keep hS d1; have d2 := keep hS d2; have d3 := keep hS d3; have d4 := keep hS d4; go_wp2_with (fail); first | done | exact hS | exact hS.trans (hb.mono hS.size)))) | (refine TextRun.skip rfl ?_) | ((refine TextRun.wantedT rfl rfl rfl ?_); (apply Exists.intro); (apply And.intro); (focus (intro w1 hS K hK; have hc := bcell hS; have hs := blt hS; have c0 := keep hS c0; have c1 := keep hS c1; have c2 := keep hS c2; have c3 := keep hS c3; have c4 := keep hS c4; have d0 := keep hS d0; have d1 := keep hS d1; have d2 := keep hS d2; have d3 := keep hS d3; have d4 := keep hS d4; go_wp2_with (fail); first | done | exact hS | exact hS.trans (hb.mono hS.size))))); (simp only [Act.put, List.setIfInBounds_toArray, List.set_cons_zero, List.set_cons_succ]))
            refine TextRun.done ?_
            intro w2 hb
            have HB2 := Lib.hid (HB.out.trans (hb.mono HB.out.size))
            clear hb c0 c1 c2 c3 c4 d0 d1 d2 d3 d4
            go_wp2
            go_ret
            exact ⟨by rw [Hn.out]; rfl, HB2.out⟩
        · have hnek : (xk == yk) = false := by simpa using hk
          have Hn := Lib.hid (HNE.out (fun e => hk (congrArg Ev.k e)))
          clear HNE
          refine wp_ext_draw 9 mixed (by kernel_rfl) ?_
          simp only [List.take_succ_cons, List.take_zero, List.drop_succ_cons, List.drop_zero]
          repeat ((first | ((apply TextRun.go rfl rfl rfl); (focus (intro w1 hS K hK; have hc := bcell hS; have hs := blt hS; have c0 := keep hS c0; have c1 := keep hS c1; have c2 := keep hS c2; have c3 := keep hS c3; have c4 := keep hS c4; have d0 := keep hS d0; have d1 := keep hS d1; have d2 := keep hS d2; have d3 := keep hS d3; have d4 := keep hS d4; go_wp2_with (fail); first | done | exact hS | exact hS.trans (hb.mono hS.size)))) | (refine TextRun.skip rfl ?_) | ((refine TextRun.wantedT rfl rfl rfl ?_); (apply Exists.intro); (apply And.intro); (focus (intro w1 hS K hK; have hc := bcell hS; have hs := blt hS; have c0 := keep hS c0; have c1 := keep hS c1; have c2 := keep hS c2; have c3 := keep hS c3; have c4 := keep hS c4; have d0 := keep hS d0; have d1 := keep hS d1; have d2 := keep hS d2; have d3 := keep hS d3; have d4 := keep hS d4; go_wp2_with (fail); first | done | exact hS | exact hS.trans (hb.mono hS.size))))); (simp only [Act.put, List.setIfInBounds_toArray, List.set_cons_zero, List.set_cons_succ]))
          refine TextRun.done ?_
          intro w2 hb
          have HB2 := Lib.hid (HB.out.trans (hb.mono HB.out.size))
          clear hb c0 c1 c2 c3 c4 d0 d1 d2 d3 d4
          go_wp2
          go_ret
          exact ⟨by rw [Hn.out]; rfl, HB2.out⟩
      · have hnet : (xt == yt) = false := by simpa using ht
        have Hn := Lib.hid (HNE.out (fun e => ht (congrArg Ev.t e)))
        clear HNE
        refine wp_ext_draw 9 mixed (by kernel_rfl) ?_
        simp only [List.take_succ_cons, List.take_zero, List.drop_succ_cons, List.drop_zero]
        repeat ((first | ((apply TextRun.go rfl rfl rfl); (focus (intro w1 hS K hK; have hc := bcell hS; have hs := blt hS; have c0 := keep hS c0; have c1 := keep hS c1; have c2 := keep hS c2; have c3 := keep hS c3; have c4 := keep hS c4; have d0 := keep hS d0; have d1 := keep hS d1; have d2 := keep hS d2; have d3 := keep hS d3; have d4 := keep hS d4; go_wp2_with (fail); first | done | exact hS | exact hS.trans (hb.mono hS.size)))) | (refine TextRun.skip rfl ?_) | ((refine TextRun.wantedT rfl rfl rfl ?_); (apply Exists.intro); (apply And.intro); (focus (intro w1 hS K hK; have hc := bcell hS; have hs := blt hS; have c0 := keep hS c0; have c1 := keep hS c1; have c2 := keep hS c2; have c3 := keep hS c3; have c4 := keep hS c4; have d0 := keep hS d0; have d1 := keep hS d1; have d2 := keep hS d2; have d3 := keep hS d3; have d4 := keep hS d4; go_wp2_with (fail); first | done | exact hS | exact hS.trans (hb.mono hS.size))))); (simp only [Act.put, List.setIfInBounds_toArray, List.set_cons_zero, List.set_cons_succ]))
        refine TextRun.done ?_
        intro w2 hb
        have HB2 := Lib.hid (HB.out.trans (hb.mono HB.out.size))
        clear hb c0 c1 c2 c3 c4 d0 d1 d2 d3 d4
        go_wp2
        go_ret
        exact ⟨by rw [Hn.out]; rfl, HB2.out⟩
    · have hlt : n = k := Nat.le_antisymm (Nat.le_of_not_lt hlt) hk
      subst hlt
      have Hy := Lib.hid (evs_eq H.out.len H'.out.len HP.out)
      clear HP
      go_wp2
      go_ret
      exact ⟨by rw [Hy.out]; rfl, HB.out⟩

/-- What both Same hand back. -/
noncomputable def sameRes (n m : Nat) (a b : List Ev) : Bool × Int := if wrongS n a ≠ 0 then (false, wrongS n a) else if wrongS m b ≠ 0 then (false, wrongS m b) else (eqB (normL a) (normL b), 0)
theorem sameRes_a {n m : Nat} {a b : List Ev} (h : wrongS n a ≠ 0) : sameRes n m a b = (false, wrongS n a) := if_pos h
theorem sameRes_b {n m : Nat} {a b : List Ev} (h : wrongS n a = 0) (h' : wrongS m b ≠ 0) : sameRes n m a b = (false, wrongS m b) := by unfold sameRes; rw [if_neg (by rw [h]; simp), if_pos h']
theorem sameRes_ok {n m : Nat} {a b : List Ev} (h : wrongS n a = 0) (h' : wrongS m b = 0) : sameRes n m a b = (eqB (normL a) (normL b), 0) := by unfold sameRes; rw [if_neg (by rw [h]; simp), if_neg (by rw [h']; simp)]
set_option maxRecDepth 20000 in
set_option maxHeartbeats 8000000 in
theorem same_calls {w : World} {a0 b0 : Option Addr} {n c m d : Nat} {a b : List Ev} (h : IsEvs w a0 n c a) (h' : IsEvs w b0 m d b) :
    Calls Tryd.prog 12 #[.slice a0 n c, .slice b0 m d] w fun e w' => e = .returned (.tuple #[.bool (sameRes n m a b).1, .int .i64 (sameRes n m a b).2]) ∧ Below w.heap.size w w' := by
  have H := Lib.hid h
  have H' := Lib.hid h'
  clear h h'
  go_enter Tryd.func12, Tryd.ntmps12
  go_wp2_with fail
  refine (normal_calls H.out).mono ?_
  rintro e w1 ⟨xa, xc, rfl, hI, hb⟩
  have HB1 := Lib.hid hb
  have HI := Lib.hid hI
  clear hb hI
  by_cases hz : wrongS n a = 0
  case neg =>
    have hz' : (wrongS n a != 0) = true := by simpa [bne] using hz
    have Hr := Lib.hid (sameRes_a (m := m) (b := b) hz)
    rw [normRes_bad hz] at HI ⊢
    clear hz
    simp only at HI ⊢
    generalize wrongS n a = z at *
    go_wp2
    go_returns
    exact ⟨by rw [Hr.out]; rfl, HB1.out⟩
  rw [normRes_good hz] at HI ⊢
  simp only at HI ⊢
  have Hz := Lib.hid hz
  clear hz
  go_wp2_with fail
  refine (normal_calls (H'.out.below HB1.out)).mono ?_
  rintro e w2 ⟨ya, yc, rfl, hI, hb⟩
  have HB2 := Lib.hid (HB1.out.trans (hb.mono HB1.out.size))
  have HI1 := Lib.hid (HI.out.below hb)
  have HI2 := Lib.hid hI
  clear hb hI HI
  by_cases hz : wrongS m b = 0
  case neg =>
    have hz' : (wrongS m b != 0) = true := by simpa [bne] using hz
    have Hr := Lib.hid (sameRes_b Hz.out hz)
    rw [normRes_bad hz] at HI2 ⊢
    clear hz
    simp only at HI2 ⊢
    generalize wrongS m b = z at *
    go_wp2
    go_returns
    exact ⟨by rw [Hr.out]; rfl, HB2.out⟩
  rw [normRes_good hz] at HI2 ⊢
  simp only at HI2 ⊢
  have Hr := Lib.hid (sameRes_ok Hz.out hz)
  clear hz
  go_wp2_with fail
  refine (eqE_calls HI1.out HI2.out).mono ?_
  rintro e w3 ⟨rfl, hb⟩
  have HB3 := Lib.hid (HB2.out.trans (hb.mono HB2.out.size))
  clear hb HI1 HI2
  revert Hr
  generalize eqB (normL a) (normL b) = q
  intro Hr
  go_wp2
  go_returns
  exact ⟨by rw [Hr.out]; rfl, HB3.out⟩

theorem normL_one (x : Ev) : normL [x] = [x] := by
  have h : LeastAt [x] 0 := ⟨⟨by simp, fun k hk => absurd hk (Nat.not_lt_zero _)⟩, fun q hq => by
    have : q = 0 := by have := hq.1; simp at this; exact this
    subst this; exact Int.le_refl _⟩
  exact (normL_norm [x]).det (Norm.cons h Norm.nil)
def one16 : List Ev := [⟨0, 1, 0, 0, 0⟩]
theorem one16_wrong : wrongS 1 one16 = 0 := by decide
theorem one16_evs (w : World) : IsEvs (w.alloc (.cells #[.int .i64 0, .int .i64 1, .int .i64 0, .int .i64 0, .int .i64 0] 24)) (some ⟨w.heap.size, 0, none⟩) 1 1 one16 := by
  refine ⟨⟨rfl, fun _ => ⟨w.heap.size, 0, rfl, fun j u hj => ?_⟩⟩, rfl, Nat.le_refl _, by unfold maxLen; omega, fun e he => ?_⟩
  · rw [Nat.zero_add]; exact cell_new (by rw [← Array.getElem?_toList]; exact hj)
  · simp only [one16, List.mem_cons, List.not_mem_nil, or_false] at he
    subst he
    exact ⟨Fit.of (by decide) (by decide), Fit.of (by decide) (by decide), Fit.of (by decide) (by decide), Fit.of (by decide) (by decide), Fit.of (by decide) (by decide)⟩
end Go.Proofs.YtjhlehepnhbbaaaDoor
