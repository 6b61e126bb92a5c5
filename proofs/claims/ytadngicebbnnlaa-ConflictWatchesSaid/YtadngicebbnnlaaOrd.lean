/-
  What happens before what: a relation on places, and the clocks that count it. Plain; no program stands here.
-/
import Derived.Test.YtadngicebbnnlaaData
set_option linter.unusedSimpArgs false
set_option linter.unusedVariables false
namespace Go.Proofs.Ytadngicebbnnlaa

/-- r k j: from the place k one goes to the later place j at once. -/
inductive HB (r : Nat → Nat → Bool) : Nat → Nat → Prop
  | one {i j : Nat} (h : i < j) (hr : r i j = true) : HB r i j
  | more {i k j : Nat} (h : HB r i k) (hk : k < j) (hr : r k j = true) : HB r i j

theorem HB.lt {r : Nat → Nat → Bool} {i j : Nat} (h : HB r i j) : i < j := by
  induction h with
  | one h _ => exact h
  | more _ hk _ ih => omega
theorem HB.iff {r : Nat → Nat → Bool} {i j : Nat} : HB r i j ↔ ∃ k, k < j ∧ r k j = true ∧ (i = k ∨ HB r i k) := by
  constructor
  · intro h
    cases h with
    | one h hr => exact ⟨i, h, hr, .inl rfl⟩
    | more h hk hr => exact ⟨_, hk, hr, .inr h⟩
  · rintro ⟨k, hk, hr, rfl | h⟩
    · exact .one hk hr
    · exact .more h hk hr
theorem HB.trans {r : Nat → Nat → Bool} {i k j : Nat} (h1 : HB r i k) (h2 : HB r k j) : HB r i j := by
  induction h2 with
  | one h hr => exact .more h1 h hr
  | more _ hk hr ih => exact .more ih hk hr
theorem HB.mono {r s : Nat → Nat → Bool} {i j : Nat} (hs : ∀ a b, a < b → b ≤ j → r a b = true → s a b = true) (h : HB r i j) : HB s i j := by
  induction h with
  | one h hr => exact .one h (hs _ _ h (Nat.le_refl _) hr)
  | more _ hk hr ih => exact .more (ih fun a b hab hb => hs a b hab (by omega)) hk (hs _ _ hk (Nat.le_refl _) hr)
open Classical in
noncomputable def hbB (r : Nat → Nat → Bool) (i j : Nat) : Bool := decide (HB r i j)
theorem hbB_iff {r : Nat → Nat → Bool} {i j : Nat} : hbB r i j = true ↔ HB r i j := by unfold hbB; simp
theorem hbB_false {r : Nat → Nat → Bool} {i j : Nat} (h : j ≤ i) : hbB r i j = false := by
  rw [← Bool.not_eq_true, hbB_iff]; intro h'; have := h'.lt; omega

/-- The document's row, k places taken in. -/
noncomputable def rowB (r : Nat → Nat → Bool) (j K i : Nat) : Bool := (List.range K).any fun k => r k j && (k == i || hbB r i k)
theorem rowB_all {r : Nat → Nat → Bool} {i j : Nat} : rowB r j j i = hbB r i j := by
  rw [Bool.eq_iff_iff, hbB_iff, HB.iff]
  unfold rowB
  rw [List.any_eq_true]
  constructor
  · rintro ⟨k, hk, h⟩
    simp only [Bool.and_eq_true, Bool.or_eq_true, beq_iff_eq, hbB_iff] at h
    exact ⟨k, List.mem_range.1 hk, h.1, h.2.imp (fun e => e.symm) id⟩
  · rintro ⟨k, hk, hr, h⟩
    exact ⟨k, List.mem_range.2 hk, by simp only [Bool.and_eq_true, Bool.or_eq_true, beq_iff_eq, hbB_iff]; exact ⟨hr, h.imp (fun e => e.symm) id⟩⟩
theorem rowB_succ {r : Nat → Nat → Bool} {i j K : Nat} : rowB r j (K + 1) i = (rowB r j K i || (r K j && (K == i || hbB r i K))) := by
  unfold rowB; rw [List.range_succ, List.any_append]; simp

/-- The how manieth of its thread. -/
def cntT (th : Nat → Int) (j K : Nat) : Nat := ((List.range K).filter fun i => th i == th j).length
def numT (th : Nat → Int) (j : Nat) : Nat := cntT th j j + 1
theorem cntT_succ (th : Nat → Int) (j K : Nat) : cntT th j (K + 1) = cntT th j K + (th K == th j).toNat := by
  unfold cntT; rw [List.range_succ, List.filter_append, List.length_append]
  cases h : th K == th j <;> simp [h]
theorem cntT_le (th : Nat → Int) (j : Nat) : ∀ K, cntT th j K ≤ K
  | 0 => by simp [cntT]
  | K + 1 => by rw [cntT_succ]; have := cntT_le th j K; have := Bool.toNat_le (th K == th j); omega
theorem cntT_mono (th : Nat → Int) (j : Nat) {K L : Nat} (h : K ≤ L) : cntT th j K ≤ cntT th j L := by
  induction h with
  | refl => exact Nat.le_refl _
  | step _ ih => rw [cntT_succ]; omega
theorem cntT_same {th : Nat → Int} {i j : Nat} (h : th i = th j) (K : Nat) : cntT th i K = cntT th j K := by unfold cntT; rw [h]
theorem numT_lt {th : Nat → Int} {i j : Nat} (h : i < j) (e : th i = th j) : numT th i < numT th j := by
  unfold numT
  rw [cntT_same e]
  have h1 := cntT_mono th j (show i + 1 ≤ j from h)
  rw [cntT_succ] at h1
  have : (th i == th j) = true := by simpa using e
  rw [this] at h1
  simp at h1
  omega
theorem numT_le (th : Nat → Int) (j : Nat) : numT th j ≤ j + 1 := by unfold numT; have := cntT_le th j j; omega

/-- The clocks. -/
def accV (r : Nat → Nat → Bool) (V : Nat → List Int) (j : Nat) : Nat → List Int
  | 0 => List.replicate 8 0
  | K + 1 => if r K j then List.zipWith max (accV r V j K) (V K) else accV r V j K
def vecT (r : Nat → Nat → Bool) (th : Nat → Int) : Nat → Nat → List Int
  | 0 => fun _ => List.replicate 8 0
  | n + 1 => fun i => if i < n then vecT r th n i else (accV r (vecT r th n) n n).set (th n).toNat (numT th n : Int)
def vec (r : Nat → Nat → Bool) (th : Nat → Int) (j : Nat) : List Int := vecT r th (j + 1) j
theorem accV_congr {r : Nat → Nat → Bool} {V V' : Nat → List Int} {j : Nat} : ∀ {K : Nat}, (∀ i, i < K → V i = V' i) → accV r V j K = accV r V' j K
  | 0, _ => rfl
  | K + 1, h => by
    unfold accV
    rw [accV_congr (fun i hi => h i (by omega)), h K (by omega)]
theorem vecT_stable {r : Nat → Nat → Bool} {th : Nat → Int} : ∀ {n i : Nat}, i < n → vecT r th n i = vec r th i
  | 0, i, h => by omega
  | n + 1, i, h => by
    by_cases hi : i < n
    · rw [← vecT_stable hi]; simp [vecT, hi]
    · have : i = n := by omega
      subst this; rfl
theorem vec_eq (r : Nat → Nat → Bool) (th : Nat → Int) (j : Nat) : vec r th j = (accV r (vec r th) j j).set (th j).toNat (numT th j : Int) := by
  conv => lhs; unfold vec
  simp only [vecT, Nat.lt_irrefl, if_false]
  rw [accV_congr (V' := vec r th) (fun i hi => vecT_stable hi)]
theorem accV_len {r : Nat → Nat → Bool} {V : Nat → List Int} {j : Nat} : ∀ {K : Nat}, (∀ i, i < K → (V i).length = 8) → (accV r V j K).length = 8
  | 0, _ => by simp [accV]
  | K + 1, h => by
    unfold accV
    split
    · rw [List.length_zipWith, accV_len (fun i hi => h i (by omega)), h K (by omega)]; rfl
    · exact accV_len (fun i hi => h i (by omega))
theorem vec_len (r : Nat → Nat → Bool) (th : Nat → Int) (j : Nat) : (vec r th j).length = 8 := by
  induction j using Nat.strongRecOn with
  | _ j ih => rw [vec_eq, List.length_set]; exact accV_len ih
theorem zip_getD {x y : List Int} (h : x.length = y.length) {t : Nat} (ht : t < x.length) : (List.zipWith max x y).getD t 0 = max (x.getD t 0) (y.getD t 0) := by
  simp [List.getD, List.getElem?_zipWith, List.getElem?_eq_getElem ht, List.getElem?_eq_getElem (show t < y.length by omega)]
theorem le_max_or {a b c : Int} : a ≤ max b c ↔ a ≤ b ∨ a ≤ c := by omega
theorem accV_known {r : Nat → Nat → Bool} {V : Nat → List Int} {j t m : Nat} (ht : t < 8) (hm : 1 ≤ m) : ∀ {K : Nat}, (∀ i, i < K → (V i).length = 8) →
    ((m : Int) ≤ (accV r V j K).getD t 0 ↔ ∃ k, k < K ∧ r k j = true ∧ (m : Int) ≤ (V k).getD t 0)
  | 0, _ => by
    constructor
    · intro h
      have : (accV r V j 0).getD t 0 = 0 := by unfold accV; rw [List.getD_eq_getElem?_getD, List.getElem?_replicate]; split <;> rfl
      omega
    · rintro ⟨k, hk, _⟩; omega
  | K + 1, h => by
    have hl := accV_len (r := r) (V := V) (j := j) (K := K) (fun i hi => h i (by omega))
    have ih := accV_known (r := r) (V := V) (j := j) ht hm (K := K) (fun i hi => h i (by omega))
    unfold accV
    cases hr : r K j
    · simp only [Bool.false_eq_true, if_false]
      rw [ih]
      constructor
      · rintro ⟨k, hk, h1⟩; exact ⟨k, by omega, h1⟩
      · rintro ⟨k, hk, h1, h2⟩
        refine ⟨k, ?_, h1, h2⟩
        rcases Nat.lt_succ_iff_lt_or_eq.1 hk with h' | h'
        · exact h'
        · subst h'; rw [hr] at h1; cases h1
    · simp only [if_true]
      rw [zip_getD (by rw [hl, h K (by omega)]) (by omega)]
      constructor
      · intro hmax
        rcases le_max_or.1 hmax with h' | h'
        · obtain ⟨k, hk, h1⟩ := ih.1 h'
          exact ⟨k, by omega, h1⟩
        · exact ⟨K, by omega, hr, h'⟩
      · rintro ⟨k, hk, h1, h2⟩
        rcases Nat.lt_succ_iff_lt_or_eq.1 hk with h' | h'
        · exact le_max_or.2 (.inl (ih.2 ⟨k, h', h1, h2⟩))
        · subst h'; exact le_max_or.2 (.inr h2)
theorem getD_set_eq {l : List Int} {t : Nat} {x : Int} (h : t < l.length) : (l.set t x).getD t 0 = x := by
  simp [List.getD, List.getElem?_set, h]
theorem getD_set_ne' {l : List Int} {t u : Nat} {x : Int} (h : t ≠ u) : (l.set t x).getD u 0 = l.getD u 0 := by
  simp [List.getD, List.getElem?_set, h]

/-- A clock knows just what happens before. -/
theorem vec_known {r : Nat → Nat → Bool} {th : Nat → Int} {n : Nat} (hth : ∀ i, i < n → 0 ≤ th i ∧ th i < 8) (hR : ∀ i j, i < j → j < n → th i = th j → r i j = true) {i : Nat} (hi : i < n) :
    ∀ {j : Nat}, j < n → ((numT th i : Int) ≤ (vec r th j).getD (th i).toNat 0 ↔ i = j ∨ HB r i j) := by
  intro j
  induction j using Nat.strongRecOn with
  | _ j ih =>
    intro hj
    have hl := accV_len (r := r) (V := vec r th) (j := j) (K := j) (fun i _ => vec_len r th i)
    have hti := hth i hi
    have htj := hth j hj
    rw [vec_eq]
    by_cases he : th i = th j
    · rw [he, getD_set_eq (by omega)]
      constructor
      · intro h
        rcases Nat.lt_trichotomy i j with h1 | h1 | h1
        · exact .inr (.one h1 (hR i j h1 hj he))
        · exact .inl h1
        · have := numT_lt h1 he.symm; omega
      · rintro (h | h)
        · rw [h]; exact Int.le_refl _
        · have := numT_lt h.lt he; omega
    · rw [getD_set_ne' (by omega), accV_known (by omega) (by unfold numT; omega) (fun i _ => vec_len r th i), HB.iff]
      constructor
      · rintro ⟨k, hk, hr, h⟩
        exact .inr ⟨k, hk, hr, (ih k hk (by omega)).1 h⟩
      · rintro (h | ⟨k, hk, hr, h⟩)
        · subst h; exact absurd rfl he
        · exact ⟨k, hk, hr, (ih k hk (by omega)).2 h⟩
end Go.Proofs.Ytadngicebbnnlaa
