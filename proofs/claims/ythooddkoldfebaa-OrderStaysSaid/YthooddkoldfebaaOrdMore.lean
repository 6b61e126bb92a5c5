/-
  Order, in plain terms: what a clock counts; what an exchange leaves of the order.
-/
import Derived.Test.YthooddkoldfebaaKnow
set_option linter.unusedSimpArgs false
set_option linter.unusedVariables false
namespace Go.Proofs.Ythooddkoldfebaa
open Go Go.RowKit

/-- How many of a thread's places lie ahead. -/
def cntI (th : Nat → Int) (t : Int) (K : Nat) : Nat := ((List.range K).filter fun i => th i == t).length
theorem cntI_succ (th : Nat → Int) (t : Int) (K : Nat) : cntI th t (K + 1) = cntI th t K + (th K == t).toNat := by
  unfold cntI; rw [List.range_succ, List.filter_append, List.length_append]
  cases h : th K == t <;> simp [h]
theorem cntT_is (th : Nat → Int) (j K : Nat) : cntT th j K = cntI th (th j) K := rfl
theorem cntI_mono (th : Nat → Int) (t : Int) {K L : Nat} (h : K ≤ L) : cntI th t K ≤ cntI th t L := by
  induction h with
  | refl => exact Nat.le_refl _
  | step _ ih => rw [cntI_succ]; omega
theorem cntI_le (th : Nat → Int) (t : Int) : ∀ K, cntI th t K ≤ K
  | 0 => by simp [cntI]
  | K + 1 => by rw [cntI_succ]; have := cntI_le th t K; have := Bool.toNat_le (th K == t); omega
theorem numT_is (th : Nat → Int) (k : Nat) : numT th k = cntI th (th k) k + 1 := rfl
theorem numT_le_cnt (th : Nat → Int) {k n : Nat} (h : k < n) : numT th k ≤ cntI th (th k) n := by
  rw [numT_is]
  have h1 := cntI_mono th (th k) (show k + 1 ≤ n from h)
  rw [cntI_succ] at h1
  simp at h1
  omega

/-- The document's count for a clock, K places taken in. -/
noncomputable def cntV (r : Nat → Nat → Bool) (th : Nat → Int) (j : Nat) (t : Int) (K : Nat) : Nat := ((List.range K).filter fun k => th k == t && (k == j || hbB r k j)).length
theorem cntV_succ (r : Nat → Nat → Bool) (th : Nat → Int) (j : Nat) (t : Int) (K : Nat) : cntV r th j t (K + 1) = cntV r th j t K + (th K == t && (K == j || hbB r K j)).toNat := by
  unfold cntV; rw [List.range_succ, List.filter_append, List.length_append]
  cases h : (th K == t && (K == j || hbB r K j)) <;> simp [h]
theorem cntV_zero (r : Nat → Nat → Bool) (th : Nat → Int) (j : Nat) (t : Int) : cntV r th j t 0 = 0 := rfl
theorem cntV_le (r : Nat → Nat → Bool) (th : Nat → Int) (j : Nat) (t : Int) : ∀ K, cntV r th j t K ≤ K
  | 0 => by simp [cntV]
  | K + 1 => by rw [cntV_succ]; have := cntV_le r th j t K; have := Bool.toNat_le (th K == t && (K == j || hbB r K j)); omega

theorem accV_att {r : Nat → Nat → Bool} {V : Nat → List Int} {j t : Nat} (ht : t < 8) : ∀ {K : Nat}, (∀ i, i < K → (V i).length = 8) →
    (accV r V j K).getD t 0 = 0 ∨ ∃ k, k < K ∧ (accV r V j K).getD t 0 = (V k).getD t 0
  | 0, _ => .inl (by unfold accV; rw [List.getD_eq_getElem?_getD, List.getElem?_replicate]; split <;> rfl)
  | K + 1, h => by
    have hl := accV_len (r := r) (V := V) (j := j) (K := K) (fun i hi => h i (by omega))
    have ih := accV_att (r := r) (V := V) (j := j) ht (K := K) (fun i hi => h i (by omega))
    unfold accV
    cases hr : r K j
    · simp only [Bool.false_eq_true, if_false]
      rcases ih with h1 | ⟨k, hk, h1⟩
      · exact .inl h1
      · exact .inr ⟨k, by omega, h1⟩
    · simp only [if_true]
      rw [zip_getD (by rw [hl, h K (by omega)]) (by omega)]
      rcases Int.le_total ((accV r V j K).getD t 0) ((V K).getD t 0) with hm | hm
      · exact .inr ⟨K, by omega, Int.max_eq_right hm⟩
      · rw [Int.max_eq_left hm]
        rcases ih with h1 | ⟨k, hk, h1⟩
        · exact .inl h1
        · exact .inr ⟨k, by omega, h1⟩
theorem vec_att {r : Nat → Nat → Bool} {th : Nat → Int} {t : Nat} (ht : t < 8) : ∀ (j : Nat), (vec r th j).getD t 0 = 0 ∨ ∃ k, k ≤ j ∧ (th k).toNat = t ∧ (vec r th j).getD t 0 = (numT th k : Int) := by
  intro j
  induction j using Nat.strongRecOn with
  | _ j ih =>
    have hl := accV_len (r := r) (V := vec r th) (j := j) (K := j) (fun i _ => vec_len r th i)
    rw [vec_eq]
    by_cases he : (th j).toNat = t
    · rw [he, getD_set_eq (by omega)]; exact .inr ⟨j, Nat.le_refl _, he, rfl⟩
    · rw [getD_set_ne' he]
      rcases accV_att (r := r) (V := vec r th) (j := j) ht (K := j) (fun i _ => vec_len r th i) with h1 | ⟨k, hk, h1⟩
      · exact .inl h1
      · rw [h1]
        rcases ih k hk with h2 | ⟨q, hq, h2, h3⟩
        · exact .inl h2
        · exact .inr ⟨q, by omega, h2, h3⟩
/-- A clock counts what happens before, itself among it. -/
theorem vec_cnt {r : Nat → Nat → Bool} {th : Nat → Int} {n : Nat} (hth : ∀ i, i < n → 0 ≤ th i ∧ th i < 8) (hR : ∀ i j, i < j → j < n → th i = th j → r i j = true) {j t : Nat} (hj : j < n) (ht : t < 8) :
    (vec r th j).getD t 0 = (cntV r th j (t : Int) n : Int) := by
  obtain ⟨m, hm, hmle⟩ : ∃ m : Nat, (vec r th j).getD t 0 = (m : Int) ∧ m ≤ cntI th (t : Int) n := by
    rcases vec_att (r := r) (th := th) ht j with h | ⟨k, hk, h1, h2⟩
    · exact ⟨0, by simpa using h, Nat.zero_le _⟩
    · refine ⟨numT th k, h2, ?_⟩
      have h3 := hth k (by omega)
      have : th k = (t : Int) := by omega
      rw [← this]
      exact numT_le_cnt th (by omega)
  have key : ∀ K, K ≤ n → cntV r th j (t : Int) K = min m (cntI th (t : Int) K) := by
    intro K
    induction K with
    | zero => intro _; simp [cntV_zero, cntI]
    | succ K ih =>
      intro hK
      rw [cntV_succ, cntI_succ, ih (by omega)]
      by_cases he : th K = (t : Int)
      · have e1 : (th K == (t : Int)) = true := by simpa using he
        have hkn := vec_known (r := r) (n := n) hth hR (i := K) (by omega) hj
        have e2 : (th K).toNat = t := by omega
        rw [e2, hm] at hkn
        have e3 : (K == j || hbB r K j) = decide (numT th K ≤ m) := by
          rw [Bool.eq_iff_iff, decide_eq_true_iff]
          simp only [Bool.or_eq_true, beq_iff_eq, hbB_iff]
          rw [← hkn]
          omega
        rw [e1, e3, numT_is, he, Bool.true_and]
        by_cases h4 : cntI th (t : Int) K + 1 ≤ m
        · rw [decide_eq_true h4]; simp only [Bool.toNat_true]; omega
        · rw [decide_eq_false h4]; simp only [Bool.toNat_true, Bool.toNat_false]; omega
      · have e1 : (th K == (t : Int)) = false := by simpa using he
        rw [e1]; simp
  rw [hm, key n (Nat.le_refl _)]
  omega

/-- Where a place goes when those at i and i + 1 are exchanged. -/
def sw (i k : Nat) : Nat := if k = i then i + 1 else if k = i + 1 then i else k
theorem sw_sw (i k : Nat) : sw i (sw i k) = k := by unfold sw; split <;> (try split) <;> (try split) <;> omega
theorem sw_lt {i k n : Nat} (hi : i + 1 < n) (hk : k < n) : sw i k < n := by unfold sw; split <;> (try split) <;> omega
theorem HB.swap {r r' : Nat → Nat → Bool} {i : Nat} (hr : ∀ x y, r' (sw i x) (sw i y) = r x y) (h0 : r i (i + 1) = false) {a b : Nat} (h : HB r a b) : HB r' (sw i a) (sw i b) := by
  have lt : ∀ {x y : Nat}, x < y → r x y = true → sw i x < sw i y := by
    intro x y hxy hr1
    by_cases hx : x = i
    · by_cases hy : y = i + 1
      · subst hx; subst hy; rw [h0] at hr1; cases hr1
      · unfold sw; rw [if_pos hx, if_neg (by omega), if_neg hy]; omega
    · unfold sw; rw [if_neg hx]; split <;> split <;> (try split) <;> omega
  induction h with
  | one h hr1 => exact .one (lt h hr1) (by rw [hr]; exact hr1)
  | more _ hk hr1 ih => exact .more ih (lt hk hr1) (by rw [hr]; exact hr1)
theorem hbB_swap {r r' : Nat → Nat → Bool} {i : Nat} (hr : ∀ x y, r' (sw i x) (sw i y) = r x y) (h0 : r i (i + 1) = false) (h1 : r (i + 1) i = false) (a b : Nat) : hbB r' (sw i a) (sw i b) = hbB r a b := by
  rw [Bool.eq_iff_iff, hbB_iff, hbB_iff]
  constructor
  · intro h
    have h2 : ∀ x y, r (sw i x) (sw i y) = r' x y := fun x y => by rw [← hr, sw_sw, sw_sw]
    have h3 : r' i (i + 1) = false := by
      have := hr (i + 1) i
      rw [show sw i (i + 1) = i by unfold sw; simp, show sw i i = i + 1 by unfold sw; simp] at this
      rw [this, h1]
    have := HB.swap h2 h3 h
    rwa [sw_sw, sw_sw] at this
  · exact HB.swap hr h0
end Go.Proofs.Ythooddkoldfebaa
