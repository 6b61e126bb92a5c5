/-
  Races of layer 15, plain: the pairs that clash and are not in the order of synchronisation; in both orders; under an exchange.
-/
import Derived.Test.YtadngicebbnnlaaRaceC
import Derived.Test.YtadngicebbnnlaaClash
import Derived.Test.YtadngicebbnnlaaRises
set_option linter.unusedSimpArgs false
set_option linter.unusedVariables false
namespace Go.Proofs.Ytadngicebbnnlaa
open Go Go.RowKit

def clE (a b : Ev) : Bool := clashB a.t a.k a.o b.t b.k b.o
noncomputable def raceC (l : List Ev) (i j : Nat) : Bool := clE (l.getD i ev00) (l.getD j ev00) && !hbB (rS l) i j
/-- The document's list: J of the second events. -/
noncomputable def docC (l : List Ev) : Nat → List (Nat × Nat)
  | 0 => []
  | J + 1 => docC l J ++ ((List.range J).filter fun i => raceC l i J).map fun i => (i, J)
noncomputable def docP (l : List Ev) (J I : Nat) : List (Nat × Nat) := docC l J ++ ((List.range I).filter fun i => raceC l i J).map fun i => (i, J)
theorem docP_zero (l : List Ev) (J : Nat) : docP l J 0 = docC l J := by unfold docP; simp
theorem docP_end (l : List Ev) (J : Nat) : docP l J J = docC l (J + 1) := rfl
theorem docP_succ (l : List Ev) (J I : Nat) : docP l J (I + 1) = docP l J I ++ if raceC l I J then [(I, J)] else [] := by
  unfold docP
  rw [List.range_succ, List.filter_append, List.map_append, ← List.append_assoc]
  congr 1
  cases h : raceC l I J <;> simp [h]
theorem docP_len (l : List Ev) (J I : Nat) : (docP l J I).length ≤ (docC l J).length + I := by
  unfold docP
  have := List.length_filter_le (fun i => raceC l i J) (List.range I)
  rw [List.length_range] at this
  rw [List.length_append, List.length_map]; omega
theorem docC_len (l : List Ev) : ∀ J, J ≤ 100 → (docC l J).length ≤ J * 100
  | 0, _ => Nat.le_refl _
  | J + 1, h => by
    have h1 := docC_len l J (by omega)
    have h2 := docP_len l J J
    rw [docP_end] at h2; omega
theorem docC_mem {l : List Ev} {p : Nat × Nat} : ∀ {J : Nat}, p ∈ docC l J ↔ p.2 < J ∧ p.1 < p.2 ∧ raceC l p.1 p.2 = true
  | 0 => by rw [docC]; simp
  | J + 1 => by
    rw [docC, List.mem_append, docC_mem, List.mem_map]
    constructor
    · rintro (h | ⟨i, h, rfl⟩)
      · exact ⟨by omega, h.2⟩
      · have := List.mem_filter.1 h
        exact ⟨by omega, List.mem_range.1 this.1, this.2⟩
    · rintro ⟨h1, h2, h3⟩
      by_cases hp : p.2 = J
      · refine .inr ⟨p.1, List.mem_filter.2 ⟨List.mem_range.2 (by omega), by rw [← hp]; exact h3⟩, ?_⟩
        rw [← hp]
      · exact .inl ⟨by omega, h2, h3⟩
/-- By the second place, then the first. -/
def ltP (a b : Nat × Nat) : Prop := a.2 < b.2 ∨ (a.2 = b.2 ∧ a.1 < b.1)
def ltZ (a b : Int × Int) : Prop := a.2 < b.2 ∨ (a.2 = b.2 ∧ a.1 < b.1)
theorem ltZ_asymm {a b : Int × Int} (h : ltZ a b) : ¬ ltZ b a := by unfold ltZ at *; omega
theorem docC_rises (l : List Ev) : ∀ J, (docC l J).Pairwise ltP
  | 0 => .nil
  | J + 1 => by
    rw [docC, List.pairwise_append]
    refine ⟨docC_rises l J, ?_, fun a ha b hb => ?_⟩
    · rw [List.pairwise_map]
      exact (List.pairwise_lt_range.filter _).imp fun h => .inr ⟨rfl, h⟩
    · obtain ⟨i, _, rfl⟩ := List.mem_map.1 hb
      exact .inl (docC_mem.1 ha).1
theorem natsP_rises {R : List (Nat × Nat)} (h : R.Pairwise ltP) : (natsP R).Pairwise ltZ := by
  unfold natsP
  rw [List.pairwise_map]
  exact h.imp fun h => by
    unfold ltP at h; unfold ltZ; simp only; omega
/-- The program's list, before it is sorted: of I first events. -/
noncomputable def prgC (l : List Ev) (n : Nat) : Nat → List (Nat × Nat)
  | 0 => []
  | I + 1 => prgC l n I ++ ((List.range n).filter fun j => decide (I < j) && raceC l I j).map fun j => (I, j)
noncomputable def prgP (l : List Ev) (n I J : Nat) : List (Nat × Nat) := prgC l n I ++ ((List.range J).filter fun j => decide (I < j) && raceC l I j).map fun j => (I, j)
theorem prgP_start (l : List Ev) (n I : Nat) : prgP l n I (I + 1) = prgC l n I := by
  unfold prgP
  have : (List.range (I + 1)).filter (fun j => decide (I < j) && raceC l I j) = [] := by
    rw [List.filter_eq_nil_iff]
    intro j hj
    have := List.mem_range.1 hj
    have h : decide (I < j) = false := decide_eq_false (by omega)
    rw [h]; simp
  rw [this]; simp
theorem prgP_end (l : List Ev) (n I : Nat) : prgP l n I n = prgC l n (I + 1) := rfl
theorem prgP_succ {l : List Ev} {n I J : Nat} (h : I < J) : prgP l n I (J + 1) = prgP l n I J ++ if raceC l I J then [(I, J)] else [] := by
  unfold prgP
  rw [List.range_succ, List.filter_append, List.map_append, ← List.append_assoc]
  congr 1
  have hd : decide (I < J) = true := decide_eq_true h
  cases hr : raceC l I J <;> simp [hr, hd]
theorem prgP_len (l : List Ev) (n I J : Nat) : (prgP l n I J).length ≤ (prgC l n I).length + J := by
  unfold prgP
  have := List.length_filter_le (fun j => decide (I < j) && raceC l I j) (List.range J)
  rw [List.length_range] at this
  rw [List.length_append, List.length_map]; omega
theorem prgC_len (l : List Ev) {n : Nat} (hn : n ≤ 100) : ∀ I, (prgC l n I).length ≤ I * 100
  | 0 => Nat.le_refl _
  | I + 1 => by
    have h1 := prgC_len l hn I
    have h2 := prgP_len l n I n
    rw [prgP_end] at h2; omega
theorem prgC_mem {l : List Ev} {n : Nat} {p : Nat × Nat} : ∀ {I : Nat}, p ∈ prgC l n I ↔ p.1 < I ∧ p.2 < n ∧ p.1 < p.2 ∧ raceC l p.1 p.2 = true
  | 0 => by rw [prgC]; simp
  | I + 1 => by
    rw [prgC, List.mem_append, prgC_mem, List.mem_map]
    constructor
    · rintro (h | ⟨j, h, rfl⟩)
      · exact ⟨by omega, h.2⟩
      · have := List.mem_filter.1 h
        have h2 := Bool.and_eq_true_iff.1 this.2
        exact ⟨by simp, List.mem_range.1 this.1, of_decide_eq_true h2.1, h2.2⟩
    · rintro ⟨h1, h2, h3, h4⟩
      by_cases hp : p.1 = I
      · refine .inr ⟨p.2, List.mem_filter.2 ⟨List.mem_range.2 h2, ?_⟩, by rw [← hp]⟩
        rw [← hp, h4, decide_eq_true h3]; rfl
      · exact .inl ⟨by omega, h2, h3, h4⟩
theorem prgC_nodup (l : List Ev) (n : Nat) : ∀ I, (prgC l n I).Nodup
  | 0 => List.nodup_nil
  | I + 1 => by
    rw [prgC, List.nodup_append]
    refine ⟨prgC_nodup l n I, ?_, fun a ha b hb e => ?_⟩
    · unfold List.Nodup
      rw [List.pairwise_map]
      exact (List.nodup_range.filter _).imp fun hne e => hne (by simpa using e)
    · obtain ⟨j, _, rfl⟩ := List.mem_map.1 hb
      rw [e] at ha
      have := (prgC_mem.1 ha).1
      simp at this
theorem docC_nodup (l : List Ev) (J : Nat) : (docC l J).Nodup := (docC_rises l J).imp fun h e => by subst e; unfold ltP at h; omega
theorem prg_doc {l : List Ev} {n : Nat} : (prgC l n n).Perm (docC l n) := by
  refine (List.perm_ext_iff_of_nodup (prgC_nodup l n n) (docC_nodup l n)).2 fun p => ?_
  rw [prgC_mem, docC_mem]
  constructor
  · rintro ⟨_, h2, h3, h4⟩; exact ⟨h2, h3, h4⟩
  · rintro ⟨h2, h3, h4⟩; exact ⟨by omega, h2, h3, h4⟩
/-- What the sort makes of it. -/
theorem sort_doc {l : List Ev} {n : Nat} {ys : List (Int × Int)} (hp : ys.Perm (natsP (prgC l n n))) (hs : ys.Pairwise fun a b => ¬ ltZ b a) : ys = natsP (docC l n) := by
  have h1 : ys.Perm (natsP (docC l n)) := hp.trans (prg_doc.map _)
  have h2 := natsP_rises (docC_rises l n)
  have h3 : (natsP (docC l n)).Pairwise fun a b => a ≠ b := h2.imp fun h e => by subst e; exact ltZ_asymm h h
  have h4 : ys.Pairwise fun a b => a ≠ b := h1.symm.pairwise h3 fun h e => h e.symm
  refine rises_eq (r := ltZ) (fun a b => ltZ_asymm) h1 ((h4.and hs).imp fun {a b} h => ?_) h2
  obtain ⟨hne, hn⟩ := h
  have : ¬ (a.1 = b.1 ∧ a.2 = b.2) := fun e => hne (Prod.ext e.1 e.2)
  unfold ltZ at *; omega

/-! Under an exchange. -/
theorem cl_dep {a b : Ev} (h : clE a b = true) : depE a b = true := by
  unfold clE clashB plainB at h
  unfold depE
  rw [depends_is]
  unfold rdepB
  simp only [Bool.and_eq_true, Bool.or_eq_true, beq_iff_eq, bne_iff_ne] at h
  obtain ⟨⟨⟨⟨h1, h2⟩, h3⟩, h4⟩, h5⟩ := h
  rcases h1 with h1 | h1 <;> rcases h2 with h2 | h2 <;> simp_all [accB]
theorem Swp.raceC {l l' : List Ev} {i : Nat} (h : Swp l l' i) (a b : Nat) : Go.Proofs.Ytadngicebbnnlaa.raceC l' (sw i a) (sw i b) = Go.Proofs.Ytadngicebbnnlaa.raceC l a b := by
  unfold Go.Proofs.Ytadngicebbnnlaa.raceC
  rw [h.get, h.get]
  congr 2
  refine hbB_swap (fun x y => ?_) ?_ ?_ a b
  · unfold rS; rw [h.get, h.get]
  · exact step_dep_no h.dep
  · exact step_dep_no h.dep2
theorem Swp.race_up {l l' : List Ev} {i : Nat} (h : Swp l l' i) {p : Nat × Nat} {n : Nat} (hn : n = l.length) (hp : p ∈ docC l n) : swP i p ∈ docC l' n := by
  obtain ⟨h1, h2, h3⟩ := docC_mem.1 hp
  have h4 : ¬ (p.1 = i ∧ p.2 = i + 1) := fun e => by
    unfold Go.Proofs.Ytadngicebbnnlaa.raceC at h3
    rw [e.1, e.2, Bool.and_eq_true] at h3
    have := cl_dep h3.1
    rw [h.dep] at this; cases this
  have hlt := h.lt
  refine docC_mem.2 ⟨sw_lt (by omega) h1, ?_, by show Go.Proofs.Ytadngicebbnnlaa.raceC l' (sw i p.1) (sw i p.2) = true; rw [h.raceC]; exact h3⟩
  show sw i p.1 < sw i p.2
  unfold sw
  split <;> split <;> (try split) <;> (try split) <;> omega
theorem Swp.race_le {l l' : List Ev} {i n : Nat} (h : Swp l l' i) (hn : n = l.length) : (docC l n).length ≤ (docC l' n).length := by
  have h1 : ((docC l n).map (swP i)).Nodup := List.Pairwise.map _ (fun a b hab e => hab (by rw [← swP_swP i a, e, swP_swP])) (docC_nodup l n)
  have h2 := nodup_len (xs := (docC l n).map (swP i)) (ys := docC l' n) h1 (fun x hx => by
    obtain ⟨p, hp, rfl⟩ := List.mem_map.1 hx
    exact h.race_up hn hp)
  rw [List.length_map] at h2
  exact h2
theorem Swp.race_len {l l' : List Ev} {i n : Nat} (h : Swp l l' i) (hn : n = l.length) : (docC l' n).length = (docC l n).length :=
  Nat.le_antisymm (h.symm.race_le (by rw [h.len]; exact hn)) (h.race_le hn)
noncomputable def confRes (n : Nat) (l : List Ev) : List (Nat × Nat) × Int := if wrongS n l ≠ 0 then ([], wrongS n l) else (docC l n, 0)
theorem confRes_bad {n : Nat} {l : List Ev} (h : wrongS n l ≠ 0) : confRes n l = ([], wrongS n l) := if_pos h
theorem confRes_good {n : Nat} {l : List Ev} (h : wrongS n l = 0) : confRes n l = (docC l n, 0) := by unfold confRes; rw [if_neg (by rw [h]; simp)]
end Go.Proofs.Ytadngicebbnnlaa
