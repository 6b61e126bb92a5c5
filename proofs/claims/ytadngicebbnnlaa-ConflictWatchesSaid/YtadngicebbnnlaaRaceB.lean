/-
  Races: plain law; the walks of the program's and of the document's races, of Of on both sides, of lists of pairs.
-/
import Derived.Test.YtadngicebbnnlaaOrdX
import Derived.Test.YtadngicebbnnlaaOf
import Derived.BigRegion
import Derived.Test.YtadngicebbnnlaaBoth
set_option linter.unusedSimpArgs false
set_option linter.unusedVariables false
namespace Go.Proofs.Ytadngicebbnnlaa
open Go Go.RowKit

/-- The state behind events taken one by one; what is refused changes nothing. -/
def takes (S : LogS) (l : List Ev) : LogS := l.foldl addS S
theorem takes_nil (S : LogS) : takes S [] = S := rfl
theorem takes_app (S : LogS) (l : List Ev) (e : Ev) : takes S (l ++ [e]) = addS (takes S l) e := by simp [takes]
theorem takes_apps (S : LogS) (l r : List Ev) : takes S (l ++ r) = takes (takes S l) r := by simp [takes]
theorem goOf_takes : ∀ (l : List Ev) {S T : LogS} {j p : Nat}, goOf S l j = (T, 0, p) → T = takes S l
  | [], S, T, j, p, h => by
    unfold goOf at h
    simp only [Prod.mk.injEq] at h
    exact h.1.symm
  | e :: r, S, T, j, p, h => by
    unfold goOf at h
    by_cases hz : addE S e = 0
    · rw [if_pos hz] at h; exact goOf_takes r h
    · rw [if_neg hz] at h; simp only [Prod.mk.injEq] at h; exact absurd h.2.1 hz
theorem takes_good {S : LogS} (hg : Good S) (l : List Ev) : Good (takes S l) := by
  induction l generalizing S with
  | nil => exact hg
  | cons e r ih => exact ih (addS_good hg e)
theorem takes_len (S : LogS) (l : List Ev) : (takes S l).l.length ≤ S.l.length + l.length := by
  induction l generalizing S with
  | nil => simp [takes]
  | cons e r ih =>
    have h1 := ih (S := addS S e)
    have h2 := addS_len S e
    simp only [takes, List.foldl_cons, List.length_cons] at h1 ⊢
    omega
/-- A prefix of what is taken is taken. -/
theorem goOf_take : ∀ (l : List Ev) (k : Nat) {S T : LogS} {j p : Nat}, goOf S l j = (T, 0, p) → goOf S (l.take k) j = (takes S (l.take k), 0, 0)
  | [], k, S, T, j, p, h => by simp [goOf, takes]
  | e :: r, 0, S, T, j, p, h => by simp [goOf, takes]
  | e :: r, k + 1, S, T, j, p, h => by
    unfold goOf at h
    by_cases hz : addE S e = 0
    · rw [if_pos hz] at h
      have := goOf_take r k h
      rw [List.take_succ_cons]
      unfold goOf
      rw [if_pos hz, this]
      rfl
    · rw [if_neg hz] at h; simp only [Prod.mk.injEq] at h; exact absurd h.2.1 hz
theorem ofS_take {l : List Ev} {S : LogS} (h : ofS l = (S, 0, 0)) (k : Nat) : ofS (l.take k) = (takes log0 (l.take k), 0, 0) := goOf_take l k h
theorem ofS_takes {l : List Ev} {S : LogS} (h : ofS l = (S, 0, 0)) : S = takes log0 l := goOf_takes l h

/-- The places between k and N whose events do not happen behind that at k. -/
noncomputable def restP (r : Nat → Nat → Bool) (k N : Nat) : List Nat := (List.range N).filter fun j => decide (k < j) && !hbB r k j
theorem restP_start (r : Nat → Nat → Bool) (k : Nat) : restP r k (k + 1) = [] := by
  unfold restP
  rw [List.filter_eq_nil_iff]
  intro j hj
  have := List.mem_range.1 hj
  have : decide (k < j) = false := by simp; omega
  simp [this]
theorem restP_succ {r : Nat → Nat → Bool} {k j : Nat} (h : k < j) : restP r k (j + 1) = restP r k j ++ (if hbB r k j then [] else [j]) := by
  unfold restP
  rw [List.range_succ, List.filter_append]
  congr 1
  cases hb : hbB r k j <;> simp [hb, h]
theorem restP_len (r : Nat → Nat → Bool) (k N : Nat) : (restP r k N).length ≤ N := by
  have := List.length_filter_le (fun j => decide (k < j) && !hbB r k j) (List.range N)
  rw [List.length_range] at this
  exact this
theorem restP_mem {r : Nat → Nat → Bool} {k N j : Nat} : j ∈ restP r k N ↔ j < N ∧ k < j ∧ hbB r k j = false := by
  unfold restP
  simp [List.mem_filter, List.mem_range]
theorem restP_early {r : Nat → Nat → Bool} {k N : Nat} (h : N ≤ k + 1) : restP r k N = [] := by
  unfold restP
  rw [List.filter_eq_nil_iff]
  intro j hj
  have := List.mem_range.1 hj
  have : decide (k < j) = false := by simp; omega
  simp [this]
def evsAt (l : List Ev) (ps : List Nat) : List Ev := ps.map fun j => l.getD j ev00
theorem evsAt_app (l : List Ev) (ps qs : List Nat) : evsAt l (ps ++ qs) = evsAt l ps ++ evsAt l qs := by simp [evsAt]
theorem evsAt_len (l : List Ev) (ps : List Nat) : (evsAt l ps).length = ps.length := by simp [evsAt]
theorem evsAt_wf {l : List Ev} {ps : List Nat} (hw : ∀ e ∈ l, e.wf) (hp : ∀ j ∈ ps, j < l.length) : ∀ e ∈ evsAt l ps, e.wf := by
  intro e he
  obtain ⟨j, hj, rfl⟩ := List.mem_map.1 he
  have h1 := hp j hj
  have : l[j]? = some l[j] := List.getElem?_eq_getElem h1
  rw [List.getD_eq_getElem?_getD, this]
  exact hw _ (List.getElem_mem h1)
/-- No event of the thread between k and N happens behind that at k. -/
noncomputable def freeP (r : Nat → Nat → Bool) (th : Nat → Int) (k : Nat) (t : Int) (N : Nat) : Bool := (List.range N).all fun j => !(decide (k < j) && (th j == t && hbB r k j))
theorem freeP_iff {r : Nat → Nat → Bool} {th : Nat → Int} {k N : Nat} {t : Int} : freeP r th k t N = true ↔ ∀ j, j < N → k < j → th j = t → hbB r k j = false := by
  unfold freeP
  rw [List.all_eq_true]
  constructor
  · intro h j h1 h2 h3
    have := h j (List.mem_range.2 h1)
    cases hb : hbB r k j
    · rfl
    · rw [hb] at this; simp [h2, h3] at this
  · intro h j hj
    have h1 := List.mem_range.1 hj
    by_cases h2 : k < j
    · by_cases h3 : th j = t
      · rw [h j h1 h2 h3]; simp
      · simp [h3]
    · simp [h2]
/-- Could a step of the thread t behind N events have come ahead of the event at k? -/
noncomputable def candB (l : List Ev) (N : Nat) (t ak ao : Int) (k : Nat) : Bool :=
  (thE l k != t && dependsB (l.getD k ev00).t (l.getD k ev00).k (l.getD k ev00).o t ak ao) && (freeP (rD l) (thE l) k t N && canB (takes (takes log0 (l.take k)) (evsAt l (restP (rD l) k N))) t ak ao)

/-- Of what is marked by c, that ahead of which nothing marked stands. -/
noncomputable def maxP (r : Nat → Nat → Bool) (c : Nat → Bool) (N k : Nat) : Bool := c k && (List.range N).all fun j => !(decide (k < j) && (c j && hbB r k j))
theorem maxP_iff {r : Nat → Nat → Bool} {c : Nat → Bool} {N k : Nat} : maxP r c N k = true ↔ c k = true ∧ ∀ j, j < N → k < j → c j = true → hbB r k j = false := by
  unfold maxP
  rw [Bool.and_eq_true, List.all_eq_true]
  constructor
  · rintro ⟨hc, h⟩
    refine ⟨hc, fun j h1 h2 h3 => ?_⟩
    have := h j (List.mem_range.2 h1)
    cases hb : hbB r k j
    · rfl
    · rw [hb] at this; simp [h2, h3] at this
  · rintro ⟨hc, h⟩
    refine ⟨hc, fun j hj => ?_⟩
    have h1 := List.mem_range.1 hj
    by_cases h2 : k < j
    · cases h3 : c j
      · simp
      · rw [h j h1 h2 h3]; simp
    · simp [h2]
theorem max_above {r : Nat → Nat → Bool} {c : Nat → Bool} {N k : Nat} : ∀ (d j : Nat), N - j ≤ d → HB r k j → j < N → c j = true → ∃ m, m < N ∧ maxP r c N m = true ∧ HB r k m
  | 0, j, hd, _, hj, _ => by omega
  | d + 1, j, hd, h, hj, hc => by
    cases hm : maxP r c N j
    · have : ∃ j', j' < N ∧ j < j' ∧ c j' = true ∧ hbB r j j' = true := by
        refine Classical.byContradiction fun hn => ?_
        have : maxP r c N j = true := maxP_iff.2 ⟨hc, fun j' h1 h2 h3 => by
          cases hb : hbB r j j'
          · rfl
          · exact absurd ⟨j', h1, h2, h3, hb⟩ hn⟩
        rw [hm] at this; cases this
      obtain ⟨j', h1, h2, h3, h4⟩ := this
      exact max_above d j' (by omega) (h.trans (hbB_iff.1 h4)) h1 h3
    · exact ⟨j, hj, hm, h⟩
/-- Told from the back to the front. -/
noncomputable def revP (r : Nat → Nat → Bool) (c : Nat → Bool) (N k : Nat) : List Nat := ((List.range N).filter fun j => decide (k ≤ j) && maxP r c N j).reverse
theorem revP_mem {r : Nat → Nat → Bool} {c : Nat → Bool} {N k j : Nat} : j ∈ revP r c N k ↔ j < N ∧ k ≤ j ∧ maxP r c N j = true := by
  unfold revP
  simp [List.mem_filter, List.mem_range]
theorem revP_end (r : Nat → Nat → Bool) (c : Nat → Bool) (N : Nat) : revP r c N N = [] := by
  unfold revP
  rw [List.reverse_eq_nil_iff, List.filter_eq_nil_iff]
  intro j hj
  have := List.mem_range.1 hj
  have : decide (N ≤ j) = false := by simp; omega
  simp [this]
theorem filt_from {p : Nat → Bool} {k : Nat} : ∀ {N : Nat}, k < N → (List.range N).filter (fun j => decide (k ≤ j) && p j) = (if p k then [k] else []) ++ (List.range N).filter (fun j => decide (k + 1 ≤ j) && p j)
  | 0, h => by omega
  | N + 1, h => by
    rw [List.range_succ, List.filter_append, List.filter_append]
    by_cases hk : k < N
    · rw [filt_from hk, List.append_assoc]
      have h1 : decide (k ≤ N) = true := by simp; omega
      have h2 : decide (k + 1 ≤ N) = true := by simp; omega
      congr 2
      simp only [List.filter_cons, List.filter_nil, h1, h2]
    · have hk' : k = N := by omega
      subst hk'
      have e1 : (List.range k).filter (fun j => decide (k ≤ j) && p j) = [] := by
        rw [List.filter_eq_nil_iff]; intro j hj
        have := List.mem_range.1 hj
        have : decide (k ≤ j) = false := by simp; omega
        simp [this]
      have e2 : (List.range k).filter (fun j => decide (k + 1 ≤ j) && p j) = [] := by
        rw [List.filter_eq_nil_iff]; intro j hj
        have := List.mem_range.1 hj
        have : decide (k + 1 ≤ j) = false := by simp; omega
        simp [this]
      rw [e1, e2]
      have h2 : decide (k + 1 ≤ k) = false := by simp
      cases hp : p k <;> simp [hp]
theorem revP_step {r : Nat → Nat → Bool} {c : Nat → Bool} {N k : Nat} (hk : k < N) : revP r c N k = revP r c N (k + 1) ++ (if maxP r c N k then [k] else []) := by
  unfold revP
  rw [filt_from hk, List.reverse_append]
  congr 1
  split <;> rfl
theorem revP_len (r : Nat → Nat → Bool) (c : Nat → Bool) (N k : Nat) : (revP r c N k).length ≤ N := by
  unfold revP
  rw [List.length_reverse]
  have := List.length_filter_le (fun j => decide (k ≤ j) && maxP r c N j) (List.range N)
  rw [List.length_range] at this
  exact this
/-- Who is marked is told, unless it happens before one that has been told. -/
theorem max_told {r : Nat → Nat → Bool} {c : Nat → Bool} {N k : Nat} (hc : c k = true) : maxP r c N k = !((revP r c N (k + 1)).any fun j => hbB r k j) := by
  rw [Bool.eq_iff_iff, maxP_iff]
  constructor
  · rintro ⟨_, h⟩
    have : ((revP r c N (k + 1)).any fun j => hbB r k j) = false := by
      rw [List.any_eq_false]
      intro j hj
      obtain ⟨h1, h2, h3⟩ := revP_mem.1 hj
      rw [h j h1 (by omega) (maxP_iff.1 h3).1]
      simp
    rw [this]; rfl
  · intro h
    refine ⟨hc, fun j h1 h2 h3 => ?_⟩
    cases hb : hbB r k j
    · rfl
    · obtain ⟨m, hm1, hm2, hm3⟩ := max_above (N - j) j (Nat.le_refl _) (hbB_iff.1 hb) h1 h3
      have hlt := hm3.lt
      have : ((revP r c N (k + 1)).any fun j => hbB r k j) = true := List.any_eq_true.2 ⟨m, revP_mem.2 ⟨hm1, by omega, hm2⟩, hbB_iff.2 hm3⟩
      rw [this] at h; cases h
noncomputable def racesP (r : Nat → Nat → Bool) (c : Nat → Bool) (N : Nat) : List Nat := (List.range N).filter (maxP r c N)
theorem revP_all (r : Nat → Nat → Bool) (c : Nat → Bool) (N : Nat) : (revP r c N 0).reverse = racesP r c N := by
  unfold revP racesP
  rw [List.reverse_reverse]
  exact congrArg (fun p => List.filter p (List.range N)) (funext fun j => by simp only [Nat.zero_le, decide_true, Bool.true_and])
theorem candB_same {l : List Ev} {N k : Nat} {t ak ao : Int} (h : thE l k = t) : candB l N t ak ao k = false := by unfold candB; simp [h]
theorem candB_indep {l : List Ev} {N k : Nat} {t ak ao : Int} (h : dependsB (l.getD k ev00).t (l.getD k ev00).k (l.getD k ev00).o t ak ao = false) : candB l N t ak ao k = false := by unfold candB; rw [h]; simp
theorem candB_bound {l : List Ev} {N k j : Nat} {t ak ao : Int} (hj : j < N) (hkj : k < j) (ht : thE l j = t) (hb : hbB (rD l) k j = true) : candB l N t ak ao k = false := by
  unfold candB
  cases hf : freeP (rD l) (thE l) k t N
  · simp
  · have := freeP_iff.1 hf j hj hkj ht
    rw [hb] at this; cases this
theorem candB_yes {l : List Ev} {N k : Nat} {t ak ao : Int} (h1 : thE l k ≠ t) (h2 : dependsB (l.getD k ev00).t (l.getD k ev00).k (l.getD k ev00).o t ak ao = true) (h3 : freeP (rD l) (thE l) k t N = true) :
    candB l N t ak ao k = canB (takes (takes log0 (l.take k)) (evsAt l (restP (rD l) k N))) t ak ao := by
  unfold candB; rw [h2, h3]; simp [h1]
theorem freeP_succ {r : Nat → Nat → Bool} {th : Nat → Int} {k j : Nat} {t : Int} (h : freeP r th k t j = true) (hj : th j = t → k < j → hbB r k j = false) : freeP r th k t (j + 1) = true := by
  rw [freeP_iff] at h ⊢
  intro i h1 h2 h3
  rcases Nat.lt_succ_iff_lt_or_eq.1 h1 with h4 | h4
  · exact h i h4 h2 h3
  · subst h4; exact hj h3 h2
theorem freeP_start {r : Nat → Nat → Bool} {th : Nat → Int} {k : Nat} {t : Int} : freeP r th k t (k + 1) = true := freeP_iff.2 fun j h1 h2 _ => by omega
end Go.Proofs.Ytadngicebbnnlaa

namespace Go.Proofs.Ytadngicebbnnlaa
open Go.ChangeShapes Go.WideShapes Go.ChangeAt Go.RowKit Go.Deep

def natsI (xs : List Nat) : List Int := xs.map fun (x : Nat) => (x : Int)
theorem natsI_app (xs ys : List Nat) : natsI (xs ++ ys) = natsI xs ++ natsI ys := by simp [natsI]
theorem natsI_len (xs : List Nat) : (natsI xs).length = xs.length := by simp [natsI]
theorem natsI_rev (xs : List Nat) : natsI xs.reverse = (natsI xs).reverse := by simp [natsI]
theorem natsI_get {xs : List Nat} {i q : Nat} (h : xs[i]? = some q) : (natsI xs)[i]? = some (q : Int) := by unfold natsI; rw [List.getElem?_map, h]; rfl

theorem OwnL.int_at {w : World} {B : Nat} {v : Value} {xs : List Int} (h : OwnL eltI w B v xs) : ∃ a c, v = .slice a xs.length c ∧ xs.length ≤ c ∧ ∀ (i : Nat) (q : Int), xs[i]? = some q → ∃ g, a = some ⟨g, 0, none⟩ ∧ v.ownBlock = some g ∧ w.cell? ⟨g, i, none⟩ = some (.int .i64 q) := by
  obtain ⟨a, c, rfl, h1, h2, h3, h4⟩ := h.slice
  refine ⟨a, c, rfl, h1, fun i q hi => ?_⟩
  cases a with
  | none => have := h3 rfl; subst this; simp at hi
  | some ad =>
    obtain ⟨g, o, s⟩ := ad
    obtain ⟨rfl, rfl, _, _, hc⟩ := h4 g o s rfl
    exact ⟨g, rfl, rfl, hc i _ (by rw [flat_ints, List.getElem?_map, hi]; rfl)⟩

/-- The first i and the last i exchanged. -/
def swpd (xs ys : List Int) (i : Nat) : Prop := ys.length = xs.length ∧ ∀ p, p < xs.length → ys.getD p 0 = if p < i ∨ xs.length - 1 - p < i then xs.getD (xs.length - 1 - p) 0 else xs.getD p 0
theorem swpd_start (xs : List Int) : swpd xs xs 0 := ⟨rfl, fun p _ => by rw [if_neg (by omega)]⟩
theorem getD_setI {l : List Int} {a p : Nat} {x : Int} (h : p < l.length) : (l.set a x).getD p 0 = if a = p then x else l.getD p 0 := by
  rw [List.getD_eq_getElem?_getD, List.getD_eq_getElem?_getD, List.getElem?_set]
  split
  · rename_i he; subst he; rw [if_pos h]; rfl
  · rfl
theorem swpd_step {xs ys : List Int} {i : Nat} (h : swpd xs ys i) (hi : i < xs.length - 1 - i) {a b : Int} (ha : ys[i]? = some a) (hb : ys[xs.length - 1 - i]? = some b) : swpd xs ((ys.set i b).set (xs.length - 1 - i) a) (i + 1) := by
  obtain ⟨h1, h2⟩ := h
  refine ⟨by simp [h1], fun p hp => ?_⟩
  have ha' : ys.getD i 0 = a := by rw [List.getD_eq_getElem?_getD, ha]; rfl
  have hb' : ys.getD (xs.length - 1 - i) 0 = b := by rw [List.getD_eq_getElem?_getD, hb]; rfl
  rw [getD_setI (by rw [List.length_set, h1]; exact hp), getD_setI (by rw [h1]; exact hp)]
  by_cases e1 : xs.length - 1 - i = p
  · rw [if_pos e1, if_pos (by omega), ← ha', h2 i (by omega), if_neg (by omega)]
    congr 1; omega
  · rw [if_neg e1]
    by_cases e2 : i = p
    · subst e2
      rw [if_pos rfl, if_pos (by omega), ← hb', h2 _ (by omega), if_neg (by omega)]
    · rw [if_neg e2, h2 p hp]
      by_cases e3 : p < i ∨ xs.length - 1 - p < i
      · rw [if_pos e3, if_pos (by omega)]
      · rw [if_neg e3, if_neg (by omega)]
theorem swpd_end {xs ys : List Int} {i : Nat} (h : swpd xs ys i) (hi : xs.length ≤ 2 * i + 1) : ys = xs.reverse := by
  obtain ⟨h1, h2⟩ := h
  refine List.ext_getElem (by rw [h1, List.length_reverse]) fun p hp hq => ?_
  have hp' : p < xs.length := by rw [← h1]; exact hp
  have h3 := h2 p hp'
  rw [List.getElem_reverse]
  rw [List.getD_eq_getElem?_getD, List.getElem?_eq_getElem hp, Option.getD_some] at h3
  rw [h3]
  split
  · rw [List.getD_eq_getElem?_getD, List.getElem?_eq_getElem (by omega), Option.getD_some]
  · have e : xs.length - 1 - p = p := by omega
    rw [List.getD_eq_getElem?_getD, List.getElem?_eq_getElem hp', Option.getD_some]
    simp only [e]

end Go.Proofs.Ytadngicebbnnlaa

namespace Go.Proofs.Ytadngicebbnnlaa
open Go Go.RowKit

def okL (S : LogS) : List Ev → Prop
  | [] => True
  | e :: r => Go.Proofs.Ytadngicebbnnlaa.addE S e = 0 ∧ okL (Go.Proofs.Ytadngicebbnnlaa.addS S e) r
theorem okL_app {S : LogS} : ∀ {l r : List Ev}, okL S (l ++ r) ↔ okL S l ∧ okL (takes S l) r
  | [], r => by simp [okL, takes]
  | e :: l, r => by
    have := @okL_app (Go.Proofs.Ytadngicebbnnlaa.addS S e) l r
    simp only [List.cons_append, okL, this, and_assoc]
    rfl
theorem okL_goOf : ∀ {l : List Ev} {S T : LogS} {j p : Nat}, goOf S l j = (T, 0, p) → okL S l
  | [], _, _, _, _, _ => trivial
  | e :: r, S, T, j, p, h => ⟨(goOf_cons h).1, okL_goOf (goOf_cons h).2⟩
theorem okL_of {S0 : LogS} {l : List Ev} (h : ofS l = (S0, 0, 0)) : okL log0 l := okL_goOf h
theorem goOf_okL : ∀ {l : List Ev} {S : LogS} {j : Nat}, okL S l → goOf S l j = (takes S l, 0, 0)
  | [], S, j, _ => by simp [goOf, takes]
  | e :: r, S, j, h => by
    rw [goOf_put h.1, goOf_okL h.2]
    rfl
theorem ofS_okL {l : List Ev} (h : okL log0 l) : ofS l = (takes log0 l, 0, 0) := goOf_okL h
theorem Like.trans {S T U : LogS} (h : Like S T) (k : Like T U) : Like S U := ⟨h.1.trans k.1, h.2.trans k.2⟩
theorem Like.symm {S T : LogS} (h : Like S T) : Like T S := ⟨h.1.symm, h.2.symm⟩
theorem Like.canB {S T : LogS} (h : Like S T) (t k o : Int) : Go.Proofs.Ytadngicebbnnlaa.canB S t k o = Go.Proofs.Ytadngicebbnnlaa.canB T t k o := by
  unfold Go.Proofs.Ytadngicebbnnlaa.canB waitB; rw [h.1, h.2]
theorem Like.okL : ∀ {l : List Ev} {S T : LogS}, Like S T → Go.Proofs.Ytadngicebbnnlaa.okL S l → Go.Proofs.Ytadngicebbnnlaa.okL T l
  | [], _, _, _, _ => trivial
  | e :: r, S, T, hl, h => ⟨by rw [← hl.addE e]; exact h.1, (hl.addS e).okL h.2⟩
theorem Like.takes : ∀ {l : List Ev} {S T : LogS}, Like S T → Like (Go.Proofs.Ytadngicebbnnlaa.takes S l) (Go.Proofs.Ytadngicebbnnlaa.takes T l)
  | [], _, _, hl => hl
  | e :: r, S, T, hl => (hl.addS e).takes
theorem move_front : ∀ {L : List Ev} {S : LogS} {e : Ev}, okL S (L ++ [e]) → (∀ x ∈ L, depE x e = false) → okL S (e :: L) ∧ Like (takes S (L ++ [e])) (takes S (e :: L))
  | [], S, e, h, _ => ⟨h, Like.refl _⟩
  | x :: L, S, e, h, hd => by
    obtain ⟨h1, h2⟩ := h
    obtain ⟨⟨k1, k2⟩, k3⟩ := move_front (L := L) h2 fun y hy => hd y (by simp [hy])
    have hi := Indep.of (hd x (by simp))
    obtain ⟨m1, m2, m3⟩ := exch_two hi h1 k1
    exact ⟨⟨m1, m2, m3.okL k2⟩, k3.trans m3.takes⟩

/-- The events at the places below N that are marked. -/
def keepL (f : Nat → Ev) (p : Nat → Bool) (N : Nat) : List Ev := ((List.range N).filter p).map f
theorem keepL_succ (f : Nat → Ev) (p : Nat → Bool) (N : Nat) : keepL f p (N + 1) = keepL f p N ++ (if p N then [f N] else []) := by
  unfold keepL
  rw [List.range_succ, List.filter_append, List.map_append]
  congr 1
  cases h : p N <;> simp [h]
theorem keepL_mem {f : Nat → Ev} {p : Nat → Bool} {N : Nat} {e : Ev} (h : e ∈ keepL f p N) : ∃ j, j < N ∧ p j = true ∧ e = f j := by
  unfold keepL at h
  obtain ⟨j, hj, rfl⟩ := List.mem_map.1 h
  obtain ⟨h1, h2⟩ := List.mem_filter.1 hj
  exact ⟨j, List.mem_range.1 h1, h2, rfl⟩
theorem keepL_congr {f g : Nat → Ev} {p q : Nat → Bool} {N : Nat} (hf : ∀ j, j < N → f j = g j) (hp : ∀ j, j < N → p j = q j) : keepL f p N = keepL g q N := by
  induction N with
  | zero => rfl
  | succ N ih => rw [keepL_succ, keepL_succ, ih (fun j hj => hf j (by omega)) (fun j hj => hp j (by omega)), hf N (by omega), hp N (by omega)]
theorem take_keep (l : List Ev) : ∀ {N : Nat}, N ≤ l.length → l.take N = keepL (fun j => l.getD j ev00) (fun _ => true) N
  | 0, _ => rfl
  | N + 1, h => by
    rw [keepL_succ, if_pos rfl, ← take_keep l (by omega), List.take_add_one]
    congr 1
    have : l[N]? = some l[N] := List.getElem?_eq_getElem (by omega)
    rw [this, getD_of this]
    rfl
/-- What is closed downwards can be taken first. -/
theorem sift {f : Nat → Ev} {p : Nat → Bool} {S : LogS} : ∀ {N : Nat}, okL S (keepL f (fun _ => true) N) → (∀ i j, i < j → j < N → p j = true → p i = false → depE (f i) (f j) = false) →
    okL S (keepL f p N ++ keepL f (fun j => !p j) N) ∧ Like (takes S (keepL f (fun _ => true) N)) (takes S (keepL f p N ++ keepL f (fun j => !p j) N))
  | 0, _, _ => ⟨trivial, Like.refl _⟩
  | N + 1, h, hp => by
    have e1 : keepL f (fun _ => true) (N + 1) = keepL f (fun _ => true) N ++ [f N] := by rw [keepL_succ]; rfl
    rw [e1] at h ⊢
    obtain ⟨h1, h2⟩ := okL_app.1 h
    obtain ⟨k1, k2⟩ := sift (N := N) h1 fun i j hi hj => hp i j hi (by omega)
    have h3 : okL (takes S (keepL f p N ++ keepL f (fun j => !p j) N)) [f N] := k2.okL h2
    rw [takes_apps]
    rw [keepL_succ, keepL_succ]
    cases hq : p N
    · rw [if_neg (by simp), List.append_nil, if_pos (by simp [hq]), ← List.append_assoc]
      refine ⟨okL_app.2 ⟨k1, h3⟩, ?_⟩
      rw [takes_apps S (_ ++ _)]
      exact k2.takes
    · rw [if_pos rfl, if_neg (by simp [hq]), List.append_nil]
      obtain ⟨a1, a2⟩ := okL_app.1 k1
      have h4 : okL (takes S (keepL f p N)) (keepL f (fun j => !p j) N ++ [f N]) := okL_app.2 ⟨a2, by rw [← takes_apps]; exact h3⟩
      obtain ⟨b1, b2⟩ := move_front h4 fun x hx => by
        obtain ⟨j, hj, hn, rfl⟩ := keepL_mem hx
        exact hp j N hj (by omega) hq (by simpa using hn)
      rw [List.append_assoc]
      refine ⟨okL_app.2 ⟨a1, b1⟩, ?_⟩
      refine k2.takes.trans ?_
      rw [← takes_apps, List.append_assoc, takes_apps, takes_apps S (keepL f p N)]
      exact b2

/-- What is taken ahead of a target that comes ahead of k: all but k and what happens behind it. -/
noncomputable def offP (r : Nat → Nat → Bool) (k j : Nat) : Bool := !(j == k) && !hbB r k j
theorem off_early {r : Nat → Nat → Bool} {k j : Nat} (h : j < k) : offP r k j = true := by
  unfold offP
  rw [hbB_false (by omega)]
  simp; omega
theorem off_late {r : Nat → Nat → Bool} {k j : Nat} (h : k < j) : offP r k j = !hbB r k j := by
  unfold offP
  have : (j == k) = false := by simp; omega
  rw [this]; rfl
theorem off_self (r : Nat → Nat → Bool) (k : Nat) : offP r k k = false := by unfold offP; simp
theorem rest_keep (l : List Ev) {r : Nat → Nat → Bool} {k : Nat} : ∀ {N : Nat}, k < N → k ≤ l.length → l.take k ++ evsAt l (restP r k N) = keepL (fun j => l.getD j ev00) (offP r k) N
  | 0, h, _ => by omega
  | N + 1, h, hl => by
    rw [keepL_succ]
    by_cases hk : k < N
    · rw [restP_succ hk, evsAt_app, ← List.append_assoc, rest_keep l hk hl, off_late hk]
      congr 1
      cases hb : hbB r k N <;> simp [evsAt]
    · have : k = N := by omega
      subst this
      rw [restP_start, off_self]
      show l.take k ++ [] = _ ++ []
      rw [List.append_nil, List.append_nil, take_keep l hl]
      exact keepL_congr (fun _ _ => rfl) (fun j hj => (off_early hj).symm)
theorem off_closed {l : List Ev} {k i j : Nat} (hij : i < j) (hj : offP (rD l) k j = true) (hi : offP (rD l) k i = false) : depE (l.getD i ev00) (l.getD j ev00) = false := by
  cases hd : depE (l.getD i ev00) (l.getD j ev00)
  · rfl
  · have hD : rD l i j = true := hd
    unfold offP at hi hj
    rw [Bool.and_eq_true] at hj
    have h2 : hbB (rD l) k j = false := by simpa using hj.2
    have h3 : HB (rD l) k j := by
      by_cases hki : i = k
      · subst hki; exact HB.iff.2 ⟨i, hij, hD, .inl rfl⟩
      · have : hbB (rD l) k i = true := by
          have h4 : (i == k) = false := by simpa using hki
          rw [h4] at hi; simpa using hi
        exact HB.iff.2 ⟨i, hij, hD, .inr (hbB_iff.1 this)⟩
    rw [hbB_iff.2 h3] at h2; cases h2
theorem okL_take {S : LogS} {l : List Ev} (h : okL S l) (N : Nat) : okL S (l.take N) := by
  have : l.take N ++ l.drop N = l := List.take_append_drop N l
  rw [← this] at h
  exact (okL_app.1 h).1
theorem off_ok {l : List Ev} (h : okL log0 l) {k N : Nat} (hN : N ≤ l.length) : okL log0 (keepL (fun j => l.getD j ev00) (offP (rD l) k) N) := by
  have h1 := okL_take h N
  rw [take_keep l hN] at h1
  exact (okL_app.1 (sift h1 fun i j hi _ h1 h2 => off_closed hi h1 h2).1).1
theorem rest_ok {l : List Ev} (h : okL log0 l) {k N : Nat} (hk : k < N) (hN : N ≤ l.length) : okL log0 (l.take k ++ evsAt l (restP (rD l) k N)) := by
  rw [rest_keep l hk (by omega)]
  exact off_ok h hN
theorem cand_keep {l : List Ev} {N k : Nat} {t ak ao : Int} (hk : k < N) (hN : k ≤ l.length) : candB l N t ak ao k = ((thE l k != t && dependsB (l.getD k ev00).t (l.getD k ev00).k (l.getD k ev00).o t ak ao) && (freeP (rD l) (thE l) k t N && canB (takes log0 (keepL (fun j => l.getD j ev00) (offP (rD l) k) N)) t ak ao)) := by
  unfold candB
  rw [← takes_apps, rest_keep l hk hN]

/-! Under an exchange. -/
theorem range_parts {i N : Nat} (h : i + 1 < N) : List.range N = List.range i ++ (i :: (i + 1) :: (List.range (N - i - 2)).map (fun x => i + 2 + x)) := by
  have h1 : N = i + 2 + (N - i - 2) := by omega
  have h2 : List.range (i + 2 + (N - i - 2)) = List.range (i + 2) ++ (List.range (N - i - 2)).map (fun x => i + 2 + x) := List.range_add ..
  have h3 : List.range (i + 2) = List.range i ++ [i, i + 1] := by rw [List.range_succ, List.range_succ, List.append_assoc]; rfl
  rw [show List.range N = List.range (i + 2 + (N - i - 2)) by rw [← h1], h2, h3, List.append_assoc]
  rfl
theorem keepL_parts (f : Nat → Ev) (p : Nat → Bool) {i N : Nat} (h : i + 1 < N) :
    keepL f p N = keepL f p i ++ ((if p i then [f i] else []) ++ ((if p (i + 1) then [f (i + 1)] else []) ++ keepL (fun x => f (i + 2 + x)) (fun x => p (i + 2 + x)) (N - i - 2))) := by
  unfold keepL
  rw [range_parts h, List.filter_append, List.map_append, List.filter_cons, List.filter_cons, List.filter_map, ]
  congr 1
  cases p i <;> cases p (i + 1) <;> simp [Function.comp_def]
theorem keep_swap {f g : Nat → Ev} {p q : Nat → Bool} {i N : Nat} {S : LogS} (h : i + 1 < N) (hg : ∀ u, g (sw i u) = f u) (hq : ∀ u, q (sw i u) = p u) (hd : depE (f i) (f (i + 1)) = false) (hok : okL S (keepL f p N)) :
    Like (takes S (keepL f p N)) (takes S (keepL g q N)) := by
  have e1 : ∀ x, x < i → g x = f x ∧ q x = p x := fun x hx => by
    have : sw i x = x := by unfold sw; rw [if_neg (by omega), if_neg (by omega)]
    have a := hg x; have b := hq x; rw [this] at a b; exact ⟨a, b⟩
  have e2 : ∀ x, g (i + 2 + x) = f (i + 2 + x) ∧ q (i + 2 + x) = p (i + 2 + x) := fun x => by
    have : sw i (i + 2 + x) = i + 2 + x := by unfold sw; rw [if_neg (by omega), if_neg (by omega)]
    have a := hg (i + 2 + x); have b := hq (i + 2 + x); rw [this] at a b; exact ⟨a, b⟩
  have e3 : g (i + 1) = f i ∧ q (i + 1) = p i := by
    have : sw i i = i + 1 := by unfold sw; rw [if_pos rfl]
    have a := hg i; have b := hq i; rw [this] at a b; exact ⟨a, b⟩
  have e4 : g i = f (i + 1) ∧ q i = p (i + 1) := by
    have : sw i (i + 1) = i := by unfold sw; rw [if_neg (by omega), if_pos rfl]
    have a := hg (i + 1); have b := hq (i + 1); rw [this] at a b; exact ⟨a, b⟩
  rw [keepL_parts f p h] at hok
  rw [keepL_parts f p h, keepL_parts g q h, e3.1, e3.2, e4.1, e4.2, keepL_congr (f := g) (g := f) (p := q) (q := p) (fun j hj => (e1 j hj).1) (fun j hj => (e1 j hj).2),
    keepL_congr (f := fun x => g (i + 2 + x)) (g := fun x => f (i + 2 + x)) (p := fun x => q (i + 2 + x)) (q := fun x => p (i + 2 + x)) (fun j _ => (e2 j).1) (fun j _ => (e2 j).2)]
  cases h1 : p i <;> cases h2 : p (i + 1)
  · exact Like.refl _
  · exact Like.refl _
  · exact Like.refl _
  · rw [h1, h2] at hok
    simp only [if_pos] at hok ⊢
    obtain ⟨_, k2⟩ := okL_app.1 hok
    rw [takes_apps, takes_apps S (keepL f p i)]
    obtain ⟨m1, m2, _⟩ := k2
    obtain ⟨_, _, m3⟩ := exch_two (Indep.of hd) m1 m2
    exact m3.takes
end Go.Proofs.Ytadngicebbnnlaa

namespace Go.Proofs.Ytadngicebbnnlaa
open Go Go.RowKit

theorem freeP_all {r : Nat → Nat → Bool} {th : Nat → Int} {k N : Nat} {t : Int} : freeP r th k t N = true ↔ ∀ j, j < N → th j = t → hbB r k j = false := by
  rw [freeP_iff]
  constructor
  · intro h j h1 h2
    by_cases h3 : k < j
    · exact h j h1 h3 h2
    · exact hbB_false (by omega)
  · intro h j h1 _ h2
    exact h j h1 h2
theorem maxP_all {r : Nat → Nat → Bool} {c : Nat → Bool} {N k : Nat} : maxP r c N k = true ↔ c k = true ∧ ∀ j, j < N → c j = true → hbB r k j = false := by
  rw [maxP_iff]
  constructor
  · rintro ⟨h1, h⟩
    refine ⟨h1, fun j h2 h3 => ?_⟩
    by_cases h4 : k < j
    · exact h j h2 h4 h3
    · exact hbB_false (by omega)
  · rintro ⟨h1, h⟩
    exact ⟨h1, fun j h2 _ h3 => h j h2 h3⟩
noncomputable def raceP (l : List Ev) (m k : Nat) : Bool := decide (k < m) && maxP (rD l) (candB l m (l.getD m ev00).t (l.getD m ev00).k (l.getD m ev00).o) m k
theorem raceP_iff {l : List Ev} {m k : Nat} : raceP l m k = true ↔ k < m ∧ candB l m (l.getD m ev00).t (l.getD m ev00).k (l.getD m ev00).o k = true ∧ ∀ j, j < m → candB l m (l.getD m ev00).t (l.getD m ev00).k (l.getD m ev00).o j = true → hbB (rD l) k j = false := by
  unfold raceP
  rw [Bool.and_eq_true, maxP_all, decide_eq_true_iff]

structure Swp (l l' : List Ev) (i : Nat) : Prop where
  get : ∀ u, l'.getD (sw i u) ev00 = l.getD u ev00
  hb : ∀ a b, hbB (rD l') (sw i a) (sw i b) = hbB (rD l) a b
  dep : depE (l.getD i ev00) (l.getD (i + 1) ev00) = false
  dep2 : depE (l.getD (i + 1) ev00) (l.getD i ev00) = false
  len : l'.length = l.length
  lt : i + 1 < l.length
  ok : okL log0 l
  ok2 : okL log0 l'
theorem sw_i (i : Nat) : sw i i = i + 1 := by unfold sw; rw [if_pos rfl]
theorem sw_i1 (i : Nat) : sw i (i + 1) = i := by unfold sw; rw [if_neg (by omega), if_pos rfl]
theorem sw_lo {i k : Nat} (h : k < i) : sw i k = k := by unfold sw; rw [if_neg (by omega), if_neg (by omega)]
theorem sw_hi {i k : Nat} (h : i + 1 < k) : sw i k = k := by unfold sw; rw [if_neg (by omega), if_neg (by omega)]
theorem sw_out {i k : Nat} (h1 : k ≠ i) (h2 : k ≠ i + 1) : sw i k = k := by unfold sw; rw [if_neg h1, if_neg h2]
theorem sw_inj {i a b : Nat} : sw i a = sw i b ↔ a = b := ⟨fun h => by rw [← sw_sw i a, h, sw_sw], fun h => by rw [h]⟩
theorem sw_below {i N k : Nat} (h1 : N ≠ i + 1) (hk : k < N) : sw i k < N := by unfold sw; split <;> (try split) <;> omega
theorem Swp.at_i {l l' : List Ev} {i : Nat} (h : Swp l l' i) : l'.getD i ev00 = l.getD (i + 1) ev00 := by have := h.get (i + 1); rw [sw_i1] at this; exact this
theorem Swp.at_i1 {l l' : List Ev} {i : Nat} (h : Swp l l' i) : l'.getD (i + 1) ev00 = l.getD i ev00 := by have := h.get i; rw [sw_i] at this; exact this
theorem Swp.at_lo {l l' : List Ev} {i k : Nat} (h : Swp l l' i) (hk : k < i) : l'.getD k ev00 = l.getD k ev00 := by have := h.get k; rw [sw_lo hk] at this; exact this
theorem Swp.symm {l l' : List Ev} {i : Nat} (h : Swp l l' i) : Swp l' l i where
  get u := by rw [← h.get (sw i u), sw_sw]
  hb a b := by rw [← h.hb, sw_sw, sw_sw]
  dep := by rw [h.at_i, h.at_i1]; exact h.dep2
  dep2 := by rw [h.at_i, h.at_i1]; exact h.dep
  len := h.len.symm
  lt := by rw [h.len]; exact h.lt
  ok := h.ok2
  ok2 := h.ok
theorem Swp.of {l : List Ev} {S : LogS} {i : Nat} {x y : Ev} (hR : ofS l = (S, 0, 0)) (hx : l[i]? = some x) (hy : l[i + 1]? = some y) (hd : dependsB x.t x.k x.o y.t y.k y.o = false) : Swp l (swapAt l i x y) i where
  get := swap_get hx hy
  hb := hbB_swap (swap_rD hx hy) (by unfold rD depE; rw [getD_of hx, getD_of hy]; exact hd) (by unfold rD depE; rw [getD_of hx, getD_of hy]; exact dep_symm hd)
  dep := by unfold depE; rw [getD_of hx, getD_of hy]; exact hd
  dep2 := by unfold depE; rw [getD_of hx, getD_of hy]; exact dep_symm hd
  len := swap_len l i x y
  lt := by have := (List.getElem?_eq_some_iff.1 hy).1; exact this
  ok := okL_of hR
  ok2 := by obtain ⟨T, hT, _⟩ := exch_of hR hx hy hd; exact okL_of hT

section
variable {l l' : List Ev} {i : Nat} (h : Swp l l' i)
include h
theorem Swp.th (u : Nat) : thE l' (sw i u) = thE l u := by unfold thE; rw [h.get]
theorem Swp.off (k u : Nat) : offP (rD l') (sw i k) (sw i u) = offP (rD l) k u := by
  unfold offP
  rw [h.hb]
  have : (sw i u == sw i k) = (u == k) := by rw [Bool.eq_iff_iff, beq_iff_eq, beq_iff_eq]; exact sw_inj
  rw [this]
theorem Swp.free {N k : Nat} {t : Int} (h1 : N ≠ i + 1) : freeP (rD l') (thE l') (sw i k) t N = freeP (rD l) (thE l) k t N := by
  rw [Bool.eq_iff_iff, freeP_all, freeP_all]
  constructor
  · intro H j hj ht
    have := H (sw i j) (sw_below h1 hj) (by rw [h.th]; exact ht)
    rw [h.hb] at this; exact this
  · intro H j hj ht
    have := H (sw i j) (sw_below h1 hj) (by rw [← h.th, sw_sw]; exact ht)
    rw [← h.hb, sw_sw] at this; exact this
theorem Swp.like {N k : Nat} (h1 : N ≠ i + 1) (hN : N ≤ l.length) :
    Like (takes log0 (keepL (fun j => l.getD j ev00) (offP (rD l) k) N)) (takes log0 (keepL (fun j => l'.getD j ev00) (offP (rD l') (sw i k)) N)) := by
  by_cases hi : N ≤ i
  · rw [keepL_congr (f := fun j => l'.getD j ev00) (g := fun j => l.getD j ev00) (p := offP (rD l') (sw i k)) (q := offP (rD l) k) (fun j hj => h.at_lo (by omega)) (fun j hj => by
      have := h.off k j
      rw [sw_lo (show j < i by omega)] at this; exact this)]
    exact Like.refl _
  · exact keep_swap (by omega) h.get (h.off k) h.dep (off_ok h.ok hN)
theorem Swp.cand_out {N k : Nat} (h0 : N ≠ i) (h1 : N ≠ i + 1) (hk : k < N) (hN : N ≤ l.length) (t ak ao : Int) : candB l' N t ak ao (sw i k) = candB l N t ak ao k := by
  have hk' := sw_below h1 hk
  rw [cand_keep hk' (by rw [h.len]; omega), cand_keep hk (by omega), h.th, h.get, h.free h1, (h.like (k := k) h1 hN).canB]
theorem Swp.cand_none {t ak ao : Int} (ht : (t, ak, ao) = ((l.getD i ev00).t, (l.getD i ev00).k, (l.getD i ev00).o)) : candB l' (i + 1) t ak ao i = false := by
  simp only [Prod.mk.injEq] at ht
  obtain ⟨rfl, rfl, rfl⟩ := ht
  refine candB_indep ?_
  rw [h.at_i]
  exact h.dep2
theorem Swp.cand_in {t ak ao : Int} (ht : (t, ak, ao) = ((l.getD i ev00).t, (l.getD i ev00).k, (l.getD i ev00).o)) {k : Nat} (hk : k < i) : candB l' (i + 1) t ak ao k = candB l i t ak ao k := by
  simp only [Prod.mk.injEq] at ht
  have hlt := h.lt
  have hth : thE l' i ≠ t := fun he => by
    have : thE l (i + 1) = thE l i := by
      have h2 : thE l' i = thE l (i + 1) := by unfold thE; rw [h.at_i]
      rw [← h2, he, ht.1]; rfl
    have h3 := rD_same this
    have h4 : rD l (i + 1) i = false := h.dep2
    rw [h4] at h3; cases h3
  have hf : freeP (rD l') (thE l') k t (i + 1) = freeP (rD l) (thE l) k t i := by
    rw [Bool.eq_iff_iff, freeP_all, freeP_all]
    have e1 : ∀ j, j < i → thE l' j = thE l j ∧ hbB (rD l') k j = hbB (rD l) k j := fun j hj => by
      have a := h.th j; have b := h.hb k j
      rw [sw_lo hj] at a b
      rw [sw_lo hk] at b
      exact ⟨a, b⟩
    constructor
    · intro H j hj h2
      have := H j (by omega) (by rw [(e1 j hj).1]; exact h2)
      rw [(e1 j hj).2] at this; exact this
    · intro H j hj h2
      rcases Nat.lt_succ_iff_lt_or_eq.1 hj with h3 | h3
      · rw [(e1 j h3).2]; exact H j h3 (by rw [← (e1 j h3).1]; exact h2)
      · subst h3; exact absurd h2 hth
  have hkeep : keepL (fun j => l'.getD j ev00) (offP (rD l') k) i = keepL (fun j => l.getD j ev00) (offP (rD l) k) i :=
    keepL_congr (fun j hj => h.at_lo hj) fun j hj => by
      have := h.off k j
      rw [sw_lo hj, sw_lo hk] at this; exact this
  rw [cand_keep (show k < i + 1 by omega) (by rw [h.len]; omega), cand_keep hk (by omega), hf, h.at_lo hk]
  have ht2 : thE l' k = thE l k := by unfold thE; rw [h.at_lo hk]
  rw [ht2, keepL_succ, hkeep]
  cases hq : offP (rD l') k i
  · rw [if_neg (by simp), List.append_nil]
  · rw [if_pos rfl, takes_app]
    have ho := off_ok h.ok2 (k := k) (N := i + 1) (by rw [h.len]; omega)
    rw [keepL_succ, hkeep, hq, if_pos rfl] at ho
    have ha := (okL_app.1 ho).2.1
    rw [leaves_plain (w := ⟨t, ak, ao, 0, 0⟩) ha (by
      show dependsB (l'.getD i ev00).t (l'.getD i ev00).k (l'.getD i ev00).o t ak ao = false
      rw [h.at_i, ht.1, ht.2.1, ht.2.2]
      exact h.dep2)]
theorem Swp.race_out {m k : Nat} (h0 : m ≠ i) (h1 : m ≠ i + 1) (hm : m < l.length) : raceP l' m (sw i k) = raceP l m k := by
  have he : l'.getD m ev00 = l.getD m ev00 := by have := h.get m; rw [sw_out h0 h1] at this; exact this
  rw [Bool.eq_iff_iff, raceP_iff, raceP_iff, he]
  have hb : ∀ u, sw i u < m ↔ u < m := fun u => ⟨fun hu => by have := sw_below h1 hu; rw [sw_sw] at this; exact this, sw_below h1⟩
  constructor
  · rintro ⟨a, b, c⟩
    have a' := (hb k).1 a
    rw [h.cand_out h0 h1 a' (by omega)] at b
    refine ⟨a', b, fun j hj hc => ?_⟩
    rw [← h.hb]
    exact c _ ((hb j).2 hj) (by rw [h.cand_out h0 h1 hj (by omega)]; exact hc)
  · rintro ⟨a, b, c⟩
    refine ⟨(hb k).2 a, by rw [h.cand_out h0 h1 a (by omega)]; exact b, fun j hj hc => ?_⟩
    have hj' := (hb (sw i j)).1 (by rw [sw_sw]; exact hj)
    have hc' : candB l m (l.getD m ev00).t (l.getD m ev00).k (l.getD m ev00).o (sw i j) = true := by
      rw [← h.cand_out h0 h1 hj' (by omega), sw_sw]; exact hc
    have := c _ hj' hc'
    rw [← h.hb, sw_sw] at this; exact this
theorem Swp.race_in {k : Nat} : raceP l' (i + 1) (sw i k) = raceP l i k := by
  have he := h.at_i1
  have hno : raceP l' (i + 1) i = false := by
    cases hr : raceP l' (i + 1) i
    · rfl
    · have := (raceP_iff.1 hr).2.1
      rw [he, h.cand_none rfl] at this; cases this
  by_cases hk : k < i
  · rw [sw_lo hk, Bool.eq_iff_iff, raceP_iff, raceP_iff, he]
    have hb : ∀ j, j < i → hbB (rD l') k j = hbB (rD l) k j := fun j hj => by have b := h.hb k j; rw [sw_lo hj, sw_lo hk] at b; exact b
    rw [h.cand_in rfl hk]
    constructor
    · rintro ⟨_, b, c⟩
      refine ⟨hk, b, fun j hj hc => ?_⟩
      rw [← hb j hj]
      exact c j (by omega) (by rw [h.cand_in rfl hj]; exact hc)
    · rintro ⟨_, b, c⟩
      refine ⟨by omega, b, fun j hj hc => ?_⟩
      rcases Nat.lt_succ_iff_lt_or_eq.1 hj with h3 | h3
      · rw [hb j h3]; exact c j h3 (by rw [← h.cand_in rfl h3]; exact hc)
      · subst h3; rw [h.cand_none rfl] at hc; cases hc
  · have hR : raceP l i k = false := by unfold raceP; rw [decide_eq_false (by omega)]; rfl
    rw [hR]
    by_cases hk1 : k = i + 1
    · subst hk1; rw [sw_i1]; exact hno
    · have : i + 1 ≤ sw i k := by unfold sw; split <;> (try split) <;> omega
      unfold raceP; rw [decide_eq_false (by omega)]; rfl
end
theorem Swp.race {l l' : List Ev} {i : Nat} (h : Swp l l' i) {m k : Nat} (hm : m < l.length) : raceP l' (sw i m) (sw i k) = raceP l m k := by
  by_cases h0 : m = i
  · subst h0; rw [sw_i]; exact h.race_in
  · by_cases h1 : m = i + 1
    · subst h1
      rw [sw_i1, ← h.symm.race_in (k := sw i k), sw_sw]
    · rw [sw_out h0 h1]; exact h.race_out h0 h1 hm
end Go.Proofs.Ytadngicebbnnlaa

namespace Go.Proofs.Ytadngicebbnnlaa
open Go.ChangeShapes Go.WideShapes Go.ChangeAt Go.RowKit Go.Deep

theorem restP_end {r : Nat → Nat → Bool} {k N j : Nat} (h : N ≤ j) (hj : j = k + 1 ∨ j ≤ N) : restP r k j = restP r k N := by
  rcases hj with rfl | hj
  · rw [restP_start, restP_early h]
  · have : j = N := by omega
    rw [this]

/-- What a target stands on. -/
structure TgAt (w : World) (B b : Nat) (v : Value) (l : List Ev) (n : Nat) (a0 : Option Addr) (c : Nat) : Prop where
  evs : IsEvs w a0 n c l
  ord : OrdAt w B b v l n
  good : GoodL n l
  wrong : wrongS n l = 0
theorem TgAt.below {w w' : World} {B b : Nat} {v : Value} {l : List Ev} {n : Nat} {a0 : Option Addr} {c : Nat} (h : TgAt w B b v l n a0 c) (hb : Below w.heap.size w w') : TgAt w' B b v l n a0 c :=
  ⟨h.evs.below hb, h.ord.below hb, h.good, h.wrong⟩

theorem wrong_ofS {n : Nat} {l : List Ev} (h : wrongS n l = 0) : ∃ S, ofS l = (S, 0, 0) := by
  unfold wrongS at h
  split at h
  · cases h
  · rcases ofS_cases l with ⟨S, hR, _, _⟩ | ⟨S, z, p, hR, hz⟩
    · exact ⟨S, hR⟩
    · rw [hR] at h; exact absurd h hz
theorem takes_restP_no {l : List Ev} {r : Nat → Nat → Bool} {k j : Nat} {S : LogS} (hkj : k < j) (hb : hbB r k j = true) : takes S (evsAt l (restP r k (j + 1))) = takes S (evsAt l (restP r k j)) := by
  rw [restP_succ hkj, hb, if_pos rfl, List.append_nil]
theorem takes_restP_yes {l : List Ev} {r : Nat → Nat → Bool} {k j : Nat} {S : LogS} {y : Ev} (hkj : k < j) (hb : hbB r k j = false) (hy : l[j]? = some y) : takes S (evsAt l (restP r k (j + 1))) = addS (takes S (evsAt l (restP r k j))) y := by
  have h1 : restP r k (j + 1) = restP r k j ++ [j] := by rw [restP_succ hkj, hb]; rfl
  rw [h1, evsAt_app, show evsAt l [j] = [l.getD j ev00] from rfl, takes_app, getD_of hy]
theorem logR_base {w : World} {B b : Nat} {vl va : Value} {S : LogS} (h : LogAt w B b vl va S) : ∀ x, logR b vl va x → B ≤ x := h.base

end Go.Proofs.Ytadngicebbnnlaa

namespace Go.Proofs.Ytadngicebbnnlaa
open Go.ChangeShapes Go.WideShapes Go.ChangeAt Go.RowKit Go.Deep

theorem revP_no {r : Nat → Nat → Bool} {c : Nat → Bool} {N k : Nat} (hk : k < N) (hc : c k = false) : revP r c N k = revP r c N (k + 1) := by
  have : maxP r c N k = false := by unfold maxP; rw [hc]; rfl
  rw [revP_step hk, this]
  simp
theorem revP_skip {r : Nat → Nat → Bool} {c : Nat → Bool} {N k q : Nat} (hk : k < N) (hc : c k = true) (hq : q ∈ revP r c N (k + 1)) (hb : hbB r k q = true) : revP r c N k = revP r c N (k + 1) := by
  have : maxP r c N k = false := by
    rw [max_told hc, List.any_eq_true.2 ⟨q, hq, hb⟩]; rfl
  rw [revP_step hk, this]
  simp
theorem revP_put {r : Nat → Nat → Bool} {c : Nat → Bool} {N k : Nat} (hk : k < N) (hc : c k = true) (h : ∀ q ∈ revP r c N (k + 1), hbB r k q = false) : revP r c N k = revP r c N (k + 1) ++ [k] := by
  have : maxP r c N k = true := by
    rw [max_told hc, List.any_eq_false.2 (fun q hq => by rw [h q hq]; simp)]; rfl
  rw [revP_step hk, this]
  rfl
theorem revP_lt {r : Nat → Nat → Bool} {c : Nat → Bool} {N k q : Nat} (h : q ∈ revP r c N k) : q < N := (revP_mem.1 h).1

end Go.Proofs.Ytadngicebbnnlaa

namespace Go.Proofs.Ytadngicebbnnlaa
open Go.ChangeShapes Go.WideShapes Go.ChangeAt Go.RowKit Go.Deep

theorem ROrdAt.lcell {w : World} {rb : Nat} {a0 : Option Addr} {n c : Nat} {v1 v2 : Value} {l : List Ev} (h : ROrdAt w rb a0 n c v1 v2 l) : w.cell? ⟨rb, 0, none⟩ = some (.slice a0 n c) := cell_of_block h.blk
theorem ROrdAt.ecell {w : World} {rb : Nat} {a0 : Option Addr} {n c : Nat} {v1 v2 : Value} {l : List Ev} (h : ROrdAt w rb a0 n c v1 v2 l) : w.cell? ⟨rb, 1, none⟩ = some v1 := cell_of_block h.blk

theorem take_one {l : List Ev} {k : Nat} {x : Ev} (h : l[k]? = some x) : l.take (k + 1) = l.take k ++ [x] := by rw [List.take_add_one, h]; rfl
theorem evs_one {l : List Ev} {Pl : List Nat} {i q : Nat} {x : Ev} (h : Pl[i]? = some q) (hx : l[q]? = some x) : evsAt l (Pl.take (i + 1)) = evsAt l (Pl.take i) ++ [x] := by
  rw [List.take_add_one, h, evsAt_app]
  show _ ++ [l.getD q ev00] = _
  rw [getD_of hx]

end Go.Proofs.Ytadngicebbnnlaa

namespace Go.Proofs.Ytadngicebbnnlaa
open Go.ChangeShapes Go.WideShapes Go.ChangeAt Go.RowKit Go.Deep

theorem boolsA_put {n i : Nat} {b : Bool} {f : Nat → Bool} : (boolsA n f).setIfInBounds i (.bool b) = boolsA n (fun x => if x = i then b else f x) := by
  apply Array.ext
  · simp [boolsA]
  · intro j h1 h2
    simp only [boolsA, Array.getElem_setIfInBounds, List.getElem_toArray, List.getElem_map, List.getElem_range]
    by_cases hj : i = j
    · subst hj; simp
    · have : ¬ j = i := fun h => hj h.symm
      simp [hj, this]
theorem RowAt.put {n : Nat} {f : Nat → Bool} {rb : Nat} {wo wx : World} (h : RowAt n f rb wo wx) (i : Nat) (b : Bool) : RowAt n (fun x => if x = i then b else f x) rb wo (wx.setCell ⟨rb, i, none⟩ (.bool b)) :=
  ⟨by rw [← boolsA_put]; exact set_block h.row _, h.below.setCell (p := ⟨rb, i, none⟩) (Nat.le_refl _) _⟩
noncomputable def lastP (r : Nat → Nat → Bool) (c : Nat → Bool) (k j : Nat) : Bool := c k && (List.range j).all fun j => !(decide (k < j) && (c j && hbB r k j))
theorem lastP_end (r : Nat → Nat → Bool) (c : Nat → Bool) (k N : Nat) : lastP r c k N = maxP r c N k := rfl
theorem lastP_start (r : Nat → Nat → Bool) (c : Nat → Bool) (k : Nat) : lastP r c k (k + 1) = c k := by
  unfold lastP
  have : ((List.range (k + 1)).all fun j => !(decide (k < j) && (c j && hbB r k j))) = true := by
    rw [List.all_eq_true]
    intro j hj
    have := List.mem_range.1 hj
    have : decide (k < j) = false := by simp; omega
    simp [this]
  rw [this, Bool.and_true]
theorem lastP_succ {r : Nat → Nat → Bool} {c : Nat → Bool} {k j : Nat} (h : k < j) : lastP r c k (j + 1) = (lastP r c k j && !(c j && hbB r k j)) := by
  unfold lastP
  rw [List.range_succ, List.all_append, ← Bool.and_assoc]
  simp [h]

end Go.Proofs.Ytadngicebbnnlaa

namespace Go.Proofs.Ytadngicebbnnlaa
open Go.ChangeShapes Go.WideShapes Go.ChangeAt Go.RowKit Go.Deep

/-- The races of the event at k. -/
noncomputable def racesAt (l : List Ev) (k : Nat) : List Nat := racesP (rD l) (candB l k (l.getD k ev00).t (l.getD k ev00).k (l.getD k ev00).o) k
noncomputable def raceRes (n : Nat) (l : List Ev) (i : Int) : List Int × Int := if wrongS n l ≠ 0 then ([], wrongS n l) else if inN n i then (natsI (racesAt l i.toNat), 0) else ([], 1)
theorem raceRes_bad {n : Nat} {l : List Ev} {i : Int} (h : wrongS n l ≠ 0) : raceRes n l i = ([], wrongS n l) := if_pos h
theorem raceRes_out {n : Nat} {l : List Ev} {i : Int} (h : wrongS n l = 0) (hi : inN n i = false) : raceRes n l i = ([], 1) := by unfold raceRes; rw [if_neg (by rw [h]; simp), hi]; rfl
theorem raceRes_in {n : Nat} {l : List Ev} {k : Nat} (h : wrongS n l = 0) (hk : k < n) : raceRes n l (k : Int) = (natsI (racesAt l k), 0) := by
  unfold raceRes; rw [if_neg (by rw [h]; simp), inN_nat, decide_eq_true hk]; rfl
/-- What both Of hand back. -/
def RacePost (w : World) (r : List Int × Int) (e : Ending) (w' : World) : Prop := ∃ v, e = .returned (.tuple #[v, .int .i64 r.2]) ∧ OwnL eltI w' w.heap.size v r.1 ∧ Below w.heap.size w w'
theorem RacePost.none {w w' : World} {z : Int} (hb : Below w.heap.size w w') : RacePost w ([], z) (.returned (.tuple #[.slice none 0 0, .int .i64 z])) w' := ⟨_, rfl, OwnL.nil .., hb⟩

def three0 : List Ev := [⟨0, 6, 1, 0, 0⟩, ⟨1, 2, 0, 0, 0⟩, ⟨0, 2, 0, 0, 0⟩]
theorem three_wrong : wrongS 3 three0 = 0 := by decide
theorem three_res : raceRes 3 three0 2 = ([1], 0) := by
  have h : raceRes 3 three0 ((2 : Nat) : Int) = (natsI (racesAt three0 2), 0) := raceRes_in three_wrong (by omega)
  have h0 : maxP (rD three0) (candB three0 2 0 2 0) 2 0 = false := by
    have hc : candB three0 2 0 2 0 0 = false := candB_same rfl
    unfold maxP; rw [hc]; rfl
  have h1 : maxP (rD three0) (candB three0 2 0 2 0) 2 1 = true := maxP_iff.2 ⟨by
    rw [candB_yes (by decide) (by decide) (freeP_iff.2 fun j hj hk => absurd hk (by omega)), restP_start]
    decide, fun j hj hk => absurd hk (by omega)⟩
  have h2 : racesAt three0 2 = [1] := by
    show ([0, 1] : List Nat).filter (maxP (rD three0) (candB three0 2 0 2 0) 2) = [1]
    rw [List.filter_cons, h0, List.filter_cons, h1]
    rfl
  rw [h2] at h
  exact h
def three0A : Array Value := #[.int .i64 0, .int .i64 6, .int .i64 1, .int .i64 0, .int .i64 0, .int .i64 1, .int .i64 2, .int .i64 0, .int .i64 0, .int .i64 0, .int .i64 0, .int .i64 2, .int .i64 0, .int .i64 0, .int .i64 0]
theorem three_evs (w : World) : IsEvs (w.alloc (.cells #[.int .i64 0, .int .i64 6, .int .i64 1, .int .i64 0, .int .i64 0, .int .i64 1, .int .i64 2, .int .i64 0, .int .i64 0, .int .i64 0, .int .i64 0, .int .i64 2, .int .i64 0, .int .i64 0, .int .i64 0] 38)) (some ⟨w.heap.size, 0, none⟩) 3 3 three0 := by
  refine ⟨⟨rfl, fun _ => ⟨w.heap.size, 0, rfl, fun j u hj => ?_⟩⟩, rfl, Nat.le_refl _, by unfold maxLen; omega, fun e he => ?_⟩
  · rw [Nat.zero_add]; exact cell_new (by rw [← Array.getElem?_toList]; exact hj)
  · simp only [three0, List.mem_cons, List.not_mem_nil, or_false] at he
    rcases he with rfl | rfl | rfl
    all_goals exact ⟨Fit.of (by decide) (by decide), Fit.of (by decide) (by decide), Fit.of (by decide) (by decide), Fit.of (by decide) (by decide), Fit.of (by decide) (by decide)⟩
theorem wrong_le {n : Nat} {l : List Ev} (h : wrongS n l = 0) : n ≤ 100 := by
  by_cases h2 : 100 < n
  · rw [wrongS, if_pos h2] at h; cases h
  · omega
theorem racesAt_lt {l : List Ev} {k x : Nat} (h : x ∈ racesAt l k) : x < k := by
  unfold racesAt racesP at h
  exact List.mem_range.1 (List.mem_filter.1 h).1
theorem raceRes_fit (n : Nat) (l : List Ev) (i : Int) : ∀ x ∈ (raceRes n l i).1, Fit x := by
  by_cases hz : wrongS n l = 0
  · rcases inN_cases n i with hi | ⟨k, rfl, hk⟩
    · rw [raceRes_out hz hi]; intro x hx; cases hx
    · rw [raceRes_in hz hk]
      have := wrong_le hz
      exact nats_fit (n := k) (fun x hx => racesAt_lt hx) (by omega)
  · rw [raceRes_bad hz]; intro x hx; cases hx

end Go.Proofs.Ytadngicebbnnlaa

namespace Go.Proofs.Ytadngicebbnnlaa
open Go.ChangeShapes Go.WideShapes Go.ChangeAt Go.RowKit Go.Deep

theorem infoPair : (Try.prog.info? 35).map (fun i => (i.zero, i.size, i.bytes)) = some (some (.agg #[.int .i64 0, .int .i64 0]), 2, 16) := by kernel_rfl
def eltP : Elt (Int × Int) where
  T := 24
  e := 35
  z := .agg #[.int .i64 0, .int .i64 0]
  size := 2
  bytes := 16
  f := fun x => [.int .i64 x.1, .int .i64 x.2]
  ht := Try.underlying24
  hi := infoPair
  hz := rfl
  hs := by decide
  hb := by decide
  hf := fun _ => rfl
  h1 := fun x u hu => by
    simp only [List.mem_cons, List.not_mem_nil, or_false] at hu
    rcases hu with rfl | rfl <;> rfl
/-- A list of pairs as it is read. -/
structure SeesP (w : World) (v : Value) (xs : List (Int × Int)) : Prop where
  ex : ∃ a c, v = .slice a xs.length c ∧ xs.length ≤ c ∧ c ≤ maxLen ∧ ∀ (i : Nat) (p : Int × Int), xs[i]? = some p → ∃ g, a = some ⟨g, 0, none⟩ ∧ w.cell? ⟨g, i * 2, none⟩ = some (.int .i64 p.1) ∧ w.cell? ⟨g, i * 2 + 1, none⟩ = some (.int .i64 p.2)
theorem SeesP.below {w w' : World} {v : Value} {xs : List (Int × Int)} (h : SeesP w v xs) (hb : Below w.heap.size w w') : SeesP w' v xs := by
  obtain ⟨a, c, h1, h2, h3, h4⟩ := h.ex
  exact ⟨a, c, h1, h2, h3, fun i p hp => by
    obtain ⟨g, h5, h6, h7⟩ := h4 i p hp
    exact ⟨g, h5, keep hb h6, keep hb h7⟩⟩
theorem OwnL.sees {w : World} {B : Nat} {v : Value} {xs : List (Int × Int)} (h : OwnL eltP w B v xs) : SeesP w v xs := by
  obtain ⟨a, c, rfl, h1, h2, h3, h4⟩ := h.slice
  refine ⟨a, c, rfl, h1, h2, fun i p hi => ?_⟩
  cases a with
  | none => have := h3 rfl; subst this; simp at hi
  | some ad =>
    obtain ⟨g, o, s⟩ := ad
    obtain ⟨rfl, rfl, _, _, hc⟩ := h4 g o s rfl
    have gg := fun j (hj : j < 2) => flat_get eltP.f 2 (fun _ => rfl) xs i j p hi hj
    exact ⟨g, rfl, hc _ _ (gg 0 (by decide)), hc _ _ (gg 1 (by decide))⟩
theorem SeesP.clip {w : World} {a : Option Addr} {n c : Nat} {xs : List (Int × Int)} (h : SeesP w (.slice a n c) xs) : SeesP w (.slice a n n) xs := by
  obtain ⟨a', c', h1, h2, h3, h4⟩ := h.ex
  cases h1
  exact ⟨a, _, rfl, Nat.le_refl _, Nat.le_trans h2 h3, h4⟩

set_option maxRecDepth 20000 in
set_option maxHeartbeats 4000000 in
theorem psame_calls {w : World} {v u : Value} {xs : List (Int × Int)} (h : SeesP w v xs) (h' : SeesP w u xs) :
    Calls Try.prog 13 #[v, u] w fun e w' => e = .returned (.bool true) ∧ Below w.heap.size w w' := by
  obtain ⟨a, c, rfl, h1, h2, h3⟩ := h.ex
  obtain ⟨b, d, rfl, k1, k2, k3⟩ := h'.ex
  have H3 := Lib.hid h3
  have K3 := Lib.hid k3
  have hc' : c ≤ 9223372036854775807 := by unfold maxLen at h2; omega
  obtain ⟨n, hn⟩ : ∃ n, n = xs.length := ⟨_, rfl⟩
  rw [← hn] at h1 k1 ⊢
  have Hn := Lib.hid hn
  clear hn h h' h2 k2 h3 k3
  go_enter Try.func13, Try.ntmps13
  go_wp2_with fail
  go_loopw [5] (fun x wr => ∃ k : Nat, k ≤ n ∧ x = .int .i64 k ∧ Hid (Below w.heap.size w wr)) (fun x _ => n - (intOf x).toNat)
  case atStart => exact ⟨0, Nat.zero_le _, by go_num, Below.refl ..⟩
  case round =>
    obtain ⟨k, hk, rfl, HB⟩ := hrel
    by_cases hkn : k < n
    · obtain ⟨⟨p, q⟩, hp⟩ : ∃ p, xs[k]? = some p := ⟨_, List.getElem?_eq_getElem (by rw [← Hn.out]; exact hkn)⟩
      obtain ⟨g, rfl, c0, c1⟩ := H3.out k _ hp
      obtain ⟨g', rfl, d0, d1⟩ := K3.out k _ hp
      simp only at c0 c1 d0 d1
      have c0 := keep HB.out c0
      have c1 := keep HB.out c1
      have d0 := keep HB.out d0
      have d1 := keep HB.out d1
      clear hp
      go_wp2_with fail
      refine wp_ext_draw 9 mixed (by kernel_rfl) ?_
      simp only [List.take_succ_cons, List.take_zero, List.drop_succ_cons, List.drop_zero]
      repeat ((first | ((apply TextRun.go rfl rfl rfl); (focus (intro w1 hS K hK; have hc := bcell hS; have hs := blt hS; have c0 := keep hS c0; have c1 := keep hS c1; have d0 := keep hS d0; have d1 := keep hS d1; go_wp2_with (fail); first | done | exact hS | exact hS.trans (hb.mono hS.size)))) | (refine TextRun.skip rfl ?_) | ((refine TextRun.wantedT rfl rfl rfl ?_); (apply Exists.intro); (apply And.intro); (focus (intro w1 hS K hK; have hc := bcell hS; have hs := blt hS; have c0 := keep hS c0; have c1 := keep hS c1; have d0 := keep hS d0; have d1 := keep hS d1; go_wp2_with (fail); first | done | exact hS | exact hS.trans (hb.mono hS.size))))); (simp only [Act.put, List.setIfInBounds_toArray, List.set_cons_zero, List.set_cons_succ]))
      refine TextRun.done ?_
      intro w2 hb
      have HB2 := Lib.hid (HB.out.trans (hb.mono HB.out.size))
      clear hb c0 c1 d0 d1
      go_wp2
      go_roundw
      case rel => exact ⟨k + 1, by omega, by go_num, HB2.out⟩
      case measure => simp [intOf]; omega
    · have hkn : k = n := by omega
      subst hkn
      go_wp2
      go_ret
      exact ⟨rfl, HB.out⟩
end Go.Proofs.Ytadngicebbnnlaa
