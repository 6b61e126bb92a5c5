/-
  Races: plain law; the walks of the program's and of the document's races, of Of on both sides, of lists of pairs.
-/
import Derived.Test.YtjhlehepnhbbaaaOrdX
import Derived.Test.YtjhlehepnhbbaaaOf
import Derived.BigRegion
import Derived.Test.YtjhlehepnhbbaaaBoth
set_option linter.unusedSimpArgs false
set_option linter.unusedVariables false
namespace Go.Proofs.Ytjhlehepnhbbaaa
open Go Go.RowKit

/-- The state behind events taken one by one; what is refused changes nothing. -/
def takes (S : LogS) (l : List Ev) : LogS := l.foldl addS S
theorem takes_nil (S : LogS) : takes S [] = S := rfl
theorem takes_app (S : LogS) (l : List Ev) (e : Ev) : takes S (l ++ [e]) = addS (takes S l) e := by simp [takes]
theorem takes_apps (S : LogS) (l r : List Ev) : takes S (l ++ r) = takes (takes S l) r := by simp [takes]
theorem goOf_takes : ∀ (l : List Ev) {S T : LogS} {j p : Nat}, goOf S l j = (T, 0, p) → T = takes S l
  | [], S, T, j, p, h => by
    unfold goOf at h
    simp only [Prod.mk.injEq] at h
    exact h.1.symm
  | e :: r, S, T, j, p, h => by
    unfold goOf at h
    by_cases hz : addE S e = 0
    · rw [if_pos hz] at h; exact goOf_takes r h
    · rw [if_neg hz] at h; simp only [Prod.mk.injEq] at h; exact absurd h.2.1 hz
theorem takes_good {S : LogS} (hg : Good S) (l : List Ev) : Good (takes S l) := by
  induction l generalizing S with
  | nil => exact hg
  | cons e r ih => exact ih (addS_good hg e)
theorem takes_len (S : LogS) (l : List Ev) : (takes S l).l.length ≤ S.l.length + l.length := by
  induction l generalizing S with
  | nil => simp [takes]
  | cons e r ih =>
    have h1 := ih (S := addS S e)
    have h2 := addS_len S e
    simp only [takes, List.foldl_cons, List.length_cons] at h1 ⊢
    omega
/-- A prefix of what is taken is taken. -/
theorem goOf_take : ∀ (l : List Ev) (k : Nat) {S T : LogS} {j p : Nat}, goOf S l j = (T, 0, p) → goOf S (l.take k) j = (takes S (l.take k), 0, 0)
  | [], k, S, T, j, p, h => by simp [goOf, takes]
  | e :: r, 0, S, T, j, p, h => by simp [goOf, takes]
  | e :: r, k + 1, S, T, j, p, h => by
    unfold goOf at h
    by_cases hz : addE S e = 0
    · rw [if_pos hz] at h
      have := goOf_take r k h
      rw [List.take_succ_cons]
      unfold goOf
      rw [if_pos hz, this]
      rfl
    · rw [if_neg hz] at h; simp only [Prod.mk.injEq] at h; exact absurd h.2.1 hz
theorem ofS_take {l : List Ev} {S : LogS} (h : ofS l = (S, 0, 0)) (k : Nat) : ofS (l.take k) = (takes log0 (l.take k), 0, 0) := goOf_take l k h
theorem ofS_takes {l : List Ev} {S : LogS} (h : ofS l = (S, 0, 0)) : S = takes log0 l := goOf_takes l h

/-- The places between k and N whose events do not happen behind that at k. -/
noncomputable def restP (r : Nat → Nat → Bool) (k N : Nat) : List Nat := (List.range N).filter fun j => decide (k < j) && !hbB r k j
theorem restP_start (r : Nat → Nat → Bool) (k : Nat) : restP r k (k + 1) = [] := by
  unfold restP
  rw [List.filter_eq_nil_iff]
  intro j hj
  have := List.mem_range.1 hj
  have : decide (k < j) = false := by simp; omega
  simp [this]
theorem restP_succ {r : Nat → Nat → Bool} {k j : Nat} (h : k < j) : restP r k (j + 1) = restP r k j ++ (if hbB r k j then [] else [j]) := by
  unfold restP
  rw [List.range_succ, List.filter_append]
  congr 1
  cases hb : hbB r k j <;> simp [hb, h]
theorem restP_len (r : Nat → Nat → Bool) (k N : Nat) : (restP r k N).length ≤ N := by
  have := List.length_filter_le (fun j => decide (k < j) && !hbB r k j) (List.range N)
  rw [List.length_range] at this
  exact this
theorem restP_mem {r : Nat → Nat → Bool} {k N j : Nat} : j ∈ restP r k N ↔ j < N ∧ k < j ∧ hbB r k j = false := by
  unfold restP
  simp [List.mem_filter, List.mem_range]
theorem restP_early {r : Nat → Nat → Bool} {k N : Nat} (h : N ≤ k + 1) : restP r k N = [] := by
  unfold restP
  rw [List.filter_eq_nil_iff]
  intro j hj
  have := List.mem_range.1 hj
  have : decide (k < j) = false := by simp; omega
  simp [this]
def evsAt (l : List Ev) (ps : List Nat) : List Ev := ps.map fun j => l.getD j ev00
theorem evsAt_app (l : List Ev) (ps qs : List Nat) : evsAt l (ps ++ qs) = evsAt l ps ++ evsAt l qs := by simp [evsAt]
theorem evsAt_len (l : List Ev) (ps : List Nat) : (evsAt l ps).length = ps.length := by simp [evsAt]
theorem evsAt_wf {l : List Ev} {ps : List Nat} (hw : ∀ e ∈ l, e.wf) (hp : ∀ j ∈ ps, j < l.length) : ∀ e ∈ evsAt l ps, e.wf := by
  intro e he
  obtain ⟨j, hj, rfl⟩ := List.mem_map.1 he
  have h1 := hp j hj
  have : l[j]? = some l[j] := List.getElem?_eq_getElem h1
  rw [List.getD_eq_getElem?_getD, this]
  exact hw _ (List.getElem_mem h1)
/-- No event of the thread between k and N happens behind that at k. -/
noncomputable def freeP (r : Nat → Nat → Bool) (th : Nat → Int) (k : Nat) (t : Int) (N : Nat) : Bool := (List.range N).all fun j => !(decide (k < j) && (th j == t && hbB r k j))
theorem freeP_iff {r : Nat → Nat → Bool} {th : Nat → Int} {k N : Nat} {t : Int} : freeP r th k t N = true ↔ ∀ j, j < N → k < j → th j = t → hbB r k j = false := by
  unfold freeP
  rw [List.all_eq_true]
  constructor
  · intro h j h1 h2 h3
    have := h j (List.mem_range.2 h1)
    cases hb : hbB r k j
    · rfl
    · rw [hb] at this; simp [h2, h3] at this
  · intro h j hj
    have h1 := List.mem_range.1 hj
    by_cases h2 : k < j
    · by_cases h3 : th j = t
      · rw [h j h1 h2 h3]; simp
      · simp [h3]
    · simp [h2]
/-- Could a step of the thread t behind N events have come ahead of the event at k? -/
noncomputable def candB (l : List Ev) (N : Nat) (t ak ao : Int) (k : Nat) : Bool :=
  (thE l k != t && dependsB (l.getD k ev00).t (l.getD k ev00).k (l.getD k ev00).o t ak ao) && (freeP (rD l) (thE l) k t N && canB (takes (takes log0 (l.take k)) (evsAt l (restP (rD l) k N))) t ak ao)

/-- Of what is marked by c, that ahead of which nothing marked stands. -/
noncomputable def maxP (r : Nat → Nat → Bool) (c : Nat → Bool) (N k : Nat) : Bool := c k && (List.range N).all fun j => !(decide (k < j) && (c j && hbB r k j))
theorem maxP_iff {r : Nat → Nat → Bool} {c : Nat → Bool} {N k : Nat} : maxP r c N k = true ↔ c k = true ∧ ∀ j, j < N → k < j → c j = true → hbB r k j = false := by
  unfold maxP
  rw [Bool.and_eq_true, List.all_eq_true]
  constructor
  · rintro ⟨hc, h⟩
    refine ⟨hc, fun j h1 h2 h3 => ?_⟩
    have := h j (List.mem_range.2 h1)
    cases hb : hbB r k j
    · rfl
    · rw [hb] at this; simp [h2, h3] at this
  · rintro ⟨hc, h⟩
    refine ⟨hc, fun j hj => ?_⟩
    have h1 := List.mem_range.1 hj
    by_cases h2 : k < j
    · cases h3 : c j
      · simp
      · rw [h j h1 h2 h3]; simp
    · simp [h2]
theorem max_above {r : Nat → Nat → Bool} {c : Nat → Bool} {N k : Nat} : ∀ (d j : Nat), N - j ≤ d → HB r k j → j < N → c j = true → ∃ m, m < N ∧ maxP r c N m = true ∧ HB r k m
  | 0, j, hd, _, hj, _ => by omega
  | d + 1, j, hd, h, hj, hc => by
    cases hm : maxP r c N j
    · have : ∃ j', j' < N ∧ j < j' ∧ c j' = true ∧ hbB r j j' = true := by
        refine Classical.byContradiction fun hn => ?_
        have : maxP r c N j = true := maxP_iff.2 ⟨hc, fun j' h1 h2 h3 => by
          cases hb : hbB r j j'
          · rfl
          · exact absurd ⟨j', h1, h2, h3, hb⟩ hn⟩
        rw [hm] at this; cases this
      obtain ⟨j', h1, h2, h3, h4⟩ := this
      exact max_above d j' (by omega) (h.trans (hbB_iff.1 h4)) h1 h3
    · exact ⟨j, hj, hm, h⟩
/-- Told from the back to the front. -/
noncomputable def revP (r : Nat → Nat → Bool) (c : Nat → Bool) (N k : Nat) : List Nat := ((List.range N).filter fun j => decide (k ≤ j) && maxP r c N j).reverse
theorem revP_mem {r : Nat → Nat → Bool} {c : Nat → Bool} {N k j : Nat} : j ∈ revP r c N k ↔ j < N ∧ k ≤ j ∧ maxP r c N j = true := by
  unfold revP
  simp [List.mem_filter, List.mem_range]
theorem revP_end (r : Nat → Nat → Bool) (c : Nat → Bool) (N : Nat) : revP r c N N = [] := by
  unfold revP
  rw [List.reverse_eq_nil_iff, List.filter_eq_nil_iff]
  intro j hj
  have := List.mem_range.1 hj
  have : decide (N ≤ j) = false := by simp; omega
  simp [this]
theorem filt_from {p : Nat → Bool} {k : Nat} : ∀ {N : Nat}, k < N → (List.range N).filter (fun j => decide (k ≤ j) && p j) = (if p k then [k] else []) ++ (List.range N).filter (fun j => decide (k + 1 ≤ j) && p j)
  | 0, h => by omega
  | N + 1, h => by
    rw [List.range_succ, List.filter_append, List.filter_append]
    by_cases hk : k < N
    · rw [filt_from hk, List.append_assoc]
      have h1 : decide (k ≤ N) = true := by simp; omega
      have h2 : decide (k + 1 ≤ N) = true := by simp; omega
      congr 2
      simp only [List.filter_cons, List.filter_nil, h1, h2]
    · have hk' : k = N := by omega
      subst hk'
      have e1 : (List.range k).filter (fun j => decide (k ≤ j) && p j) = [] := by
        rw [List.filter_eq_nil_iff]; intro j hj
        have := List.mem_range.1 hj
        have : decide (k ≤ j) = false := by simp; omega
        simp [this]
      have e2 : (List.range k).filter (fun j => decide (k + 1 ≤ j) && p j) = [] := by
        rw [List.filter_eq_nil_iff]; intro j hj
        have := List.mem_range.1 hj
        have : decide (k + 1 ≤ j) = false := by simp; omega
        simp [this]
      rw [e1, e2]
      have h2 : decide (k + 1 ≤ k) = false := by simp
      cases hp : p k <;> simp [hp]
theorem revP_step {r : Nat → Nat → Bool} {c : Nat → Bool} {N k : Nat} (hk : k < N) : revP r c N k = revP r c N (k + 1) ++ (if maxP r c N k then [k] else []) := by
  unfold revP
  rw [filt_from hk, List.reverse_append]
  congr 1
  split <;> rfl
theorem revP_len (r : Nat → Nat → Bool) (c : Nat → Bool) (N k : Nat) : (revP r c N k).length ≤ N := by
  unfold revP
  rw [List.length_reverse]
  have := List.length_filter_le (fun j => decide (k ≤ j) && maxP r c N j) (List.range N)
  rw [List.length_range] at this
  exact this
/-- Who is marked is told, unless it happens before one that has been told. -/
theorem max_told {r : Nat → Nat → Bool} {c : Nat → Bool} {N k : Nat} (hc : c k = true) : maxP r c N k = !((revP r c N (k + 1)).any fun j => hbB r k j) := by
  rw [Bool.eq_iff_iff, maxP_iff]
  constructor
  · rintro ⟨_, h⟩
    have : ((revP r c N (k + 1)).any fun j => hbB r k j) = false := by
      rw [List.any_eq_false]
      intro j hj
      obtain ⟨h1, h2, h3⟩ := revP_mem.1 hj
      rw [h j h1 (by omega) (maxP_iff.1 h3).1]
      simp
    rw [this]; rfl
  · intro h
    refine ⟨hc, fun j h1 h2 h3 => ?_⟩
    cases hb : hbB r k j
    · rfl
    · obtain ⟨m, hm1, hm2, hm3⟩ := max_above (N - j) j (Nat.le_refl _) (hbB_iff.1 hb) h1 h3
      have hlt := hm3.lt
      have : ((revP r c N (k + 1)).any fun j => hbB r k j) = true := List.any_eq_true.2 ⟨m, revP_mem.2 ⟨hm1, by omega, hm2⟩, hbB_iff.2 hm3⟩
      rw [this] at h; cases h
noncomputable def racesP (r : Nat → Nat → Bool) (c : Nat → Bool) (N : Nat) : List Nat := (List.range N).filter (maxP r c N)
theorem revP_all (r : Nat → Nat → Bool) (c : Nat → Bool) (N : Nat) : (revP r c N 0).reverse = racesP r c N := by
  unfold revP racesP
  rw [List.reverse_reverse]
  exact congrArg (fun p => List.filter p (List.range N)) (funext fun j => by simp only [Nat.zero_le, decide_true, Bool.true_and])
theorem candB_same {l : List Ev} {N k : Nat} {t ak ao : Int} (h : thE l k = t) : candB l N t ak ao k = false := by unfold candB; simp [h]
theorem candB_indep {l : List Ev} {N k : Nat} {t ak ao : Int} (h : dependsB (l.getD k ev00).t (l.getD k ev00).k (l.getD k ev00).o t ak ao = false) : candB l N t ak ao k = false := by unfold candB; rw [h]; simp
theorem candB_bound {l : List Ev} {N k j : Nat} {t ak ao : Int} (hj : j < N) (hkj : k < j) (ht : thE l j = t) (hb : hbB (rD l) k j = true) : candB l N t ak ao k = false := by
  unfold candB
  cases hf : freeP (rD l) (thE l) k t N
  · simp
  · have := freeP_iff.1 hf j hj hkj ht
    rw [hb] at this; cases this
theorem candB_yes {l : List Ev} {N k : Nat} {t ak ao : Int} (h1 : thE l k ≠ t) (h2 : dependsB (l.getD k ev00).t (l.getD k ev00).k (l.getD k ev00).o t ak ao = true) (h3 : freeP (rD l) (thE l) k t N = true) :
    candB l N t ak ao k = canB (takes (takes log0 (l.take k)) (evsAt l (restP (rD l) k N))) t ak ao := by
  unfold candB; rw [h2, h3]; simp [h1]
theorem freeP_succ {r : Nat → Nat → Bool} {th : Nat → Int} {k j : Nat} {t : Int} (h : freeP r th k t j = true) (hj : th j = t → k < j → hbB r k j = false) : freeP r th k t (j + 1) = true := by
  rw [freeP_iff] at h ⊢
  intro i h1 h2 h3
  rcases Nat.lt_succ_iff_lt_or_eq.1 h1 with h4 | h4
  · exact h i h4 h2 h3
  · subst h4; exact hj h3 h2
theorem freeP_start {r : Nat → Nat → Bool} {th : Nat → Int} {k : Nat} {t : Int} : freeP r th k t (k + 1) = true := freeP_iff.2 fun j h1 h2 _ => by omega
end Go.Proofs.Ytjhlehepnhbbaaa

namespace Go.Proofs.Ytjhlehepnhbbaaa
open Go.ChangeShapes Go.WideShapes Go.ChangeAt Go.RowKit Go.Deep

def natsI (xs : List Nat) : List Int := xs.map fun (x : Nat) => (x : Int)
theorem natsI_app (xs ys : List Nat) : natsI (xs ++ ys) = natsI xs ++ natsI ys := by simp [natsI]
theorem natsI_len (xs : List Nat) : (natsI xs).length = xs.length := by simp [natsI]
theorem natsI_rev (xs : List Nat) : natsI xs.reverse = (natsI xs).reverse := by simp [natsI]
theorem natsI_get {xs : List Nat} {i q : Nat} (h : xs[i]? = some q) : (natsI xs)[i]? = some (q : Int) := by unfold natsI; rw [List.getElem?_map, h]; rfl

theorem OwnL.int_at {w : World} {B : Nat} {v : Value} {xs : List Int} (h : OwnL eltI w B v xs) : ∃ a c, v = .slice a xs.length c ∧ xs.length ≤ c ∧ ∀ (i : Nat) (q : Int), xs[i]? = some q → ∃ g, a = some ⟨g, 0, none⟩ ∧ v.ownBlock = some g ∧ w.cell? ⟨g, i, none⟩ = some (.int .i64 q) := by
  obtain ⟨a, c, rfl, h1, h2, h3, h4⟩ := h.slice
  refine ⟨a, c, rfl, h1, fun i q hi => ?_⟩
  cases a with
  | none => have := h3 rfl; subst this; simp at hi
  | some ad =>
    obtain ⟨g, o, s⟩ := ad
    obtain ⟨rfl, rfl, _, _, hc⟩ := h4 g o s rfl
    exact ⟨g, rfl, rfl, hc i _ (by rw [flat_ints, List.getElem?_map, hi]; rfl)⟩

/-- The first i and the last i exchanged. -/
def swpd (xs ys : List Int) (i : Nat) : Prop := ys.length = xs.length ∧ ∀ p, p < xs.length → ys.getD p 0 = if p < i ∨ xs.length - 1 - p < i then xs.getD (xs.length - 1 - p) 0 else xs.getD p 0
theorem swpd_start (xs : List Int) : swpd xs xs 0 := ⟨rfl, fun p _ => by rw [if_neg (by omega)]⟩
theorem getD_setI {l : List Int} {a p : Nat} {x : Int} (h : p < l.length) : (l.set a x).getD p 0 = if a = p then x else l.getD p 0 := by
  rw [List.getD_eq_getElem?_getD, List.getD_eq_getElem?_getD, List.getElem?_set]
  split
  · rename_i he; subst he; rw [if_pos h]; rfl
  · rfl
theorem swpd_step {xs ys : List Int} {i : Nat} (h : swpd xs ys i) (hi : i < xs.length - 1 - i) {a b : Int} (ha : ys[i]? = some a) (hb : ys[xs.length - 1 - i]? = some b) : swpd xs ((ys.set i b).set (xs.length - 1 - i) a) (i + 1) := by
  obtain ⟨h1, h2⟩ := h
  refine ⟨by simp [h1], fun p hp => ?_⟩
  have ha' : ys.getD i 0 = a := by rw [List.getD_eq_getElem?_getD, ha]; rfl
  have hb' : ys.getD (xs.length - 1 - i) 0 = b := by rw [List.getD_eq_getElem?_getD, hb]; rfl
  rw [getD_setI (by rw [List.length_set, h1]; exact hp), getD_setI (by rw [h1]; exact hp)]
  by_cases e1 : xs.length - 1 - i = p
  · rw [if_pos e1, if_pos (by omega), ← ha', h2 i (by omega), if_neg (by omega)]
    congr 1; omega
  · rw [if_neg e1]
    by_cases e2 : i = p
    · subst e2
      rw [if_pos rfl, if_pos (by omega), ← hb', h2 _ (by omega), if_neg (by omega)]
    · rw [if_neg e2, h2 p hp]
      by_cases e3 : p < i ∨ xs.length - 1 - p < i
      · rw [if_pos e3, if_pos (by omega)]
      · rw [if_neg e3, if_neg (by omega)]
theorem swpd_end {xs ys : List Int} {i : Nat} (h : swpd xs ys i) (hi : xs.length ≤ 2 * i + 1) : ys = xs.reverse := by
  obtain ⟨h1, h2⟩ := h
  refine List.ext_getElem (by rw [h1, List.length_reverse]) fun p hp hq => ?_
  have hp' : p < xs.length := by rw [← h1]; exact hp
  have h3 := h2 p hp'
  rw [List.getElem_reverse]
  rw [List.getD_eq_getElem?_getD, List.getElem?_eq_getElem hp, Option.getD_some] at h3
  rw [h3]
  split
  · rw [List.getD_eq_getElem?_getD, List.getElem?_eq_getElem (by omega), Option.getD_some]
  · have e : xs.length - 1 - p = p := by omega
    rw [List.getD_eq_getElem?_getD, List.getElem?_eq_getElem hp', Option.getD_some]
    simp only [e]

set_option maxRecDepth 20000 in
set_option maxHeartbeats 4000000 in
theorem reverse_calls {w : World} {B : Nat} {v : Value} {xs : List Int} (h : OwnL eltI w B v xs) (hn : xs.length ≤ 1000000) :
    Calls Try.prog 118 #[v] w fun e w' => e = .returned (.tuple #[]) ∧ OwnL eltI w' B v xs.reverse ∧ Wrote (fun q => v.ownBlock = some q) w w' := by
  obtain ⟨a, c, rfl, hc, hat⟩ := h.int_at
  clear hat
  have HO := Lib.hid h
  obtain ⟨n, hnx⟩ : ∃ n, n = xs.length := ⟨_, rfl⟩
  rw [← hnx] at hn hc HO ⊢
  have Hn := Lib.hid hnx
  clear hnx h
  go_enter Try.func118, Try.ntmps118
  go_wp2
  go_loopw [2, 3] (fun x y wr => ∃ (i : Nat) (z : Int) (ys : List Int), i ≤ n ∧ x = .int .i64 i ∧ y = .int .i64 z ∧ z = (n : Int) - 1 - i ∧ Hid (swpd xs ys i) ∧ Hid (OwnL eltI wr B (.slice a n c) ys ∧ Wrote (fun q => (Value.slice a n c).ownBlock = some q) w wr)) (fun x _ _ => n + 1 - (intOf x).toNat)
  case atStart => exact ⟨0, (n : Int) - 1, xs, by omega, rfl, by go_num, by omega, swpd_start xs, HO.out, Wrote.refl ..⟩
  case round =>
    obtain ⟨i, z, ys, hin, rfl, rfl, hz, Hs, HL⟩ := hrel
    have Hz := Lib.hid hz
    by_cases hlt : (i : Int) < z
    · obtain ⟨j, hj⟩ : ∃ j : Nat, z = (j : Int) := ⟨z.toNat, by omega⟩
      subst hj
      have hij : i < j := by omega
      have hjn : j < n := by omega
      have Hj : Hid (xs.length - 1 - i = j) := by show _ = _; have := Hn.out; omega
      clear hz
      obtain ⟨a1, c1, he, _, hat⟩ := HL.out.1.int_at
      have hyl : ys.length = n := by rw [Hs.out.1]; exact Hn.out.symm
      obtain ⟨p, hp⟩ : ∃ p, ys[i]? = some p := ⟨_, List.getElem?_eq_getElem (by omega)⟩
      obtain ⟨q, hq⟩ : ∃ q, ys[j]? = some q := ⟨_, List.getElem?_eq_getElem (by omega)⟩
      obtain ⟨g, ha1, hg1, ci⟩ := hat i p hp
      obtain ⟨g', ha2, hg2, cj⟩ := hat j q hq
      cases he
      subst ha1
      cases ha2
      have hrow := HL.out.1.own
      have fi : wr.frozen? ⟨g, i, none⟩ = false := own_free hrow i
      have fj : wr.frozen? ⟨g, j, none⟩ = false := own_free hrow j
      have Hpq := Lib.hid (And.intro hp hq)
      clear hp hq hat hg1 hg2 hrow
      go_wp2_with fail
      go_region
      have hW : Wrote (fun y => y = g) wr ((wr.setCell ⟨g, i, none⟩ (.int .i64 q)).setCell ⟨g, j, none⟩ (.int .i64 p)).drew :=
        ((Wrote.setCell (R := fun y => y = g) wr (p := ⟨g, i, none⟩) (.int .i64 q) rfl).trans (Wrote.setCell (R := fun y => y = g) _ (p := ⟨g, j, none⟩) (.int .i64 p) rfl) (fun _ h => .inl h)).trans (Wrote.drew (R := fun y => y = g) _) (fun _ h => .inl h)
      have hO : OwnL eltI ((wr.setCell ⟨g, i, none⟩ (.int .i64 q)).setCell ⟨g, j, none⟩ (.int .i64 p)).drew B (.slice (some ⟨g, 0, none⟩) ys.length c) ((ys.set i q).set j p) := by
        refine ⟨?_⟩
        have h1 := own_drew (own_set1 (own_set1 HL.out.1.own i (.int .i64 q)) j (.int .i64 p))
        rw [flat_ints] at h1 ⊢
        rw [List.map_set, List.map_set, List.length_set, List.length_set]
        exact h1
      revert hW hO
      generalize ((wr.setCell ⟨g, i, none⟩ (.int .i64 q)).setCell ⟨g, j, none⟩ (.int .i64 p)).drew = wz
      intro hW hO
      have HN := Lib.hid (And.intro hO (HL.out.2.trans hW (fun _ h => .inl (by show some g = some _; rw [h]))))
      have HS := Hs.out
      have Hs2 : Hid (swpd xs ((ys.set i q).set j p) (i + 1)) := by
        have := swpd_step HS (by have := Hj.out; omega) Hpq.out.1 (by rw [Hj.out]; exact Hpq.out.2)
        rw [Hj.out] at this; exact this
      clear hW hO ci cj fi fj HL HS Hs
      go_wp2
      go_roundw
      case rel => exact ⟨i + 1, (j : Int) - 1, (ys.set i q).set j p, by omega, by go_num, by go_num, by have := Hz.out; omega, Hs2.out, HN.out⟩
      case measure => simp [intOf]; omega
    · have He : Hid (ys = xs.reverse) := swpd_end Hs.out (by have := Hn.out; omega)
      clear hz
      go_wp2
      go_end0
      exact ⟨rfl, by rw [← He.out]; exact HL.out.1, HL.out.2⟩
end Go.Proofs.Ytjhlehepnhbbaaa

namespace Go.Proofs.Ytjhlehepnhbbaaa
open Go Go.RowKit

def okL (S : LogS) : List Ev → Prop
  | [] => True
  | e :: r => Go.Proofs.Ytjhlehepnhbbaaa.addE S e = 0 ∧ okL (Go.Proofs.Ytjhlehepnhbbaaa.addS S e) r
theorem okL_app {S : LogS} : ∀ {l r : List Ev}, okL S (l ++ r) ↔ okL S l ∧ okL (takes S l) r
  | [], r => by simp [okL, takes]
  | e :: l, r => by
    have := @okL_app (Go.Proofs.Ytjhlehepnhbbaaa.addS S e) l r
    simp only [List.cons_append, okL, this, and_assoc]
    rfl
theorem okL_goOf : ∀ {l : List Ev} {S T : LogS} {j p : Nat}, goOf S l j = (T, 0, p) → okL S l
  | [], _, _, _, _, _ => trivial
  | e :: r, S, T, j, p, h => ⟨(goOf_cons h).1, okL_goOf (goOf_cons h).2⟩
theorem okL_of {S0 : LogS} {l : List Ev} (h : ofS l = (S0, 0, 0)) : okL log0 l := okL_goOf h
theorem goOf_okL : ∀ {l : List Ev} {S : LogS} {j : Nat}, okL S l → goOf S l j = (takes S l, 0, 0)
  | [], S, j, _ => by simp [goOf, takes]
  | e :: r, S, j, h => by
    rw [goOf_put h.1, goOf_okL h.2]
    rfl
theorem ofS_okL {l : List Ev} (h : okL log0 l) : ofS l = (takes log0 l, 0, 0) := goOf_okL h
theorem Like.trans {S T U : LogS} (h : Like S T) (k : Like T U) : Like S U := ⟨h.1.trans k.1, h.2.trans k.2⟩
theorem Like.symm {S T : LogS} (h : Like S T) : Like T S := ⟨h.1.symm, h.2.symm⟩
theorem Like.canB {S T : LogS} (h : Like S T) (t k o : Int) : Go.Proofs.Ytjhlehepnhbbaaa.canB S t k o = Go.Proofs.Ytjhlehepnhbbaaa.canB T t k o := by
  unfold Go.Proofs.Ytjhlehepnhbbaaa.canB waitB; rw [h.1, h.2]
theorem Like.okL : ∀ {l : List Ev} {S T : LogS}, Like S T → Go.Proofs.Ytjhlehepnhbbaaa.okL S l → Go.Proofs.Ytjhlehepnhbbaaa.okL T l
  | [], _, _, _, _ => trivial
  | e :: r, S, T, hl, h => ⟨by rw [← hl.addE e]; exact h.1, (hl.addS e).okL h.2⟩
theorem Like.takes : ∀ {l : List Ev} {S T : LogS}, Like S T → Like (Go.Proofs.Ytjhlehepnhbbaaa.takes S l) (Go.Proofs.Ytjhlehepnhbbaaa.takes T l)
  | [], _, _, hl => hl
  | e :: r, S, T, hl => (hl.addS e).takes
theorem move_front : ∀ {L : List Ev} {S : LogS} {e : Ev}, okL S (L ++ [e]) → (∀ x ∈ L, depE x e = false) → okL S (e :: L) ∧ Like (takes S (L ++ [e])) (takes S (e :: L))
  | [], S, e, h, _ => ⟨h, Like.refl _⟩
  | x :: L, S, e, h, hd => by
    obtain ⟨h1, h2⟩ := h
    obtain ⟨⟨k1, k2⟩, k3⟩ := move_front (L := L) h2 fun y hy => hd y (by simp [hy])
    have hi := Indep.of (hd x (by simp))
    obtain ⟨m1, m2, m3⟩ := exch_two hi h1 k1
    exact ⟨⟨m1, m2, m3.okL k2⟩, k3.trans m3.takes⟩

/-- The events at the places below N that are marked. -/
def keepL (f : Nat → Ev) (p : Nat → Bool) (N : Nat) : List Ev := ((List.range N).filter p).map f
theorem keepL_succ (f : Nat → Ev) (p : Nat → Bool) (N : Nat) : keepL f p (N + 1) = keepL f p N ++ (if p N then [f N] else []) := by
  unfold keepL
  rw [List.range_succ, List.filter_append, List.map_append]
  congr 1
  cases h : p N <;> simp [h]
theorem keepL_mem {f : Nat → Ev} {p : Nat → Bool} {N : Nat} {e : Ev} (h : e ∈ keepL f p N) : ∃ j, j < N ∧ p j = true ∧ e = f j := by
  unfold keepL at h
  obtain ⟨j, hj, rfl⟩ := List.mem_map.1 h
  obtain ⟨h1, h2⟩ := List.mem_filter.1 hj
  exact ⟨j, List.mem_range.1 h1, h2, rfl⟩
theorem keepL_congr {f g : Nat → Ev} {p q : Nat → Bool} {N : Nat} (hf : ∀ j, j < N → f j = g j) (hp : ∀ j, j < N → p j = q j) : keepL f p N = keepL g q N := by
  induction N with
  | zero => rfl
  | succ N ih => rw [keepL_succ, keepL_succ, ih (fun j hj => hf j (by omega)) (fun j hj => hp j (by omega)), hf N (by omega), hp N (by omega)]
theorem take_keep (l : List Ev) : ∀ {N : Nat}, N ≤ l.length → l.take N = keepL (fun j => l.getD j ev00) (fun _ => true) N
  | 0, _ => rfl
  | N + 1, h => by
    rw [keepL_succ, if_pos rfl, ← take_keep l (by omega), List.take_add_one]
    congr 1
    have : l[N]? = some l[N] := List.getElem?_eq_getElem (by omega)
    rw [this, getD_of this]
    rfl
/-- What is closed downwards can be taken first. -/
theorem sift {f : Nat → Ev} {p : Nat → Bool} {S : LogS} : ∀ {N : Nat}, okL S (keepL f (fun _ => true) N) → (∀ i j, i < j → j < N → p j = true → p i = false → depE (f i) (f j) = false) →
    okL S (keepL f p N ++ keepL f (fun j => !p j) N) ∧ Like (takes S (keepL f (fun _ => true) N)) (takes S (keepL f p N ++ keepL f (fun j => !p j) N))
  | 0, _, _ => ⟨trivial, Like.refl _⟩
  | N + 1, h, hp => by
    have e1 : keepL f (fun _ => true) (N + 1) = keepL f (fun _ => true) N ++ [f N] := by rw [keepL_succ]; rfl
    rw [e1] at h ⊢
    obtain ⟨h1, h2⟩ := okL_app.1 h
    obtain ⟨k1, k2⟩ := sift (N := N) h1 fun i j hi hj => hp i j hi (by omega)
    have h3 : okL (takes S (keepL f p N ++ keepL f (fun j => !p j) N)) [f N] := k2.okL h2
    rw [takes_apps]
    rw [keepL_succ, keepL_succ]
    cases hq : p N
    · rw [if_neg (by simp), List.append_nil, if_pos (by simp [hq]), ← List.append_assoc]
      refine ⟨okL_app.2 ⟨k1, h3⟩, ?_⟩
      rw [takes_apps S (_ ++ _)]
      exact k2.takes
    · rw [if_pos rfl, if_neg (by simp [hq]), List.append_nil]
      obtain ⟨a1, a2⟩ := okL_app.1 k1
      have h4 : okL (takes S (keepL f p N)) (keepL f (fun j => !p j) N ++ [f N]) := okL_app.2 ⟨a2, by rw [← takes_apps]; exact h3⟩
      obtain ⟨b1, b2⟩ := move_front h4 fun x hx => by
        obtain ⟨j, hj, hn, rfl⟩ := keepL_mem hx
        exact hp j N hj (by omega) hq (by simpa using hn)
      rw [List.append_assoc]
      refine ⟨okL_app.2 ⟨a1, b1⟩, ?_⟩
      refine k2.takes.trans ?_
      rw [← takes_apps, List.append_assoc, takes_apps, takes_apps S (keepL f p N)]
      exact b2

/-- What is taken ahead of a target that comes ahead of k: all but k and what happens behind it. -/
noncomputable def offP (r : Nat → Nat → Bool) (k j : Nat) : Bool := !(j == k) && !hbB r k j
theorem off_early {r : Nat → Nat → Bool} {k j : Nat} (h : j < k) : offP r k j = true := by
  unfold offP
  rw [hbB_false (by omega)]
  simp; omega
theorem off_late {r : Nat → Nat → Bool} {k j : Nat} (h : k < j) : offP r k j = !hbB r k j := by
  unfold offP
  have : (j == k) = false := by simp; omega
  rw [this]; rfl
theorem off_self (r : Nat → Nat → Bool) (k : Nat) : offP r k k = false := by unfold offP; simp
theorem rest_keep (l : List Ev) {r : Nat → Nat → Bool} {k : Nat} : ∀ {N : Nat}, k < N → k ≤ l.length → l.take k ++ evsAt l (restP r k N) = keepL (fun j => l.getD j ev00) (offP r k) N
  | 0, h, _ => by omega
  | N + 1, h, hl => by
    rw [keepL_succ]
    by_cases hk : k < N
    · rw [restP_succ hk, evsAt_app, ← List.append_assoc, rest_keep l hk hl, off_late hk]
      congr 1
      cases hb : hbB r k N <;> simp [evsAt]
    · have : k = N := by omega
      subst this
      rw [restP_start, off_self]
      show l.take k ++ [] = _ ++ []
      rw [List.append_nil, List.append_nil, take_keep l hl]
      exact keepL_congr (fun _ _ => rfl) (fun j hj => (off_early hj).symm)
theorem off_closed {l : List Ev} {k i j : Nat} (hij : i < j) (hj : offP (rD l) k j = true) (hi : offP (rD l) k i = false) : depE (l.getD i ev00) (l.getD j ev00) = false := by
  cases hd : depE (l.getD i ev00) (l.getD j ev00)
  · rfl
  · have hD : rD l i j = true := hd
    unfold offP at hi hj
    rw [Bool.and_eq_true] at hj
    have h2 : hbB (rD l) k j = false := by simpa using hj.2
    have h3 : HB (rD l) k j := by
      by_cases hki : i = k
      · subst hki; exact HB.iff.2 ⟨i, hij, hD, .inl rfl⟩
      · have : hbB (rD l) k i = true := by
          have h4 : (i == k) = false := by simpa using hki
          rw [h4] at hi; simpa using hi
        exact HB.iff.2 ⟨i, hij, hD, .inr (hbB_iff.1 this)⟩
    rw [hbB_iff.2 h3] at h2; cases h2
theorem okL_take {S : LogS} {l : List Ev} (h : okL S l) (N : Nat) : okL S (l.take N) := by
  have : l.take N ++ l.drop N = l := List.take_append_drop N l
  rw [← this] at h
  exact (okL_app.1 h).1
theorem off_ok {l : List Ev} (h : okL log0 l) {k N : Nat} (hN : N ≤ l.length) : okL log0 (keepL (fun j => l.getD j ev00) (offP (rD l) k) N) := by
  have h1 := okL_take h N
  rw [take_keep l hN] at h1
  exact (okL_app.1 (sift h1 fun i j hi _ h1 h2 => off_closed hi h1 h2).1).1
theorem rest_ok {l : List Ev} (h : okL log0 l) {k N : Nat} (hk : k < N) (hN : N ≤ l.length) : okL log0 (l.take k ++ evsAt l (restP (rD l) k N)) := by
  rw [rest_keep l hk (by omega)]
  exact off_ok h hN
theorem cand_keep {l : List Ev} {N k : Nat} {t ak ao : Int} (hk : k < N) (hN : k ≤ l.length) : candB l N t ak ao k = ((thE l k != t && dependsB (l.getD k ev00).t (l.getD k ev00).k (l.getD k ev00).o t ak ao) && (freeP (rD l) (thE l) k t N && canB (takes log0 (keepL (fun j => l.getD j ev00) (offP (rD l) k) N)) t ak ao)) := by
  unfold candB
  rw [← takes_apps, rest_keep l hk hN]

/-! Under an exchange. -/
theorem range_parts {i N : Nat} (h : i + 1 < N) : List.range N = List.range i ++ (i :: (i + 1) :: (List.range (N - i - 2)).map (fun x => i + 2 + x)) := by
  have h1 : N = i + 2 + (N - i - 2) := by omega
  have h2 : List.range (i + 2 + (N - i - 2)) = List.range (i + 2) ++ (List.range (N - i - 2)).map (fun x => i + 2 + x) := List.range_add ..
  have h3 : List.range (i + 2) = List.range i ++ [i, i + 1] := by rw [List.range_succ, List.range_succ, List.append_assoc]; rfl
  rw [show List.range N = List.range (i + 2 + (N - i - 2)) by rw [← h1], h2, h3, List.append_assoc]
  rfl
theorem keepL_parts (f : Nat → Ev) (p : Nat → Bool) {i N : Nat} (h : i + 1 < N) :
    keepL f p N = keepL f p i ++ ((if p i then [f i] else []) ++ ((if p (i + 1) then [f (i + 1)] else []) ++ keepL (fun x => f (i + 2 + x)) (fun x => p (i + 2 + x)) (N - i - 2))) := by
  unfold keepL
  rw [range_parts h, List.filter_append, List.map_append, List.filter_cons, List.filter_cons, List.filter_map, ]
  congr 1
  cases p i <;> cases p (i + 1) <;> simp [Function.comp_def]
theorem keep_swap {f g : Nat → Ev} {p q : Nat → Bool} {i N : Nat} {S : LogS} (h : i + 1 < N) (hg : ∀ u, g (sw i u) = f u) (hq : ∀ u, q (sw i u) = p u) (hd : depE (f i) (f (i + 1)) = false) (hok : okL S (keepL f p N)) :
    Like (takes S (keepL f p N)) (takes S (keepL g q N)) := by
  have e1 : ∀ x, x < i → g x = f x ∧ q x = p x := fun x hx => by
    have : sw i x = x := by unfold sw; rw [if_neg (by omega), if_neg (by omega)]
    have a := hg x; have b := hq x; rw [this] at a b; exact ⟨a, b⟩
  have e2 : ∀ x, g (i + 2 + x) = f (i + 2 + x) ∧ q (i + 2 + x) = p (i + 2 + x) := fun x => by
    have : sw i (i + 2 + x) = i + 2 + x := by unfold sw; rw [if_neg (by omega), if_neg (by omega)]
    have a := hg (i + 2 + x); have b := hq (i + 2 + x); rw [this] at a b; exact ⟨a, b⟩
  have e3 : g (i + 1) = f i ∧ q (i + 1) = p i := by
    have : sw i i = i + 1 := by unfold sw; rw [if_pos rfl]
    have a := hg i; have b := hq i; rw [this] at a b; exact ⟨a, b⟩
  have e4 : g i = f (i + 1) ∧ q i = p (i + 1) := by
    have : sw i (i + 1) = i := by unfold sw; rw [if_neg (by omega), if_pos rfl]
    have a := hg (i + 1); have b := hq (i + 1); rw [this] at a b; exact ⟨a, b⟩
  rw [keepL_parts f p h] at hok
  rw [keepL_parts f p h, keepL_parts g q h, e3.1, e3.2, e4.1, e4.2, keepL_congr (f := g) (g := f) (p := q) (q := p) (fun j hj => (e1 j hj).1) (fun j hj => (e1 j hj).2),
    keepL_congr (f := fun x => g (i + 2 + x)) (g := fun x => f (i + 2 + x)) (p := fun x => q (i + 2 + x)) (q := fun x => p (i + 2 + x)) (fun j _ => (e2 j).1) (fun j _ => (e2 j).2)]
  cases h1 : p i <;> cases h2 : p (i + 1)
  · exact Like.refl _
  · exact Like.refl _
  · exact Like.refl _
  · rw [h1, h2] at hok
    simp only [if_pos] at hok ⊢
    obtain ⟨_, k2⟩ := okL_app.1 hok
    rw [takes_apps, takes_apps S (keepL f p i)]
    obtain ⟨m1, m2, _⟩ := k2
    obtain ⟨_, _, m3⟩ := exch_two (Indep.of hd) m1 m2
    exact m3.takes
end Go.Proofs.Ytjhlehepnhbbaaa

namespace Go.Proofs.Ytjhlehepnhbbaaa
open Go Go.RowKit

theorem freeP_all {r : Nat → Nat → Bool} {th : Nat → Int} {k N : Nat} {t : Int} : freeP r th k t N = true ↔ ∀ j, j < N → th j = t → hbB r k j = false := by
  rw [freeP_iff]
  constructor
  · intro h j h1 h2
    by_cases h3 : k < j
    · exact h j h1 h3 h2
    · exact hbB_false (by omega)
  · intro h j h1 _ h2
    exact h j h1 h2
theorem maxP_all {r : Nat → Nat → Bool} {c : Nat → Bool} {N k : Nat} : maxP r c N k = true ↔ c k = true ∧ ∀ j, j < N → c j = true → hbB r k j = false := by
  rw [maxP_iff]
  constructor
  · rintro ⟨h1, h⟩
    refine ⟨h1, fun j h2 h3 => ?_⟩
    by_cases h4 : k < j
    · exact h j h2 h4 h3
    · exact hbB_false (by omega)
  · rintro ⟨h1, h⟩
    exact ⟨h1, fun j h2 _ h3 => h j h2 h3⟩
noncomputable def raceP (l : List Ev) (m k : Nat) : Bool := decide (k < m) && maxP (rD l) (candB l m (l.getD m ev00).t (l.getD m ev00).k (l.getD m ev00).o) m k
theorem raceP_iff {l : List Ev} {m k : Nat} : raceP l m k = true ↔ k < m ∧ candB l m (l.getD m ev00).t (l.getD m ev00).k (l.getD m ev00).o k = true ∧ ∀ j, j < m → candB l m (l.getD m ev00).t (l.getD m ev00).k (l.getD m ev00).o j = true → hbB (rD l) k j = false := by
  unfold raceP
  rw [Bool.and_eq_true, maxP_all, decide_eq_true_iff]

structure Swp (l l' : List Ev) (i : Nat) : Prop where
  get : ∀ u, l'.getD (sw i u) ev00 = l.getD u ev00
  hb : ∀ a b, hbB (rD l') (sw i a) (sw i b) = hbB (rD l) a b
  dep : depE (l.getD i ev00) (l.getD (i + 1) ev00) = false
  dep2 : depE (l.getD (i + 1) ev00) (l.getD i ev00) = false
  len : l'.length = l.length
  lt : i + 1 < l.length
  ok : okL log0 l
  ok2 : okL log0 l'
theorem sw_i (i : Nat) : sw i i = i + 1 := by unfold sw; rw [if_pos rfl]
theorem sw_i1 (i : Nat) : sw i (i + 1) = i := by unfold sw; rw [if_neg (by omega), if_pos rfl]
theorem sw_lo {i k : Nat} (h : k < i) : sw i k = k := by unfold sw; rw [if_neg (by omega), if_neg (by omega)]
theorem sw_hi {i k : Nat} (h : i + 1 < k) : sw i k = k := by unfold sw; rw [if_neg (by omega), if_neg (by omega)]
theorem sw_out {i k : Nat} (h1 : k ≠ i) (h2 : k ≠ i + 1) : sw i k = k := by unfold sw; rw [if_neg h1, if_neg h2]
theorem sw_inj {i a b : Nat} : sw i a = sw i b ↔ a = b := ⟨fun h => by rw [← sw_sw i a, h, sw_sw], fun h => by rw [h]⟩
theorem sw_below {i N k : Nat} (h1 : N ≠ i + 1) (hk : k < N) : sw i k < N := by unfold sw; split <;> (try split) <;> omega
theorem Swp.at_i {l l' : List Ev} {i : Nat} (h : Swp l l' i) : l'.getD i ev00 = l.getD (i + 1) ev00 := by have := h.get (i + 1); rw [sw_i1] at this; exact this
theorem Swp.at_i1 {l l' : List Ev} {i : Nat} (h : Swp l l' i) : l'.getD (i + 1) ev00 = l.getD i ev00 := by have := h.get i; rw [sw_i] at this; exact this
theorem Swp.at_lo {l l' : List Ev} {i k : Nat} (h : Swp l l' i) (hk : k < i) : l'.getD k ev00 = l.getD k ev00 := by have := h.get k; rw [sw_lo hk] at this; exact this
theorem Swp.symm {l l' : List Ev} {i : Nat} (h : Swp l l' i) : Swp l' l i where
  get u := by rw [← h.get (sw i u), sw_sw]
  hb a b := by rw [← h.hb, sw_sw, sw_sw]
  dep := by rw [h.at_i, h.at_i1]; exact h.dep2
  dep2 := by rw [h.at_i, h.at_i1]; exact h.dep
  len := h.len.symm
  lt := by rw [h.len]; exact h.lt
  ok := h.ok2
  ok2 := h.ok
theorem Swp.of {l : List Ev} {S : LogS} {i : Nat} {x y : Ev} (hR : ofS l = (S, 0, 0)) (hx : l[i]? = some x) (hy : l[i + 1]? = some y) (hd : dependsB x.t x.k x.o y.t y.k y.o = false) : Swp l (swapAt l i x y) i where
  get := swap_get hx hy
  hb := hbB_swap (swap_rD hx hy) (by unfold rD depE; rw [getD_of hx, getD_of hy]; exact hd) (by unfold rD depE; rw [getD_of hx, getD_of hy]; exact dep_symm hd)
  dep := by unfold depE; rw [getD_of hx, getD_of hy]; exact hd
  dep2 := by unfold depE; rw [getD_of hx, getD_of hy]; exact dep_symm hd
  len := swap_len l i x y
  lt := by have := (List.getElem?_eq_some_iff.1 hy).1; exact this
  ok := okL_of hR
  ok2 := by obtain ⟨T, hT, _⟩ := exch_of hR hx hy hd; exact okL_of hT

section
variable {l l' : List Ev} {i : Nat} (h : Swp l l' i)
include h
theorem Swp.th (u : Nat) : thE l' (sw i u) = thE l u := by unfold thE; rw [h.get]
theorem Swp.off (k u : Nat) : offP (rD l') (sw i k) (sw i u) = offP (rD l) k u := by
  unfold offP
  rw [h.hb]
  have : (sw i u == sw i k) = (u == k) := by rw [Bool.eq_iff_iff, beq_iff_eq, beq_iff_eq]; exact sw_inj
  rw [this]
theorem Swp.free {N k : Nat} {t : Int} (h1 : N ≠ i + 1) : freeP (rD l') (thE l') (sw i k) t N = freeP (rD l) (thE l) k t N := by
  rw [Bool.eq_iff_iff, freeP_all, freeP_all]
  constructor
  · intro H j hj ht
    have := H (sw i j) (sw_below h1 hj) (by rw [h.th]; exact ht)
    rw [h.hb] at this; exact this
  · intro H j hj ht
    have := H (sw i j) (sw_below h1 hj) (by rw [← h.th, sw_sw]; exact ht)
    rw [← h.hb, sw_sw] at this; exact this
theorem Swp.like {N k : Nat} (h1 : N ≠ i + 1) (hN : N ≤ l.length) :
    Like (takes log0 (keepL (fun j => l.getD j ev00) (offP (rD l) k) N)) (takes log0 (keepL (fun j => l'.getD j ev00) (offP (rD l') (sw i k)) N)) := by
  by_cases hi : N ≤ i
  · rw [keepL_congr (f := fun j => l'.getD j ev00) (g := fun j => l.getD j ev00) (p := offP (rD l') (sw i k)) (q := offP (rD l) k) (fun j hj => h.at_lo (by omega)) (fun j hj => by
      have := h.off k j
      rw [sw_lo (show j < i by omega)] at this; exact this)]
    exact Like.refl _
  · exact keep_swap (by omega) h.get (h.off k) h.dep (off_ok h.ok hN)
theorem Swp.cand_out {N k : Nat} (h0 : N ≠ i) (h1 : N ≠ i + 1) (hk : k < N) (hN : N ≤ l.length) (t ak ao : Int) : candB l' N t ak ao (sw i k) = candB l N t ak ao k := by
  have hk' := sw_below h1 hk
  rw [cand_keep hk' (by rw [h.len]; omega), cand_keep hk (by omega), h.th, h.get, h.free h1, (h.like (k := k) h1 hN).canB]
theorem Swp.cand_none {t ak ao : Int} (ht : (t, ak, ao) = ((l.getD i ev00).t, (l.getD i ev00).k, (l.getD i ev00).o)) : candB l' (i + 1) t ak ao i = false := by
  simp only [Prod.mk.injEq] at ht
  obtain ⟨rfl, rfl, rfl⟩ := ht
  refine candB_indep ?_
  rw [h.at_i]
  exact h.dep2
theorem Swp.cand_in {t ak ao : Int} (ht : (t, ak, ao) = ((l.getD i ev00).t, (l.getD i ev00).k, (l.getD i ev00).o)) {k : Nat} (hk : k < i) : candB l' (i + 1) t ak ao k = candB l i t ak ao k := by
  simp only [Prod.mk.injEq] at ht
  have hlt := h.lt
  have hth : thE l' i ≠ t := fun he => by
    have : thE l (i + 1) = thE l i := by
      have h2 : thE l' i = thE l (i + 1) := by unfold thE; rw [h.at_i]
      rw [← h2, he, ht.1]; rfl
    have h3 := rD_same this
    have h4 : rD l (i + 1) i = false := h.dep2
    rw [h4] at h3; cases h3
  have hf : freeP (rD l') (thE l') k t (i + 1) = freeP (rD l) (thE l) k t i := by
    rw [Bool.eq_iff_iff, freeP_all, freeP_all]
    have e1 : ∀ j, j < i → thE l' j = thE l j ∧ hbB (rD l') k j = hbB (rD l) k j := fun j hj => by
      have a := h.th j; have b := h.hb k j
      rw [sw_lo hj] at a b
      rw [sw_lo hk] at b
      exact ⟨a, b⟩
    constructor
    · intro H j hj h2
      have := H j (by omega) (by rw [(e1 j hj).1]; exact h2)
      rw [(e1 j hj).2] at this; exact this
    · intro H j hj h2
      rcases Nat.lt_succ_iff_lt_or_eq.1 hj with h3 | h3
      · rw [(e1 j h3).2]; exact H j h3 (by rw [← (e1 j h3).1]; exact h2)
      · subst h3; exact absurd h2 hth
  have hkeep : keepL (fun j => l'.getD j ev00) (offP (rD l') k) i = keepL (fun j => l.getD j ev00) (offP (rD l) k) i :=
    keepL_congr (fun j hj => h.at_lo hj) fun j hj => by
      have := h.off k j
      rw [sw_lo hj, sw_lo hk] at this; exact this
  rw [cand_keep (show k < i + 1 by omega) (by rw [h.len]; omega), cand_keep hk (by omega), hf, h.at_lo hk]
  have ht2 : thE l' k = thE l k := by unfold thE; rw [h.at_lo hk]
  rw [ht2, keepL_succ, hkeep]
  cases hq : offP (rD l') k i
  · rw [if_neg (by simp), List.append_nil]
  · rw [if_pos rfl, takes_app]
    have ho := off_ok h.ok2 (k := k) (N := i + 1) (by rw [h.len]; omega)
    rw [keepL_succ, hkeep, hq, if_pos rfl] at ho
    have ha := (okL_app.1 ho).2.1
    rw [leaves_plain (w := ⟨t, ak, ao, 0, 0⟩) ha (by
      show dependsB (l'.getD i ev00).t (l'.getD i ev00).k (l'.getD i ev00).o t ak ao = false
      rw [h.at_i, ht.1, ht.2.1, ht.2.2]
      exact h.dep2)]
theorem Swp.race_out {m k : Nat} (h0 : m ≠ i) (h1 : m ≠ i + 1) (hm : m < l.length) : raceP l' m (sw i k) = raceP l m k := by
  have he : l'.getD m ev00 = l.getD m ev00 := by have := h.get m; rw [sw_out h0 h1] at this; exact this
  rw [Bool.eq_iff_iff, raceP_iff, raceP_iff, he]
  have hb : ∀ u, sw i u < m ↔ u < m := fun u => ⟨fun hu => by have := sw_below h1 hu; rw [sw_sw] at this; exact this, sw_below h1⟩
  constructor
  · rintro ⟨a, b, c⟩
    have a' := (hb k).1 a
    rw [h.cand_out h0 h1 a' (by omega)] at b
    refine ⟨a', b, fun j hj hc => ?_⟩
    rw [← h.hb]
    exact c _ ((hb j).2 hj) (by rw [h.cand_out h0 h1 hj (by omega)]; exact hc)
  · rintro ⟨a, b, c⟩
    refine ⟨(hb k).2 a, by rw [h.cand_out h0 h1 a (by omega)]; exact b, fun j hj hc => ?_⟩
    have hj' := (hb (sw i j)).1 (by rw [sw_sw]; exact hj)
    have hc' : candB l m (l.getD m ev00).t (l.getD m ev00).k (l.getD m ev00).o (sw i j) = true := by
      rw [← h.cand_out h0 h1 hj' (by omega), sw_sw]; exact hc
    have := c _ hj' hc'
    rw [← h.hb, sw_sw] at this; exact this
theorem Swp.race_in {k : Nat} : raceP l' (i + 1) (sw i k) = raceP l i k := by
  have he := h.at_i1
  have hno : raceP l' (i + 1) i = false := by
    cases hr : raceP l' (i + 1) i
    · rfl
    · have := (raceP_iff.1 hr).2.1
      rw [he, h.cand_none rfl] at this; cases this
  by_cases hk : k < i
  · rw [sw_lo hk, Bool.eq_iff_iff, raceP_iff, raceP_iff, he]
    have hb : ∀ j, j < i → hbB (rD l') k j = hbB (rD l) k j := fun j hj => by have b := h.hb k j; rw [sw_lo hj, sw_lo hk] at b; exact b
    rw [h.cand_in rfl hk]
    constructor
    · rintro ⟨_, b, c⟩
      refine ⟨hk, b, fun j hj hc => ?_⟩
      rw [← hb j hj]
      exact c j (by omega) (by rw [h.cand_in rfl hj]; exact hc)
    · rintro ⟨_, b, c⟩
      refine ⟨by omega, b, fun j hj hc => ?_⟩
      rcases Nat.lt_succ_iff_lt_or_eq.1 hj with h3 | h3
      · rw [hb j h3]; exact c j h3 (by rw [← h.cand_in rfl h3]; exact hc)
      · subst h3; rw [h.cand_none rfl] at hc; cases hc
  · have hR : raceP l i k = false := by unfold raceP; rw [decide_eq_false (by omega)]; rfl
    rw [hR]
    by_cases hk1 : k = i + 1
    · subst hk1; rw [sw_i1]; exact hno
    · have : i + 1 ≤ sw i k := by unfold sw; split <;> (try split) <;> omega
      unfold raceP; rw [decide_eq_false (by omega)]; rfl
end
theorem Swp.race {l l' : List Ev} {i : Nat} (h : Swp l l' i) {m k : Nat} (hm : m < l.length) : raceP l' (sw i m) (sw i k) = raceP l m k := by
  by_cases h0 : m = i
  · subst h0; rw [sw_i]; exact h.race_in
  · by_cases h1 : m = i + 1
    · subst h1
      rw [sw_i1, ← h.symm.race_in (k := sw i k), sw_sw]
    · rw [sw_out h0 h1]; exact h.race_out h0 h1 hm
end Go.Proofs.Ytjhlehepnhbbaaa

namespace Go.Proofs.Ytjhlehepnhbbaaa
open Go.ChangeShapes Go.WideShapes Go.ChangeAt Go.RowKit Go.Deep

theorem restP_end {r : Nat → Nat → Bool} {k N j : Nat} (h : N ≤ j) (hj : j = k + 1 ∨ j ≤ N) : restP r k j = restP r k N := by
  rcases hj with rfl | hj
  · rw [restP_start, restP_early h]
  · have : j = N := by omega
    rw [this]

/-- What a target stands on. -/
structure TgAt (w : World) (B b : Nat) (v : Value) (l : List Ev) (n : Nat) (a0 : Option Addr) (c : Nat) : Prop where
  evs : IsEvs w a0 n c l
  ord : OrdAt w B b v l n
  good : GoodL n l
  wrong : wrongS n l = 0
theorem TgAt.below {w w' : World} {B b : Nat} {v : Value} {l : List Ev} {n : Nat} {a0 : Option Addr} {c : Nat} (h : TgAt w B b v l n a0 c) (hb : Below w.heap.size w w') : TgAt w' B b v l n a0 c :=
  ⟨h.evs.below hb, h.ord.below hb, h.good, h.wrong⟩

theorem wrong_ofS {n : Nat} {l : List Ev} (h : wrongS n l = 0) : ∃ S, ofS l = (S, 0, 0) := by
  unfold wrongS at h
  split at h
  · cases h
  · rcases ofS_cases l with ⟨S, hR, _, _⟩ | ⟨S, z, p, hR, hz⟩
    · exact ⟨S, hR⟩
    · rw [hR] at h; exact absurd h hz
theorem takes_restP_no {l : List Ev} {r : Nat → Nat → Bool} {k j : Nat} {S : LogS} (hkj : k < j) (hb : hbB r k j = true) : takes S (evsAt l (restP r k (j + 1))) = takes S (evsAt l (restP r k j)) := by
  rw [restP_succ hkj, hb, if_pos rfl, List.append_nil]
theorem takes_restP_yes {l : List Ev} {r : Nat → Nat → Bool} {k j : Nat} {S : LogS} {y : Ev} (hkj : k < j) (hb : hbB r k j = false) (hy : l[j]? = some y) : takes S (evsAt l (restP r k (j + 1))) = addS (takes S (evsAt l (restP r k j))) y := by
  have h1 : restP r k (j + 1) = restP r k j ++ [j] := by rw [restP_succ hkj, hb]; rfl
  rw [h1, evsAt_app, show evsAt l [j] = [l.getD j ev00] from rfl, takes_app, getD_of hy]
theorem logR_base {w : World} {B b : Nat} {vl va : Value} {S : LogS} (h : LogAt w B b vl va S) : ∀ x, logR b vl va x → B ≤ x := h.base

set_option maxRecDepth 20000 in
set_option maxHeartbeats 16000000 in
theorem tcand_calls {w : World} {B b : Nat} {v : Value} {l : List Ev} {n : Nat} {a0 : Option Addr} {c : Nat} (h : TgAt w B b v l n a0 c) {N k : Nat} (hN : N ≤ n) (hk : k < N) (t ak ao : Int) :
    Calls Try.prog 117 #[.agg #[.slice a0 n c, .pointer (some ⟨b, 0, none⟩), .int .i64 (N : Int), .int .i64 t, .int .i64 ak, .int .i64 ao], .int .i64 (k : Int)] w fun e w' => e = .returned (.bool (candB l N t ak ao k)) ∧ Below w.heap.size w w' := by
  have hn := h.good.le
  have hnm : n ≤ 9223372036854775807 := by omega
  have hkn : k < n := by omega
  have hkk : (0 : Int) ≤ (k : Int) ∧ (k : Int) < (n : Int) := by omega
  have hnc : n ≤ c := h.evs.le
  obtain ⟨S0, hS0⟩ := wrong_ofS h.wrong
  have HSk := Lib.hid (ofS_take hS0 k)
  obtain ⟨bl, off, x, rfl, hx, _, d0, d1, d2, d3, d4⟩ := h.evs.at hkn
  have Hth : Hid (thE l k = x.t) := thE_of hx
  have Hgx : Hid (l.getD k ev00 = x) := getD_of hx
  obtain ⟨xt, xk, xo, xv, xb⟩ := x
  simp only at d0 d1 d2 d3 d4 Hth
  have HT := Lib.hid h
  clear h hS0 hx
  go_enter Try.func117, Try.ntmps117
  go_wp2_with fail
  have hA := (MapKept.heap_alloc w (.cells #[.slice (some ⟨bl, off, none⟩) n c, .pointer (some ⟨b, 0, none⟩), .int .i64 (N : Int), .int .i64 t, .int .i64 ak, .int .i64 ao] 140)).1
  have hB := heap_alloc1 w #[.slice (some ⟨bl, off, none⟩) n c, .pointer (some ⟨b, 0, none⟩), .int .i64 (N : Int), .int .i64 t, .int .i64 ak, .int .i64 ao] #[.int .i64 t, .int .i64 ak, .int .i64 ao, .int .i64 0, .int .i64 0] 140 36
  have b1 : Below w.heap.size w (w.alloc (.cells #[.slice (some ⟨bl, off, none⟩) n c, .pointer (some ⟨b, 0, none⟩), .int .i64 (N : Int), .int .i64 t, .int .i64 ak, .int .i64 ao] 140)) := (Below.refl _ w).alloc (Nat.le_refl _) _
  have b2 : Below (w.alloc (.cells #[.slice (some ⟨bl, off, none⟩) n c, .pointer (some ⟨b, 0, none⟩), .int .i64 (N : Int), .int .i64 t, .int .i64 ak, .int .i64 ao] 140)).heap.size (w.alloc (.cells #[.slice (some ⟨bl, off, none⟩) n c, .pointer (some ⟨b, 0, none⟩), .int .i64 (N : Int), .int .i64 t, .int .i64 ak, .int .i64 ao] 140)) ((w.alloc (.cells #[.slice (some ⟨bl, off, none⟩) n c, .pointer (some ⟨b, 0, none⟩), .int .i64 (N : Int), .int .i64 t, .int .i64 ak, .int .i64 ao] 140)).alloc (.cells #[.int .i64 t, .int .i64 ak, .int .i64 ao, .int .i64 0, .int .i64 0] 36)) := (Below.refl _ _).alloc (Nat.le_refl _) _
  have bB := b1.trans (b2.mono (by simp))
  have hA2 := (b2.block w.heap.size (by simp)).trans hA
  revert hA2 hB bB
  clear hA b1 b2
  generalize (w.alloc (.cells #[.slice (some ⟨bl, off, none⟩) n c, .pointer (some ⟨b, 0, none⟩), .int .i64 (N : Int), .int .i64 t, .int .i64 ak, .int .i64 ao] 140)).alloc (.cells #[.int .i64 t, .int .i64 ak, .int .i64 ao, .int .i64 0, .int .i64 0] 36) = z1
  intro hB bB hA2
  obtain ⟨g0, hg0⟩ : ∃ g0, g0 = w.heap.size := ⟨_, rfl⟩
  rw [← hg0] at hA2 hB ⊢
  have d0 := keep bB d0
  have d1 := keep bB d1
  have d2 := keep bB d2
  have d3 := keep bB d3
  have d4 := keep bB d4
  have a0 : z1.cell? ⟨g0, 0, none⟩ = some (.slice (some ⟨bl, off, none⟩) n c) := cell_of_block hA2
  have a1 : z1.cell? ⟨g0, 1, none⟩ = some (.pointer (some ⟨b, 0, none⟩)) := cell_of_block hA2
  have a2 : z1.cell? ⟨g0, 2, none⟩ = some (.int .i64 (N : Int)) := cell_of_block hA2
  have a3 : z1.cell? ⟨g0, 3, none⟩ = some (.int .i64 t) := cell_of_block hA2
  have a4 : z1.cell? ⟨g0, 4, none⟩ = some (.int .i64 ak) := cell_of_block hA2
  have a5 : z1.cell? ⟨g0, 5, none⟩ = some (.int .i64 ao) := cell_of_block hA2
  have e0 : z1.cell? ⟨g0 + 1, 0, none⟩ = some (.int .i64 t) := cell_of_block hB
  have e1 : z1.cell? ⟨g0 + 1, 1, none⟩ = some (.int .i64 ak) := cell_of_block hB
  have e2 : z1.cell? ⟨g0 + 1, 2, none⟩ = some (.int .i64 ao) := cell_of_block hB
  have e3 : z1.cell? ⟨g0 + 1, 3, none⟩ = some (.int .i64 0) := cell_of_block hB
  have e4 : z1.cell? ⟨g0 + 1, 4, none⟩ = some (.int .i64 0) := cell_of_block hB
  have Hg0 := Lib.hid hg0
  have HB1 := Lib.hid bB
  have HT1 := Lib.hid (HT.out.below bB)
  clear hg0 bB hA2 hB HT
  by_cases hxt : xt = t
  · have Hf : Hid (candB l N t ak ao k = false) := candB_same (by rw [Hth.out]; exact hxt)
    have hq : (xt == t) = true := by simpa using hxt
    clear hxt
    refine wp_ext_draw 19 mixed (by kernel_rfl) ?_
    simp only [List.take_succ_cons, List.take_zero, List.drop_succ_cons, List.drop_zero]
    repeat ((first | ((apply TextRun.go rfl rfl rfl); (focus (intro w1 hS K hK; have hc := bcell hS; have hs := blt hS; have a0 := keep hS a0; have a1 := keep hS a1; have a2 := keep hS a2; have a3 := keep hS a3; have a4 := keep hS a4; have a5 := keep hS a5; have d0 := keep hS d0; have d1 := keep hS d1; have d2 := keep hS d2; have d3 := keep hS d3; have d4 := keep hS d4; have e0 := keep hS e0; have e1 := keep hS e1; have e2 := keep hS e2; have e3 := keep hS e3; have e4 := keep hS e4; go_wp2_with (fail); first | done | exact hS | exact hS.trans (hb.mono hS.size)))) | (refine TextRun.skip rfl ?_) | ((refine TextRun.wantedT rfl rfl rfl ?_); (apply Exists.intro); (apply And.intro); (focus (intro w1 hS K hK; have hc := bcell hS; have hs := blt hS; have a0 := keep hS a0; have a1 := keep hS a1; have a2 := keep hS a2; have a3 := keep hS a3; have a4 := keep hS a4; have a5 := keep hS a5; have d0 := keep hS d0; have d1 := keep hS d1; have d2 := keep hS d2; have d3 := keep hS d3; have d4 := keep hS d4; have e0 := keep hS e0; have e1 := keep hS e1; have e2 := keep hS e2; have e3 := keep hS e3; have e4 := keep hS e4; go_wp2_with (fail); first | done | exact hS | exact hS.trans (hb.mono hS.size))))); (simp only [Act.put, List.setIfInBounds_toArray, List.set_cons_zero, List.set_cons_succ]))
    refine TextRun.done ?_
    intro z2 hb
    have HB2 := Lib.hid (HB1.out.trans (hb.mono HB1.out.size))
    clear hb a0 a1 a2 a3 a4 a5 d0 d1 d2 d3 d4 e0 e1 e2 e3 e4
    go_wp2
    go_ret
    exact ⟨by rw [Hf.out]; rfl, HB2.out⟩
  have hq : (xt == t) = false := by simpa using hxt
  have Hxt := Lib.hid hxt
  clear hxt
  have Hst : ∀ W, Calls Try.prog 45 #[.agg #[.int .i64 xt, .int .i64 xk, .int .i64 xo, .int .i64 xv, .int .i64 xb], .agg #[.int .i64 t, .int .i64 ak, .int .i64 ao, .int .i64 0, .int .i64 0]] W fun x w' => x = .returned (.bool (dependsB xt xk xo t ak ao)) ∧ Below W.heap.size W w' := fun W => depends_calls _ _ _ _ _ _ _ _ _ _ _
  have HD : Hid (dependsB xt xk xo t ak ao = dependsB xt xk xo t ak ao) := rfl
  revert Hst HD
  generalize hdd : dependsB xt xk xo t ak ao = dd
  intro Hst HD
  have Hdd := Lib.hid hdd
  clear hdd HD
  refine wp_ext_draw 19 mixed (by kernel_rfl) ?_
  simp only [List.take_succ_cons, List.take_zero, List.drop_succ_cons, List.drop_zero]
  repeat ((first | ((apply TextRun.go rfl rfl rfl); (focus (intro w1 hS K hK; have hc := bcell hS; have hs := blt hS; have a0 := keep hS a0; have a1 := keep hS a1; have a2 := keep hS a2; have a3 := keep hS a3; have a4 := keep hS a4; have a5 := keep hS a5; have d0 := keep hS d0; have d1 := keep hS d1; have d2 := keep hS d2; have d3 := keep hS d3; have d4 := keep hS d4; have e0 := keep hS e0; have e1 := keep hS e1; have e2 := keep hS e2; have e3 := keep hS e3; have e4 := keep hS e4; go_wp2_with ((with_reducible refine (Hst _).mono ?_); rintro x' w4 ⟨rfl, hb⟩); first | done | exact hS | exact hS.trans (hb.mono hS.size)))) | (refine TextRun.skip rfl ?_) | ((refine TextRun.wantedT rfl rfl rfl ?_); (apply Exists.intro); (apply And.intro); (focus (intro w1 hS K hK; have hc := bcell hS; have hs := blt hS; have a0 := keep hS a0; have a1 := keep hS a1; have a2 := keep hS a2; have a3 := keep hS a3; have a4 := keep hS a4; have a5 := keep hS a5; have d0 := keep hS d0; have d1 := keep hS d1; have d2 := keep hS d2; have d3 := keep hS d3; have d4 := keep hS d4; have e0 := keep hS e0; have e1 := keep hS e1; have e2 := keep hS e2; have e3 := keep hS e3; have e4 := keep hS e4; go_wp2_with ((with_reducible refine (Hst _).mono ?_); rintro x' w4 ⟨rfl, hb⟩); first | done | exact hS | exact hS.trans (hb.mono hS.size))))); (simp only [Act.put, List.setIfInBounds_toArray, List.set_cons_zero, List.set_cons_succ]))
  refine TextRun.done ?_
  intro z2 hb
  have HB2 := Lib.hid (HB1.out.trans (hb.mono HB1.out.size))
  have HT2 := Lib.hid (HT1.out.below hb)
  have a0 := keep hb a0
  have a1 := keep hb a1
  have a2 := keep hb a2
  have a3 := keep hb a3
  have a4 := keep hb a4
  have a5 := keep hb a5
  clear hb d0 d1 d2 d3 d4 e0 e1 e2 e3 e4 Hst HT1 HB1
  cases dd
  · have Hf : Hid (candB l N t ak ao k = false) := candB_indep (by rw [Hgx.out]; exact Hdd.out)
    clear a0 a1 a2 a3 a4 a5
    go_wp2
    go_ret
    exact ⟨by rw [Hf.out]; rfl, HB2.out⟩
  have Hyes : Hid (freeP (rD l) (thE l) k t N = true → candB l N t ak ao k = canB (takes (takes log0 (l.take k)) (evsAt l (restP (rD l) k N))) t ak ao) := candB_yes (by rw [Hth.out]; exact Hxt.out) (by rw [Hgx.out]; exact Hdd.out)
  go_wp2_with fail
  refine (lof_ok (evs_take HT2.out.evs (show k ≤ n by omega)) (by omega) HSk.out).mono ?_
  rintro e z3 ⟨lb, vl, va, rfl, hL, hb⟩
  have HL := Lib.hid hL
  have HB3 := Lib.hid (HB2.out.trans (hb.mono HB2.out.size))
  have hz23 : Hid (Below z2.heap.size z2 z3) := hb
  clear hb hL
  go_wp2_with fail
  go_loopw [9] (fun x wr => ∃ j : Nat, k < j ∧ j ≤ N ∧ x = .int .i64 j ∧ Hid (∃ vl va, LogAt wr z2.heap.size lb vl va (takes (takes log0 (l.take k)) (evsAt l (restP (rD l) k j)))) ∧ Hid (Below z2.heap.size z2 wr) ∧ Hid (freeP (rD l) (thE l) k t j = true)) (fun x _ => n + 1 - (intOf x).toNat)
  case atStart => exact ⟨k + 1, by omega, by omega, by go_num, ⟨vl, va, by rw [restP_start]; exact HL.out⟩, hz23.out, freeP_start⟩
  case round =>
    clear HL HB3 hz23
    obtain ⟨j, hkj, hj, rfl, HLx, HBr, HFr⟩ := hrel
    have a0 := keep HBr.out a0
    have a1 := keep HBr.out a1
    have a2 := keep HBr.out a2
    have a3 := keep HBr.out a3
    have a4 := keep HBr.out a4
    have a5 := keep HBr.out a5
    obtain ⟨vl, va, hL⟩ := HLx.out
    have HL := Lib.hid hL
    clear hL HLx
    by_cases hjN : j < N
    · have hjn : j < n := by omega
      obtain ⟨_, _, y, heq, hy, _, f0, f1, f2, f3, f4⟩ := (HT2.out.evs.below HBr.out).at hjn
      cases heq
      have Hy := Lib.hid hy
      clear hy
      obtain ⟨yt, yk, yo, yv, yb⟩ := y
      simp only at f0 f1 f2 f3 f4
      go_wp2_with fail
      refine (before_calls (HT2.out.ord.below HBr.out) HT2.out.good k j).mono ?_
      rintro e wy ⟨rfl, hb⟩
      have HL := Lib.hid (HL.out.below hb)
      have a0 := keep hb a0
      have a3 := keep hb a3
      have f0 := keep hb f0
      have f1 := keep hb f1
      have f2 := keep hb f2
      have f3 := keep hb f3
      have f4 := keep hb f4
      have HBr := Lib.hid (HBr.out.trans (hb.mono HBr.out.size))
      clear hb a1 a2 a4 a5
      rw [befB_nat hkn hjn]
      rcases Bool.eq_false_or_eq_true (hbB (rD l) k j) with hb | hb
      · have Hb := Lib.hid hb
        rw [hb]
        clear hb
        by_cases hyt : yt = t
        · have Hf : Hid (candB l N t ak ao k = false) := candB_bound hjN hkj ((thE_of Hy.out).trans hyt) Hb.out
          have hq2 : (yt == t) = true := by simpa using hyt
          clear hyt
          go_wp2_with fail
          refine wp_ext_draw 9 mixed (by kernel_rfl) ?_
          simp only [List.take_succ_cons, List.take_zero, List.drop_succ_cons, List.drop_zero]
          repeat ((first | ((apply TextRun.go rfl rfl rfl); (focus (intro w1 hS K hK; have hc := bcell hS; have hs := blt hS; have a0 := keep hS a0; have a3 := keep hS a3; have f0 := keep hS f0; have f1 := keep hS f1; have f2 := keep hS f2; have f3 := keep hS f3; have f4 := keep hS f4; go_wp2_with (fail); first | done | exact hS | exact hS.trans (hb.mono hS.size)))) | (refine TextRun.skip rfl ?_) | ((refine TextRun.wantedT rfl rfl rfl ?_); (apply Exists.intro); (apply And.intro); (focus (intro w1 hS K hK; have hc := bcell hS; have hs := blt hS; have a0 := keep hS a0; have a3 := keep hS a3; have f0 := keep hS f0; have f1 := keep hS f1; have f2 := keep hS f2; have f3 := keep hS f3; have f4 := keep hS f4; go_wp2_with (fail); first | done | exact hS | exact hS.trans (hb.mono hS.size))))); (simp only [Act.put, List.setIfInBounds_toArray, List.set_cons_zero, List.set_cons_succ]))
          refine TextRun.done ?_
          intro z5 hb
          have HB5 := Lib.hid (HB2.out.trans ((HBr.out.trans (hb.mono HBr.out.size)).mono HB2.out.size))
          clear hb a0 a3 f0 f1 f2 f3 f4
          go_wp2
          go_ret
          exact ⟨by rw [Hf.out]; rfl, HB5.out⟩
        · have HF2 : Hid (freeP (rD l) (thE l) k t (j + 1) = true) := freeP_succ HFr.out (fun h _ => absurd ((thE_of Hy.out).symm.trans h) hyt)
          have hq2 : (yt == t) = false := by simpa using hyt
          clear hyt
          go_wp2_with fail
          refine wp_ext_draw 9 mixed (by kernel_rfl) ?_
          simp only [List.take_succ_cons, List.take_zero, List.drop_succ_cons, List.drop_zero]
          repeat ((first | ((apply TextRun.go rfl rfl rfl); (focus (intro w1 hS K hK; have hc := bcell hS; have hs := blt hS; have a0 := keep hS a0; have a3 := keep hS a3; have f0 := keep hS f0; have f1 := keep hS f1; have f2 := keep hS f2; have f3 := keep hS f3; have f4 := keep hS f4; go_wp2_with (fail); first | done | exact hS | exact hS.trans (hb.mono hS.size)))) | (refine TextRun.skip rfl ?_) | ((refine TextRun.wantedT rfl rfl rfl ?_); (apply Exists.intro); (apply And.intro); (focus (intro w1 hS K hK; have hc := bcell hS; have hs := blt hS; have a0 := keep hS a0; have a3 := keep hS a3; have f0 := keep hS f0; have f1 := keep hS f1; have f2 := keep hS f2; have f3 := keep hS f3; have f4 := keep hS f4; go_wp2_with (fail); first | done | exact hS | exact hS.trans (hb.mono hS.size))))); (simp only [Act.put, List.setIfInBounds_toArray, List.set_cons_zero, List.set_cons_succ]))
          refine TextRun.done ?_
          intro z5 hb
          have HB5 := Lib.hid (HBr.out.trans (hb.mono HBr.out.size))
          have HL5 := Lib.hid (HL.out.below hb)
          clear hb a0 a3 f0 f1 f2 f3 f4
          go_wp2
          go_roundw
          case rel => exact ⟨j + 1, by omega, by omega, by go_num, ⟨vl, va, by rw [takes_restP_no hkj Hb.out]; exact HL5.out⟩, HB5.out, HF2.out⟩
          case measure => simp [intOf]; omega
      · have Hb := Lib.hid hb
        rw [hb]
        clear hb
        have Hcap : Hid (((takes (takes log0 (l.take k)) (evsAt l (restP (rD l) k j))).l.length + 1) * 40 ≤ 140737488355328) := by
          have h1 := takes_len (takes log0 (l.take k)) (evsAt l (restP (rD l) k j))
          have h2 := takes_len log0 (l.take k)
          have h3 := restP_len (rD l) k j
          rw [evsAt_len] at h1
          have h4 : (l.take k).length ≤ k := by rw [List.length_take]; omega
          have h5 : log0.l.length = 0 := rfl
          show _ ≤ _
          omega
        go_wp2_with fail
        refine (add_calls HL.out ⟨yt, yk, yo, yv, yb⟩ Hcap.out).mono ?_
        rintro e z5 ⟨vl2, va2, rfl, hL2, hw, _⟩
        have HL5 := Lib.hid hL2
        have HB5 := Lib.hid (hw.below HBr.out HBr.out.size HL.out.base)
        clear hL2 hw
        go_wp2
        go_roundw
        case rel => exact ⟨j + 1, by omega, by omega, by go_num, ⟨vl2, va2, by rw [takes_restP_yes hkj Hb.out Hy.out]; exact HL5.out⟩, HB5.out, freeP_succ HFr.out (fun _ _ => Hb.out)⟩
        case measure => simp [intOf]; omega
    · have hjN : j = N := by omega
      subst hjN
      go_wp2_with fail
      refine (can_calls HL.out _ _ _).mono ?_
      rintro e z5 ⟨rfl, hb⟩
      have HB5 := Lib.hid (HB2.out.trans ((HBr.out.trans (hb.mono HBr.out.size)).mono HB2.out.size))
      clear hb
      go_wp2
      go_ret
      exact ⟨by rw [Hyes.out HFr.out]; rfl, HB5.out⟩

end Go.Proofs.Ytjhlehepnhbbaaa

namespace Go.Proofs.Ytjhlehepnhbbaaa
open Go.ChangeShapes Go.WideShapes Go.ChangeAt Go.RowKit Go.Deep

theorem revP_no {r : Nat → Nat → Bool} {c : Nat → Bool} {N k : Nat} (hk : k < N) (hc : c k = false) : revP r c N k = revP r c N (k + 1) := by
  have : maxP r c N k = false := by unfold maxP; rw [hc]; rfl
  rw [revP_step hk, this]
  simp
theorem revP_skip {r : Nat → Nat → Bool} {c : Nat → Bool} {N k q : Nat} (hk : k < N) (hc : c k = true) (hq : q ∈ revP r c N (k + 1)) (hb : hbB r k q = true) : revP r c N k = revP r c N (k + 1) := by
  have : maxP r c N k = false := by
    rw [max_told hc, List.any_eq_true.2 ⟨q, hq, hb⟩]; rfl
  rw [revP_step hk, this]
  simp
theorem revP_put {r : Nat → Nat → Bool} {c : Nat → Bool} {N k : Nat} (hk : k < N) (hc : c k = true) (h : ∀ q ∈ revP r c N (k + 1), hbB r k q = false) : revP r c N k = revP r c N (k + 1) ++ [k] := by
  have : maxP r c N k = true := by
    rw [max_told hc, List.any_eq_false.2 (fun q hq => by rw [h q hq]; simp)]; rfl
  rw [revP_step hk, this]
  rfl
theorem revP_lt {r : Nat → Nat → Bool} {c : Nat → Bool} {N k q : Nat} (h : q ∈ revP r c N k) : q < N := (revP_mem.1 h).1

set_option maxRecDepth 20000 in
set_option maxHeartbeats 8000000 in
theorem races_calls {w : World} {B b : Nat} {v : Value} {l : List Ev} {n : Nat} {a0 : Option Addr} {c : Nat} (h : TgAt w B b v l n a0 c) {N : Nat} (hN : N ≤ n) (t ak ao : Int) :
    Calls Try.prog 92 #[.agg #[.slice a0 n c, .pointer (some ⟨b, 0, none⟩), .int .i64 (N : Int), .int .i64 t, .int .i64 ak, .int .i64 ao]] w (OwnsPost eltI w (natsI (racesP (rD l) (candB l N t ak ao) N))) := by
  have hn := h.good.le
  have hb1 : Below w.heap.size w (w.alloc (.cells #[.slice a0 n c, .pointer (some ⟨b, 0, none⟩), .int .i64 (N : Int), .int .i64 t, .int .i64 ak, .int .i64 ao] 140)) := (Below.refl _ w).alloc (Nat.le_refl _) _
  have hr1 := (MapKept.heap_alloc w (.cells #[.slice a0 n c, .pointer (some ⟨b, 0, none⟩), .int .i64 (N : Int), .int .i64 t, .int .i64 ak, .int .i64 ao] 140)).1
  have HT := Lib.hid h
  have HR := Lib.hid (And.intro hb1 hr1)
  clear h hb1 hr1
  go_enter Try.func92, Try.ntmps92
  go_wp2_with fail
  revert HR
  generalize w.alloc (.cells #[.slice a0 n c, .pointer (some ⟨b, 0, none⟩), .int .i64 (N : Int), .int .i64 t, .int .i64 ak, .int .i64 ao] 140) = w1
  intro HR
  obtain ⟨g0, hg0⟩ : ∃ g0, g0 = w.heap.size := ⟨_, rfl⟩
  have hA2 : w1.heap[g0]? = some (.cells #[.slice a0 n c, .pointer (some ⟨b, 0, none⟩), .int .i64 (N : Int), .int .i64 t, .int .i64 ak, .int .i64 ao] 140) := by rw [hg0]; exact HR.out.2
  rw [← hg0]
  have d0 : w1.cell? ⟨g0, 0, none⟩ = some (.slice a0 n c) := cell_of_block hA2
  have d1 : w1.cell? ⟨g0, 1, none⟩ = some (.pointer (some ⟨b, 0, none⟩)) := cell_of_block hA2
  have d2 : w1.cell? ⟨g0, 2, none⟩ = some (.int .i64 (N : Int)) := cell_of_block hA2
  have d3 : w1.cell? ⟨g0, 3, none⟩ = some (.int .i64 t) := cell_of_block hA2
  have d4 : w1.cell? ⟨g0, 4, none⟩ = some (.int .i64 ak) := cell_of_block hA2
  have d5 : w1.cell? ⟨g0, 5, none⟩ = some (.int .i64 ao) := cell_of_block hA2
  have HB1 := Lib.hid HR.out.1
  have HT1 := Lib.hid (HT.out.below HB1.out)
  clear hg0 hA2 HR HT
  have hcand : ∀ W, Below w1.heap.size w1 W → ∀ k, k < N → Calls Try.prog 117 #[.agg #[.slice a0 n c, .pointer (some ⟨b, 0, none⟩), .int .i64 (N : Int), .int .i64 t, .int .i64 ak, .int .i64 ao], .int .i64 (k : Int)] W fun e w' => e = .returned (.bool (candB l N t ak ao k)) ∧ Below W.heap.size W w' := fun W hW k hk => tcand_calls (HT1.out.below hW) hN hk t ak ao
  have Hc := Lib.hid hcand
  clear hcand
  obtain ⟨C, hC⟩ : ∃ C, C = candB l N t ak ao := ⟨_, rfl⟩
  rw [← hC] at Hc ⊢
  clear hC
  go_step3
  go_wp2_with fail
  go_step3
  go_wp2_with fail
  go_loopw [3, 4, 6] (fun u x _ wr => ∃ (k : Nat) (z : Int), k ≤ N ∧ x = .int .i64 z ∧ z = (k : Int) - 1 ∧ Hid (OwnL eltI wr w1.heap.size u (natsI (revP (rD l) C N k)) ∧ Below w1.heap.size w1 wr)) (fun _ x _ _ => (intOf x + 1).toNat)
  case atStart => exact ⟨N, (N : Int) - 1, Nat.le_refl _, by go_num, rfl, by rw [revP_end]; exact ⟨OwnL.nil .., Below.refl ..⟩⟩
  case round =>
    obtain ⟨k, z, hk, rfl, hz, HL⟩ := hrel
    rcases k with _ | k
    · obtain rfl : z = -1 := by omega
      clear hz
      have Hlen : Hid ((natsI (revP (rD l) C N 0)).length ≤ 1000000) := by
        have := revP_len (rD l) C N 0
        show _ ≤ _
        rw [natsI_len]; omega
      go_wp2_with fail
      refine (reverse_calls HL.out.1 Hlen.out).mono ?_
      rintro e wz ⟨rfl, hown, hw⟩
      have HO := Lib.hid hown
      have HB := Lib.hid (Wrote.below HL.out.2 hw HL.out.2.size (fun q hq => (HL.out.1.lt hq).1))
      clear hown hw
      go_wp2
      go_ret
      refine ⟨_, rfl, ?_, HB1.out.trans (HB.out.mono HB1.out.size)⟩
      have := HO.out
      rw [← natsI_rev, revP_all] at this
      exact ⟨ownsRow_base this.own HB1.out.size⟩
    · obtain rfl : z = (k : Int) := by omega
      clear hz
      have hkN : k < N := by omega
      have e0 := keep HL.out.2 d0
      have e1 := keep HL.out.2 d1
      have e2 := keep HL.out.2 d2
      have e3 := keep HL.out.2 d3
      have e4 := keep HL.out.2 d4
      have e5 := keep HL.out.2 d5
      go_wp2_with fail
      refine (Hc.out _ HL.out.2 k hkN).mono ?_
      rintro e wy ⟨rfl, hb⟩
      have HL := Lib.hid (And.intro (HL.out.1.below hb) (HL.out.2.trans (hb.mono HL.out.2.size)))
      clear hb e0 e1 e2 e3 e4 e5
      rcases Bool.eq_false_or_eq_true (C k) with hck | hck
      · have Hck := Lib.hid hck
        rw [hck]
        clear hck
        obtain ⟨Pl, hPl⟩ : ∃ Pl, Pl = revP (rD l) C N (k + 1) := ⟨_, rfl⟩
        have HPn : Hid (∀ q ∈ Pl, q < N) := by rw [hPl]; exact fun q hq => revP_lt hq
        have hPlen : Pl.length ≤ N := by rw [hPl]; exact revP_len ..
        rw [← hPl] at HL
        have HPl := Lib.hid hPl
        clear hPl
        obtain ⟨sa, sc, hu, _, hat⟩ := HL.out.1.int_at
        rw [natsI_len] at hu
        subst hu
        have Hat := Lib.hid hat
        clear hat
        go_wp2_with fail
        go_loopw [6, 20] (fun _ x wx => ∃ i : Nat, i ≤ Pl.length ∧ x = .int .i64 i ∧ Hid (∀ p q, p < i → Pl[p]? = some q → hbB (rD l) k q = false) ∧ Hid (Below wy.heap.size wy wx)) (fun _ x _ => Pl.length - (intOf x).toNat)
        case atStart => exact ⟨0, Nat.zero_le _, by go_num, fun p q hp => absurd hp (by omega), Below.refl _ _⟩
        case round =>
          obtain ⟨i, hi, rfl, Hno, HBx⟩ := hrel
          have HLx := Lib.hid (And.intro (HL.out.1.below HBx.out) (HL.out.2.trans (HBx.out.mono HL.out.2.size)))
          by_cases hiP : i < Pl.length
          · obtain ⟨q, hq⟩ : ∃ q, Pl[i]? = some q := ⟨_, List.getElem?_eq_getElem hiP⟩
            have hqN := HPn.out q (List.mem_of_getElem? hq)
            obtain ⟨g, rfl, _, cq⟩ := Hat.out i (q : Int) (natsI_get hq)
            have cq := keep HBx.out cq
            have e1 := keep HLx.out.2 d1
            have Hq := Lib.hid hq
            clear hq
            go_wp2_with fail
            refine (before_calls (HT1.out.ord.below HLx.out.2) HT1.out.good k q).mono ?_
            rintro e wv ⟨rfl, hb⟩
            rw [befB_nat (show k < n by omega) (show q < n by omega)]
            have HLv := Lib.hid (And.intro (HLx.out.1.below hb) (HLx.out.2.trans (hb.mono HLx.out.2.size)))
            have HBv := Lib.hid (HBx.out.trans (hb.mono HBx.out.size))
            clear hb cq e1
            rcases Bool.eq_false_or_eq_true (hbB (rD l) k q) with hb | hb
            · have Hb := Lib.hid hb
              rw [hb]
              clear hb
              go_wp2
              go_roundw
              case rel => exact ⟨k, (k : Int) - 1, by omega, by go_num, rfl, by rw [revP_skip hkN Hck.out (by rw [← HPl.out]; exact List.mem_of_getElem? Hq.out) Hb.out, ← HPl.out]; exact HLv.out⟩
              case measure => simp [intOf] <;> omega
            · have Hb := Lib.hid hb
              rw [hb]
              clear hb
              go_wp2
              go_roundw
              case rel => exact ⟨i + 1, by omega, by go_num, fun p q' hp hq' => by
                rcases Nat.lt_succ_iff_lt_or_eq.1 hp with h3 | h3
                · exact Hno.out p q' h3 hq'
                · subst h3; rw [Hq.out] at hq'; cases hq'; exact Hb.out, HBv.out⟩
              case measure => simp [intOf] <;> omega
          · have hiP : i = Pl.length := by omega
            have Hall : Hid (∀ q ∈ revP (rD l) C N (k + 1), hbB (rD l) k q = false) := by
              rw [← HPl.out]
              intro q hq
              obtain ⟨p, hp, he⟩ := List.getElem_of_mem hq
              exact Hno.out p q (by omega) (by rw [List.getElem?_eq_getElem hp, he])
            subst hiP
            go_wp2_with (at_builtin; go_loud (refine wpList_push eltI rfl (.tmp 30) (.tmp 32) rfl (k : Int) rfl rfl rfl HLx.out.1 HLx.out.2.size (by rw [natsI_len]; omega) ?_); intro v' wz hown hw hv; (have HL' := Lib.hid (And.intro (show OwnL eltI wz w1.heap.size v' (natsI (revP (rD l) C N k)) by rw [revP_put hkN Hck.out Hall.out, natsI_app, ← HPl.out]; exact hown) (Wrote.below HLx.out.2 hw HLx.out.2.size (fun q hq => (HLx.out.1.lt hq).1)))); clear hown hw hv)
            go_roundw
            case rel => exact ⟨k, (k : Int) - 1, by omega, by go_num, rfl, HL'.out⟩
            case measure => simp [intOf] <;> omega
      · have Hck := Lib.hid hck
        rw [hck]
        clear hck
        go_wp2
        go_roundw
        case rel => exact ⟨k, (k : Int) - 1, by omega, by go_num, rfl, by rw [revP_no hkN Hck.out]; exact HL.out⟩
        case measure => simp [intOf] <;> omega

end Go.Proofs.Ytjhlehepnhbbaaa

namespace Go.Proofs.Ytjhlehepnhbbaaa
open Go.ChangeShapes Go.WideShapes Go.ChangeAt Go.RowKit Go.Deep

theorem ROrdAt.lcell {w : World} {rb : Nat} {a0 : Option Addr} {n c : Nat} {v1 v2 : Value} {l : List Ev} (h : ROrdAt w rb a0 n c v1 v2 l) : w.cell? ⟨rb, 0, none⟩ = some (.slice a0 n c) := cell_of_block h.blk
theorem ROrdAt.ecell {w : World} {rb : Nat} {a0 : Option Addr} {n c : Nat} {v1 v2 : Value} {l : List Ev} (h : ROrdAt w rb a0 n c v1 v2 l) : w.cell? ⟨rb, 1, none⟩ = some v1 := cell_of_block h.blk

set_option maxRecDepth 20000 in
set_option maxHeartbeats 4000000 in
theorem rrest_calls {w : World} {rb : Nat} {a0 : Option Addr} {n c : Nat} {v1 v2 : Value} {l : List Ev} (h : ROrdAt w rb a0 n c v1 v2 l) (hn100 : n ≤ 100) {N k : Nat} (hN : N ≤ n) (hkN : k < N) :
    Calls Try.prog 65 #[.pointer (some ⟨rb, 0, none⟩), .int .i64 (k : Int), .int .i64 (N : Int)] w (OwnsPost eltI w (natsI (restP (rD l) k N))) := by
  have he := h.ecell
  obtain ⟨B, hm⟩ := h.m1
  have Hm := Lib.hid hm
  clear h hm
  go_enter Try.func65, Try.ntmps65
  go_wp2_with fail
  go_loopw [7, 8] (fun u x wr => ∃ j : Nat, k < j ∧ j ≤ N ∧ x = .int .i64 j ∧ Hid (OwnL eltI wr w.heap.size u (natsI (restP (rD l) k j)) ∧ Below w.heap.size w wr)) (fun _ x _ => n + 1 - (intOf x).toNat)
  case atStart => exact ⟨k + 1, by omega, by omega, by go_num, ⟨by rw [restP_start]; exact OwnL.nil .., Below.refl ..⟩⟩
  case round =>
    obtain ⟨j, hkj, hj, rfl, HL⟩ := hrel
    by_cases hjN : j < N
    · have hjn : j < n := by omega
      have hkn : k < n := by omega
      have he := keep HL.out.2 he
      obtain ⟨x, co, g, rfl, cx, hnc, hgc⟩ := (Hm.out.below HL.out.2).read hjn
      have cg := hgc k hkn
      clear hgc
      rcases Bool.eq_false_or_eq_true (hbB (rD l) k j) with hb | hb
      · have Hb := Lib.hid hb
        rw [hb] at cg
        clear hb
        go_wp2
        go_roundw
        case rel => exact ⟨j + 1, by omega, by omega, by go_num, by have := restP_succ (r := rD l) hkj; rw [Hb.out, if_pos rfl, List.append_nil] at this; rw [this]; exact HL.out⟩
        case measure => simp [intOf]; omega
      · have Hb := Lib.hid hb
        rw [hb] at cg
        clear hb
        go_wp2_with (at_builtin; go_loud (refine wpList_push eltI rfl (.tmp 27) (.tmp 29) rfl (j : Int) rfl rfl rfl HL.out.1 HL.out.2.size (by have := restP_len (rD l) k j; rw [natsI_len]; omega) ?_); intro v' wz hown hw hv; (have HL' := Lib.hid (And.intro (show OwnL eltI wz w.heap.size v' (natsI (restP (rD l) k (j + 1))) by rw [restP_succ hkj, Hb.out, natsI_app]; exact hown) (Wrote.below HL.out.2 hw HL.out.2.size (fun q hq => (HL.out.1.lt hq).1)))); clear hown hw hv)
        go_roundw
        case rel => exact ⟨j + 1, by omega, by omega, by go_num, HL'.out⟩
        case measure => simp [intOf]; omega
    · have hjN : j = N := by omega
      subst hjN
      go_wp2
      go_ret
      exact ⟨_, rfl, HL.out.1, HL.out.2⟩

theorem take_one {l : List Ev} {k : Nat} {x : Ev} (h : l[k]? = some x) : l.take (k + 1) = l.take k ++ [x] := by rw [List.take_add_one, h]; rfl
theorem evs_one {l : List Ev} {Pl : List Nat} {i q : Nat} {x : Ev} (h : Pl[i]? = some q) (hx : l[q]? = some x) : evsAt l (Pl.take (i + 1)) = evsAt l (Pl.take i) ++ [x] := by
  rw [List.take_add_one, h, evsAt_app]
  show _ ++ [l.getD q ev00] = _
  rw [getD_of hx]

set_option maxRecDepth 20000 in
set_option maxHeartbeats 8000000 in
theorem rstate_calls {w : World} {a0 : Option Addr} {n c : Nat} {l : List Ev} (h : IsEvs w a0 n c l) (hn100 : n ≤ 100) {k : Nat} (hk : k ≤ n) {B2 : Nat} {v : Value} {Pl : List Nat} (hP : OwnL eltI w B2 v (natsI Pl)) (hPn : ∀ q ∈ Pl, q < n) (hPl : Pl.length ≤ n) :
    Calls Try.prog 119 #[.slice a0 n c, .int .i64 (k : Int), v] w fun e w' => e = .returned (.agg (stArr (takes (takes log0 (l.take k)) (evsAt l Pl)).st (takes (takes log0 (l.take k)) (evsAt l Pl)).ow)) ∧ Below w.heap.size w w' := by
  obtain ⟨pa, pc, hv, _, hat⟩ := hP.int_at
  rw [natsI_len] at hv
  subst hv
  have Hat := Lib.hid hat
  have HPn := Lib.hid hPn
  have Hev := Lib.hid h
  clear hat hP hPn h
  go_enter Try.func119, Try.ntmps119
  go_wp2_with fail
  refine (first_calls _).mono ?_
  rintro e w1 ⟨rfl, hB1⟩
  have hR1 : w1.heap[w.heap.size]? = some (.cells zArr 80 (0, 0)) := (hB1.block _ (by simp)).trans (MapKept.heap_alloc w _).1
  have hB1' : Below w.heap.size w w1 := Below.trans (by go_grown) (hB1.mono (by simp))
  have hlt1 : w.heap.size < w1.heap.size := by have := hB1.size; simp at this; omega
  clear hB1
  go_wp2_with (refine wpList_store_row rfl 80 (.tmp 7) (.tmp 10) rfl w1.heap.size (stArr log0.st log0.ow) rfl rfl 80 zArr (MapKept.heap_alloc w1 _).1 infoState rfl (stArr_one _ _) ?_)
  have hT2 : StateAt ((w1.alloc (.cells #[.int .i64 0, .int .i64 0, .int .i64 0, .int .i64 0, .int .i64 0, .int .i64 0, .int .i64 0, .int .i64 0, .int .i64 0, .int .i64 0, .int .i64 0, .int .i64 0, .int .i64 0, .int .i64 0, .int .i64 0, .int .i64 0] 80)).setRow w1.heap.size (stArr log0.st log0.ow)) w1.heap.size log0 := setRow_heap _ _ _ _ _ _ (MapKept.heap_alloc w1 _).1
  have hB2 : Below w.heap.size w ((w1.alloc (.cells #[.int .i64 0, .int .i64 0, .int .i64 0, .int .i64 0, .int .i64 0, .int .i64 0, .int .i64 0, .int .i64 0, .int .i64 0, .int .i64 0, .int .i64 0, .int .i64 0, .int .i64 0, .int .i64 0, .int .i64 0, .int .i64 0] 80)).setRow w1.heap.size (stArr log0.st log0.ow)) := below_of_mod (hB1'.alloc hB1'.size _) (setRow_wrote _ _ _) (by simp; have := hB1'.size; omega) hB1'.size
  have hR2 : ((w1.alloc (.cells #[.int .i64 0, .int .i64 0, .int .i64 0, .int .i64 0, .int .i64 0, .int .i64 0, .int .i64 0, .int .i64 0, .int .i64 0, .int .i64 0, .int .i64 0, .int .i64 0, .int .i64 0, .int .i64 0, .int .i64 0, .int .i64 0] 80)).setRow w1.heap.size (stArr log0.st log0.ow)).heap[w.heap.size]? = some (.cells zArr 80 (0, 0)) := (setRow_other _ _ _ _ (by omega)).trans ((Below.heap_alloc w1 _ _ hlt1).trans hR1)
  clear hR1 hB1'
  revert hT2 hB2 hR2
  generalize ((w1.alloc (.cells #[.int .i64 0, .int .i64 0, .int .i64 0, .int .i64 0, .int .i64 0, .int .i64 0, .int .i64 0, .int .i64 0, .int .i64 0, .int .i64 0, .int .i64 0, .int .i64 0, .int .i64 0, .int .i64 0, .int .i64 0, .int .i64 0] 80)).setRow w1.heap.size (stArr log0.st log0.ow)) = w2
  generalize w1.heap.size = bs at *
  intro hT2 hB2 hR2
  have HT2 := Lib.hid (And.intro hT2 (And.intro hR2 hB2))
  clear hT2 hR2 hB2
  go_loopw [8] (fun v wr => ∃ j : Nat, j ≤ k ∧ v = .int .i64 j ∧ Hid (StateAt wr bs (takes log0 (l.take j)) ∧ wr.heap[w.heap.size]? = some (.cells zArr 80 (0, 0)) ∧ Below w.heap.size w wr)) (fun v _ => k - (intOf v).toNat)
  case atStart => exact ⟨0, Nat.zero_le _, by go_num, HT2.out⟩
  case round =>
    clear HT2
    obtain ⟨j, hj, rfl, Hr⟩ := hrel
    by_cases hlt : j < k
    · obtain ⟨b, off, x, rfl, hx, _, c0, c1, c2, c3, c4⟩ := (Hev.out.below Hr.out.2.2).at (show j < n by omega)
      have Hx := Lib.hid hx
      clear hx
      go_wp2_with fail
      refine (sadd_calls Hr.out.1 (takes_good good0 _) x).mono ?_
      rintro e w3 ⟨rfl, hT3, hM3⟩
      have hB3 : Below w.heap.size w w3 := below_of_mod Hr.out.2.2 hM3 Hr.out.2.2.size (by omega)
      have hR3 : w3.heap[w.heap.size]? = some (.cells zArr 80 (0, 0)) := (hM3.block _ (by have := Hr.out.1.lt; omega) (by intro hq; cases hq; omega)).trans Hr.out.2.1
      have HN := Lib.hid (And.intro hT3 (And.intro hR3 hB3))
      clear hT3 hM3 hB3 hR3 Hr c0 c1 c2 c3 c4
      go_wp2
      go_roundw
      case rel => exact ⟨j + 1, by omega, by go_num, by rw [take_one Hx.out, takes_app]; exact HN.out⟩
      case measure => simp [intOf]; omega
    · have hjk : j = k := by omega
      subst hjk
      have hg0 : Good (takes log0 (l.take j)) := takes_good good0 _
      obtain ⟨S1, hS1⟩ : ∃ S1, S1 = takes log0 (l.take j) := ⟨_, rfl⟩
      rw [← hS1] at Hr hg0
      have HG := Lib.hid hg0
      have HS1 := Lib.hid hS1
      clear hg0 hS1
      go_wp2_with fail
      obtain ⟨wo, hwo⟩ : ∃ wo, wo = wr := ⟨_, rfl⟩
      subst hwo
      go_loopw [9] (fun v wr => ∃ i : Nat, i ≤ Pl.length ∧ v = .int .i64 i ∧ Hid (StateAt wr bs (takes S1 (evsAt l (Pl.take i))) ∧ wr.heap[w.heap.size]? = some (.cells zArr 80 (0, 0)) ∧ Below w.heap.size w wr)) (fun v _ => Pl.length - (intOf v).toNat)
      case atStart => exact ⟨0, Nat.zero_le _, by go_num, Hr.out⟩
      case round =>
        clear Hr
        obtain ⟨i, hi, rfl, Hr⟩ := hrel
        by_cases hlt : i < Pl.length
        · obtain ⟨q, hq⟩ : ∃ q, Pl[i]? = some q := ⟨_, List.getElem?_eq_getElem hlt⟩
          have hqn := HPn.out q (List.mem_of_getElem? hq)
          obtain ⟨g, rfl, _, cq⟩ := Hat.out i (q : Int) (natsI_get hq)
          have cq := keep Hr.out.2.2 cq
          obtain ⟨b, off, x, rfl, hx, _, c0, c1, c2, c3, c4⟩ := (Hev.out.below Hr.out.2.2).at hqn
          have Hx := Lib.hid (And.intro hq hx)
          clear hx hq
          go_wp2_with fail
          refine (sadd_calls Hr.out.1 (takes_good HG.out _) x).mono ?_
          rintro e w3 ⟨rfl, hT3, hM3⟩
          have hB3 : Below w.heap.size w w3 := below_of_mod Hr.out.2.2 hM3 Hr.out.2.2.size (by omega)
          have hR3 : w3.heap[w.heap.size]? = some (.cells zArr 80 (0, 0)) := (hM3.block _ (by have := Hr.out.1.lt; omega) (by intro hq; cases hq; omega)).trans Hr.out.2.1
          have HN := Lib.hid (And.intro hT3 (And.intro hR3 hB3))
          clear hT3 hM3 hB3 hR3 Hr c0 c1 c2 c3 c4 cq
          go_wp2
          go_roundw
          case rel => exact ⟨i + 1, by omega, by go_num, by rw [evs_one Hx.out.1 Hx.out.2, takes_app]; exact HN.out⟩
          case measure => simp [intOf]; omega
        · have hiP : i = Pl.length := by omega
          subst hiP
          rw [List.take_length] at Hr
          obtain ⟨S2, hS2⟩ : ∃ S2, S2 = takes S1 (evsAt l Pl) := ⟨_, rfl⟩
          rw [← hS2] at Hr
          have HS2 := Lib.hid hS2
          have hR4 := setRow_heap wr w.heap.size zArr (stArr S2.st S2.ow) _ _ Hr.out.2.1
          have HR4 := Lib.hid hR4
          have hB4 := below_of_mod Hr.out.2.2 (setRow_wrote wr w.heap.size (stArr S2.st S2.ow)) Hr.out.2.2.size (Nat.le_refl _)
          have HB4 := Lib.hid hB4
          clear hR4 hB4 hS2
          go_wp2_with (first | (refine wpList_load_row rfl 80 (.tmp 7) rfl bs rfl 80 (stArr S2.st S2.ow) (0, 0) _ Hr.out.1 Try.underlying80 rfl (by kernel_rfl) ?_) | (refine wpList_store_row rfl 80 (.tmp 6) (.tmp 35) rfl w.heap.size (stArr S2.st S2.ow) rfl rfl 80 zArr Hr.out.2.1 infoState rfl (stArr_one _ _) ?_))
          (try simp only [Exit.inBlock, Exit.then])
          refine bodyPost_ret (results_cell_row rfl _ _ w.heap.size 80 _ (0, 0) _ rfl HR4.out Try.underlying80 rfl (by kernel_rfl)) rfl ?_
          exact ⟨by rw [← HS1.out, ← HS2.out], HB4.out⟩

set_option maxRecDepth 20000 in
set_option maxHeartbeats 16000000 in
theorem rcand_calls {w : World} {rb : Nat} {a0 : Option Addr} {n c : Nat} {v1 v2 : Value} {l : List Ev} (h : ROrdAt w rb a0 n c v1 v2 l) (hg : GoodL n l) {N k : Nat} (hN : N ≤ n) (hkN : k < N) (t ak ao : Int) :
    Calls Try.prog 93 #[.pointer (some ⟨rb, 0, none⟩), .int .i64 (N : Int), .int .i64 t, .agg #[.int .i64 ak, .int .i64 ao], .int .i64 (k : Int)] w fun e w' => e = .returned (.bool (candB l N t ak ao k)) ∧ Below w.heap.size w w' := by
  have hn := hg.le
  have hkn : k < n := by omega
  obtain ⟨bl, off, x, rfl, hx, _, d0, d1, d2, d3, d4⟩ := h.evs.at hkn
  have Hth : Hid (thE l k = x.t) := thE_of hx
  have Hgx : Hid (l.getD k ev00 = x) := getD_of hx
  obtain ⟨xt, xk, xo, xv, xb⟩ := x
  simp only at d0 d1 d2 d3 d4 Hth
  have hnc : n ≤ c := h.evs.le
  have hnl : l.length = n := hg.len
  have HT := Lib.hid h
  have HG := Lib.hid hg
  clear h hx hg
  have b1 : Below w.heap.size w (w.alloc (.cells #[.int .i64 ak, .int .i64 ao] 50)) := (Below.refl _ w).alloc (Nat.le_refl _) _
  have r1 := (MapKept.heap_alloc w (.cells #[.int .i64 ak, .int .i64 ao] 50)).1
  have HR := Lib.hid (And.intro b1 r1)
  clear b1 r1
  go_enter Try.func93, Try.ntmps93
  have lc := keep HR.out.1 HT.out.lcell
  go_wp2_with fail
  revert HR lc
  generalize w.alloc (.cells #[.int .i64 ak, .int .i64 ao] 50) = w1
  intro HR lc
  obtain ⟨g0, hg0⟩ : ∃ g0, g0 = w.heap.size := ⟨_, rfl⟩
  have hA2 : w1.heap[g0]? = some (.cells #[.int .i64 ak, .int .i64 ao] 50 (0, 0)) := by rw [hg0]; exact HR.out.2
  rw [← hg0]
  have e0 : w1.cell? ⟨g0, 0, none⟩ = some (.int .i64 ak) := cell_of_block hA2
  have e1 : w1.cell? ⟨g0, 1, none⟩ = some (.int .i64 ao) := cell_of_block hA2
  have HB1 := Lib.hid HR.out.1
  have HT1 := Lib.hid (HT.out.below HB1.out)
  have d0 := keep HB1.out d0
  have d1 := keep HB1.out d1
  have d2 := keep HB1.out d2
  have d3 := keep HB1.out d3
  have d4 := keep HB1.out d4
  clear hg0 hA2 HR HT
  have Hst : ∀ W, Calls Try.prog 47 #[.agg #[.int .i64 xt, .int .i64 xk, .int .i64 xo, .int .i64 xv, .int .i64 xb], .agg #[.int .i64 t, .int .i64 ak, .int .i64 ao, .int .i64 0, .int .i64 0]] W fun x w' => x = .returned (.bool (dependsB xt xk xo t ak ao)) ∧ Below W.heap.size W w' := fun W => (rdep_calls _ _ _ _ _ _ _ _ _ _ _).mono fun e w2 h => by rw [depends_is]; exact h
  have HD : Hid (dependsB xt xk xo t ak ao = dependsB xt xk xo t ak ao) := rfl
  revert Hst HD
  generalize hdd : dependsB xt xk xo t ak ao = dd
  intro Hst HD
  have Hdd := Lib.hid hdd
  clear hdd HD
  go_wp2_with fail
  refine wp_ext_draw 11 mixed (by kernel_rfl) ?_
  simp only [List.take_succ_cons, List.take_zero, List.drop_succ_cons, List.drop_zero]
  repeat ((first | ((apply TextRun.go rfl rfl rfl); (focus (intro w1 hS K hK; have hc := bcell hS; have hs := blt hS; have lc := keep hS lc; have e0 := keep hS e0; have e1 := keep hS e1; have d0 := keep hS d0; have d1 := keep hS d1; have d2 := keep hS d2; have d3 := keep hS d3; have d4 := keep hS d4; go_wp2_with ((with_reducible refine (Hst _).mono ?_); rintro x' w4 ⟨rfl, hb⟩); first | done | exact hS | exact hS.trans (hb.mono hS.size)))) | (refine TextRun.skip rfl ?_) | ((refine TextRun.wantedT rfl rfl rfl ?_); (apply Exists.intro); (apply And.intro); (focus (intro w1 hS K hK; have hc := bcell hS; have hs := blt hS; have lc := keep hS lc; have e0 := keep hS e0; have e1 := keep hS e1; have d0 := keep hS d0; have d1 := keep hS d1; have d2 := keep hS d2; have d3 := keep hS d3; have d4 := keep hS d4; go_wp2_with ((with_reducible refine (Hst _).mono ?_); rintro x' w4 ⟨rfl, hb⟩); first | done | exact hS | exact hS.trans (hb.mono hS.size))))); (simp only [Act.put, List.setIfInBounds_toArray, List.set_cons_zero, List.set_cons_succ]))
  refine TextRun.done ?_
  intro z2 hb
  have HB2 := Lib.hid (HB1.out.trans (hb.mono HB1.out.size))
  have HT2 := Lib.hid (HT1.out.below hb)
  have lc := keep hb lc
  have e0 := keep hb e0
  have e1 := keep hb e1
  have d0 := keep hb d0
  clear hb d1 d2 d3 d4 Hst HT1 HB1
  by_cases hxt : xt = t
  · have Hf : Hid (candB l N t ak ao k = false) := candB_same (by rw [Hth.out]; exact hxt)
    have hq : (xt == t) = true := by simpa using hxt
    clear hxt e0 e1
    go_wp2
    go_ret
    exact ⟨by rw [Hf.out]; rfl, HB2.out⟩
  have hq : (xt == t) = false := by simpa using hxt
  have Hxt := Lib.hid hxt
  clear hxt
  cases dd
  · have Hf : Hid (candB l N t ak ao k = false) := candB_indep (by rw [Hgx.out]; exact Hdd.out)
    clear e0 e1
    go_wp2
    go_ret
    exact ⟨by rw [Hf.out]; rfl, HB2.out⟩
  have Hyes : Hid (freeP (rD l) (thE l) k t N = true → candB l N t ak ao k = canB (takes (takes log0 (l.take k)) (evsAt l (restP (rD l) k N))) t ak ao) := candB_yes (by rw [Hth.out]; exact Hxt.out) (by rw [Hgx.out]; exact Hdd.out)
  go_wp2_with fail
  clear hq d0
  go_loopw [13] (fun x wr => ∃ j : Nat, k < j ∧ j ≤ N ∧ x = .int .i64 j ∧ Hid (freeP (rD l) (thE l) k t j = true) ∧ Hid (Below z2.heap.size z2 wr)) (fun x _ => n + 1 - (intOf x).toNat)
  case atStart => exact ⟨k + 1, by omega, by omega, by go_num, freeP_start, Below.refl ..⟩
  case round =>
    obtain ⟨j, hkj, hj, rfl, HFr, HBr⟩ := hrel
    have e0 := keep HBr.out e0
    have e1 := keep HBr.out e1
    have lc := keep HBr.out lc
    have HT2 := Lib.hid (HT2.out.below HBr.out)
    have HB2 := Lib.hid (HB2.out.trans (HBr.out.mono HB2.out.size))
    by_cases hjN : j < N
    · have hjn : j < n := by omega
      obtain ⟨_, _, y, heq, hy, _, f0, _⟩ := HT2.out.evs.at hjn
      cases heq
      have Hy := Lib.hid hy
      clear hy
      obtain ⟨yt, yk, yo, yv, yb⟩ := y
      simp only at f0
      by_cases hyt : yt = t
      · have he := HT2.out.ecell
        obtain ⟨B, hm⟩ := HT2.out.m1
        obtain ⟨x, co, g, rfl, cx, hnco, hgc⟩ := hm.read hjn
        have cg := hgc k hkn
        have Hyt := Lib.hid hyt
        have hq2 : (yt == t) = true := by simpa using hyt
        clear hgc hm hyt
        rcases Bool.eq_false_or_eq_true (hbB (rD l) k j) with hb | hb
        · have Hf : Hid (candB l N t ak ao k = false) := candB_bound hjN hkj ((thE_of Hy.out).trans Hyt.out) hb
          rw [hb] at cg
          clear hb
          go_wp2
          go_ret
          exact ⟨by rw [Hf.out]; rfl, HB2.out⟩
        · have HF2 : Hid (freeP (rD l) (thE l) k t (j + 1) = true) := freeP_succ HFr.out (fun _ _ => hb)
          rw [hb] at cg
          clear hb
          go_wp2
          go_roundw
          case rel => exact ⟨j + 1, by omega, by omega, by go_num, HF2.out, HBr.out⟩
          case measure => simp [intOf]; omega
      · have HF2 : Hid (freeP (rD l) (thE l) k t (j + 1) = true) := freeP_succ HFr.out (fun h _ => absurd ((thE_of Hy.out).symm.trans h) hyt)
        have hq2 : (yt == t) = false := by simpa using hyt
        clear hyt
        go_wp2
        go_roundw
        case rel => exact ⟨j + 1, by omega, by omega, by go_num, HF2.out, HBr.out⟩
        case measure => simp [intOf]; omega
    · have hjN : j = N := by omega
      subst hjN
      go_wp2_with fail
      refine (rrest_calls HT2.out hn hN hkN).mono ?_
      rintro e z3 ⟨vr, rfl, hown, hb⟩
      have HB3 := Lib.hid (HB2.out.trans (hb.mono HB2.out.size))
      have HE3 := Lib.hid (HT2.out.evs.below hb)
      have HO := Lib.hid hown
      have e0 := keep hb e0
      have e1 := keep hb e1
      clear hb hown
      have Hrl : Hid ((∀ q ∈ restP (rD l) k j, q < n) ∧ (restP (rD l) k j).length ≤ n) := ⟨fun q hq => by have := (restP_mem.1 hq).1; omega, by have := restP_len (rD l) k j; omega⟩
      go_wp2_with fail
      refine (rstate_calls HE3.out hn (by omega) HO.out Hrl.out.1 Hrl.out.2).mono ?_
      rintro e z4 ⟨rfl, hb⟩
      have HB4 := Lib.hid (HB3.out.trans (hb.mono HB3.out.size))
      have e0 := keep hb e0
      have e1 := keep hb e1
      clear hb
      have HG2 := Lib.hid (takes_good (takes_good good0 (l.take k)) (evsAt l (restP (rD l) k j)))
      have Hy2 := Lib.hid (Hyes.out HFr.out)
      revert HG2 Hy2
      generalize takes (takes log0 (l.take k)) (evsAt l (restP (rD l) k j)) = S2
      intro HG2 Hy2
      go_wp2_with (refine wpList_store_row rfl 80 (.tmp 15) (.tmp 75) rfl z4.heap.size (stArr S2.st S2.ow) rfl rfl 80 zArr (MapKept.heap_alloc z4 _).1 infoState rfl (stArr_one _ _) ?_; have hrow := row_made z4 #[.int .i64 0, .int .i64 0, .int .i64 0, .int .i64 0, .int .i64 0, .int .i64 0, .int .i64 0, .int .i64 0, .int .i64 0, .int .i64 0, .int .i64 0, .int .i64 0, .int .i64 0, .int .i64 0, .int .i64 0, .int .i64 0] (stArr S2.st S2.ow) 80; revert hrow; generalize ((z4.alloc (.cells #[.int .i64 0, .int .i64 0, .int .i64 0, .int .i64 0, .int .i64 0, .int .i64 0, .int .i64 0, .int .i64 0, .int .i64 0, .int .i64 0, .int .i64 0, .int .i64 0, .int .i64 0, .int .i64 0, .int .i64 0, .int .i64 0] 80)).setRow z4.heap.size (stArr S2.st S2.ow)) = z5; intro hrow; have HT5 : Hid (StateAt z5 z4.heap.size S2) := hrow.1; have HB5 := Lib.hid (HB4.out.trans (hrow.2.mono HB4.out.size)); have e0 := keep hrow.2 e0; have e1 := keep hrow.2 e1; clear hrow)
      refine (scan_calls HT5.out HG2.out _ _ _).mono ?_
      rintro e z6 ⟨rfl, hb⟩
      have HB6 := Lib.hid (HB5.out.trans (hb.mono HB5.out.size))
      clear hb
      go_wp2
      go_ret
      exact ⟨by rw [Hy2.out]; rfl, HB6.out⟩

end Go.Proofs.Ytjhlehepnhbbaaa

namespace Go.Proofs.Ytjhlehepnhbbaaa
open Go.ChangeShapes Go.WideShapes Go.ChangeAt Go.RowKit Go.Deep

theorem boolsA_put {n i : Nat} {b : Bool} {f : Nat → Bool} : (boolsA n f).setIfInBounds i (.bool b) = boolsA n (fun x => if x = i then b else f x) := by
  apply Array.ext
  · simp [boolsA]
  · intro j h1 h2
    simp only [boolsA, Array.getElem_setIfInBounds, List.getElem_toArray, List.getElem_map, List.getElem_range]
    by_cases hj : i = j
    · subst hj; simp
    · have : ¬ j = i := fun h => hj h.symm
      simp [hj, this]
theorem RowAt.put {n : Nat} {f : Nat → Bool} {rb : Nat} {wo wx : World} (h : RowAt n f rb wo wx) (i : Nat) (b : Bool) : RowAt n (fun x => if x = i then b else f x) rb wo (wx.setCell ⟨rb, i, none⟩ (.bool b)) :=
  ⟨by rw [← boolsA_put]; exact set_block h.row _, h.below.setCell (p := ⟨rb, i, none⟩) (Nat.le_refl _) _⟩
noncomputable def lastP (r : Nat → Nat → Bool) (c : Nat → Bool) (k j : Nat) : Bool := c k && (List.range j).all fun j => !(decide (k < j) && (c j && hbB r k j))
theorem lastP_end (r : Nat → Nat → Bool) (c : Nat → Bool) (k N : Nat) : lastP r c k N = maxP r c N k := rfl
theorem lastP_start (r : Nat → Nat → Bool) (c : Nat → Bool) (k : Nat) : lastP r c k (k + 1) = c k := by
  unfold lastP
  have : ((List.range (k + 1)).all fun j => !(decide (k < j) && (c j && hbB r k j))) = true := by
    rw [List.all_eq_true]
    intro j hj
    have := List.mem_range.1 hj
    have : decide (k < j) = false := by simp; omega
    simp [this]
  rw [this, Bool.and_true]
theorem lastP_succ {r : Nat → Nat → Bool} {c : Nat → Bool} {k j : Nat} (h : k < j) : lastP r c k (j + 1) = (lastP r c k j && !(c j && hbB r k j)) := by
  unfold lastP
  rw [List.range_succ, List.all_append, ← Bool.and_assoc]
  simp [h]

set_option maxRecDepth 20000 in
set_option maxHeartbeats 16000000 in
theorem rraces_calls {w : World} {rb : Nat} {a0 : Option Addr} {n c : Nat} {v1 v2 : Value} {l : List Ev} (h : ROrdAt w rb a0 n c v1 v2 l) (hg : GoodL n l) {N : Nat} (hN : N ≤ n) (t ak ao : Int) :
    Calls Try.prog 68 #[.pointer (some ⟨rb, 0, none⟩), .int .i64 (N : Int), .int .i64 t, .agg #[.int .i64 ak, .int .i64 ao]] w (OwnsPost eltI w (natsI (racesP (rD l) (candB l N t ak ao) N))) := by
  have hn := hg.le
  have HT := Lib.hid h
  have HG := Lib.hid hg
  clear h hg
  have b1 : Below w.heap.size w (w.alloc (.cells #[.int .i64 ak, .int .i64 ao] 50)) := (Below.refl _ w).alloc (Nat.le_refl _) _
  have r1 := (MapKept.heap_alloc w (.cells #[.int .i64 ak, .int .i64 ao] 50)).1
  have s1 : (w.alloc (.cells #[.int .i64 ak, .int .i64 ao] 50)).heap.size = w.heap.size + 1 := by simp
  have HR := Lib.hid (And.intro b1 (And.intro r1 s1))
  clear b1 r1 s1
  go_enter Try.func68, Try.ntmps68
  go_wp2_with (refine wpList_makeB rfl (.tmp 15) (.tmp 15) rfl N (by omega) rfl rfl ?_)
  revert HR
  generalize w.alloc (.cells #[.int .i64 ak, .int .i64 ao] 50) = w1
  intro HR
  obtain ⟨g0, hg0⟩ : ∃ g0, g0 = w.heap.size := ⟨_, rfl⟩
  have hA2 : w1.heap[g0]? = some (.cells #[.int .i64 ak, .int .i64 ao] 50 (0, 0)) := by rw [hg0]; exact HR.out.2.1
  have Hgs : Hid (w1.heap.size = g0 + 1) := by rw [hg0]; exact HR.out.2.2
  rw [← hg0]
  have e0 : w1.cell? ⟨g0, 0, none⟩ = some (.int .i64 ak) := cell_of_block hA2
  have e1 : w1.cell? ⟨g0, 1, none⟩ = some (.int .i64 ao) := cell_of_block hA2
  have HB1 := Lib.hid HR.out.1
  have HT1 := Lib.hid (HT.out.below HB1.out)
  clear hg0 hA2 HR HT
  have hcand : ∀ W, Below w1.heap.size w1 W → ∀ k, k < N → Calls Try.prog 93 #[.pointer (some ⟨rb, 0, none⟩), .int .i64 (N : Int), .int .i64 t, .agg #[.int .i64 ak, .int .i64 ao], .int .i64 (k : Int)] W fun e w' => e = .returned (.bool (candB l N t ak ao k)) ∧ Below W.heap.size W w' := fun W hW k hk => rcand_calls (HT1.out.below hW) HG.out hN hk t ak ao
  have Hc := Lib.hid hcand
  clear hcand
  obtain ⟨C, hC⟩ : ∃ C, C = candB l N t ak ao := ⟨_, rfl⟩
  rw [← hC] at Hc ⊢
  have HC := Lib.hid hC
  clear hC
  have HS : RowAt N (fun i => decide (i < 0) && C i) w1.heap.size w1 (w1.alloc (.cells (boolsA N fun _ => false) 4)) := ⟨by rw [boolsA_congr (g := fun _ => false) (fun i _ => by simp)]; exact (MapKept.heap_alloc w1 _).1, (Below.refl _ w1).alloc (Nat.le_refl _) _⟩
  revert HS
  generalize w1.alloc (.cells (boolsA N fun _ => false) 4) = w2
  intro HS
  rw [Hgs.out] at HS
  obtain ⟨gb, hgb⟩ : ∃ gb, gb = g0 + 1 := ⟨_, rfl⟩
  rw [← hgb] at HS ⊢
  rw [← Hgs.out] at hgb
  have Hgb := Lib.hid hgb
  have HS2 := Lib.hid HS
  clear hgb HS
  go_wp2_with fail
  go_loopw [10] (fun x wr => ∃ k : Nat, k ≤ N ∧ x = .int .i64 k ∧ Hid (RowAt N (fun i => decide (i < k) && C i) gb w1 wr)) (fun x _ => N - (intOf x).toNat)
  case atStart => exact ⟨0, Nat.zero_le _, by go_num, HS2.out⟩
  case round =>
    clear HS2
    obtain ⟨k, hk, rfl, HS⟩ := hrel
    have HBr : Hid (Below w1.heap.size w1 wr) := by have := HS.out.below; rw [Hgb.out] at this; exact this
    by_cases hkN : k < N
    · have e0 := keep HBr.out e0
      have e1 := keep HBr.out e1
      go_wp2_with fail
      refine (Hc.out _ HBr.out k hkN).mono ?_
      rintro e wy ⟨rfl, hb⟩
      have HSy := Lib.hid (HS.out.go hb)
      obtain ⟨gc, gf⟩ := HSy.out.get hkN
      clear hb e0 e1 HS HBr
      go_wp2
      go_roundw
      case rel => exact ⟨k + 1, by omega, by go_num, (HSy.out.put k (C k)).of (fun i _ => by
        by_cases h : i = k
        · subst h; simp
        · have : decide (i < k + 1) = decide (i < k) := by rw [decide_eq_decide]; omega
          rw [if_neg h, this])⟩
      case measure => simp [intOf]; omega
    · have hkN : k = N := by omega
      subst hkN
      have HSA : Hid (RowAt k C gb w1 wr) := HS.out.of fun i hi => by simp [hi]
      have HTr := Lib.hid (HT1.out.below HBr.out)
      have HBw := Lib.hid (HB1.out.trans (HBr.out.mono HB1.out.size))
      have Hgl : Hid (gb < wr.heap.size) := HSA.out.lt
      clear HS HBr e0 e1 Hc HT1
      go_wp2_with fail
      obtain ⟨wo, hwo⟩ : ∃ wo, wo = wr := ⟨_, rfl⟩
      subst hwo
      go_loopw [11, 12, 13, 14] (fun u x _ _ wr => ∃ i : Nat, i ≤ k ∧ x = .int .i64 i ∧ Hid (OwnL eltI wr wo.heap.size u (marks (maxP (rD l) C k) i) ∧ Below wo.heap.size wo wr)) (fun _ x _ _ _ => k - (intOf x).toNat)
      case atStart => exact ⟨0, Nat.zero_le _, by go_num, OwnL.nil .., Below.refl ..⟩
      case round =>
        obtain ⟨i, hi, rfl, HL⟩ := hrel
        by_cases hik : i < k
        · obtain ⟨gi, _⟩ := (HSA.out.go HL.out.2).get hik
          go_wp2_with fail
          clear gi
          obtain ⟨wi, hwi⟩ : ∃ wi, wi = wr := ⟨_, rfl⟩
          subst hwi
          go_loopw [13, 14] (fun x y wr => ∃ j : Nat, i < j ∧ j ≤ k ∧ y = .int .i64 j ∧ x = .bool (lastP (rD l) C i j) ∧ Hid (Below wi.heap.size wi wr)) (fun _ y _ => k - (intOf y).toNat)
          case atStart => exact ⟨i + 1, by omega, by omega, by go_num, by rw [lastP_start], Below.refl ..⟩
          case round =>
            obtain ⟨j, hij, hj, rfl, rfl, HBz⟩ := hrel
            have HL := Lib.hid (And.intro (HL.out.1.below HBz.out) (HL.out.2.trans (HBz.out.mono HL.out.2.size)))
            by_cases hjk : j < k
            · obtain ⟨gj, _⟩ := (HSA.out.go HL.out.2).get hjk
              have hjn : j < n := by omega
              have hin : i < n := by omega
              have he := keep HL.out.2 HTr.out.ecell
              obtain ⟨B, hm⟩ := HTr.out.m1
              obtain ⟨x, co, g, rfl, cx, hnco, hgc⟩ := (hm.below HL.out.2).read hjn
              have cg := hgc i hin
              have Hls : Hid (lastP (rD l) C i (j + 1) = (lastP (rD l) C i j && !(C j && hbB (rD l) i j))) := lastP_succ hij
              clear hm hgc
              rcases Bool.eq_false_or_eq_true (C j) with hcj | hcj
              · rcases Bool.eq_false_or_eq_true (hbB (rD l) i j) with hb | hb
                · have Hl2 : Hid (lastP (rD l) C i (j + 1) = false) := by rw [Hid, Hls.out, hcj, hb]; simp
                  rw [hcj] at gj
                  rw [hb] at cg
                  clear hb hcj Hls
                  generalize lastP (rD l) C i j = lb at *
                  go_wp2
                  go_roundw
                  case rel => exact ⟨j + 1, by omega, by omega, by go_num, by rw [Hl2.out], HBz.out⟩
                  case measure => simp [intOf]; omega
                · have Hl2 : Hid (lastP (rD l) C i (j + 1) = lastP (rD l) C i j) := by rw [Hid, Hls.out, hcj, hb]; simp
                  rw [hcj] at gj
                  rw [hb] at cg
                  clear hb hcj Hls
                  generalize lastP (rD l) C i j = lb at *
                  go_wp2
                  go_roundw
                  case rel => exact ⟨j + 1, by omega, by omega, by go_num, by rw [Hl2.out], HBz.out⟩
                  case measure => simp [intOf]; omega
              · have Hl2 : Hid (lastP (rD l) C i (j + 1) = lastP (rD l) C i j) := by rw [Hid, Hls.out, hcj]; simp
                rw [hcj] at gj
                clear hcj cg Hls
                generalize lastP (rD l) C i j = lb at *
                go_wp2
                go_roundw
                case rel => exact ⟨j + 1, by omega, by omega, by go_num, by rw [Hl2.out], HBz.out⟩
                case measure => simp [intOf]; omega
            · have hjk : j = k := by omega
              subst hjk
              have Hle : Hid (lastP (rD l) C i j = maxP (rD l) C j i) := rfl
              rcases Bool.eq_false_or_eq_true (lastP (rD l) C i j) with hb | hb
              · have Hmx : Hid (maxP (rD l) C j i = true) := by rw [Hid, ← Hle.out]; exact hb
                rw [hb]
                clear hb Hle
                go_wp2_with (at_builtin; go_loud (refine wpList_push eltI rfl (.tmp 64) (.tmp 66) rfl (i : Int) rfl rfl rfl HL.out.1 HL.out.2.size (by have := marks_len (maxP (rD l) C j) i; omega) ?_); intro v' wz hown hw hv; (have HL' := Lib.hid (And.intro (show OwnL eltI wz wo.heap.size v' (marks (maxP (rD l) C j) (i + 1)) by rw [marks_yes Hmx.out]; exact hown) (Wrote.below HL.out.2 hw HL.out.2.size (fun q hq => (HL.out.1.lt hq).1)))); clear hown hw hv)
                go_roundw
                case rel => exact ⟨i + 1, by omega, by go_num, HL'.out⟩
                case measure => simp [intOf]; omega
              · have Hmx : Hid (maxP (rD l) C j i = false) := by rw [Hid, ← Hle.out]; exact hb
                rw [hb]
                clear hb Hle
                go_wp2
                go_roundw
                case rel => exact ⟨i + 1, by omega, by go_num, by rw [marks_no Hmx.out]; exact HL.out⟩
                case measure => simp [intOf]; omega
        · have hik : i = k := by omega
          subst hik
          go_wp2
          go_ret
          have hfin : ∀ u, OwnL eltI wr wo.heap.size u (marks (maxP (rD l) C i) i) → OwnL eltI wr w.heap.size u (natsI (racesP (rD l) (candB l i t ak ao) i)) := fun u h => by rw [← HC.out]; exact ⟨ownsRow_base h.own HBw.out.size⟩
          exact ⟨_, rfl, hfin _ HL.out.1, HBw.out.trans (HL.out.2.mono HBw.out.size)⟩
end Go.Proofs.Ytjhlehepnhbbaaa

namespace Go.Proofs.Ytjhlehepnhbbaaa
open Go.ChangeShapes Go.WideShapes Go.ChangeAt Go.RowKit Go.Deep

set_option maxRecDepth 20000 in
set_option maxHeartbeats 8000000 in
/-- The target that an event is. -/
theorem tof_calls {w : World} {a0 : Option Addr} {n c : Nat} {l : List Ev} (h : IsEvs w a0 n c l) (hn : n ≤ 100) (b : Nat) {k : Nat} {x : Ev} (hx : l[k]? = some x) (hk : k < n) :
    Calls Try.prog 91 #[.slice a0 n c, .pointer (some ⟨b, 0, none⟩), .int .i64 (k : Int)] w fun e w' => e = .returned (.agg #[.slice a0 n c, .pointer (some ⟨b, 0, none⟩), .int .i64 (k : Int), .int .i64 x.t, .int .i64 x.k, .int .i64 x.o]) ∧ Below w.heap.size w w' := by
  have hnm : n ≤ 9223372036854775807 := by omega
  obtain ⟨bl, off, x', rfl, hx', _, d0, d1, d2, d3, d4⟩ := h.at hk
  rw [hx] at hx'
  cases hx'
  obtain ⟨xt, xk, xo, xv, xb⟩ := x
  simp only at d0 d1 d2 d3 d4 ⊢
  have hnc : n ≤ c := h.le
  clear h hx
  have b1 : Below w.heap.size w (w.alloc (.cells #[.slice none 0 0, .pointer none, .int .i64 0, .int .i64 0, .int .i64 0, .int .i64 0] 140)) := (Below.refl _ w).alloc (Nat.le_refl _) _
  have r1 := (MapKept.heap_alloc w (.cells #[.slice none 0 0, .pointer none, .int .i64 0, .int .i64 0, .int .i64 0, .int .i64 0] 140)).1
  have HR := Lib.hid (And.intro b1 r1)
  have d0 := keep b1 d0
  have d1 := keep b1 d1
  have d2 := keep b1 d2
  clear b1 r1 d3 d4
  go_enter Try.func91, Try.ntmps91
  go_wp2_with fail
  revert HR d0 d1 d2
  generalize w.alloc (.cells #[.slice none 0 0, .pointer none, .int .i64 0, .int .i64 0, .int .i64 0, .int .i64 0] 140) = w1
  intro HR d0 d1 d2
  refine wp_ext_draw 20 mixed (by kernel_rfl) ?_
  simp only [List.take_succ_cons, List.take_zero, List.drop_succ_cons, List.drop_zero]
  repeat ((first | ((apply TextRun.go rfl rfl rfl); (focus (intro w1 hS K hK; have hc := bcell hS; have hs := blt hS; have d0 := keep hS d0; have d1 := keep hS d1; have d2 := keep hS d2; go_wp2_with (fail); first | done | exact hS | exact hS.trans (hb.mono hS.size)))) | (refine TextRun.skip rfl ?_) | ((refine TextRun.wantedT rfl rfl rfl ?_); (apply Exists.intro); (apply And.intro); (focus (intro w1 hS K hK; have hc := bcell hS; have hs := blt hS; have d0 := keep hS d0; have d1 := keep hS d1; have d2 := keep hS d2; go_wp2_with (fail); first | done | exact hS | exact hS.trans (hb.mono hS.size))))); (simp only [Act.put, List.setIfInBounds_toArray, List.set_cons_zero, List.set_cons_succ]))
  refine TextRun.done ?_
  intro z2 hb
  have hR2 : z2.heap[w.heap.size]? = some (.cells #[.slice none 0 0, .pointer none, .int .i64 0, .int .i64 0, .int .i64 0, .int .i64 0] 140 (0, 0)) := (hb.block _ ((Array.getElem?_eq_some_iff.1 HR.out.2).1)).trans HR.out.2
  have HR2 := Lib.hid hR2
  have HB2 := Lib.hid (HR.out.1.trans (hb.mono HR.out.1.size))
  clear hb hR2 d0 d1 d2 HR
  have hR4 := setRow_heap z2 w.heap.size _ #[.slice (some ⟨bl, off, none⟩) n c, .pointer (some ⟨b, 0, none⟩), .int .i64 (k : Int), .int .i64 xt, .int .i64 xk, .int .i64 xo] _ _ HR2.out
  have HR4 := Lib.hid hR4
  have HB4 := Lib.hid (below_setRow HB2.out (Nat.le_refl _) #[.slice (some ⟨bl, off, none⟩) n c, .pointer (some ⟨b, 0, none⟩), .int .i64 (k : Int), .int .i64 xt, .int .i64 xk, .int .i64 xo])
  clear hR4
  go_wp2_with (refine wpList_store_row rfl 140 (.tmp 6) (.tmp 26) rfl w.heap.size #[.slice (some ⟨bl, off, none⟩) n c, .pointer (some ⟨b, 0, none⟩), .int .i64 (k : Int), .int .i64 xt, .int .i64 xk, .int .i64 xo] rfl rfl 140 _ HR2.out (by kernel_rfl) rfl (by simp [Value.oneCell']) ?_)
  (try simp only [Exit.inBlock, Exit.then])
  refine bodyPost_ret (results_cell_row rfl _ _ w.heap.size 140 _ (0, 0) _ rfl HR4.out Try.underlying140 rfl (by kernel_rfl)) rfl ?_
  exact ⟨rfl, HB4.out⟩

/-- The races of the event at k. -/
noncomputable def racesAt (l : List Ev) (k : Nat) : List Nat := racesP (rD l) (candB l k (l.getD k ev00).t (l.getD k ev00).k (l.getD k ev00).o) k
noncomputable def raceRes (n : Nat) (l : List Ev) (i : Int) : List Int × Int := if wrongS n l ≠ 0 then ([], wrongS n l) else if inN n i then (natsI (racesAt l i.toNat), 0) else ([], 1)
theorem raceRes_bad {n : Nat} {l : List Ev} {i : Int} (h : wrongS n l ≠ 0) : raceRes n l i = ([], wrongS n l) := if_pos h
theorem raceRes_out {n : Nat} {l : List Ev} {i : Int} (h : wrongS n l = 0) (hi : inN n i = false) : raceRes n l i = ([], 1) := by unfold raceRes; rw [if_neg (by rw [h]; simp), hi]; rfl
theorem raceRes_in {n : Nat} {l : List Ev} {k : Nat} (h : wrongS n l = 0) (hk : k < n) : raceRes n l (k : Int) = (natsI (racesAt l k), 0) := by
  unfold raceRes; rw [if_neg (by rw [h]; simp), inN_nat, decide_eq_true hk]; rfl
/-- What both Of hand back. -/
def RacePost (w : World) (r : List Int × Int) (e : Ending) (w' : World) : Prop := ∃ v, e = .returned (.tuple #[v, .int .i64 r.2]) ∧ OwnL eltI w' w.heap.size v r.1 ∧ Below w.heap.size w w'
theorem RacePost.none {w w' : World} {z : Int} (hb : Below w.heap.size w w') : RacePost w ([], z) (.returned (.tuple #[.slice none 0 0, .int .i64 z])) w' := ⟨_, rfl, OwnL.nil .., hb⟩

set_option maxRecDepth 20000 in
set_option maxHeartbeats 8000000 in
theorem raceOf_calls {w : World} {a0 : Option Addr} {n c : Nat} {l : List Ev} (h : IsEvs w a0 n c l) (i : Int) :
    Calls Try.prog 66 #[.slice a0 n c, .int .i64 i] w (RacePost w (raceRes n l i)) := by
  have hnm : n ≤ 9223372036854775807 := by have := h.le; have := h.cap; unfold maxLen at *; omega
  have Hev := Lib.hid h
  have Ho := Lib.hid (order_calls h)
  clear h
  go_enter Try.func66, Try.ntmps66
  go_wp2_with fail
  refine Ho.out.mono ?_
  rintro e w1 ⟨hb1, ⟨hz, rfl⟩ | ⟨hz, hg, b, v, rfl, hO⟩⟩
  · have HB1 := Lib.hid hb1
    have Hr := Lib.hid (raceRes_bad (i := i) hz)
    have hz' : (wrongS n l != 0) = true := by simpa [bne] using hz
    have Hq : Hid (RacePost w (raceRes n l i) (.returned (.tuple #[.slice none 0 0, .int .i64 (wrongS n l)])) w1) := by rw [Hid, Hr.out]; exact RacePost.none HB1.out
    clear hb1 hz Ho Hr
    generalize wrongS n l = z at *
    go_wp2
    go_returns
    exact Hq.out
  have HB1 := Lib.hid hb1
  have HG := Lib.hid hg
  have HO := Lib.hid hO
  have Hz := Lib.hid hz
  clear hb1 hg hO hz Ho
  rcases inN_cases n i with hi | ⟨k, rfl, hk⟩
  · have Hr := Lib.hid (raceRes_out Hz.out hi)
    have Hq : Hid (RacePost w (raceRes n l i) (.returned (.tuple #[.slice none 0 0, .int .i64 1])) w1) := by rw [Hid, Hr.out]; exact RacePost.none HB1.out
    by_cases h0 : i < 0
    · have h1 : decide (i < 0) = true := by simpa using h0
      clear hi Hr
      go_wp2
      go_returns
      exact Hq.out
    · have h1 : decide (i < 0) = false := by simpa using h0
      have h2 : decide ((n : Int) ≤ i) = true := by
        have : ¬ (0 ≤ i ∧ i < (n : Int)) := fun h => by rw [inN_iff.2 h] at hi; cases hi
        simp; omega
      clear hi Hr h0
      go_wp2
      go_returns
      exact Hq.out
  have Hr := Lib.hid (raceRes_in Hz.out hk)
  obtain ⟨x, hx⟩ : ∃ x, l[k]? = some x := ⟨_, List.getElem?_eq_getElem (by have := HG.out.len; omega)⟩
  have Hx := Lib.hid hx
  clear hx
  go_wp2_with fail
  refine (tof_calls (Hev.out.below HB1.out) HG.out.le b Hx.out hk).mono ?_
  rintro e w2 ⟨rfl, hb⟩
  have HT2 : Hid (TgAt w2 w.heap.size b v l n a0 c) := ⟨Hev.out.below (HB1.out.trans (hb.mono HB1.out.size)), HO.out.below hb, HG.out, Hz.out⟩
  have HB2 := Lib.hid (HB1.out.trans (hb.mono HB1.out.size))
  clear hb
  go_wp2_with fail
  refine (races_calls HT2.out (show k ≤ n by omega) x.t x.k x.o).mono ?_
  rintro e w3 ⟨u, rfl, hown, hb⟩
  have Hres : Hid (RacePost w (raceRes n l (k : Int)) (.returned (.tuple #[u, .int .i64 0])) w3) := by
    rw [Hid, Hr.out]
    refine ⟨u, rfl, ⟨ownsRow_base ?_ HB2.out.size⟩, HB2.out.trans (hb.mono HB2.out.size)⟩
    have : racesAt l k = racesP (rD l) (candB l k x.t x.k x.o) k := by unfold racesAt; rw [getD_of Hx.out]
    rw [this]
    exact hown.own
  clear hown hb
  go_wp2
  go_returns
  exact Hres.out

def three0 : List Ev := [⟨0, 6, 1, 0, 0⟩, ⟨1, 2, 0, 0, 0⟩, ⟨0, 2, 0, 0, 0⟩]
theorem three_wrong : wrongS 3 three0 = 0 := by decide
theorem three_res : raceRes 3 three0 2 = ([1], 0) := by
  have h : raceRes 3 three0 ((2 : Nat) : Int) = (natsI (racesAt three0 2), 0) := raceRes_in three_wrong (by omega)
  have h0 : maxP (rD three0) (candB three0 2 0 2 0) 2 0 = false := by
    have hc : candB three0 2 0 2 0 0 = false := candB_same rfl
    unfold maxP; rw [hc]; rfl
  have h1 : maxP (rD three0) (candB three0 2 0 2 0) 2 1 = true := maxP_iff.2 ⟨by
    rw [candB_yes (by decide) (by decide) (freeP_iff.2 fun j hj hk => absurd hk (by omega)), restP_start]
    decide, fun j hj hk => absurd hk (by omega)⟩
  have h2 : racesAt three0 2 = [1] := by
    show ([0, 1] : List Nat).filter (maxP (rD three0) (candB three0 2 0 2 0) 2) = [1]
    rw [List.filter_cons, h0, List.filter_cons, h1]
    rfl
  rw [h2] at h
  exact h
def three0A : Array Value := #[.int .i64 0, .int .i64 6, .int .i64 1, .int .i64 0, .int .i64 0, .int .i64 1, .int .i64 2, .int .i64 0, .int .i64 0, .int .i64 0, .int .i64 0, .int .i64 2, .int .i64 0, .int .i64 0, .int .i64 0]
theorem three_evs (w : World) : IsEvs (w.alloc (.cells #[.int .i64 0, .int .i64 6, .int .i64 1, .int .i64 0, .int .i64 0, .int .i64 1, .int .i64 2, .int .i64 0, .int .i64 0, .int .i64 0, .int .i64 0, .int .i64 2, .int .i64 0, .int .i64 0, .int .i64 0] 36)) (some ⟨w.heap.size, 0, none⟩) 3 3 three0 := by
  refine ⟨⟨rfl, fun _ => ⟨w.heap.size, 0, rfl, fun j u hj => ?_⟩⟩, rfl, Nat.le_refl _, by unfold maxLen; omega, fun e he => ?_⟩
  · rw [Nat.zero_add]; exact cell_new (by rw [← Array.getElem?_toList]; exact hj)
  · simp only [three0, List.mem_cons, List.not_mem_nil, or_false] at he
    rcases he with rfl | rfl | rfl
    all_goals exact ⟨Fit.of (by decide) (by decide), Fit.of (by decide) (by decide), Fit.of (by decide) (by decide), Fit.of (by decide) (by decide), Fit.of (by decide) (by decide)⟩
theorem wrong_le {n : Nat} {l : List Ev} (h : wrongS n l = 0) : n ≤ 100 := by
  by_cases h2 : 100 < n
  · rw [wrongS, if_pos h2] at h; cases h
  · omega
theorem racesAt_lt {l : List Ev} {k x : Nat} (h : x ∈ racesAt l k) : x < k := by
  unfold racesAt racesP at h
  exact List.mem_range.1 (List.mem_filter.1 h).1
theorem raceRes_fit (n : Nat) (l : List Ev) (i : Int) : ∀ x ∈ (raceRes n l i).1, Fit x := by
  by_cases hz : wrongS n l = 0
  · rcases inN_cases n i with hi | ⟨k, rfl, hk⟩
    · rw [raceRes_out hz hi]; intro x hx; cases hx
    · rw [raceRes_in hz hk]
      have := wrong_le hz
      exact nats_fit (n := k) (fun x hx => racesAt_lt hx) (by omega)
  · rw [raceRes_bad hz]; intro x hx; cases hx

end Go.Proofs.Ytjhlehepnhbbaaa

namespace Go.Proofs.Ytjhlehepnhbbaaa
open Go.ChangeShapes Go.WideShapes Go.ChangeAt Go.RowKit Go.Deep

/-- A list of pairs as it is read. -/
structure SeesP (w : World) (v : Value) (xs : List (Int × Int)) : Prop where
  ex : ∃ a c, v = .slice a xs.length c ∧ xs.length ≤ c ∧ c ≤ maxLen ∧ ∀ (i : Nat) (p : Int × Int), xs[i]? = some p → ∃ g, a = some ⟨g, 0, none⟩ ∧ w.cell? ⟨g, i * 2, none⟩ = some (.int .i64 p.1) ∧ w.cell? ⟨g, i * 2 + 1, none⟩ = some (.int .i64 p.2)
theorem SeesP.below {w w' : World} {v : Value} {xs : List (Int × Int)} (h : SeesP w v xs) (hb : Below w.heap.size w w') : SeesP w' v xs := by
  obtain ⟨a, c, h1, h2, h3, h4⟩ := h.ex
  exact ⟨a, c, h1, h2, h3, fun i p hp => by
    obtain ⟨g, h5, h6, h7⟩ := h4 i p hp
    exact ⟨g, h5, keep hb h6, keep hb h7⟩⟩
theorem SeesP.clip {w : World} {a : Option Addr} {n c : Nat} {xs : List (Int × Int)} (h : SeesP w (.slice a n c) xs) : SeesP w (.slice a n n) xs := by
  obtain ⟨a', c', h1, h2, h3, h4⟩ := h.ex
  cases h1
  exact ⟨a, _, rfl, Nat.le_refl _, Nat.le_trans h2 h3, h4⟩

end Go.Proofs.Ytjhlehepnhbbaaa
