/-
  Orders: counts, lists of one's own, exchanges, and the walks of OrderOf, OrderGoes, OrderStays and OrderLists.
-/
import Derived.Test.YtadngicebbnnlaaKnow
import Derived.Test.YtadngicebbnnlaaApp
import Derived.Test.YtadngicebbnnlaaLogRaw
import Derived.Test.YtadngicebbnnlaaClock
import Derived.Test.YtadngicebbnnlaaMat
import Derived.Test.YtadngicebbnnlaaOf
import Derived.Test.YtadngicebbnnlaaDep2
import Derived.Test.YtadngicebbnnlaaBoth
import Derived.BigRegion
set_option linter.unusedSimpArgs false
set_option linter.unusedVariables false
namespace Go.Proofs.Ytadngicebbnnlaa
open Go Go.RowKit

/-- How many of a thread's places lie ahead. -/
def cntI (th : Nat → Int) (t : Int) (K : Nat) : Nat := ((List.range K).filter fun i => th i == t).length
theorem cntI_succ (th : Nat → Int) (t : Int) (K : Nat) : cntI th t (K + 1) = cntI th t K + (th K == t).toNat := by
  unfold cntI; rw [List.range_succ, List.filter_append, List.length_append]
  cases h : th K == t <;> simp [h]
theorem cntT_is (th : Nat → Int) (j K : Nat) : cntT th j K = cntI th (th j) K := rfl
theorem cntI_mono (th : Nat → Int) (t : Int) {K L : Nat} (h : K ≤ L) : cntI th t K ≤ cntI th t L := by
  induction h with
  | refl => exact Nat.le_refl _
  | step _ ih => rw [cntI_succ]; omega
theorem cntI_le (th : Nat → Int) (t : Int) : ∀ K, cntI th t K ≤ K
  | 0 => by simp [cntI]
  | K + 1 => by rw [cntI_succ]; have := cntI_le th t K; have := Bool.toNat_le (th K == t); omega
theorem numT_is (th : Nat → Int) (k : Nat) : numT th k = cntI th (th k) k + 1 := rfl
theorem numT_le_cnt (th : Nat → Int) {k n : Nat} (h : k < n) : numT th k ≤ cntI th (th k) n := by
  rw [numT_is]
  have h1 := cntI_mono th (th k) (show k + 1 ≤ n from h)
  rw [cntI_succ] at h1
  simp at h1
  omega

/-- The document's count for a clock, K places taken in. -/
noncomputable def cntV (r : Nat → Nat → Bool) (th : Nat → Int) (j : Nat) (t : Int) (K : Nat) : Nat := ((List.range K).filter fun k => th k == t && (k == j || hbB r k j)).length
theorem cntV_succ (r : Nat → Nat → Bool) (th : Nat → Int) (j : Nat) (t : Int) (K : Nat) : cntV r th j t (K + 1) = cntV r th j t K + (th K == t && (K == j || hbB r K j)).toNat := by
  unfold cntV; rw [List.range_succ, List.filter_append, List.length_append]
  cases h : (th K == t && (K == j || hbB r K j)) <;> simp [h]
theorem cntV_zero (r : Nat → Nat → Bool) (th : Nat → Int) (j : Nat) (t : Int) : cntV r th j t 0 = 0 := rfl
theorem cntV_le (r : Nat → Nat → Bool) (th : Nat → Int) (j : Nat) (t : Int) : ∀ K, cntV r th j t K ≤ K
  | 0 => by simp [cntV]
  | K + 1 => by rw [cntV_succ]; have := cntV_le r th j t K; have := Bool.toNat_le (th K == t && (K == j || hbB r K j)); omega

theorem accV_att {r : Nat → Nat → Bool} {V : Nat → List Int} {j t : Nat} (ht : t < 8) : ∀ {K : Nat}, (∀ i, i < K → (V i).length = 8) →
    (accV r V j K).getD t 0 = 0 ∨ ∃ k, k < K ∧ (accV r V j K).getD t 0 = (V k).getD t 0
  | 0, _ => .inl (by unfold accV; rw [List.getD_eq_getElem?_getD, List.getElem?_replicate]; split <;> rfl)
  | K + 1, h => by
    have hl := accV_len (r := r) (V := V) (j := j) (K := K) (fun i hi => h i (by omega))
    have ih := accV_att (r := r) (V := V) (j := j) ht (K := K) (fun i hi => h i (by omega))
    unfold accV
    cases hr : r K j
    · simp only [Bool.false_eq_true, if_false]
      rcases ih with h1 | ⟨k, hk, h1⟩
      · exact .inl h1
      · exact .inr ⟨k, by omega, h1⟩
    · simp only [if_true]
      rw [zip_getD (by rw [hl, h K (by omega)]) (by omega)]
      rcases Int.le_total ((accV r V j K).getD t 0) ((V K).getD t 0) with hm | hm
      · exact .inr ⟨K, by omega, Int.max_eq_right hm⟩
      · rw [Int.max_eq_left hm]
        rcases ih with h1 | ⟨k, hk, h1⟩
        · exact .inl h1
        · exact .inr ⟨k, by omega, h1⟩
theorem vec_att {r : Nat → Nat → Bool} {th : Nat → Int} {t : Nat} (ht : t < 8) : ∀ (j : Nat), (vec r th j).getD t 0 = 0 ∨ ∃ k, k ≤ j ∧ (th k).toNat = t ∧ (vec r th j).getD t 0 = (numT th k : Int) := by
  intro j
  induction j using Nat.strongRecOn with
  | _ j ih =>
    have hl := accV_len (r := r) (V := vec r th) (j := j) (K := j) (fun i _ => vec_len r th i)
    rw [vec_eq]
    by_cases he : (th j).toNat = t
    · rw [he, getD_set_eq (by omega)]; exact .inr ⟨j, Nat.le_refl _, he, rfl⟩
    · rw [getD_set_ne' he]
      rcases accV_att (r := r) (V := vec r th) (j := j) ht (K := j) (fun i _ => vec_len r th i) with h1 | ⟨k, hk, h1⟩
      · exact .inl h1
      · rw [h1]
        rcases ih k hk with h2 | ⟨q, hq, h2, h3⟩
        · exact .inl h2
        · exact .inr ⟨q, by omega, h2, h3⟩
/-- A clock counts what happens before, itself among it. -/
theorem vec_cnt {r : Nat → Nat → Bool} {th : Nat → Int} {n : Nat} (hth : ∀ i, i < n → 0 ≤ th i ∧ th i < 8) (hR : ∀ i j, i < j → j < n → th i = th j → r i j = true) {j t : Nat} (hj : j < n) (ht : t < 8) :
    (vec r th j).getD t 0 = (cntV r th j (t : Int) n : Int) := by
  obtain ⟨m, hm, hmle⟩ : ∃ m : Nat, (vec r th j).getD t 0 = (m : Int) ∧ m ≤ cntI th (t : Int) n := by
    rcases vec_att (r := r) (th := th) ht j with h | ⟨k, hk, h1, h2⟩
    · exact ⟨0, by simpa using h, Nat.zero_le _⟩
    · refine ⟨numT th k, h2, ?_⟩
      have h3 := hth k (by omega)
      have : th k = (t : Int) := by omega
      rw [← this]
      exact numT_le_cnt th (by omega)
  have key : ∀ K, K ≤ n → cntV r th j (t : Int) K = min m (cntI th (t : Int) K) := by
    intro K
    induction K with
    | zero => intro _; simp [cntV_zero, cntI]
    | succ K ih =>
      intro hK
      rw [cntV_succ, cntI_succ, ih (by omega)]
      by_cases he : th K = (t : Int)
      · have e1 : (th K == (t : Int)) = true := by simpa using he
        have hkn := vec_known (r := r) (n := n) hth hR (i := K) (by omega) hj
        have e2 : (th K).toNat = t := by omega
        rw [e2, hm] at hkn
        have e3 : (K == j || hbB r K j) = decide (numT th K ≤ m) := by
          rw [Bool.eq_iff_iff, decide_eq_true_iff]
          simp only [Bool.or_eq_true, beq_iff_eq, hbB_iff]
          rw [← hkn]
          omega
        rw [e1, e3, numT_is, he, Bool.true_and]
        by_cases h4 : cntI th (t : Int) K + 1 ≤ m
        · rw [decide_eq_true h4]; simp only [Bool.toNat_true]; omega
        · rw [decide_eq_false h4]; simp only [Bool.toNat_true, Bool.toNat_false]; omega
      · have e1 : (th K == (t : Int)) = false := by simpa using he
        rw [e1]; simp
  rw [hm, key n (Nat.le_refl _)]
  omega

/-- Where a place goes when those at i and i + 1 are exchanged. -/
def sw (i k : Nat) : Nat := if k = i then i + 1 else if k = i + 1 then i else k
theorem sw_sw (i k : Nat) : sw i (sw i k) = k := by unfold sw; split <;> (try split) <;> (try split) <;> omega
theorem sw_lt {i k n : Nat} (hi : i + 1 < n) (hk : k < n) : sw i k < n := by unfold sw; split <;> (try split) <;> omega
theorem HB.swap {r r' : Nat → Nat → Bool} {i : Nat} (hr : ∀ x y, r' (sw i x) (sw i y) = r x y) (h0 : r i (i + 1) = false) {a b : Nat} (h : HB r a b) : HB r' (sw i a) (sw i b) := by
  have lt : ∀ {x y : Nat}, x < y → r x y = true → sw i x < sw i y := by
    intro x y hxy hr1
    by_cases hx : x = i
    · by_cases hy : y = i + 1
      · subst hx; subst hy; rw [h0] at hr1; cases hr1
      · unfold sw; rw [if_pos hx, if_neg (by omega), if_neg hy]; omega
    · unfold sw; rw [if_neg hx]; split <;> split <;> (try split) <;> omega
  induction h with
  | one h hr1 => exact .one (lt h hr1) (by rw [hr]; exact hr1)
  | more _ hk hr1 ih => exact .more ih (lt hk hr1) (by rw [hr]; exact hr1)
theorem hbB_swap {r r' : Nat → Nat → Bool} {i : Nat} (hr : ∀ x y, r' (sw i x) (sw i y) = r x y) (h0 : r i (i + 1) = false) (h1 : r (i + 1) i = false) (a b : Nat) : hbB r' (sw i a) (sw i b) = hbB r a b := by
  rw [Bool.eq_iff_iff, hbB_iff, hbB_iff]
  constructor
  · intro h
    have h2 : ∀ x y, r (sw i x) (sw i y) = r' x y := fun x y => by rw [← hr, sw_sw, sw_sw]
    have h3 : r' i (i + 1) = false := by
      have := hr (i + 1) i
      rw [show sw i (i + 1) = i by unfold sw; simp, show sw i i = i + 1 by unfold sw; simp] at this
      rw [this, h1]
    have := HB.swap h2 h3 h
    rwa [sw_sw, sw_sw] at this
  · exact HB.swap hr h0
end Go.Proofs.Ytadngicebbnnlaa

namespace Go.Proofs.Ytadngicebbnnlaa
open Go Go.RowKit

/-- How an element lies in memory. -/
structure Elt (α : Type) where
  T : TypeId
  e : TypeId
  z : Value
  size : Nat
  bytes : Nat
  f : α → List Value
  ht : Try.prog.underlying T = some (.slice e)
  hi : (Try.prog.info? e).map (fun i => (i.zero, i.size, i.bytes)) = some (some z, size, bytes)
  hz : z.cells.size = size
  hs : 0 < size
  hb : bytes ≤ 1000
  hf : ∀ x, (f x).length = size
  h1 : ∀ x, ∀ u ∈ f x, u.oneCell' = true
def eltI : Elt Int where
  T := 54
  e := 3
  z := .int .i64 0
  size := 1
  bytes := 8
  f := fun x => [.int .i64 x]
  ht := Try.underlying54
  hi := infoInt
  hz := rfl
  hs := by decide
  hb := by decide
  hf := fun _ => rfl
  h1 := fun x u hu => by simp at hu; subst hu; rfl
theorem flat_ints (l : List Int) : l.flatMap eltI.f = l.map (Value.int .i64) := by
  unfold eltI
  induction l with
  | nil => rfl
  | cons a r ih => simp only [List.flatMap_cons, List.map_cons, ih]; rfl

structure OwnL {α : Type} (E : Elt α) (w : World) (B : Nat) (v : Value) (xs : List α) : Prop where
  own : w.ownsRow B E.e E.size v xs.length (xs.flatMap E.f)
section
variable {α : Type} {E : Elt α} {w w' : World} {B : Nat} {v : Value} {xs : List α}
theorem OwnL.nil (E : Elt α) (w : World) (B : Nat) : OwnL E w B (.slice none 0 0) [] := ⟨World.ownsRow_nil ..⟩
theorem OwnL.lt (h : OwnL E w B v xs) {x : Nat} (hx : v.ownBlock = some x) : B ≤ x ∧ x < w.heap.size := h.own.lt x hx
theorem OwnL.at (h : OwnL E w B v xs) (hs : ∀ g, v.ownBlock = some g → w'.heap[g]? = w.heap[g]?) : OwnL E w' B v xs := ⟨ownsRow_at h.own hs⟩
theorem OwnL.below (h : OwnL E w B v xs) (hb : Below w.heap.size w w') : OwnL E w' B v xs := h.at fun g hg => hb.block g (h.lt hg).2
theorem OwnL.wrote {R : Nat → Prop} (h : OwnL E w B v xs) (hw : Wrote R w w') (hn : ∀ g, v.ownBlock = some g → ¬ R g) : OwnL E w' B v xs := h.at fun g hg => hw.block g (h.lt hg).2 (hn g hg)
/-- What one reads of it. -/
theorem OwnL.slice (h : OwnL E w B v xs) : ∃ a c, v = .slice a xs.length c ∧ xs.length ≤ c ∧ c ≤ maxLen ∧ (a = none → xs = []) ∧
    ∀ g o s, a = some ⟨g, o, s⟩ → o = 0 ∧ s = none ∧ B ≤ g ∧ g < w.heap.size ∧ ∀ j u, (xs.flatMap E.f)[j]? = some u → w.cell? ⟨g, j, none⟩ = some u := by
  have hc := fun g => h.own.cells (g := g)
  rcases h.own.2 with ⟨h0, hn⟩ | ⟨g, cap, cur, rfl, hb, hg, hnc, hcm, _⟩
  · subst h0
    have : xs = [] := List.eq_nil_of_length_eq_zero hn
    subst this
    exact ⟨none, 0, rfl, Nat.le_refl _, Nat.zero_le _, fun _ => rfl, fun g o s hq => by cases hq⟩
  · refine ⟨some ⟨g, 0, none⟩, cap, rfl, hnc, hcm, fun hq => (by cases hq), fun g' o s hq => ?_⟩
    cases hq
    refine ⟨rfl, rfl, hb, (Array.getElem?_eq_some_iff.1 hg).1, fun j u hu => ?_⟩
    have := hc g rfl j u hu
    unfold Addr.add at this
    split at this
    · rename_i h0; subst h0; exact this
    · simpa using this
/-- One element more. -/
theorem wpList_push (E : Elt α) {W0 : World} {ops : Array Oper} {rest : List Oper} {o : Oper} {a : Act} {Q : Exit → Act → World → Prop} {cs : Array Value} {t : TypeId} (hgd : o.guard = none) (s x : Operand)
    (ho : o.op = .call { callee := .builtin .append, args := #[s, x], argTypes := #[E.T, E.T] }) (y : α) (hcs : cs.toList = E.f y)
    (hs : a.eval s = v) (hx : a.eval x = .slice (some ⟨W0.heap.size, 0, none⟩) 1 1) (hown : OwnL E W0 B v xs) (hB : B ≤ W0.heap.size) (hcap : xs.length < 1000000)
    (h : ∀ v' w', OwnL E w' B v' (xs ++ [y]) → Wrote (fun q => v.ownBlock = some q) W0 w' → (∀ q, v'.ownBlock = some q → v.ownBlock = some q ∨ W0.heap.size ≤ q) → wpList Try.prog ops Q rest (a.put o.dst v') w') :
    wpList Try.prog ops Q (o :: rest) a (W0.alloc (.cells cs t)) := by
  obtain ⟨i0, hi, hz, hs1, hy⟩ := info_at E.hi
  have hal : Below W0.heap.size W0 (W0.alloc (.cells cs t)) := (Below.refl _ W0).alloc (Nat.le_refl _) _
  have hb := E.hb
  have hm : (xs.length + 1) * E.bytes ≤ 140737488355328 := Nat.le_trans (Nat.mul_le_mul (show xs.length + 1 ≤ 1000000 by omega) hb) (by decide)
  refine wpList_append_at (W0.alloc (.cells cs t)) hgd s x E.T ho B E.e i0 E.z E.size E.bytes E.ht hi hz hs1 hy E.hz E.hs v xs.length (xs.flatMap E.f) hs (hown.below hal).own ⟨W0.heap.size, 0, none⟩ 1 1 (E.f y) hx (by rw [E.hf, Nat.one_mul])
    (fun j u hu => ?_) (E.h1 y) (by unfold maxLen; omega) hm (by simp; omega) (fun v' w' hown' hg _ hv' => ?_)
  · have : cs = (E.f y).toArray := by rw [← hcs]
    rw [this]
    exact cells_new W0 (E.f y) t j u hu
  · refine h v' w' ⟨?_⟩ ?_ ?_
    · rw [List.length_append, List.flatMap_append]; simpa using hown'
    · have h1 : Wrote (fun q => v.ownBlock = some q) (W0.alloc (.cells cs t)) w' := Wrote.of_grown hg (fun q hq => hq)
      exact (Wrote.of_below (R := fun q => v.ownBlock = some q) hal).trans h1 (fun q hq => .inl hq)
    · intro q hq
      rcases hv' q hq with h2 | h2
      · exact .inl h2
      · refine .inr ?_; simp at h2; omega
end
theorem OwnL.ints {w : World} {B : Nat} {v : Value} {xs : List Int} (h : OwnL eltI w B v xs) (hw : ∀ x ∈ xs, Fit x) : ∃ a c, v = .slice a xs.length c ∧ IsInts w a xs.length c xs := by
  obtain ⟨a, c, rfl, h1, h2, h3, h4⟩ := h.slice
  refine ⟨a, c, rfl, ⟨⟨by rw [List.length_map]; omega, fun hn => ?_⟩, rfl, h1, h2, hw⟩⟩
  cases a with
  | none => have := h3 rfl; subst this; simp at hn
  | some ad =>
    obtain ⟨g, o, s⟩ := ad
    obtain ⟨rfl, rfl, _, _, hc⟩ := h4 g o s rfl
    refine ⟨g, 0, rfl, fun j u hu => ?_⟩
    rw [Nat.zero_add]
    exact hc j u (by rw [flat_ints]; exact hu)
/-- Who makes a list of its own and hands it back. -/
def OwnsPost {α : Type} (E : Elt α) (w : World) (xs : List α) (e : Ending) (w' : World) : Prop := ∃ v, e = .returned v ∧ OwnL E w' w.heap.size v xs ∧ Below w.heap.size w w'
theorem nats_fit {xs : List Nat} {n : Nat} (h : ∀ x ∈ xs, x < n) (hn : n ≤ 1000000) : ∀ x ∈ xs.map (fun (k : Nat) => (k : Int)), Fit x := by
  intro x hx
  obtain ⟨k, hk, rfl⟩ := List.mem_map.1 hx
  have := h k hk
  exact Fit.of (by omega) (by omega)
end Go.Proofs.Ytadngicebbnnlaa

namespace Go.Proofs.Ytadngicebbnnlaa
open Go.ChangeShapes Go.WideShapes Go.ChangeAt Go.RowKit Go.Deep

theorem toNat_ne {a b : Int} (ha : inB a = true) (hb : inB b = true) (h : a ≠ b) : b.toNat ≠ a.toNat := by
  have := inB_iff.1 ha; have := inB_iff.1 hb; omega
theorem upd_ne {f : Nat → Int} {i j : Nat} {v : Int} (h : j ≠ i) : upd f i v j = f j := by unfold upd; rw [if_neg h]
theorem upd_comm {f : Nat → Int} {i j : Nat} {v u : Int} (h : i ≠ j) : upd (upd f i v) j u = upd (upd f j u) i v := by
  funext x
  unfold upd
  split <;> split <;> first | rfl | omega

theorem addE_ok {S : LogS} {e : Ev} (h : addE S e = 0) : rB e = true ∧ okB S e = true := by
  unfold addE at h
  cases hr : rB e
  · rw [hr] at h; simp at h
  · cases hk : okB S e
    · rw [hr, hk] at h; simp at h
    · exact ⟨rfl, rfl⟩
theorem addE_of {S : LogS} {e : Ev} (hr : rB e = true) (hk : okB S e = true) : addE S e = 0 := by unfold addE; rw [hr, hk]; rfl
theorem okB_run {S : LogS} {e : Ev} (hk : okB S e = true) : S.st e.t.toNat = 2 := by
  unfold okB canB at hk
  simp only [Bool.and_eq_true, beq_iff_eq] at hk
  exact hk.1.1.2

/-- That two events do not depend on one another, taken apart. -/
structure Indep (e w : Ev) : Prop where
  tt : e.t ≠ w.t
  s1 : e.k = 6 → e.o ≠ w.t
  s2 : w.k = 6 → w.o ≠ e.t
  mm : (e.k = 4 ∨ e.k = 5) → (w.k = 4 ∨ w.k = 5) → e.o ≠ w.o
  bb : e.k = 6 → w.k = 6 → e.o ≠ w.o
  bw : e.k = 6 → w.k = 7 → e.o ≠ w.o
  wb : e.k = 7 → w.k = 6 → e.o ≠ w.o
  ew : e.k = 9 → w.k = 7 → e.t ≠ w.o
  we : e.k = 7 → w.k = 9 → e.o ≠ w.t
theorem Indep.of {e w : Ev} (h : dependsB e.t e.k e.o w.t w.k w.o = false) : Indep e w := by
  obtain ⟨t, k, o, v, x⟩ := e
  obtain ⟨t', k', o', v', x'⟩ := w
  unfold dependsB depAb at h
  simp only [Bool.or_eq_false_iff] at h
  obtain ⟨⟨⟨h1, h2⟩, h3⟩, h4⟩ := h
  refine ⟨by simpa using h1, ?_, ?_, ?_, ?_, ?_, ?_, ?_, ?_⟩
  · rintro rfl; simpa [abOf, Ab.starts] using h3
  · rintro rfl; simpa [abOf, Ab.starts] using h4
  · rintro (rfl | rfl) (rfl | rfl) <;> simpa [abOf, Ab.dep] using h2
  · rintro rfl rfl; simpa [abOf, Ab.dep] using h2
  · rintro rfl rfl; simpa [abOf, Ab.dep] using h2
  · rintro rfl rfl; simpa [abOf, Ab.dep] using h2
  · rintro rfl rfl; simpa [abOf, Ab.dep] using h2
  · rintro rfl rfl; simpa [abOf, Ab.dep] using h2
theorem Indep.symm {e w : Ev} (h : Indep e w) : Indep w e :=
  ⟨fun q => h.tt q.symm, h.s2, h.s1, fun a b q => h.mm b a q.symm, fun a b q => h.bb b a q.symm, fun a b q => h.wb b a q.symm, fun a b q => h.bw b a q.symm, fun a b q => h.we b a q.symm, fun a b q => h.ew b a q.symm⟩

theorem st_off {S : LogS} {e : Ev} {j : Int} (hr : rB e = true) (hj : inB j = true) (h1 : (e.b ≠ 0 ∨ e.k = 9) → e.t ≠ j) (h2 : e.k = 6 → e.o ≠ j) : (turnS S e).st j.toNat = S.st j.toNat := by
  simp only [turnS]
  split
  · rename_i hb
    exact upd_ne (toNat_ne (right_in hr) hj (h1 (.inl (by simpa using hb))))
  · split
    · rename_i hk
      exact upd_ne (toNat_ne (right_obj hr (by simp at hk ⊢; simp [hk])) hj (h2 (by simpa using hk)))
    · split
      · rename_i hk
        exact upd_ne (toNat_ne (right_in hr) hj (h1 (.inr (by simpa using hk))))
      · rfl
theorem ow_off {S : LogS} {e : Ev} {j : Int} (hr : rB e = true) (hj : inB j = true) (h1 : (e.k = 4 ∨ e.k = 5) → e.o ≠ j) : (turnS S e).ow j.toNat = S.ow j.toNat := by
  simp only [turnS]
  split
  · rfl
  · split
    · rename_i hk
      exact upd_ne (toNat_ne (right_obj hr (by simp at hk ⊢; simp [hk])) hj (h1 (.inl (by simpa using hk))))
    · split
      · rename_i hk
        exact upd_ne (toNat_ne (right_obj hr (by simp at hk ⊢; simp [hk])) hj (h1 (.inr (by simpa using hk))))
      · rfl
/-- The state of the thread that did a bad event, as a waiting one sees it. -/
theorem st_bad {S : LogS} {e : Ev} (hb : e.b ≠ 0) : (turnS S e).st e.t.toNat = 4 := by
  simp only [turnS]
  rw [if_pos (by simpa using hb)]
  unfold upd; rw [if_pos rfl]

theorem waitB_off {S : LogS} {e w : Ev} (hr : rB e = true) (hk : okB S e = true) (hi : Indep e w) (ho : (w.k == 4 || w.k == 7) = true → inB w.o = true) : waitB (turnS S e) w.k w.o = waitB S w.k w.o := by
  unfold waitB
  by_cases h4 : w.k = 4
  · have hj := ho (by simp [h4])
    rw [ow_off hr hj (fun hq => hi.mm hq (.inl h4))]
    simp [h4]
  · by_cases h7 : w.k = 7
    · have hj := ho (by simp [h7])
      by_cases hb : e.b ≠ 0 ∧ e.t = w.o
      · rw [← hb.2, st_bad hb.1, okB_run hk]; simp [h7]
      · rw [st_off hr hj (fun hq => by
          rcases hq with hq | hq
          · exact fun h => hb ⟨hq, h⟩
          · exact hi.ew hq h7) (fun hq => hi.bw hq h7)]
        simp [h7]
    · simp [h4, h7]
theorem badB_off {S : LogS} {e w : Ev} (hr : rB e = true) (hk : okB S e = true) (hi : Indep e w) (ho : (w.k == 5 || w.k == 6 || w.k == 7) = true → inB w.o = true) : badB (turnS S e) w.t w.k w.o = badB S w.t w.k w.o := by
  by_cases h5 : w.k = 5
  · have hj := ho (by simp [h5])
    unfold badB
    rw [ow_off hr hj (fun hq => hi.mm hq (.inr h5))]
    simp [h5]
  · by_cases h6 : w.k = 6
    · have hj := ho (by simp [h6])
      unfold badB
      rw [st_off hr hj (fun _ h => hi.s2 h6 h.symm) (fun hq => hi.bb hq h6)]
      simp [h6]
    · by_cases h7 : w.k = 7
      · have hj := ho (by simp [h7])
        have : ((turnS S e).st w.o.toNat == 1) = (S.st w.o.toNat == 1) := by
          by_cases hb : e.b ≠ 0 ∧ e.t = w.o
          · rw [← hb.2, st_bad hb.1, okB_run hk]; rfl
          · rw [st_off hr hj (fun hq => by
              rcases hq with hq | hq
              · exact fun h => hb ⟨hq, h⟩
              · exact hi.ew hq h7) (fun hq => hi.bw hq h7)]
        unfold badB
        rw [this]
        simp [h7]
      · unfold badB
        simp [h5, h6, h7]
theorem canB_off {S : LogS} {e w : Ev} (hr : rB e = true) (hk : okB S e = true) (hi : Indep e w) : canB (turnS S e) w.t w.k w.o = canB S w.t w.k w.o := by
  unfold canB
  cases hw : rightB w.t w.k w.o (if w.k == 8 then 1 else 0) 0
  · rfl
  · rw [waitB_off hr hk hi (fun hq => right_obj hw (by revert hq; simp only [Bool.or_eq_true]; rintro (h | h) <;> simp [h])),
      st_off hr (right_in hw) (fun _ => hi.tt) hi.s1]

theorem leaves_plain {S : LogS} {e w : Ev} (h0 : addE S e = 0) (hd : dependsB e.t e.k e.o w.t w.k w.o = false) : canB (addS S e) w.t w.k w.o = canB S w.t w.k w.o := by
  obtain ⟨hr, hk⟩ := addE_ok h0
  rw [addE_zero h0]
  exact canB_off hr hk (Indep.of hd)

/-! Exchanges. -/
theorem okB_off {S : LogS} {e w : Ev} (hr : rB e = true) (hk : okB S e = true) (hi : Indep e w) (hw : rB w = true) : okB (turnS S e) w = okB S w := by
  unfold okB
  rw [canB_off hr hk hi, badB_off hr hk hi (fun hq => right_obj hw (by revert hq; simp only [Bool.or_eq_true]; rintro ((h | h) | h) <;> simp [h]))]
/-- Two states that agree in what decides. -/
def Like (S T : LogS) : Prop := S.st = T.st ∧ S.ow = T.ow
theorem Like.addE {S T : LogS} (h : Like S T) (e : Ev) : addE S e = addE T e := by
  unfold Go.Proofs.Ytadngicebbnnlaa.addE okB canB waitB badB; rw [h.1, h.2]
theorem Like.addS {S T : LogS} (h : Like S T) (e : Ev) : Like (addS S e) (addS T e) := by
  have hk : okB S e = okB T e := by unfold okB canB waitB badB; rw [h.1, h.2]
  unfold Go.Proofs.Ytadngicebbnnlaa.addS
  rw [hk]
  split
  · exact ⟨by simp only [turnS]; rw [h.1], by simp only [turnS]; rw [h.2]⟩
  · exact h
theorem turn_comm {S : LogS} {a b : Ev} (ha : rB a = true) (hb : rB b = true) (hi : Indep a b) : Like (turnS (turnS S a) b) (turnS (turnS S b) a) := by
  have ia := right_in ha
  have ib := right_in hb
  have oa := fun h => right_obj ha h
  have ob := fun h => right_obj hb h
  have tn := toNat_ne ia ib hi.tt
  have tn' := toNat_ne ib ia (fun h => hi.tt h.symm)
  constructor
  · simp only [turnS]
    by_cases xa : (a.b != 0) = true
    · rw [if_pos xa, if_pos xa]
      by_cases xb : (b.b != 0) = true
      · rw [if_pos xb, if_pos xb]; exact upd_comm tn'
      · rw [if_neg xb, if_neg xb]
        by_cases b6 : (b.k == 6) = true
        · rw [if_pos b6, if_pos b6]; exact upd_comm (fun h => toNat_ne ia (ob (by simp at b6 ⊢; simp [b6])) (fun q => hi.s2 (by simpa using b6) q.symm) h.symm)
        · rw [if_neg b6, if_neg b6]
          by_cases b9 : (b.k == 9) = true
          · rw [if_pos b9, if_pos b9]; exact upd_comm tn'
          · rw [if_neg b9, if_neg b9]
    · rw [if_neg xa, if_neg xa]
      by_cases a6 : (a.k == 6) = true
      · have oa6 := oa (by simp at a6 ⊢; simp [a6])
        have ha6 : a.k = 6 := by simpa using a6
        rw [if_pos a6, if_pos a6]
        by_cases xb : (b.b != 0) = true
        · rw [if_pos xb, if_pos xb]; exact upd_comm (fun h => toNat_ne oa6 ib (hi.s1 ha6) h.symm)
        · rw [if_neg xb, if_neg xb]
          by_cases b6 : (b.k == 6) = true
          · rw [if_pos b6, if_pos b6]; exact upd_comm (fun h => toNat_ne oa6 (ob (by simp at b6 ⊢; simp [b6])) (hi.bb ha6 (by simpa using b6)) h.symm)
          · rw [if_neg b6, if_neg b6]
            by_cases b9 : (b.k == 9) = true
            · rw [if_pos b9, if_pos b9]; exact upd_comm (fun h => toNat_ne oa6 ib (hi.s1 ha6) h.symm)
            · rw [if_neg b9, if_neg b9]
      · rw [if_neg a6, if_neg a6]
        by_cases a9 : (a.k == 9) = true
        · rw [if_pos a9, if_pos a9]
          by_cases xb : (b.b != 0) = true
          · rw [if_pos xb, if_pos xb]; exact upd_comm tn'
          · rw [if_neg xb, if_neg xb]
            by_cases b6 : (b.k == 6) = true
            · rw [if_pos b6, if_pos b6]; exact upd_comm (fun h => toNat_ne ia (ob (by simp at b6 ⊢; simp [b6])) (fun q => hi.s2 (by simpa using b6) q.symm) h.symm)
            · rw [if_neg b6, if_neg b6]
              by_cases b9 : (b.k == 9) = true
              · rw [if_pos b9, if_pos b9]; exact upd_comm tn'
              · rw [if_neg b9, if_neg b9]
        · rw [if_neg a9, if_neg a9]
  · simp only [turnS]
    have key : (a.k = 4 ∨ a.k = 5) → (b.k = 4 ∨ b.k = 5) → a.o.toNat ≠ b.o.toNat := fun p q h =>
      toNat_ne (oa (by rcases p with p | p <;> simp [p])) (ob (by rcases q with q | q <;> simp [q])) (hi.mm p q) h.symm
    by_cases xa : (a.b != 0) = true
    · rw [if_pos xa, if_pos xa]
    · rw [if_neg xa, if_neg xa]
      by_cases xb : (b.b != 0) = true
      · rw [if_pos xb, if_pos xb]
      · rw [if_neg xb, if_neg xb]
        by_cases a4 : (a.k == 4) = true
        · rw [if_pos a4, if_pos a4]
          by_cases b4 : (b.k == 4) = true
          · rw [if_pos b4, if_pos b4]; exact upd_comm (key (.inl (by simpa using a4)) (.inl (by simpa using b4)))
          · rw [if_neg b4, if_neg b4]
            by_cases b5 : (b.k == 5) = true
            · rw [if_pos b5, if_pos b5]; exact upd_comm (key (.inl (by simpa using a4)) (.inr (by simpa using b5)))
            · rw [if_neg b5, if_neg b5]
        · rw [if_neg a4, if_neg a4]
          by_cases a5 : (a.k == 5) = true
          · rw [if_pos a5, if_pos a5]
            by_cases b4 : (b.k == 4) = true
            · rw [if_pos b4, if_pos b4]; exact upd_comm (key (.inr (by simpa using a5)) (.inl (by simpa using b4)))
            · rw [if_neg b4, if_neg b4]
              by_cases b5 : (b.k == 5) = true
              · rw [if_pos b5, if_pos b5]; exact upd_comm (key (.inr (by simpa using a5)) (.inr (by simpa using b5)))
              · rw [if_neg b5, if_neg b5]
          · rw [if_neg a5, if_neg a5]
end Go.Proofs.Ytadngicebbnnlaa

namespace Go.Proofs.Ytadngicebbnnlaa
open Go.ChangeShapes Go.WideShapes Go.ChangeAt Go.RowKit Go.Deep

theorem Like.refl (S : LogS) : Like S S := ⟨rfl, rfl⟩
theorem goOf_cons {S T : LogS} {e : Ev} {r : List Ev} {j p : Nat} (h : goOf S (e :: r) j = (T, 0, p)) : Go.Proofs.Ytadngicebbnnlaa.addE S e = 0 ∧ goOf (Go.Proofs.Ytadngicebbnnlaa.addS S e) r (j + 1) = (T, 0, p) := by
  unfold goOf at h
  by_cases hz : Go.Proofs.Ytadngicebbnnlaa.addE S e = 0
  · rw [if_pos hz] at h; exact ⟨hz, h⟩
  · rw [if_neg hz] at h; simp only [Prod.mk.injEq] at h; exact absurd h.2.1 hz
theorem goOf_put {S : LogS} {e : Ev} {r : List Ev} {j : Nat} (hz : Go.Proofs.Ytadngicebbnnlaa.addE S e = 0) : goOf S (e :: r) j = goOf (Go.Proofs.Ytadngicebbnnlaa.addS S e) r (j + 1) := by
  rw [goOf, if_pos hz]
theorem goOf_like : ∀ (r : List Ev) {S T S' : LogS} {j p : Nat}, Like S T → goOf S r j = (S', 0, p) → ∃ T', goOf T r j = (T', 0, p) ∧ Like S' T'
  | [], S, T, S', j, p, hl, h => by
    unfold goOf at h ⊢
    simp only [Prod.mk.injEq] at h
    obtain ⟨rfl, _, rfl⟩ := h
    exact ⟨T, rfl, hl⟩
  | e :: r, S, T, S', j, p, hl, h => by
    obtain ⟨h1, h2⟩ := goOf_cons h
    have h3 : Go.Proofs.Ytadngicebbnnlaa.addE T e = 0 := by rw [← hl.addE e]; exact h1
    rw [goOf_put h3]
    exact goOf_like r (hl.addS e) h2
theorem exch_two {S : LogS} {a b : Ev} (hi : Indep a b) (ha : Go.Proofs.Ytadngicebbnnlaa.addE S a = 0) (hb : Go.Proofs.Ytadngicebbnnlaa.addE (Go.Proofs.Ytadngicebbnnlaa.addS S a) b = 0) :
    Go.Proofs.Ytadngicebbnnlaa.addE S b = 0 ∧ Go.Proofs.Ytadngicebbnnlaa.addE (Go.Proofs.Ytadngicebbnnlaa.addS S b) a = 0 ∧ Like (Go.Proofs.Ytadngicebbnnlaa.addS (Go.Proofs.Ytadngicebbnnlaa.addS S a) b) (Go.Proofs.Ytadngicebbnnlaa.addS (Go.Proofs.Ytadngicebbnnlaa.addS S b) a) := by
  obtain ⟨ra, ka⟩ := addE_ok ha
  rw [addE_zero ha] at hb ⊢
  obtain ⟨rb, kb⟩ := addE_ok hb
  rw [okB_off ra ka hi rb] at kb
  have h1 := addE_of rb kb
  have h2 : Go.Proofs.Ytadngicebbnnlaa.addE (turnS S b) a = 0 := addE_of ra (by rw [okB_off rb kb hi.symm ra]; exact ka)
  rw [addE_zero h1, addE_zero hb, addE_zero h2]
  exact ⟨h1, h2, turn_comm ra rb hi⟩
def swapAt (l : List Ev) (i : Nat) (a b : Ev) : List Ev := (l.set i b).set (i + 1) a
theorem exch : ∀ (i : Nat) (l : List Ev) {S T : LogS} {j : Nat} {a b : Ev}, goOf S l j = (T, 0, 0) → l[i]? = some a → l[i + 1]? = some b → Indep a b → ∃ T', goOf S (swapAt l i a b) j = (T', 0, 0) ∧ Like T T'
  | 0, [], _, _, _, _, _, _, h, _, _ => by simp at h
  | 0, [x], _, _, _, _, _, _, _, h, _ => by simp at h
  | 0, a :: b :: r, S, T, j, a', b', h, ha, hb, hi => by
    simp only [List.getElem?_cons_zero, List.getElem?_cons_succ, Option.some.injEq, Nat.zero_add] at ha hb
    subst ha hb
    obtain ⟨h1, h2⟩ := goOf_cons h
    obtain ⟨h3, h4⟩ := goOf_cons h2
    obtain ⟨k1, k2, k3⟩ := exch_two hi h1 h3
    have hs : swapAt (a :: b :: r) 0 a b = b :: a :: r := rfl
    rw [hs, goOf_put k1, goOf_put k2]
    exact goOf_like r k3 h4
  | i + 1, [], _, _, _, _, _, _, h, _, _ => by simp at h
  | i + 1, e :: r, S, T, j, a, b, h, ha, hb, hi => by
    simp only [List.getElem?_cons_succ] at ha hb
    obtain ⟨h1, h2⟩ := goOf_cons h
    obtain ⟨T', h3, h4⟩ := exch i r h2 ha hb hi
    have hs : swapAt (e :: r) (i + 1) a b = e :: swapAt r i a b := rfl
    rw [hs, goOf_put h1]
    exact ⟨T', h3, h4⟩
theorem exch_of {l : List Ev} {S : LogS} {i : Nat} {a b : Ev} (hR : ofS l = (S, 0, 0)) (ha : l[i]? = some a) (hb : l[i + 1]? = some b) (hd : dependsB a.t a.k a.o b.t b.k b.o = false) : ∃ T, ofS (swapAt l i a b) = (T, 0, 0) ∧ Like S T :=
  exch i l hR ha hb (Indep.of hd)
end Go.Proofs.Ytadngicebbnnlaa

namespace Go.Proofs.Ytadngicebbnnlaa
open Go.ChangeShapes Go.WideShapes Go.ChangeAt Go.RowKit Go.Deep

theorem own_set1 {w : World} {B g n cap : Nat} {e : TypeId} {size : Nat} {xs : List Value} (h : w.ownsRow B e size (.slice (some ⟨g, 0, none⟩) n cap) n xs) (j : Nat) (u : Value) :
    (w.setCell ⟨g, j, none⟩ u).ownsRow B e size (.slice (some ⟨g, 0, none⟩) n cap) n (xs.set j u) := by
  refine ⟨by rw [List.length_set]; exact h.1, ?_⟩
  rcases h.2 with ⟨h0, _⟩ | ⟨g', cap', cur, hv, hb, hg, hnc, hcm, hcs, ht⟩
  · cases h0
  · cases hv
    exact .inr ⟨g, cap, cur.setIfInBounds j u, rfl, hb, heap_set hg u, hnc, hcm, by simpa using hcs, by rw [Array.toList_setIfInBounds, List.take_set, ht]⟩
theorem evCells_set : ∀ (l : List Ev) (k : Nat) (e : Ev), k < l.length → evCells (l.set k e) = ((((((evCells l).set (k * 5) (.int .i64 e.t)).set (k * 5 + 1) (.int .i64 e.k)).set (k * 5 + 2) (.int .i64 e.o)).set (k * 5 + 3) (.int .i64 e.v)).set (k * 5 + 4) (.int .i64 e.b))
  | [], k, e, h => by simp at h
  | a :: r, 0, e, _ => rfl
  | a :: r, k + 1, e, h => by
    have ih := evCells_set r k e (by simpa using h)
    have e0 : (k + 1) * 5 = k * 5 + 5 := by omega
    rw [e0]
    have hc : evCells (a :: r) = .int .i64 a.t :: .int .i64 a.k :: .int .i64 a.o :: .int .i64 a.v :: .int .i64 a.b :: evCells r := rfl
    have hd : evCells ((a :: r).set (k + 1) e) = .int .i64 a.t :: .int .i64 a.k :: .int .i64 a.o :: .int .i64 a.v :: .int .i64 a.b :: evCells (r.set k e) := rfl
    rw [hc, hd, ih]
    rw [show k * 5 + 5 + 1 = k * 5 + 1 + 5 by omega, show k * 5 + 5 + 2 = k * 5 + 2 + 5 by omega, show k * 5 + 5 + 3 = k * 5 + 3 + 5 by omega, show k * 5 + 5 + 4 = k * 5 + 4 + 5 by omega]
    simp only [List.set_cons_succ]
theorem own_put {w : World} {B g n cap : Nat} {l : List Ev} (h : w.ownsRow B 38 5 (.slice (some ⟨g, 0, none⟩) n cap) n (evCells l)) {k : Nat} (hk : k < l.length) (e : Ev) :
    (((((w.setCell ⟨g, k * 5, none⟩ (.int .i64 e.t)).setCell ⟨g, k * 5 + 1, none⟩ (.int .i64 e.k)).setCell ⟨g, k * 5 + 2, none⟩ (.int .i64 e.o)).setCell ⟨g, k * 5 + 3, none⟩ (.int .i64 e.v)).setCell ⟨g, k * 5 + 4, none⟩ (.int .i64 e.b)).ownsRow B 38 5 (.slice (some ⟨g, 0, none⟩) n cap) n (evCells (l.set k e)) := by
  rw [evCells_set l k e hk]
  exact own_set1 (own_set1 (own_set1 (own_set1 (own_set1 h _ _) _ _) _ _) _ _) _ _
theorem wrote_put (w : World) (g o : Nat) (a b c d e : Value) : Wrote (fun q => q = g) w (((((w.setCell ⟨g, o, none⟩ a).setCell ⟨g, o + 1, none⟩ b).setCell ⟨g, o + 2, none⟩ c).setCell ⟨g, o + 3, none⟩ d).setCell ⟨g, o + 4, none⟩ e) := by
  have h := fun (z : World) (p : Nat) (u : Value) => Wrote.setCell (R := fun q => q = g) z (p := ⟨g, p, none⟩) u rfl
  exact ((((h w o a).trans (h _ (o + 1) b) (fun q hq => .inl hq)).trans (h _ (o + 2) c) (fun q hq => .inl hq)).trans (h _ (o + 3) d) (fun q hq => .inl hq)).trans (h _ (o + 4) e) (fun q hq => .inl hq)
theorem evs_of_own {w : World} {B g n cap : Nat} {l : List Ev} (h : w.ownsRow B 38 5 (.slice (some ⟨g, 0, none⟩) n cap) n (evCells l)) (hwf : ∀ e ∈ l, e.wf) : IsEvs w (some ⟨g, 0, none⟩) n cap l := by
  have hlen : l.length = n := by
    have h1 := h.1
    rw [evCells, flat_len Ev.vals 5 (fun _ => rfl)] at h1
    omega
  have hc := h.cells (g := g) rfl
  have hcm : n ≤ cap ∧ cap ≤ maxLen := by
    rcases h.2 with ⟨h0, _⟩ | ⟨g', cap', cur, hv, hb, hg, hnc, hcm, _⟩
    · cases h0
    · cases hv; exact ⟨hnc, hcm⟩
  refine ⟨⟨by rw [evCells, flat_len Ev.vals 5 (fun _ => rfl), hlen], fun _ => ⟨g, 0, rfl, fun j u hu => ?_⟩⟩, hlen, hcm.1, hcm.2, hwf⟩
  have := hc j u hu
  unfold Addr.add at this
  split at this
  · rename_i hj; subst hj; exact this
  · simpa using this
theorem wrote_swap (w : World) (g o p : Nat) (a b c d e a' b' c' d' e' : Value) : Wrote (fun q => q = g) w ((((((((((w.setCell ⟨g, o, none⟩ a).setCell ⟨g, o + 1, none⟩ b).setCell ⟨g, o + 2, none⟩ c).setCell ⟨g, o + 3, none⟩ d).setCell ⟨g, o + 4, none⟩ e).setCell ⟨g, p, none⟩ a').setCell ⟨g, p + 1, none⟩ b').setCell ⟨g, p + 2, none⟩ c').setCell ⟨g, p + 3, none⟩ d').setCell ⟨g, p + 4, none⟩ e').drew := by
  have h1 := wrote_put w g o a b c d e
  have h2 := wrote_put ((((((w.setCell ⟨g, o, none⟩ a).setCell ⟨g, o + 1, none⟩ b).setCell ⟨g, o + 2, none⟩ c).setCell ⟨g, o + 3, none⟩ d).setCell ⟨g, o + 4, none⟩ e)) g p a' b' c' d' e'
  have h3 := h1.trans h2 (fun q hq => .inl hq)
  exact h3.trans (Wrote.drew (R := fun q => q = g) _) (fun q hq => .inl hq)
theorem own_drew {w : World} {B : Nat} {e : TypeId} {size : Nat} {v : Value} {n : Nat} {xs : List Value} (h : w.ownsRow B e size v n xs) : w.drew.ownsRow B e size v n xs := h
theorem own_swap {w : World} {B g n cap : Nat} {l : List Ev} (h : w.ownsRow B 38 5 (.slice (some ⟨g, 0, none⟩) n cap) n (evCells l)) (k : Nat) (hk : k + 1 < l.length) (xt xk xo xv xb yt yk yo yv yb : Int) :
    ((((((((((w.setCell ⟨g, k * 5, none⟩ (.int .i64 yt)).setCell ⟨g, k * 5 + 1, none⟩ (.int .i64 yk)).setCell ⟨g, k * 5 + 2, none⟩ (.int .i64 yo)).setCell ⟨g, k * 5 + 3, none⟩ (.int .i64 yv)).setCell ⟨g, k * 5 + 4, none⟩ (.int .i64 yb)).setCell ⟨g, (k + 1) * 5, none⟩ (.int .i64 xt)).setCell ⟨g, (k + 1) * 5 + 1, none⟩ (.int .i64 xk)).setCell ⟨g, (k + 1) * 5 + 2, none⟩ (.int .i64 xo)).setCell ⟨g, (k + 1) * 5 + 3, none⟩ (.int .i64 xv)).setCell ⟨g, (k + 1) * 5 + 4, none⟩ (.int .i64 xb)).drew.ownsRow B 38 5 (.slice (some ⟨g, 0, none⟩) n cap) n (evCells (swapAt l k ⟨xt, xk, xo, xv, xb⟩ ⟨yt, yk, yo, yv, yb⟩)) := by
  have h1 := own_put h (k := k) (by omega) ⟨yt, yk, yo, yv, yb⟩
  have h2 := own_put h1 (k := k + 1) (by rw [List.length_set]; omega) ⟨xt, xk, xo, xv, xb⟩
  exact own_drew h2
end Go.Proofs.Ytadngicebbnnlaa

namespace Go.Proofs.Ytadngicebbnnlaa
open Go.ChangeShapes Go.WideShapes Go.ChangeAt Go.RowKit Go.Deep

theorem wrap64_fit {x : Int} (h0 : -9223372036854775808 ≤ x) (h1 : x ≤ 9223372036854775807) : RowKit.wrap64 x = x := by
  unfold RowKit.wrap64
  omega

end Go.Proofs.Ytadngicebbnnlaa

namespace Go.Proofs.Ytadngicebbnnlaa
open Go.ChangeShapes Go.WideShapes Go.ChangeAt Go.RowKit Go.Deep

theorem befB_iff {n : Nat} {r : Nat → Nat → Bool} {i j : Int} : befB n r i j = true ↔ ∃ ki kj : Nat, i = (ki : Int) ∧ j = (kj : Int) ∧ ki < n ∧ kj < n ∧ HB r ki kj := by
  constructor
  · intro h
    unfold befB at h
    simp only [Bool.and_eq_true] at h
    obtain ⟨h1, h2, h3⟩ := h
    obtain ⟨a0, a1⟩ := inN_iff.1 h1
    obtain ⟨b0, b1⟩ := inN_iff.1 h2
    exact ⟨i.toNat, j.toNat, by omega, by omega, by omega, by omega, hbB_iff.1 h3⟩
  · rintro ⟨ki, kj, rfl, rfl, h1, h2, h3⟩
    rw [befB_nat h1 h2, hbB_iff]; exact h3
theorem bef_trans {n : Nat} {r : Nat → Nat → Bool} {i k j : Int} (h1 : befB n r i k = true) (h2 : befB n r k j = true) : befB n r i j = true := by
  obtain ⟨ki, kk, rfl, rfl, a1, a2, a3⟩ := befB_iff.1 h1
  obtain ⟨kk', kj, hq, rfl, b1, b2, b3⟩ := befB_iff.1 h2
  obtain rfl : kk = kk' := by omega
  exact befB_iff.2 ⟨ki, kj, rfl, rfl, a1, b2, a3.trans b3⟩
theorem bef_lt {n : Nat} {r : Nat → Nat → Bool} {i j : Int} (h : befB n r i j = true) : i < j := by
  obtain ⟨ki, kj, rfl, rfl, _, _, h3⟩ := befB_iff.1 h
  have := h3.lt
  omega
theorem step_dep {t k o b t' k' o' b' : Int} (h : stepB t k o b t' k' o' b' = true) : dependsB t k o t' k' o' = true := by
  rw [depends_is]
  unfold stepB at h
  unfold rdepB
  by_cases ht : t = t'
  · simp [ht]
  have hb : (t == t') = false := by simpa using ht
  rw [hb] at h ⊢
  by_cases h0 : b = 0
  · subst h0
    by_cases k5 : k = 5
    · subst k5; simp at h; obtain ⟨rfl, rfl⟩ := h; simp [accB, mutB]
    by_cases k3 : k = 3
    · subst k3; simp at h; obtain ⟨rfl, rfl⟩ := h; simp [accB]
    by_cases k6 : k = 6
    · subst k6; simp at h; subst h; simp [accB, mutB, halfB]
    by_cases k9 : k = 9
    · subst k9; simp at h; obtain ⟨rfl, rfl, rfl⟩ := h; simp [accB, mutB, halfB]
    simp [k5, k3, k6, k9] at h
  · have : (b != 0) = true := by simpa using h0
    rw [this] at h
    simp at h
theorem bef_sync {n : Nat} {l : List Ev} {i j : Int} (h : befB n (rS l) i j = true) : befB n (rD l) i j = true := by
  obtain ⟨ki, kj, rfl, rfl, h1, h2, h3⟩ := befB_iff.1 h
  exact befB_iff.2 ⟨ki, kj, rfl, rfl, h1, h2, h3.mono fun a b _ _ hs => step_dep hs⟩

end Go.Proofs.Ytadngicebbnnlaa

namespace Go.Proofs.Ytadngicebbnnlaa
open Go.ChangeShapes Go.WideShapes Go.ChangeAt Go.RowKit Go.Deep

theorem swap_get {l : List Ev} {k : Nat} {x y : Ev} (hx : l[k]? = some x) (hy : l[k + 1]? = some y) (u : Nat) : (swapAt l k x y).getD (sw k u) ev00 = l.getD u ev00 := by
  have h1 := (List.getElem?_eq_some_iff.1 hy).1
  unfold swapAt sw
  simp only [List.getD_eq_getElem?_getD, List.getElem?_set, List.length_set]
  by_cases hu : u = k
  · subst hu; rw [if_pos rfl, if_pos rfl, if_pos h1, hx]
  · rw [if_neg hu]
    by_cases hu1 : u = k + 1
    · subst hu1
      rw [if_pos rfl, if_neg (by omega), if_pos rfl, if_pos (by omega), hy]
    · rw [if_neg hu1, if_neg (by omega), if_neg (by omega)]
theorem swap_len (l : List Ev) (k : Nat) (x y : Ev) : (swapAt l k x y).length = l.length := by unfold swapAt; simp
theorem swap_rD {l : List Ev} {k : Nat} {x y : Ev} (hx : l[k]? = some x) (hy : l[k + 1]? = some y) (u v : Nat) : rD (swapAt l k x y) (sw k u) (sw k v) = rD l u v := by
  unfold rD; rw [swap_get hx hy, swap_get hx hy]
theorem swap_rS {l : List Ev} {k : Nat} {x y : Ev} (hx : l[k]? = some x) (hy : l[k + 1]? = some y) (u v : Nat) : rS (swapAt l k x y) (sw k u) (sw k v) = rS l u v := by
  unfold rS; rw [swap_get hx hy, swap_get hx hy]
theorem dep_symm {t k o t' k' o' : Int} (h : dependsB t k o t' k' o' = false) : dependsB t' k' o' t k o = false := by
  rw [depends_is] at h ⊢
  rw [← rdep_symm]; exact h
theorem step_dep_no {x y : Ev} (h : dependsB x.t x.k x.o y.t y.k y.o = false) : stepB x.t x.k x.o x.b y.t y.k y.o y.b = false := by
  cases hs : stepB x.t x.k x.o x.b y.t y.k y.o y.b
  · rfl
  · rw [step_dep hs] at h; cases h
theorem bef_swapD {l : List Ev} {k n : Nat} {x y : Ev} (hx : l[k]? = some x) (hy : l[k + 1]? = some y) (hd : dependsB x.t x.k x.o y.t y.k y.o = false) (hk : k + 1 < n) {a b : Nat} (ha : a < n) (hb : b < n) :
    befB n (rD (swapAt l k x y)) (sw k a : Int) (sw k b : Int) = befB n (rD l) (a : Int) (b : Int) := by
  rw [befB_nat ha hb, befB_nat (sw_lt hk ha) (sw_lt hk hb)]
  exact hbB_swap (swap_rD hx hy) (by rw [rD_of hx hy]; exact hd) (by rw [rD_of hy hx]; exact dep_symm hd) a b
theorem bef_swapS {l : List Ev} {k n : Nat} {x y : Ev} (hx : l[k]? = some x) (hy : l[k + 1]? = some y) (hd : dependsB x.t x.k x.o y.t y.k y.o = false) (hk : k + 1 < n) {a b : Nat} (ha : a < n) (hb : b < n) :
    befB n (rS (swapAt l k x y)) (sw k a : Int) (sw k b : Int) = befB n (rS l) (a : Int) (b : Int) := by
  rw [befB_nat ha hb, befB_nat (sw_lt hk ha) (sw_lt hk hb)]
  exact hbB_swap (swap_rS hx hy) (by rw [rS_of hx hy]; exact step_dep_no hd) (by rw [rS_of hy hx]; exact step_dep_no (dep_symm hd)) a b
theorem wrong_swap {l : List Ev} {k n : Nat} {x y : Ev} (hw : wrongS n l = 0) (hx : l[k]? = some x) (hy : l[k + 1]? = some y) (hd : dependsB x.t x.k x.o y.t y.k y.o = false) : wrongS n (swapAt l k x y) = 0 := by
  unfold wrongS at hw ⊢
  split at hw
  · cases hw
  · rename_i hn
    rw [if_neg hn]
    rcases ofS_cases l with ⟨S, hR, _, _⟩ | ⟨S, z, p, hR, hz⟩
    · obtain ⟨T, hT, _⟩ := exch_of hR hx hy hd
      rw [hT]
    · rw [hR] at hw; exact absurd hw hz
theorem evs_cells {w : World} {b off n c : Nat} {l : List Ev} {t : TypeId} (h : IsEvs w (some ⟨b, off, none⟩) n c l) (h1 : 1 ≤ n) : ∀ j u, (evCells l)[j]? = some u → (w.alloc (.cells #[] t)).cell? ((⟨b, off, none⟩ : Addr).add j) = some u := by
  obtain ⟨b2, off2, he, hc⟩ := h.reads.2 (by omega)
  cases he
  intro j u hu
  have h2 := hc j u hu
  have h3 : (w.alloc (.cells #[] t)).cell? ⟨b, off + j, none⟩ = some u := keep ((Below.refl _ _).alloc (Nat.le_refl _) _) h2
  unfold Addr.add
  split
  · rename_i h0; subst h0; exact h3
  · exact h3
theorem own_free {w : World} {B g n cap : Nat} {e : TypeId} {size : Nat} {xs : List Value} (h : w.ownsRow B e size (.slice (some ⟨g, 0, none⟩) n cap) n xs) (o : Nat) : w.frozen? ⟨g, o, none⟩ = false := by
  obtain ⟨cur, hc⟩ := own_obj h rfl
  simp [World.frozen?, hc]
theorem own_ev {w : World} {B g n cap : Nat} {l : List Ev} (h : w.ownsRow B 38 5 (.slice (some ⟨g, 0, none⟩) n cap) n (evCells l)) {i : Nat} {e : Ev} (hx : l[i]? = some e) :
    w.cell? ⟨g, i * 5, none⟩ = some (.int .i64 e.t) ∧ w.cell? ⟨g, i * 5 + 1, none⟩ = some (.int .i64 e.k) ∧ w.cell? ⟨g, i * 5 + 2, none⟩ = some (.int .i64 e.o) ∧ w.cell? ⟨g, i * 5 + 3, none⟩ = some (.int .i64 e.v) ∧ w.cell? ⟨g, i * 5 + 4, none⟩ = some (.int .i64 e.b) := by
  have hc := h.cells (g := g) rfl
  have ad : ∀ j, (⟨g, 0, none⟩ : Addr).add j = ⟨g, j, none⟩ := fun j => by
    unfold Addr.add
    split
    · rename_i h0; subst h0; rfl
    · simp
  have gg := fun j (hj : j < 5) => flat_get Ev.vals 5 (fun _ => rfl) l i j e hx hj
  have t0 := hc _ (.int .i64 e.t) (gg 0 (by decide))
  have t1 := hc _ (.int .i64 e.k) (gg 1 (by decide))
  have t2 := hc _ (.int .i64 e.o) (gg 2 (by decide))
  have t3 := hc _ (.int .i64 e.v) (gg 3 (by decide))
  have t4 := hc _ (.int .i64 e.b) (gg 4 (by decide))
  rw [ad] at t0 t1 t2 t3 t4
  exact ⟨t0, t1, t2, t3, t4⟩
theorem cells_one (l : List Ev) : ∀ u ∈ evCells l, u.oneCell' = true := by
  intro u hu
  simp only [evCells, List.mem_flatMap] at hu
  obtain ⟨e, _, he⟩ := hu
  exact vals_one e u he

end Go.Proofs.Ytadngicebbnnlaa

namespace Go.Proofs.Ytadngicebbnnlaa
open Go.ChangeShapes Go.WideShapes Go.ChangeAt Go.RowKit Go.Deep

def lastU (l : List Ev) (t : Int) : Nat → Int
  | 0 => -1
  | k + 1 => match l[k]? with
    | some e => if e.t = t then (k : Int) else lastU l t k
    | none => lastU l t k
def lastOf (l : List Ev) (t : Int) : Int := lastU l t l.length
theorem lastU_succ {l : List Ev} {t : Int} {k : Nat} {e : Ev} (h : l[k]? = some e) : lastU l t (k + 1) = if e.t = t then (k : Int) else lastU l t k := by
  simp only [lastU]; rw [h]
noncomputable def aheadP (n : Nat) (l : List Ev) (i : Int) : Int := if inN n i then ahK (thE l) i.toNat i.toNat else -1
theorem ah_last {l : List Ev} {i : Nat} (hi : i ≤ l.length) (j : Nat) : ∀ K, K ≤ i → ahK (thE l) j K = lastU (l.take i) (thE l j) K
  | 0, _ => rfl
  | K + 1, h => by
    have hK : K < l.length := by omega
    have hx : l[K]? = some l[K] := List.getElem?_eq_getElem hK
    have hx' : (l.take i)[K]? = some l[K] := by rw [List.getElem?_take, if_pos (by omega)]; exact hx
    rw [lastU_succ hx', ← ah_last hi j K (by omega), ahK, thE_of hx]
    by_cases he : l[K].t = thE l j
    · simp [he]
    · simp [he]
theorem ahead_is {l : List Ev} {n i : Nat} (hg : GoodL n l) (hi : i < n) : ahK (thE l) i i = lastOf (l.take i) (thE l i) := by
  have h1 := hg.len
  unfold lastOf
  rw [List.length_take, Nat.min_eq_left (by omega)]
  exact ah_last (by omega) i i (Nat.le_refl _)

theorem evs_take {w : World} {b off n c : Nat} {l : List Ev} (h : IsEvs w (some ⟨b, off, none⟩) n c l) {i : Nat} (hi : i ≤ n) : IsEvs w (some ⟨b, off, none⟩) i c (l.take i) := by
  have hlen := h.len
  refine ⟨⟨by rw [evCells, flat_len Ev.vals 5 (fun _ => rfl), List.length_take]; congr 1; omega, fun h0 => ?_⟩, by rw [List.length_take]; omega, by have := h.le; omega, h.cap, fun e he => h.wf e (List.mem_of_mem_take he)⟩
  obtain ⟨b', off', hq, hc⟩ := h.reads.2 (by omega)
  cases hq
  refine ⟨b, off, rfl, fun j u hu => ?_⟩
  obtain ⟨x, hx, hxu⟩ := flat_inv Ev.vals 5 (fun _ => rfl) (by decide) _ j u hu
  have hxl : l[j / 5]? = some x := by
    rw [List.getElem?_take] at hx
    split at hx
    · exact hx
    · cases hx
  refine hc j u ?_
  have := flat_get Ev.vals 5 (fun _ => rfl) l (j / 5) (j % 5) x hxl (Nat.mod_lt _ (by decide))
  rw [show j / 5 * 5 + j % 5 = j by omega] at this
  rw [evCells, this]; exact hxu

noncomputable def behB (r : Nat → Nat → Bool) (n : Nat) (i : Int) (j : Nat) : Bool := befB n r i j
noncomputable def besB (r : Nat → Nat → Bool) (n : Nat) (i : Int) (j : Nat) : Bool := inN n i && (decide ((j : Int) ≠ i) && (!befB n r i j && !befB n r j i))
/-- The places below K that p marks. -/
def marks (p : Nat → Bool) (K : Nat) : List Int := ((List.range K).filter p).map (fun (x : Nat) => (x : Int))
theorem marks_zero (p : Nat → Bool) : marks p 0 = [] := rfl
theorem marks_succ (p : Nat → Bool) (K : Nat) : marks p (K + 1) = marks p K ++ (if p K then [(K : Int)] else []) := by
  unfold marks
  rw [List.range_succ, List.filter_append, List.map_append]
  cases h : p K <;> simp [h]
theorem marks_yes {p : Nat → Bool} {K : Nat} (h : p K = true) : marks p (K + 1) = marks p K ++ [(K : Int)] := by rw [marks_succ, h]; rfl
theorem marks_no {p : Nat → Bool} {K : Nat} (h : p K = false) : marks p (K + 1) = marks p K := by rw [marks_succ, h]; simp
theorem marks_len (p : Nat → Bool) (K : Nat) : (marks p K).length ≤ K := by
  unfold marks; rw [List.length_map]; exact Nat.le_trans (List.length_filter_le _ _) (by simp)
theorem marks_fit (p : Nat → Bool) {K : Nat} (hK : K ≤ 100) : ∀ x ∈ marks p K, Fit x :=
  nats_fit (n := K) (fun x hx => List.mem_range.1 (List.mem_filter.1 hx).1) (by omega)
theorem marks_congr {p q : Nat → Bool} {K : Nat} (h : ∀ j, j < K → p j = q j) : marks p K = marks q K := by
  unfold marks; congr 1; exact List.filter_congr fun j hj => h j (List.mem_range.1 hj)


end Go.Proofs.Ytadngicebbnnlaa
