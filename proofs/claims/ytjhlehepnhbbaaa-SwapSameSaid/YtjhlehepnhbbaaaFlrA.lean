/-
  Floors: plain law; lists of lists; the sort; the walks of Floors on both sides.
-/
import Derived.Test.YtjhlehepnhbbaaaSwpA
import Derived.Test.YtjhlehepnhbbaaaRises
import Derived.Shelf.SlSortCmp.WholeK
import Derived.Test.YtjhlehepnhbbaaaProg
import Derived.Deep.Cut
import Derived.Test.YtjhlehepnhbbaaaSorted
import Derived.Test.YtjhlehepnhbbaaaCmp
set_option linter.unusedSimpArgs false
set_option linter.unusedVariables false
namespace Go.Proofs.Ytjhlehepnhbbaaa
open Go Go.RowKit

/-- How high the event at j stands, when m of them have been laid. -/
noncomputable def flT (l : List Ev) : Nat → Nat → Nat
  | 0, _ => 0
  | m + 1, j => if hbB (rD l) m j then max (flT l m j) (flT l m m + 1) else flT l m j
noncomputable def flo (l : List Ev) (i : Nat) : Nat := flT l i i
theorem flT_mono (l : List Ev) (j : Nat) {m K : Nat} (h : m ≤ K) : flT l m j ≤ flT l K j := by
  induction K with
  | zero => have : m = 0 := by omega
            subst this; exact Nat.le_refl _
  | succ K ih =>
    by_cases hm : m = K + 1
    · subst hm; exact Nat.le_refl _
    · have := ih (by omega)
      rw [flT]; split <;> omega
theorem flT_late {l : List Ev} {m j : Nat} (h : j ≤ m) : flT l m j = flo l j := by
  induction m with
  | zero => have : j = 0 := by omega
            subst this; rfl
  | succ m ih =>
    by_cases hm : j = m + 1
    · subst hm; rfl
    · rw [flT, hbB_false (by omega), if_neg (by simp), ih (by omega)]
theorem flo_lt {l : List Ev} {k i : Nat} (h : HB (rD l) k i) : flo l k < flo l i := by
  have hlt := h.lt
  have h1 : flT l (k + 1) i ≤ flT l i i := flT_mono l i (by omega)
  rw [flT, hbB_iff.2 h, if_pos rfl] at h1
  unfold flo
  omega
theorem flT_from {l : List Ev} (i : Nat) : ∀ K, K ≤ i → flT l K i = 0 ∨ ∃ k, k < K ∧ HB (rD l) k i ∧ flo l k + 1 = flT l K i
  | 0, _ => .inl rfl
  | K + 1, hK => by
    have ih := flT_from (l := l) i K (by omega)
    rw [flT]
    by_cases hb : hbB (rD l) K i = true
    · rw [if_pos hb]
      rcases Nat.le_total (flT l K K + 1) (flT l K i) with h1 | h1
      · rw [Nat.max_eq_left h1]
        rcases ih with h2 | ⟨k, h2, h3, h4⟩
        · exact .inl h2
        · exact .inr ⟨k, by omega, h3, h4⟩
      · rw [Nat.max_eq_right h1]
        exact .inr ⟨K, by omega, hbB_iff.1 hb, rfl⟩
    · rw [if_neg hb]
      rcases ih with h2 | ⟨k, h2, h3, h4⟩
      · exact .inl h2
      · exact .inr ⟨k, by omega, h3, h4⟩
theorem flo_from {l : List Ev} (i : Nat) : flo l i = 0 ∨ ∃ k, k < i ∧ HB (rD l) k i ∧ flo l k + 1 = flo l i := flT_from i i (Nat.le_refl _)
theorem flo_le {l : List Ev} {i m : Nat} : flo l i ≤ m ↔ ∀ k, HB (rD l) k i → flo l k + 1 ≤ m := by
  constructor
  · intro h k hk
    have := flo_lt hk; omega
  · intro h
    rcases flo_from (l := l) i with h1 | ⟨k, _, h2, h3⟩
    · omega
    · rw [← h3]; exact h k h2
theorem flo_le_i {l : List Ev} : ∀ (i : Nat), flo l i ≤ i := fun i => by
  induction i using Nat.strongRecOn with
  | _ i ih => exact flo_le.2 fun k hk => by have := ih k hk.lt; have := hk.lt; omega
theorem flT_le {l : List Ev} (m j : Nat) : flT l m j ≤ m := by
  induction m generalizing j with
  | zero => exact Nat.le_refl _
  | succ m ih => have := ih j; have := ih m; rw [flT]; split <;> omega
/-- How many floors the first m take. -/
noncomputable def topT (l : List Ev) : Nat → Nat
  | 0 => 0
  | m + 1 => max (topT l m) (flo l m + 1)
theorem topT_le (l : List Ev) : ∀ m, topT l m ≤ m
  | 0 => Nat.le_refl _
  | m + 1 => by have := topT_le l m; have := flo_le_i (l := l) m; rw [topT]; omega
theorem topT_gt {l : List Ev} {i m : Nat} (h : i < m) : flo l i < topT l m := by
  induction m with
  | zero => omega
  | succ m ih =>
    rw [topT]
    by_cases hi : i = m
    · subst hi; omega
    · have := ih (by omega); omega
/-- The next one stands on a floor that is there, or opens the next. -/
theorem flo_top (l : List Ev) (m : Nat) : flo l m ≤ topT l m := by
  rcases flo_from (l := l) m with h | ⟨k, h1, _, h3⟩
  · omega
  · have := topT_gt (l := l) h1; omega
theorem topT_old {l : List Ev} {m : Nat} (h : flo l m < topT l m) : topT l (m + 1) = topT l m := by rw [topT]; omega
theorem topT_new {l : List Ev} {m : Nat} (h : flo l m = topT l m) : topT l (m + 1) = topT l m + 1 := by rw [topT]; omega
theorem topT_has {l : List Ev} {f : Nat} : ∀ {m : Nat}, f < topT l m → ∃ i, i < m ∧ flo l i = f
  | 0, h => by rw [topT] at h; omega
  | m + 1, h => by
    by_cases h1 : f < topT l m
    · obtain ⟨i, h2, h3⟩ := topT_has h1
      exact ⟨i, by omega, h3⟩
    · have := flo_top l m
      rw [topT] at h
      exact ⟨m, by omega, by omega⟩

/-- The places of the first m that stand on floor f. -/
noncomputable def plE (l : List Ev) (m f : Nat) : List Nat := (List.range m).filter fun i => flo l i == f
theorem plE_succ (l : List Ev) (m f : Nat) : plE l (m + 1) f = plE l m f ++ if flo l m = f then [m] else [] := by
  unfold plE
  rw [List.range_succ, List.filter_append]
  by_cases h : flo l m = f
  · rw [if_pos h]; simp [h]
  · rw [if_neg h]; simp [h]
theorem plE_mem {l : List Ev} {m f i : Nat} : i ∈ plE l m f ↔ i < m ∧ flo l i = f := by unfold plE; rw [List.mem_filter, List.mem_range, beq_iff_eq]
theorem plE_len (l : List Ev) (m f : Nat) : (plE l m f).length ≤ m := by
  have := List.length_filter_le (fun i => flo l i == f) (List.range m)
  rw [List.length_range] at this; exact this
/-- .. those of thread t. -/
noncomputable def plT (l : List Ev) (n f t : Nat) : List Nat := (List.range n).filter fun i => flo l i == f && thE l i == (t : Int)
theorem plT_mem {l : List Ev} {n f t i : Nat} : i ∈ plT l n f t ↔ i < n ∧ flo l i = f ∧ thE l i = (t : Int) := by unfold plT; rw [List.mem_filter, List.mem_range, Bool.and_eq_true, beq_iff_eq, beq_iff_eq]
theorem plT_succ (l : List Ev) (m f t : Nat) : plT l (m + 1) f t = plT l m f t ++ if flo l m = f ∧ thE l m = (t : Int) then [m] else [] := by
  unfold plT
  rw [List.range_succ, List.filter_append]
  by_cases h : flo l m = f ∧ thE l m = (t : Int)
  · rw [if_pos h]; simp [h.1, h.2]
  · rw [if_neg h]
    congr 1
    rw [List.filter_cons_of_neg]
    · rfl
    · simpa using h
/-- .. in the order of the threads, T of them. -/
noncomputable def plF (l : List Ev) (n f : Nat) : Nat → List Nat
  | 0 => []
  | t + 1 => plF l n f t ++ plT l n f t
theorem plF_mem {l : List Ev} {n f T i : Nat} : i ∈ plF l n f T ↔ ∃ t, t < T ∧ i ∈ plT l n f t := by
  induction T with
  | zero => rw [plF]; simp
  | succ T ih =>
    rw [plF, List.mem_append, ih]
    constructor
    · rintro (⟨t, h1, h2⟩ | h)
      · exact ⟨t, by omega, h2⟩
      · exact ⟨T, by omega, h⟩
    · rintro ⟨t, h1, h2⟩
      by_cases ht : t = T
      · subst ht; exact .inr h2
      · exact .inl ⟨t, by omega, h2⟩
/-- Whoever stands on one floor is of another thread. -/
theorem flo_apart {l : List Ev} {i j : Nat} (hf : flo l i = flo l j) (ht : thE l i = thE l j) : i = j := by
  have key : ∀ {i j : Nat}, i < j → thE l i = thE l j → flo l i < flo l j := fun {i j} h ht => flo_lt (HB.one h (depE_same ht))
  rcases Nat.lt_trichotomy i j with h | h | h
  · have := key h ht; omega
  · exact h
  · have := key h ht.symm; omega
theorem plT_one {l : List Ev} {n f t : Nat} : (plT l n f t).Pairwise fun a b => thE l a < thE l b := by
  refine (List.pairwise_lt_range.filter _).imp_of_mem fun ha hb hlt => ?_
  have h1 := plT_mem.1 ha
  have h2 := plT_mem.1 hb
  have := flo_apart (h1.2.1.trans h2.2.1.symm) (h1.2.2.trans h2.2.2.symm)
  omega
theorem plF_rises {l : List Ev} {n f : Nat} : ∀ T, (plF l n f T).Pairwise fun a b => thE l a < thE l b
  | 0 => .nil
  | T + 1 => by
    rw [plF, List.pairwise_append]
    refine ⟨plF_rises T, plT_one, fun a ha b hb => ?_⟩
    obtain ⟨t, h1, h2⟩ := plF_mem.1 ha
    have h3 := (plT_mem.1 h2).2.2
    have h4 := (plT_mem.1 hb).2.2
    omega
theorem plF_nodup {l : List Ev} {n f T : Nat} : (plF l n f T).Nodup := (plF_rises T).imp fun h e => by subst e; omega
/-- All threads are below 8. -/
def Thr8 (l : List Ev) : Prop := ∀ i, i < l.length → 0 ≤ thE l i ∧ thE l i < 8
theorem plF_all {l : List Ev} {n f : Nat} (h8 : Thr8 l) (hn : n ≤ l.length) {i : Nat} : i ∈ plF l n f 8 ↔ i < n ∧ flo l i = f := by
  rw [plF_mem]
  constructor
  · rintro ⟨t, _, h⟩
    have := plT_mem.1 h
    exact ⟨this.1, this.2.1⟩
  · rintro ⟨h1, h2⟩
    have := h8 i (by omega)
    exact ⟨(thE l i).toNat, by omega, plT_mem.2 ⟨h1, h2, by omega⟩⟩
theorem plF_perm {l : List Ev} {n f : Nat} (h8 : Thr8 l) (hn : n ≤ l.length) : (plF l n f 8).Perm (plE l n f) :=
  nodup_perm plF_nodup (List.nodup_range.filter _) fun i => by rw [plF_all h8 hn]; exact plE_mem.symm
/-- The events of a floor. -/
noncomputable def rowF (l : List Ev) (f : Nat) : List Ev := evsAt l (plF l l.length f 8)
theorem evsAt_rises {l : List Ev} {ps : List Nat} (h : ps.Pairwise fun a b => thE l a < thE l b) : (evsAt l ps).Pairwise fun a b => a.t < b.t := by
  unfold evsAt
  rw [List.pairwise_map]
  exact h
theorem rowF_rises (l : List Ev) (f : Nat) : (rowF l f).Pairwise fun a b => a.t < b.t := evsAt_rises (plF_rises 8)
theorem lt_asymm {a b : Ev} (h : a.t < b.t) : ¬ b.t < a.t := by omega
theorem perm_apart {l : List Ev} {ps : List Nat} {ys : List Ev} (h : (evsAt l ps).Pairwise fun a b => a.t ≠ b.t) (hp : ys.Perm (evsAt l ps)) (hs : ys.Pairwise fun a b => ¬ b.t < a.t) : ys.Pairwise fun a b => a.t < b.t := by
  have h1 : ys.Pairwise fun a b => a.t ≠ b.t := hp.symm.pairwise h (fun h e => h e.symm)
  exact (h1.and hs).imp fun h => by have := h.1; have := h.2; omega
/-- What a sort by threads makes of a floor. -/
theorem rowF_sorted {l : List Ev} {f : Nat} (h8 : Thr8 l) {ys : List Ev} (hp : ys.Perm (evsAt l (plE l l.length f))) (hs : ys.Pairwise fun a b => ¬ b.t < a.t) : ys = rowF l f := by
  have h1 : (rowF l f).Perm (evsAt l (plE l l.length f)) := (plF_perm h8 (Nat.le_refl _)).map _
  have h2 : (evsAt l (plE l l.length f)).Pairwise fun a b => a.t ≠ b.t := h1.pairwise ((rowF_rises l f).imp fun h => by omega) (fun h e => h e.symm)
  exact rises_eq (fun a b => lt_asymm) (hp.trans h1.symm) (perm_apart h2 hp hs) (rowF_rises l f)
/-- The floors of an execution. -/
noncomputable def flrs (l : List Ev) : List (List Ev) := (List.range (topT l l.length)).map (rowF l)
theorem flrs_len (l : List Ev) : (flrs l).length = topT l l.length := by unfold flrs; rw [List.length_map, List.length_range]
theorem flrs_get {l : List Ev} {f : Nat} (h : f < topT l l.length) : (flrs l)[f]? = some (rowF l f) := by unfold flrs; rw [List.getElem?_map, List.getElem?_range h]; rfl
theorem rowF_some {l : List Ev} (h8 : Thr8 l) {f : Nat} (h : f < topT l l.length) : (rowF l f).length ≠ 0 := by
  obtain ⟨i, h1, h2⟩ := topT_has h
  have : i ∈ plF l l.length f 8 := (plF_all h8 (Nat.le_refl _)).2 ⟨h1, h2⟩
  unfold rowF
  rw [evsAt_len]
  intro e
  rw [List.length_eq_zero_iff.1 e] at this
  cases this

/-! Under exchanges. -/
theorem Ex.rD {l l' : List Ev} {i : Nat} (h : Ex l l' i) (u v : Nat) : rD l' (sw i u) (sw i v) = rD l u v := by
  show depE (l'.getD (sw i u) ev00) (l'.getD (sw i v) ev00) = depE (l.getD u ev00) (l.getD v ev00)
  rw [h.get, h.get]
theorem Ex.hb {l l' : List Ev} {i : Nat} (h : Ex l l' i) (a b : Nat) : HB (Go.Proofs.Ytjhlehepnhbbaaa.rD l') (sw i a) (sw i b) ↔ HB (Go.Proofs.Ytjhlehepnhbbaaa.rD l) a b := by
  rw [← hbB_iff, ← hbB_iff, hbB_swap (fun x y => h.rD x y) h.dep (depE_symm h.dep)]
theorem Ex.flo {l l' : List Ev} {i : Nat} (h : Ex l l' i) : ∀ (u : Nat), Go.Proofs.Ytjhlehepnhbbaaa.flo l' (sw i u) = Go.Proofs.Ytjhlehepnhbbaaa.flo l u := fun u => by
  induction u using Nat.strongRecOn with
  | _ u ih =>
    have key : ∀ m, Go.Proofs.Ytjhlehepnhbbaaa.flo l' (sw i u) ≤ m ↔ Go.Proofs.Ytjhlehepnhbbaaa.flo l u ≤ m := fun m => by
      rw [flo_le, flo_le]
      constructor
      · intro hk k hku
        have := hk (sw i k) ((h.hb k u).2 hku)
        rw [ih k hku.lt] at this; exact this
      · intro hk k hku
        have hku' : HB (Go.Proofs.Ytjhlehepnhbbaaa.rD l) (sw i k) u := by rw [← h.hb, sw_sw]; exact hku
        have := hk (sw i k) hku'
        rw [← ih (sw i k) hku'.lt, sw_sw] at this; exact this
    exact Nat.le_antisymm ((key _).2 (Nat.le_refl _)) ((key _).1 (Nat.le_refl _))
theorem sw_perm {i n : Nat} (h : i + 1 < n) : ((List.range n).map (sw i)).Perm (List.range n) := by
  refine nodup_perm ?_ List.nodup_range fun j => ?_
  · unfold List.Nodup
    rw [List.pairwise_map]
    exact List.nodup_range.imp fun hne e => hne (sw_inj.1 e)
  · rw [List.mem_map, List.mem_range]
    constructor
    · rintro ⟨k, hk, rfl⟩
      exact sw_lt h (List.mem_range.1 hk)
    · intro hj
      exact ⟨sw i j, List.mem_range.2 (sw_lt h hj), sw_sw i j⟩
theorem Ex.floorPerm {l l' : List Ev} {i : Nat} (h : Ex l l' i) (f : Nat) : (evsAt l' (plE l' l'.length f)).Perm (evsAt l (plE l l.length f)) := by
  have h1 : (plE l' l'.length f).Perm (((List.range l.length).map (sw i)).filter fun u => Go.Proofs.Ytjhlehepnhbbaaa.flo l' u == f) := by
    unfold plE
    rw [h.len]
    exact ((sw_perm h.lt).symm).filter _
  have h2 : ((List.range l.length).map (sw i)).filter (fun u => Go.Proofs.Ytjhlehepnhbbaaa.flo l' u == f) = (plE l l.length f).map (sw i) := by
    unfold plE
    rw [List.filter_map]
    congr 1
    refine List.filter_congr fun u _ => ?_
    simp only [Function.comp]
    rw [h.flo]
  rw [h2] at h1
  refine (h1.map _).trans ?_
  rw [List.map_map]
  have h3 : (plE l l.length f).map ((fun j => l'.getD j ev00) ∘ sw i) = evsAt l (plE l l.length f) := by
    unfold evsAt
    refine List.map_congr_left fun u _ => ?_
    simp only [Function.comp]
    exact h.get u
  rw [h3]
theorem Ex.thr {l l' : List Ev} {i : Nat} (h : Ex l l' i) (h8 : Thr8 l) : Thr8 l' := fun u hu => by
  have h1 : sw i u < l.length := sw_lt h.lt (by rw [← h.len]; exact hu)
  have := h8 _ h1
  rw [← h.th, sw_sw] at this; exact this
theorem Ex.row {l l' : List Ev} {i : Nat} (h : Ex l l' i) (h8 : Thr8 l) (f : Nat) : rowF l' f = rowF l f := by
  have h1 : (rowF l' f).Perm (evsAt l' (plE l' l'.length f)) := (plF_perm (h.thr h8) (Nat.le_refl _)).map _
  have h2 : (rowF l f).Perm (evsAt l (plE l l.length f)) := (plF_perm h8 (Nat.le_refl _)).map _
  exact rises_eq (fun a b => lt_asymm) (h1.trans ((h.floorPerm f).trans h2.symm)) (rowF_rises l' f) (rowF_rises l f)
theorem topT_all {l : List Ev} {n m : Nat} : topT l n ≤ m ↔ ∀ i, i < n → flo l i < m := by
  induction n with
  | zero => rw [topT]; simp
  | succ n ih =>
    rw [topT]
    constructor
    · intro h i hi
      by_cases hin : i = n
      · subst hin; omega
      · exact ih.1 (by omega) i (by omega)
    · intro h
      have h1 := ih.2 fun i hi => h i (by omega)
      have h2 := h n (by omega)
      omega
theorem Ex.top {l l' : List Ev} {i : Nat} (h : Ex l l' i) : topT l' l'.length = topT l l.length := by
  have key : ∀ m, topT l' l'.length ≤ m ↔ topT l l.length ≤ m := fun m => by
    rw [topT_all, topT_all, h.len]
    constructor
    · intro k u hu
      rw [← h.flo]; exact k _ (sw_lt h.lt hu)
    · intro k u hu
      have := k _ (sw_lt h.lt hu)
      rw [← h.flo, sw_sw] at this; exact this
  exact Nat.le_antisymm ((key _).2 (Nat.le_refl _)) ((key _).1 (Nat.le_refl _))
theorem Ex.flrs {l l' : List Ev} {i : Nat} (h : Ex l l' i) (h8 : Thr8 l) : Go.Proofs.Ytjhlehepnhbbaaa.flrs l' = Go.Proofs.Ytjhlehepnhbbaaa.flrs l := by
  unfold Go.Proofs.Ytjhlehepnhbbaaa.flrs
  rw [h.top]
  exact List.map_congr_left fun f _ => h.row h8 f
theorem Tr.thr {l m : List Ev} (h : Tr l m) (h8 : Thr8 l) : Thr8 m := by
  induction h with
  | refl => exact h8
  | step _ he ih => exact he.thr ih
theorem Tr.flrs {l m : List Ev} (h : Tr l m) (h8 : Thr8 l) : Go.Proofs.Ytjhlehepnhbbaaa.flrs m = Go.Proofs.Ytjhlehepnhbbaaa.flrs l := by
  induction h with
  | refl => rfl
  | step h1 he ih => rw [he.flrs (h1.thr h8), ih]

/-! One behind the other they are the same execution. -/
/-- Places each of which stands behind all that happen before it, laid down in turn. -/
theorem laid_lin {l : List Ev} : ∀ (D C : List Nat), Laid l C → (C ++ D).Nodup → (C ++ D).length = l.length → (∀ j ∈ D, j < l.length) → (∀ A i B, D = A ++ i :: B → ∀ k, HB (rD l) k i → k ∈ C ++ A) → Lin (evsAt l (leftC l C)) (evsAt l D)
  | [], C, h, _, hl, _, _ => by
    have h1 := h.cnt
    rw [List.append_nil] at hl
    have h2 : leftC l C = [] := List.length_eq_zero_iff.1 (by omega)
    rw [h2]; exact .nil
  | i :: D, C, h, hn, hl, hm, hk => by
    have hiC : i ∉ C := fun hc => by
      have := (List.nodup_append.1 hn).2.2 i hc i (List.mem_cons_self ..)
      exact this rfl
    have ha : availB l C i = true := availB_iff.2 ⟨hiC, fun k hki => by have := hk [] i D rfl k hki; rwa [List.append_nil] at this⟩
    obtain ⟨h1, p, hp, he⟩ := h.step (hm i (List.mem_cons_self ..)) ha
    have ih := laid_lin D (C ++ [i]) h1 (by rw [List.append_assoc]; exact hn) (by rw [List.append_assoc]; exact hl) (fun j hj => hm j (List.mem_cons_of_mem _ hj)) (fun A j B e k hkj => by
      have := hk (i :: A) j B (by rw [e]; rfl) k hkj
      rw [List.append_assoc]; exact this)
    rw [he] at ih
    have := Lin.cons ((h.free hp).2 ha) ih
    rw [evsAt_getD hp] at this
    exact this
/-- All places, floor by floor. -/
noncomputable def plA (l : List Ev) : Nat → List Nat
  | 0 => []
  | f + 1 => plA l f ++ plF l l.length f 8
theorem plA_mem {l : List Ev} (h8 : Thr8 l) {i : Nat} : ∀ {F : Nat}, i ∈ plA l F ↔ i < l.length ∧ flo l i < F
  | 0 => by rw [plA]; simp
  | F + 1 => by
    rw [plA, List.mem_append, plA_mem h8, plF_all h8 (Nat.le_refl _)]
    constructor
    · rintro (h | h) <;> exact ⟨h.1, by omega⟩
    · rintro ⟨h1, h2⟩
      by_cases h3 : flo l i = F
      · exact .inr ⟨h1, h3⟩
      · exact .inl ⟨h1, by omega⟩
theorem plA_nodup {l : List Ev} (h8 : Thr8 l) : ∀ F, (plA l F).Nodup
  | 0 => List.nodup_nil
  | F + 1 => by
    rw [plA, List.nodup_append]
    refine ⟨plA_nodup h8 F, plF_nodup, fun a ha b hb e => ?_⟩
    subst e
    have h1 := ((plA_mem h8).1 ha).2
    have h2 := ((plF_all h8 (Nat.le_refl _)).1 hb).2
    omega
theorem plA_split {l : List Ev} (h8 : Thr8 l) {F : Nat} {A B : List Nat} {i : Nat} (h : plA l F = A ++ i :: B) {k : Nat} (hk : HB (rD l) k i) : k ∈ A := by
  have key : ∀ (F : Nat), (plA l F).Pairwise fun a b => flo l a ≤ flo l b := fun F => by
    induction F with
    | zero => exact .nil
    | succ F ih =>
      rw [plA, List.pairwise_append]
      refine ⟨ih, ?_, fun a ha b hb => ?_⟩
      · refine List.Pairwise.imp_of_mem (R := fun _ _ => True) (fun ha hb _ => ?_) (List.pairwise_of_forall (fun _ _ => trivial))
        have h1 := ((plF_all h8 (Nat.le_refl _)).1 ha).2
        have h2 := ((plF_all h8 (Nat.le_refl _)).1 hb).2
        omega
      · have h1 := ((plA_mem h8).1 ha).2
        have h2 := ((plF_all h8 (Nat.le_refl _)).1 hb).2
        omega
  have hi : i ∈ plA l F := by rw [h]; simp
  obtain ⟨hil, hiF⟩ := (plA_mem h8).1 hi
  have hlt := flo_lt hk
  have hkm : k ∈ plA l F := (plA_mem h8).2 ⟨by have := hk.lt; omega, by omega⟩
  rw [h] at hkm
  rcases List.mem_append.1 hkm with h1 | h1
  · exact h1
  · exfalso
    have h2 := key F
    rw [h, List.pairwise_append] at h2
    rcases List.mem_cons.1 h1 with rfl | h1
    · omega
    · have := List.rel_of_pairwise_cons h2.2.1 h1
      omega
theorem plA_lin {l : List Ev} (h8 : Thr8 l) : Lin l (evsAt l (plA l (topT l l.length))) := by
  have hm : ∀ i, i ∈ plA l (topT l l.length) ↔ i ∈ List.range l.length := fun i => by
    rw [plA_mem h8, List.mem_range]
    exact ⟨fun h => h.1, fun h => ⟨h, topT_gt h⟩⟩
  have hp := nodup_perm (plA_nodup h8 _) List.nodup_range hm
  have := laid_lin (l := l) (plA l (topT l l.length)) [] (Laid.nil l) (by simpa using plA_nodup h8 _) (by rw [List.nil_append, hp.length_eq, List.length_range]) (fun j hj => List.mem_range.1 ((hm j).1 hj)) (fun A i B e k hk => by
    rw [List.nil_append]; exact plA_split h8 e hk)
  rw [leftC_nil, evsAt_all] at this
  exact this
/-- The first F floors one behind the other. -/
noncomputable def cat (l : List Ev) (F : Nat) : List Ev := evsAt l (plA l F)
theorem cat_zero (l : List Ev) : cat l 0 = [] := rfl
theorem cat_succ (l : List Ev) (F : Nat) : cat l (F + 1) = cat l F ++ rowF l F := by unfold cat; rw [plA, evsAt_app]; rfl
theorem cat_tr {l : List Ev} (h8 : Thr8 l) : Tr l (cat l (topT l l.length)) := (plA_lin h8).tr
theorem cat_of {l m : List Ev} (h : flrs l = flrs m) : ∀ F, F ≤ topT l l.length → cat l F = cat m F
  | 0, _ => rfl
  | F + 1, hF => by
    rw [cat_succ, cat_succ, cat_of h F (by omega)]
    have ht : topT l l.length = topT m m.length := by rw [← flrs_len, ← flrs_len, h]
    have h1 := flrs_get (l := l) (f := F) (by omega)
    have h2 := flrs_get (l := m) (f := F) (by omega)
    rw [h, h2] at h1
    rw [Option.some.inj h1]
/-- Like floors tell that two executions are the same. -/
theorem flrs_tr {l m : List Ev} (h8 : Thr8 l) (h8' : Thr8 m) (h : flrs l = flrs m) : Tr l m := by
  have ht : topT l l.length = topT m m.length := by rw [← flrs_len, ← flrs_len, h]
  have h1 := cat_tr h8
  have h2 := cat_tr h8'
  rw [cat_of h _ (Nat.le_refl _), ht] at h1
  exact h1.trans h2.symm
theorem norm_tr {l m : List Ev} (h : normL l = normL m) : Tr l m := by
  have h1 := (normL_norm l).tr
  rw [h] at h1
  exact h1.trans (normL_norm m).tr.symm
end Go.Proofs.Ytjhlehepnhbbaaa

namespace Go.Proofs.Ytjhlehepnhbbaaa
open Go.ChangeShapes Go.WideShapes Go.ChangeAt Go.RowKit Go.Deep

structure SlV where
  a : Option Addr
  n : Nat
  c : Nat
def SlV.v (s : SlV) : Value := .slice s.a s.n s.c
def SlV.nil : SlV := ⟨none, 0, 0⟩
theorem infoEvs : (Try.prog.info? 22).map (fun i => (i.zero, i.size, i.bytes)) = some (some (.slice none 0 0), 1, 24) := by kernel_rfl
def eltS : Elt SlV where
  T := 41
  e := 22
  z := .slice none 0 0
  size := 1
  bytes := 24
  f := fun x => [.slice x.a x.n x.c]
  ht := Try.underlying41
  hi := infoEvs
  hz := rfl
  hs := by decide
  hb := by decide
  hf := fun _ => rfl
  h1 := fun x u hu => by simp at hu; subst hu; rfl
theorem flat_sl (l : List SlV) : l.flatMap eltS.f = l.map SlV.v := by
  unfold eltS
  induction l with
  | nil => rfl
  | cons a r ih => simp only [List.flatMap_cons, List.map_cons, ih]; rfl

structure OwnF (w : World) (B : Nat) (v : Value) (vs : List SlV) (R : List (List Ev)) : Prop where
  row : OwnL eltS w B v vs
  len : vs.length = R.length
  at_ : ∀ (i : Nat) (x : SlV) (r : List Ev), vs[i]? = some x → R[i]? = some r → OwnL eltEv w B x.v r
  ap1 : ∀ (i : Nat) (x : SlV) (g : Nat), vs[i]? = some x → x.v.ownBlock = some g → v.ownBlock ≠ some g
  ap2 : ∀ (i j : Nat) (x y : SlV) (g : Nat), vs[i]? = some x → vs[j]? = some y → i ≠ j → x.v.ownBlock = some g → y.v.ownBlock ≠ some g
section
variable {w w' : World} {B : Nat} {v v' : Value} {vs : List SlV} {R : List (List Ev)}
theorem OwnF.nil (w : World) (B : Nat) : OwnF w B (.slice none 0 0) [] [] :=
  ⟨OwnL.nil .., rfl, fun i x r h => by simp at h, fun i x g h => by simp at h, fun i j x y g h => by simp at h⟩
theorem OwnF.some (h : OwnF w B v vs R) {i : Nat} {x : SlV} (hx : vs[i]? = Option.some x) : ∃ r, R[i]? = Option.some r := by
  have := (List.getElem?_eq_some_iff.1 hx).1
  exact ⟨_, List.getElem?_eq_getElem (by rw [← h.len]; exact this)⟩
theorem OwnF.wrote {K : Nat → Prop} (h : OwnF w B v vs R) (hw : Wrote K w w') (hv : ∀ g, v.ownBlock = Option.some g → ¬ K g) (hx : ∀ (i : Nat) (x : SlV) (g : Nat), vs[i]? = Option.some x → x.v.ownBlock = Option.some g → ¬ K g) : OwnF w' B v vs R :=
  ⟨h.row.wrote hw hv, h.len, fun i x r h1 h2 => (h.at_ i x r h1 h2).wrote hw (fun g hg => hx i x g h1 hg), h.ap1, h.ap2⟩
theorem OwnF.below (h : OwnF w B v vs R) (hb : Below w.heap.size w w') : OwnF w' B v vs R :=
  ⟨h.row.below hb, h.len, fun i x r h1 h2 => (h.at_ i x r h1 h2).below hb, h.ap1, h.ap2⟩
theorem OwnF.lt (h : OwnF w B v vs R) {i : Nat} {x : SlV} {g : Nat} (hx : vs[i]? = Option.some x) (hg : x.v.ownBlock = Option.some g) : B ≤ g ∧ g < w.heap.size := by
  obtain ⟨r, hr⟩ := h.some hx
  exact (h.at_ i x r hx hr).lt hg
/-- Writes below B leave it. -/
theorem OwnF.low {K : Nat → Prop} (h : OwnF w B v vs R) (hw : Wrote K w w') (hK : ∀ q, K q → q < B) : OwnF w' B v vs R :=
  h.wrote hw (fun g hg hk => by have := (h.row.lt hg).1; have := hK g hk; omega) (fun i x g hx hg hk => by have := (h.lt hx hg).1; have := hK g hk; omega)
theorem OwnF.read (h : OwnF w B v vs R) : ∃ a c, v = .slice a R.length c ∧ R.length ≤ c ∧ c ≤ maxLen ∧ ∀ (i : Nat) (r : List Ev), R[i]? = Option.some r → ∃ g x, a = Option.some ⟨g, 0, none⟩ ∧ vs[i]? = Option.some x ∧ w.cell? ⟨g, i, none⟩ = Option.some x.v ∧ w.frozen? ⟨g, i, none⟩ = false ∧ OwnL eltEv w B x.v r := by
  obtain ⟨a, c, rfl, h1, h2, h3, h4⟩ := h.row.slice
  refine ⟨a, c, by rw [h.len], by rw [← h.len]; exact h1, h2, fun i r hr => ?_⟩
  have hi : i < vs.length := by rw [h.len]; exact (List.getElem?_eq_some_iff.1 hr).1
  have hx : vs[i]? = Option.some vs[i] := List.getElem?_eq_getElem hi
  cases a with
  | none => have := h3 rfl; rw [this] at hi; simp at hi
  | some ad =>
    obtain ⟨g, o, s⟩ := ad
    obtain ⟨rfl, rfl, _, hg, hc⟩ := h4 g o s rfl
    have := hc i vs[i].v (by rw [flat_sl, List.getElem?_map, hx]; rfl)
    refine ⟨g, vs[i], rfl, hx, this, ?_, h.at_ i _ r hx hr⟩
    have hown := h.row.own
    exact own_free hown i
/-- A row more, with nothing in it. -/
theorem OwnF.more (h : OwnF w B v vs R) (ho : OwnL eltS w' B v' (vs ++ [SlV.nil])) (hw : Wrote (fun q => v.ownBlock = Option.some q) w w') (hv : ∀ q, v'.ownBlock = Option.some q → v.ownBlock = Option.some q ∨ w.heap.size ≤ q) : OwnF w' B v' (vs ++ [SlV.nil]) (R ++ [[]]) := by
  have key : ∀ (i : Nat) (x : SlV), (vs ++ [SlV.nil])[i]? = Option.some x → vs[i]? = Option.some x ∨ (i = vs.length ∧ x = SlV.nil) := fun i x hx => by
    by_cases hi : i < vs.length
    · rw [List.getElem?_append_left hi] at hx; exact .inl hx
    · rw [List.getElem?_append_right (by omega)] at hx
      have h0 : i - vs.length = 0 := by have := (List.getElem?_eq_some_iff.1 hx).1; simp at this; omega
      rw [h0] at hx
      simp at hx
      exact .inr ⟨by omega, hx.symm⟩
  refine ⟨ho, by simp [h.len], fun i x r hx hr => ?_, fun i x g hx hg he => ?_, fun i j x y g hx hy hij hg => ?_⟩
  · rcases key i x hx with hx | ⟨hi, rfl⟩
    · have hi : i < R.length := by rw [← h.len]; exact (List.getElem?_eq_some_iff.1 hx).1
      rw [List.getElem?_append_left hi] at hr
      exact (h.at_ i x r hx hr).wrote hw (fun g hg => h.ap1 i x g hx hg)
    · rw [hi, h.len, List.getElem?_append_right (Nat.le_refl _), Nat.sub_self] at hr
      simp at hr
      subst hr
      exact OwnL.nil ..
  · rcases key i x hx with hx | ⟨hi, rfl⟩
    · rcases hv g he with h1 | h1
      · exact h.ap1 i x g hx hg h1
      · have := (h.lt hx hg).2; omega
    · cases hg
  · rcases key i x hx with hx | ⟨hi, rfl⟩
    · rcases key j y hy with hy | ⟨hj, rfl⟩
      · exact h.ap2 i j x y g hx hy hij hg
      · intro he; cases he
    · cases hg
/-- Row f put anew: its list lies where it lay, or in a new block. -/
theorem OwnF.put {g c f : Nat} {x x' : SlV} {r' : List Ev} {wy : World} (h : OwnF w B (.slice (Option.some ⟨g, 0, none⟩) R.length c) vs R) (hx : vs[f]? = Option.some x) (ho : OwnL eltEv wy B x'.v r') (hw : Wrote (fun q => x.v.ownBlock = Option.some q) w wy)
    (hv : ∀ q, x'.v.ownBlock = Option.some q → x.v.ownBlock = Option.some q ∨ w.heap.size ≤ q) : OwnF (wy.setCell ⟨g, f, none⟩ x'.v) B (.slice (Option.some ⟨g, 0, none⟩) R.length c) (vs.set f x') (R.set f r') := by
  have hfl : f < vs.length := (List.getElem?_eq_some_iff.1 hx).1
  have hgx : x.v.ownBlock ≠ Option.some g := fun e => h.ap1 f x g hx e rfl
  have hgx' : x'.v.ownBlock ≠ Option.some g := fun e => by
    rcases hv g e with h1 | h1
    · exact hgx h1
    · have := (h.row.lt (x := g) rfl).2; omega
  have hrow : OwnL eltS wy B (.slice (Option.some ⟨g, 0, none⟩) R.length c) vs := h.row.wrote hw (fun q hq => by cases hq; exact hgx)
  have hset : ∀ {B : Nat} {u : Value} {ys : List Ev}, OwnL eltEv wy B u ys → u.ownBlock ≠ Option.some g → OwnL eltEv (wy.setCell ⟨g, f, none⟩ x'.v) B u ys := fun hh hn =>
    hh.wrote (Wrote.setCell (R := fun q => q = g) wy (p := ⟨g, f, none⟩) x'.v rfl) (fun y hy hR => hn (by rw [hy, hR]))
  have key : ∀ (i : Nat) (y : SlV), (vs.set f x')[i]? = Option.some y → (i = f ∧ y = x') ∨ (i ≠ f ∧ vs[i]? = Option.some y) := fun i y hy => by
    rw [List.getElem?_set] at hy
    by_cases hi : f = i
    · rw [if_pos hi, if_pos hfl] at hy
      exact .inl ⟨hi.symm, (Option.some.inj hy).symm⟩
    · rw [if_neg hi] at hy
      exact .inr ⟨fun e => hi e.symm, hy⟩
  refine ⟨⟨?_⟩, by simp [h.len], fun i y r hy hr => ?_, fun i y q hy hq he => ?_, fun i j y z q hy hz hij hq => ?_⟩
  · have h1 := own_set1 (by have := hrow.own; rw [h.len] at this; exact this) f x'.v
    have e : (vs.set f x').flatMap eltS.f = (vs.flatMap eltS.f).set f x'.v := by rw [flat_sl, flat_sl, List.map_set]
    rw [e, List.length_set, h.len]
    exact h1
  · rcases key i y hy with ⟨hi, rfl⟩ | ⟨hi, hy⟩
    · rw [hi, List.getElem?_set, if_pos rfl, if_pos (by rw [← h.len]; exact hfl)] at hr
      rw [← Option.some.inj hr]
      exact hset ho hgx'
    · rw [List.getElem?_set, if_neg (fun e => hi e.symm)] at hr
      refine hset ((h.at_ i y r hy hr).wrote hw (fun q hq => h.ap2 i f y x q hy hx hi hq)) (fun e => h.ap1 i y g hy e rfl)
  · rcases key i y hy with ⟨hi, rfl⟩ | ⟨hi, hy⟩
    · cases he; exact hgx' hq
    · exact h.ap1 i y q hy hq he
  · rcases key i y hy with ⟨hi, rfl⟩ | ⟨hi, hy2⟩
    · rcases key j z hz with ⟨hj, rfl⟩ | ⟨hj, hz2⟩
      · exact absurd (hi.trans hj.symm) hij
      · intro he
        rcases hv q hq with h1 | h1
        · exact h.ap2 j f z x q hz2 hx hj he h1
        · have := (h.lt hz2 he).2; omega
    · rcases key j z hz with ⟨hj, rfl⟩ | ⟨hj, hz2⟩
      · intro he
        rcases hv q he with h1 | h1
        · exact h.ap2 i f y x q hy2 hx hi hq h1
        · have := (h.lt hy2 hq).2; omega
      · exact h.ap2 i j y z q hy2 hz2 hij hq
/-- Row f turned in place. -/
theorem OwnF.turn {f : Nat} {x : SlV} {r' : List Ev} (h : OwnF w B v vs R) (hx : vs[f]? = Option.some x) (ho : OwnL eltEv w' B x.v r') (hw : Wrote (fun q => x.v.ownBlock = Option.some q) w w') : OwnF w' B v vs (R.set f r') := by
  have hfl : f < vs.length := (List.getElem?_eq_some_iff.1 hx).1
  refine ⟨h.row.wrote hw (fun q hq e => h.ap1 f x q hx e hq), by simp [h.len], fun i y r hy hr => ?_, h.ap1, h.ap2⟩
  by_cases hi : f = i
  · subst hi
    rw [hx] at hy
    rw [List.getElem?_set, if_pos rfl, if_pos (by rw [← h.len]; exact hfl)] at hr
    rw [← Option.some.inj hy, ← Option.some.inj hr]; exact ho
  · rw [List.getElem?_set, if_neg hi] at hr
    exact (h.at_ i y r hy hr).wrote hw (fun q hq => h.ap2 i f y x q hy hx (fun e => hi e.symm) hq)
end
/-- Lists of lists as they are read. -/
structure SeesF (w : World) (v : Value) (R : List (List Ev)) : Prop where
  ex : ∃ a c, v = .slice a R.length c ∧ R.length ≤ c ∧ c ≤ maxLen ∧ ∀ (i : Nat) (r : List Ev), R[i]? = some r → ∃ g ra rc, a = some ⟨g, 0, none⟩ ∧ w.cell? ⟨g, i, none⟩ = some (.slice ra r.length rc) ∧ IsEvs w ra r.length rc r
theorem SeesF.below {w w' : World} {v : Value} {R : List (List Ev)} (h : SeesF w v R) (hb : Below w.heap.size w w') : SeesF w' v R := by
  obtain ⟨a, c, h1, h2, h3, h4⟩ := h.ex
  exact ⟨a, c, h1, h2, h3, fun i r hr => by
    obtain ⟨g, ra, rc, h5, h6, h7⟩ := h4 i r hr
    exact ⟨g, ra, rc, h5, keep hb h6, h7.below hb⟩⟩
theorem SeesF.none (w : World) : SeesF w (.slice Option.none 0 0) [] := ⟨Option.none, 0, rfl, Nat.le_refl _, Nat.zero_le _, fun i r h => by simp at h⟩
theorem OwnF.sees {w : World} {B : Nat} {v : Value} {vs : List SlV} {R : List (List Ev)} (h : OwnF w B v vs R) (hw : ∀ r ∈ R, ∀ x ∈ r, x.wf) : SeesF w v R := by
  obtain ⟨a, c, h1, h2, h3, h4⟩ := h.read
  refine ⟨a, c, h1, h2, h3, fun i r hr => ?_⟩
  obtain ⟨g, x, h5, _, h7, _, h8⟩ := h4 i r hr
  obtain ⟨ra, rc, h9, h10⟩ := h8.evs (hw r (List.mem_of_getElem? hr))
  exact ⟨g, ra, rc, h5, by rw [h7, h9], h10⟩
/-- An event more behind a list, in a region that draws. -/
theorem wp_pushE {W0 : World} {o : Oper} {a : Act} {Q : Exit → Act → World → Prop} {K : Act → World → Prop} {v : Value} {xs : List Ev} {B : Nat} {t : TypeId} (s x : Operand)
    (ho : o.op = .call { callee := .builtin .append, args := #[s, x], argTypes := #[22, 22] }) (e : Ev)
    (hs : a.eval s = v) (hx : a.eval x = .slice (some ⟨W0.heap.size, 0, none⟩) 1 1) (hown : OwnL eltEv W0 B v xs) (hB : B ≤ W0.heap.size) (hcap : xs.length < 1000000)
    (h : ∀ v' w', OwnL eltEv w' B v' (xs ++ [e]) → Wrote (fun q => v.ownBlock = some q) W0 w' → (∀ q, v'.ownBlock = some q → v.ownBlock = some q ∨ W0.heap.size ≤ q) → K (a.put o.dst v') w') :
    o.wp Try.prog a (W0.alloc (.cells #[.int .i64 e.t, .int .i64 e.k, .int .i64 e.o, .int .i64 e.v, .int .i64 e.b] t)).drew K Q := by
  obtain ⟨i0, hi, hz, hs1, hy⟩ := info_at infoEv
  have hal : Below W0.heap.size W0 (W0.alloc (.cells #[.int .i64 e.t, .int .i64 e.k, .int .i64 e.o, .int .i64 e.v, .int .i64 e.b] t)).drew := ((Below.refl _ W0).alloc (Nat.le_refl _) _).drew
  have hm : (xs.length + 1) * 40 ≤ 140737488355328 := by omega
  refine wp_append_at _ s x 22 ho B 36 i0 (.agg #[.int .i64 0, .int .i64 0, .int .i64 0, .int .i64 0, .int .i64 0]) 5 40 Try.underlying22 hi hz hs1 hy rfl (by decide) v xs.length (evCells xs) hs (hown.below hal).own ⟨W0.heap.size, 0, none⟩ 1 1 (Ev.vals e) hx rfl
    (fun j u hu => cells_new W0 (Ev.vals e) t j u hu) (vals_one _) (by unfold maxLen; omega) hm (by have := hal.size; omega) (fun v' w' hown' hg _ hv' => ?_)
  refine h v' w' ⟨?_⟩ ?_ ?_
  · rw [List.length_append, List.flatMap_append]; simpa [eltEv, evCells] using hown'
  · have h1 : Wrote (fun q => v.ownBlock = some q) (W0.alloc (.cells #[.int .i64 e.t, .int .i64 e.k, .int .i64 e.o, .int .i64 e.v, .int .i64 e.b] t)).drew w' := Wrote.of_grown hg (fun q hq => hq)
    exact (Wrote.of_below (R := fun q => v.ownBlock = some q) hal).trans h1 (fun q hq => .inl hq)
  · intro q hq
    rcases hv' q hq with h2 | h2
    · exact .inl h2
    · refine .inr ?_; have := hal.size; omega
end Go.Proofs.Ytjhlehepnhbbaaa

namespace Go.Proofs.Ytjhlehepnhbbaaa
open Go Go.Shelf Go.Proofs

def sortEv_ren : Go.Shelf.Ren := ⟨fun | 6 => 57 | 15 => 85 | 14 => 84 | 28 => 114 | 29 => 115 | 20 => 106 | 21 => 107 | 22 => 108 | 23 => 109 | 24 => 110 | 25 => 111 | 26 => 112 | 27 => 113 | 46 => 127 | 47 => 128 | 48 => 129 | 49 => 130 | 50 => 131 | 57 => 132 | n => n, fun | 22 => 22 | 24 => 36 | 25 => 101 | 3 => 3 | 39 => 68 | 0 => 0 | 53 => 174 | 55 => 176 | 4 => 4 | 46 => 167 | 45 => 166 | 50 => 171 | 5 => 5 | 9 => 9 | 66 => 184 | 70 => 188 | 76 => 190 | 77 => 191 | n => n, fun n => n⟩
theorem sortEv : SlLaysF0.n6 Try.prog sortEv_ren := {
  mixed := by kernel_rfl,
  f6 := ⟨Try.f57.name, by decide, Try.func57.trans (congrArg some (by kernel_rfl))⟩,
  f14 := ⟨Try.f84.name, by decide, Try.func84.trans (congrArg some (by kernel_rfl))⟩,
  f15 := Try.func85.trans (congrArg some (by kernel_rfl)),
  f20 := ⟨Try.f106.name, by decide, Try.func106.trans (congrArg some (by kernel_rfl))⟩,
  f21 := ⟨Try.f107.name, by decide, Try.func107.trans (congrArg some (by kernel_rfl))⟩,
  f22 := ⟨Try.f108.name, by decide, Try.func108.trans (congrArg some (by kernel_rfl))⟩,
  f23 := ⟨Try.f109.name, by decide, Try.func109.trans (congrArg some (by kernel_rfl))⟩,
  f24 := ⟨Try.f110.name, by decide, Try.func110.trans (congrArg some (by kernel_rfl))⟩,
  f25 := ⟨Try.f111.name, by decide, Try.func111.trans (congrArg some (by kernel_rfl))⟩,
  f26 := ⟨Try.f112.name, by decide, Try.func112.trans (congrArg some (by kernel_rfl))⟩,
  f27 := ⟨Try.f113.name, by decide, Try.func113.trans (congrArg some (by kernel_rfl))⟩,
  f28 := Try.func114.trans (congrArg some (by kernel_rfl)),
  f29 := Try.func115.trans (congrArg some (by kernel_rfl)),
  f46 := ⟨Try.f127.name, by decide, Try.func127.trans (congrArg some (by kernel_rfl))⟩,
  f47 := Try.func128.trans (congrArg some (by kernel_rfl)),
  f48 := Try.func129.trans (congrArg some (by kernel_rfl)),
  f49 := ⟨Try.f130.name, by decide, Try.func130.trans (congrArg some (by kernel_rfl))⟩,
  f50 := ⟨Try.f131.name, by decide, Try.func131.trans (congrArg some (by kernel_rfl))⟩,
  f57 := ⟨Try.f132.name, by decide, Try.func132.trans (congrArg some (by kernel_rfl))⟩,
  t0 := Try.underlying0,
  a0 := Try.isAgg0,
  z0 := Try.sizeOf0,
  v0 := Try.zeroValue0,
  t3 := Try.underlying3,
  a3 := Try.isAgg3,
  z3 := Try.sizeOf3,
  v3 := Try.zeroValue3,
  t4 := Try.underlying4,
  a4 := Try.isAgg4,
  z4 := Try.sizeOf4,
  v4 := Try.zeroValue4,
  t5 := Try.underlying5,
  a5 := Try.isAgg5,
  z5 := Try.sizeOf5,
  v5 := Try.zeroValue5,
  t9 := Try.underlying9,
  a9 := Try.isAgg9,
  z9 := Try.sizeOf9,
  v9 := Try.zeroValue9,
  t22 := Try.underlying22,
  a22 := Try.isAgg22,
  z22 := Try.sizeOf22,
  v22 := Try.zeroValue22,
  t25 := Try.underlying101,
  a25 := Try.isAgg101,
  z25 := Try.sizeOf101,
  v25 := Try.zeroValue101,
  t39 := Try.underlying68,
  a39 := Try.isAgg68,
  z39 := Try.sizeOf68,
  v39 := Try.zeroValue68,
  t45 := Try.underlying166,
  a45 := Try.isAgg166,
  z45 := Try.sizeOf166,
  v45 := Try.zeroValue166,
  t46 := Try.underlying167,
  a46 := Try.isAgg167,
  z46 := Try.sizeOf167,
  v46 := Try.zeroValue167,
  t50 := Try.underlying171,
  a50 := Try.isAgg171,
  z50 := Try.sizeOf171,
  v50 := Try.zeroValue171,
  t53 := Try.underlying174,
  a53 := Try.isAgg174,
  z53 := Try.sizeOf174,
  v53 := Try.zeroValue174,
  t55 := Try.underlying176,
  a55 := Try.isAgg176,
  z55 := Try.sizeOf176,
  v55 := Try.zeroValue176,
  t66 := Try.underlying184,
  a66 := Try.isAgg184,
  z66 := Try.sizeOf184,
  v66 := Try.zeroValue184,
  t70 := Try.underlying188,
  a70 := Try.isAgg188,
  z70 := Try.sizeOf188,
  v70 := Try.zeroValue188,
  t76 := Try.underlying190,
  a76 := Try.isAgg190,
  z76 := Try.sizeOf190,
  v76 := Try.zeroValue190,
  t77 := Try.underlying191,
  a77 := Try.isAgg191,
  z77 := Try.sizeOf191,
  v77 := Try.zeroValue191
}
end Go.Proofs.Ytjhlehepnhbbaaa

namespace Go.Proofs.Ytjhlehepnhbbaaa
open Go.ChangeShapes Go.WideShapes Go.ChangeAt Go.RowKit Go.Deep

noncomputable def flrRes (n : Nat) (l : List Ev) : List (List Ev) × Int := if wrongS n l ≠ 0 then ([], wrongS n l) else (flrs l, 0)
theorem flrRes_bad {n : Nat} {l : List Ev} (h : wrongS n l ≠ 0) : flrRes n l = ([], wrongS n l) := if_pos h
theorem flrRes_good {n : Nat} {l : List Ev} (h : wrongS n l = 0) : flrRes n l = (flrs l, 0) := by unfold flrRes; rw [if_neg (by rw [h]; simp)]
/-- Who hands back floors and an error. -/
def FlrPost (w : World) (r : List (List Ev) × Int) (e : Ending) (w' : World) : Prop := ∃ v, e = .returned (.tuple #[v, .int .i64 r.2]) ∧ SeesF w' v r.1 ∧ Below w.heap.size w w'
theorem FlrPost.none {w w' : World} {z : Int} (hb : Below w.heap.size w w') : FlrPost w ([], z) (.returned (.tuple #[.slice none 0 0, .int .i64 z])) w' := ⟨_, rfl, SeesF.none _, hb⟩
theorem thr8_of {n : Nat} {l : List Ev} (h : GoodL n l) : Thr8 l := fun i hi => h.th (by rw [← h.len]; exact hi)

/-! The floors when m events stand. -/
noncomputable def partF (l : List Ev) (m : Nat) : List (List Ev) := (List.range (topT l m)).map fun f => evsAt l (plE l m f)
theorem partF_len (l : List Ev) (m : Nat) : (partF l m).length = topT l m := by unfold partF; rw [List.length_map, List.length_range]
theorem partF_get {l : List Ev} {m f : Nat} (h : f < topT l m) : (partF l m)[f]? = some (evsAt l (plE l m f)) := by unfold partF; rw [List.getElem?_map, List.getElem?_range h]; rfl
noncomputable def preF (l : List Ev) (m : Nat) : List (List Ev) := if flo l m = topT l m then partF l m ++ [[]] else partF l m
theorem preF_new {l : List Ev} {m : Nat} (h : flo l m = topT l m) : preF l m = partF l m ++ [[]] := if_pos h
theorem preF_old {l : List Ev} {m : Nat} (h : flo l m ≠ topT l m) : preF l m = partF l m := if_neg h
theorem preF_len (l : List Ev) (m : Nat) : (preF l m).length = topT l (m + 1) := by
  by_cases h : flo l m = topT l m
  · rw [preF_new h, List.length_append, partF_len, topT_new h]; rfl
  · rw [preF_old h, partF_len, topT_old (by have := flo_top l m; omega)]
theorem preF_at (l : List Ev) (m : Nat) : (preF l m)[flo l m]? = some (evsAt l (plE l m (flo l m))) := by
  by_cases h : flo l m = topT l m
  · rw [preF_new h, List.getElem?_append_right (by rw [partF_len, h]; exact Nat.le_refl _), partF_len, h, Nat.sub_self]
    have : plE l m (topT l m) = [] := by
      unfold plE
      rw [List.filter_eq_nil_iff]
      intro i hi
      have := topT_gt (l := l) (List.mem_range.1 hi)
      simp; omega
    rw [this]; rfl
  · rw [preF_old h]; exact partF_get (by have := flo_top l m; omega)
theorem partF_succ {l : List Ev} {m : Nat} {x : Ev} (hx : l[m]? = some x) : partF l (m + 1) = (preF l m).set (flo l m) (evsAt l (plE l m (flo l m)) ++ [x]) := by
  have hx2 : l.getD m ev00 = x := getD_of hx
  refine List.ext_getElem? fun f => ?_
  rw [List.getElem?_set]
  by_cases h1 : f < topT l (m + 1)
  · rw [partF_get h1, plE_succ, evsAt_app]
    by_cases h2 : flo l m = f
    · subst h2
      rw [if_pos rfl, if_pos rfl, if_pos (by rw [preF_len]; exact h1)]
      unfold evsAt; rw [List.map_cons, List.map_nil, hx2]
    · rw [if_neg h2, if_neg h2]
      have h3 : f < topT l m := by have := flo_top l m; rw [topT] at h1; omega
      have e0 : evsAt l [] = [] := rfl
      rw [e0, List.append_nil]
      by_cases h : flo l m = topT l m
      · rw [preF_new h, List.getElem?_append_left (by rw [partF_len]; exact h3), partF_get h3]
      · rw [preF_old h, partF_get h3]
  · rw [List.getElem?_eq_none (by rw [partF_len]; omega), if_neg (by rw [topT] at h1; omega), List.getElem?_eq_none (by rw [preF_len]; omega)]
/-- .. when m floors are sorted. -/
noncomputable def partS (l : List Ev) (m : Nat) : List (List Ev) := (List.range (topT l l.length)).map fun f => if f < m then rowF l f else evsAt l (plE l l.length f)
theorem partS_len (l : List Ev) (m : Nat) : (partS l m).length = topT l l.length := by unfold partS; rw [List.length_map, List.length_range]
theorem partS_zero (l : List Ev) : partS l 0 = partF l l.length := by
  unfold partS partF
  exact List.map_congr_left fun f _ => if_neg (Nat.not_lt_zero _)
theorem partS_at {l : List Ev} {m : Nat} (h : m < topT l l.length) : (partS l m)[m]? = some (evsAt l (plE l l.length m)) := by
  unfold partS; rw [List.getElem?_map, List.getElem?_range h, Option.map_some, if_neg (Nat.lt_irrefl _)]
theorem partS_succ {l : List Ev} {m : Nat} (h : m < topT l l.length) : (partS l m).set m (rowF l m) = partS l (m + 1) := by
  refine List.ext_getElem? fun f => ?_
  rw [List.getElem?_set]
  by_cases h1 : m = f
  · subst h1
    rw [if_pos rfl, if_pos (by rw [partS_len]; exact h)]
    unfold partS
    rw [List.getElem?_map, List.getElem?_range h, Option.map_some, if_pos (Nat.lt_succ_self _)]
  · rw [if_neg h1]
    unfold partS
    rw [List.getElem?_map, List.getElem?_map]
    by_cases h2 : f < topT l l.length
    · rw [List.getElem?_range h2, Option.map_some, Option.map_some]
      by_cases h3 : f < m
      · rw [if_pos h3, if_pos (by omega)]
      · rw [if_neg h3, if_neg (by omega)]
    · rw [List.getElem?_eq_none (by rw [List.length_range]; omega)]; rfl
theorem partS_end (l : List Ev) : partS l (topT l l.length) = flrs l := by
  unfold partS flrs
  exact List.map_congr_left fun f hf => if_pos (List.mem_range.1 hf)
theorem evs_wf_pl {l : List Ev} (hw : ∀ e ∈ l, e.wf) {ps : List Nat} (h : ∀ i ∈ ps, i < l.length) : ∀ e ∈ evsAt l ps, e.wf := evsAt_wf hw h
theorem flrs_wf {l : List Ev} (h8 : Thr8 l) (hw : ∀ e ∈ l, e.wf) : ∀ r ∈ flrs l, ∀ x ∈ r, x.wf := by
  intro r hr
  unfold flrs at hr
  obtain ⟨f, _, rfl⟩ := List.mem_map.1 hr
  unfold rowF
  exact evsAt_wf hw fun i hi => ((plF_all h8 (Nat.le_refl _)).1 hi).1

/-! The row of floors, raised at the places of D. -/
def mxF (F : Nat → Int) (D : List Nat) (z : Int) (j : Nat) : Int := if j ∈ D then max (F j) z else F j
theorem mxF_nil (F : Nat → Int) (z : Int) (j : Nat) : mxF F [] z j = F j := by unfold mxF; simp
theorem take_not {D : List Nat} {p q : Nat} (hD : D.Nodup) (hq : D[p]? = some q) : q ∉ D.take p := by
  intro hm
  obtain ⟨i, hi⟩ := List.getElem?_of_mem hm
  have hip : i < p := by
    have := (List.getElem?_eq_some_iff.1 hi).1
    rw [List.length_take] at this; omega
  rw [List.getElem?_take_of_lt hip] at hi
  obtain ⟨h1, e1⟩ := List.getElem?_eq_some_iff.1 hi
  obtain ⟨h2, e2⟩ := List.getElem?_eq_some_iff.1 hq
  have := (List.pairwise_iff_getElem.1 hD) i p h1 h2 hip
  exact this (by rw [e1, e2])
theorem mxF_at {F : Nat → Int} {D : List Nat} {z : Int} {p q : Nat} (hD : D.Nodup) (hq : D[p]? = some q) : mxF F (D.take p) z q = F q := by
  unfold mxF; rw [if_neg (take_not hD hq)]
theorem mxF_put {F : Nat → Int} {D : List Nat} {z : Int} {p q : Nat} (hq : D[p]? = some q) (j : Nat) : (if j = q then max (F q) z else mxF F (D.take p) z j) = mxF F (D.take (p + 1)) z j := by
  have ht : D.take (p + 1) = D.take p ++ [q] := by rw [List.take_add_one, hq]; rfl
  unfold mxF
  rw [ht]
  by_cases hj : j = q
  · subst hj; rw [if_pos rfl, if_pos (by simp)]
  · rw [if_neg hj]
    have e : (j ∈ D.take p ++ [q]) ↔ j ∈ D.take p := by simp [hj]
    simp only [e]
theorem mxF_off {F : Nat → Int} {D : List Nat} {z : Int} {j : Nat} (h : j ∉ D) (p : Nat) : mxF F (D.take p) z j = F j := by
  unfold mxF; rw [if_neg (fun hm => h (List.mem_of_mem_take hm))]
theorem flT_next {l : List Ev} {m j : Nat} (hj : j < l.length) : mxF (fun j => (flT l m j : Int)) (bhN l m) ((flT l m m : Int) + 1) j = (flT l (m + 1) j : Int) := by
  show (if j ∈ bhN l m then max ((flT l m j : Nat) : Int) (((flT l m m : Nat) : Int) + 1) else ((flT l m j : Nat) : Int)) = _
  rw [flT]
  by_cases h : hbB (rD l) m j = true
  · rw [if_pos (bhN_mem.2 ⟨hj, h⟩), if_pos h]; omega
  · rw [if_neg (fun hm => h (bhN_mem.1 hm).2), if_neg h]

/-! The sort. -/
theorem ltEv (x y : Ev) : ltOf (fun x y : Ev => cmpI x.t y.t) x y = decide (x.t < y.t) := by
  unfold ltOf
  rw [decide_eq_decide]
  exact cmpI_lt
theorem swoEv : Go.Sort.SWO (ltOf fun x y : Ev => cmpI x.t y.t) where
  irrefl x := by rw [ltEv]; simp
  trans x y z h1 h2 := by rw [ltEv] at *; simp at *; omega
  ntrans x y z h1 h2 := by rw [ltEv] at *; simp at *; omega
set_option maxHeartbeats 2000000 in
theorem flcmp_calls : CmpAt 58 eltEv.f (fun x y : Ev => cmpI x.t y.t) := by
  rintro ⟨xt, xk, xo, xv, xb⟩ ⟨yt, yk, yo, yv, yb⟩ W
  have hc := fun W' => cmp_calls xt yt W'
  show Calls Try.prog 58 #[.agg #[.int .i64 xt, .int .i64 xk, .int .i64 xo, .int .i64 xv, .int .i64 xb], .agg #[.int .i64 yt, .int .i64 yk, .int .i64 yo, .int .i64 yv, .int .i64 yb]] W _
  simp only
  generalize cmpI xt yt = r at hc ⊢
  go_enter Try.func58, Try.ntmps58
  go_wp2_with (go_at_call 59; refine (hc _).mono ?_; rintro e w' ⟨rfl, rfl⟩)
  go_ret
  exact ⟨rfl, by go_grown, Nat.le_refl _⟩
instance : Inhabited Ev := ⟨ev00⟩
theorem sortEv_calls {w : World} {B : Nat} {v : Value} {xs : List Ev} (h : OwnL eltEv w B v xs) (hn : xs.length < 1000000) :
    Calls Try.prog 57 #[v, .func (.func 58) #[] #[]] w fun e w' => e = .returned (.tuple #[]) ∧ ∃ ys : List Ev, ys.Perm xs ∧ (ys.Pairwise fun a b => ¬ b.t < a.t) ∧ OwnL eltEv w' B v ys ∧ Wrote (fun q => v.ownBlock = some q) w w' := by
  have := sortL_calls eltEv sortEv Try.isAgg36 Try.sizeOf36 (fun x y : Ev => cmpI x.t y.t) swoEv 58 (enters_of Try.func58 (by kernel_rfl) rfl) flcmp_calls h hn
  change Calls Try.prog 57 _ _ _ at this
  refine this.mono fun e w' ⟨he, ys, h1, h2, h3⟩ => ⟨he, ys, h1, h2.imp fun h => ?_, h3⟩
  rw [ltEv] at h
  exact of_decide_eq_false h

set_option maxRecDepth 20000 in
set_option maxHeartbeats 16000000 in
theorem floors_calls {w : World} {a0 : Option Addr} {n c : Nat} {l : List Ev} (h : IsEvs w a0 n c l) :
    Calls Try.prog 27 #[.slice a0 n c] w (FlrPost w (flrRes n l)) := by
  have hnm : n ≤ 9223372036854775807 := by have := h.le; have := h.cap; unfold maxLen at *; omega
  have Hev := Lib.hid h
  have Ho := Lib.hid (order_calls h)
  have Hl := Lib.hid h.len
  clear h
  go_enter Try.func27, Try.ntmps27
  go_wp2_with fail
  refine Ho.out.mono ?_
  rintro e w1 ⟨hb1, ⟨hz, rfl⟩ | ⟨hz, hg, b, v, rfl, hO⟩⟩
  · have HB1 := Lib.hid hb1
    have hz' : (wrongS n l != 0) = true := by simpa [bne] using hz
    have Hq : Hid (FlrPost w (flrRes n l) (.returned (.tuple #[.slice none 0 0, .int .i64 (wrongS n l)])) w1) := by rw [Hid, flrRes_bad hz]; exact FlrPost.none HB1.out
    clear hb1 hz Ho
    generalize wrongS n l = z at *
    go_wp2
    go_returns
    exact Hq.out
  have HB1 := Lib.hid hb1
  have HO := Lib.hid hO
  have HG := Lib.hid hg
  have H8 := Lib.hid (thr8_of hg)
  have hn100 : n ≤ 100 := hg.le
  have Hr := Lib.hid (flrRes_good hz)
  clear hb1 hg hO hz Ho hnm
  go_wp2_with (refine wpList_makeI rfl (.tmp 23) (.tmp 23) rfl n (by omega) rfl rfl ?_)
  have HS : RowI n (fun j => (flT l 0 j : Int)) w1.heap.size w1 (w1.alloc (.cells (intsA n fun _ => 0) 3)) := ⟨by rw [intsA_congr (g := fun _ => 0) (fun i _ => by simp [flT])]; exact (MapKept.heap_alloc w1 _).1, (Below.refl _ w1).alloc (Nat.le_refl _) _⟩
  revert HS
  generalize w1.alloc (.cells (intsA n fun _ => 0) 3) = w2
  intro HS
  obtain ⟨gl, hgl⟩ : ∃ gl, gl = w1.heap.size := ⟨_, rfl⟩
  rw [← hgl] at HS ⊢
  have Hgl := Lib.hid hgl
  have HS2 := Lib.hid HS
  clear hgl HS
  go_wp2_with fail
  go_loopw [7, 8, 9, 11, 27, 62] (fun u _ _ _ x _ wr => ∃ (m : Nat) (vs : List SlV), m ≤ n ∧ x = .int .i64 m ∧ Hid (RowI n (fun j => (flT l m j : Int)) gl w1 wr ∧ OwnF wr (gl + 1) u vs (partF l m))) (fun _ _ _ _ x _ _ => n - (intOf x).toNat)
  case atStart => exact ⟨0, [], Nat.zero_le _, by go_num, HS2.out, OwnF.nil ..⟩
  case round =>
    clear HS2
    obtain ⟨m, vs, hm, rfl, HL⟩ := hrel
    obtain ⟨ua, uc, hu, huc, hcm, _⟩ := HL.out.2.read
    rw [partF_len] at hu huc
    subst hu
    have htop := topT_le l m
    by_cases hmn : m < n
    · have HBw := Lib.hid (HB1.out.trans ((HL.out.1.base Hgl.out).mono HB1.out.size))
      obtain ⟨b0, off, x, rfl, hx, _, c0, c1, c2, c3, c4⟩ := (Hev.out.below HBw.out).at hmn
      obtain ⟨gm, _⟩ := HL.out.1.get hmn
      have Hx := Lib.hid hx
      obtain ⟨xt, xk, xo, xv, xb⟩ := x
      simp only at c0 c1 c2 c3 c4
      have hfm : flT l m m = flo l m := rfl
      rw [hfm] at gm
      have hft := flo_top l m
      clear hx hfm
      have Hlt : Hid (∀ (i : Nat) (x : SlV) (q : Nat), vs[i]? = some x → x.v.ownBlock = some q → q < wr.heap.size) := fun i x q hx hq => (HL.out.2.lt hx hq).2
      have Hul : Hid (∀ q, (Value.slice ua (topT l m) uc).ownBlock = some q → q < wr.heap.size) := fun q hq => (HL.out.2.row.lt hq).2
      have Hvl : Hid (vs.length = topT l m) := by rw [Hid, HL.out.2.len, partF_len]
      go_upto_region 9 with (fail)
      have hN := one_newR wr #[.int .i64 xt, .int .i64 xk, .int .i64 xo, .int .i64 xv, .int .i64 xb] 36
      have HL2 := Lib.hid (And.intro (HL.out.1.go hN.2) (HL.out.2.below hN.2))
      have gm := keep hN.2 gm
      revert hN HL2 gm
      generalize wr.alloc (.cells #[.int .i64 xt, .int .i64 xk, .int .i64 xo, .int .i64 xv, .int .i64 xb] 36) = y1
      intro hN HL2 gm
      have hA := hN.1
      have Hg1 : Hid (gl + 1 ≤ wr.heap.size) := HL.out.1.lt
      clear HL HBw c0 c1 c2 c3 c4 hN
      revert hA Hg1 Hlt Hul
      generalize wr.heap.size = g1
      intro Hlt Hul hA Hg1
      have hE : EvBox y1 g1 xt xk xo xv xb := ⟨cell_of_block hA, cell_of_block hA, cell_of_block hA, cell_of_block hA, cell_of_block hA⟩
      have HE1 := Lib.hid hE
      have hg1y : g1 < y1.heap.size := (Array.getElem?_eq_some_iff.1 hA).1
      have HB1y : Hid (gl + 1 ≤ y1.heap.size) := by have := Hg1.out; rw [Hid]; omega
      have hfl0 : flo l m ≤ 100 := Nat.le_trans (flo_le_i m) (by omega)
      clear hA hE hg1y
      by_cases hnew : flo l m = topT l m
      · have hq : ((flo l m : Int) == (topT l m : Int)) = true := by simp; omega
        have Hcap : Hid (vs.length < 1000000) := by rw [Hid, Hvl.out]; omega
        go_wp2_with (at_builtin; go_loud (refine wpList_push eltS rfl (.tmp 39) (.tmp 40) rfl SlV.nil rfl rfl rfl HL2.out.2.row HB1y.out Hcap.out ?_))
        intro v2 y2 hown hw hv
        have hF := HL2.out.2.more hown hw hv
        rw [← preF_new hnew] at hF
        have hR := HL2.out.1.wrote hw (fun q hq => by have := (HL2.out.2.row.lt hq).1; omega)
        have hEE : EvBox y2 g1 xt xk xo xv xb := HE1.out.wrote hw (fun hq => by have := Hul.out _ hq; omega)
        have HF := Lib.hid hF
        have HR := Lib.hid hR
        have HE := Lib.hid hEE
        have HNX : Hid (∀ x0 : SlV, (vs ++ [SlV.nil])[flo l m]? = some x0 → ∀ q, x0.v.ownBlock = some q → q ≠ g1) := fun x0 hx0 q hq => by
          rw [hnew, ← Hvl.out, List.getElem?_append_right (Nat.le_refl _), Nat.sub_self] at hx0
          simp at hx0
          rw [← hx0] at hq; cases hq
        have Hg2 : Hid (gl + 1 ≤ y2.heap.size) := by have := HB1y.out; have := hw.size; rw [Hid]; omega
        clear hown hw hv hF hR hEE HL2 HE1 Hlt Hul hq hnew gm Hcap Hvl HB1y Hg1
        revert HF HNX
        generalize vs ++ [SlV.nil] = vs2
        intro HF HNX
        obtain ⟨va, vc, hv2, hvc, hvm, hat⟩ := HF.out.read
        rw [preF_len] at hv2 hvc
        cases hv2
        obtain ⟨go, ⟨xa, xn, xc⟩, rfl, hx0, co, fo, hx⟩ := hat _ _ (preF_at l m)
        have co : y2.cell? ⟨go, flo l m, none⟩ = some (.slice xa xn xc) := co
        have hx : OwnL eltEv y2 (gl + 1) (.slice xa xn xc) (evsAt l (plE l m (flo l m))) := hx
        have gm : y2.cell? ⟨gl, m, none⟩ = some (.int .i64 (flo l m : Int)) := (HR.out.get hmn).1
        have htp : flo l m < topT l (m + 1) := topT_gt (Nat.lt_succ_self m)
        have htn := topT_le l (m + 1)
        have Hx0 := Lib.hid hx0
        have HX := Lib.hid hx
        have Hne : Hid (∀ q, (Value.slice xa xn xc).ownBlock = some q → q ≠ g1 ∧ q ≠ gl ∧ q ≠ go) := fun q hq => ⟨HNX.out _ hx0 q hq, by have := (hx.lt hq).1; omega, fun e => HF.out.ap1 _ _ _ hx0 hq (by rw [e]; rfl)⟩
        have Hcp : Hid ((evsAt l (plE l m (flo l m))).length < 1000000) := by have := plE_len l m (flo l m); rw [Hid, evsAt_len]; omega
        have Hgo : Hid (gl + 1 ≤ go) := (HF.out.row.lt (x := go) rfl).1
        have hE' := HE.out.all
        clear hat hx hx0 hvm
        go_wp2_with fail
        refine wp_plan2_draw 15 [0, 1, 2, 3, 4, 5, 6, 7, 8, 9, 10, 11, 12] [13, 14] (fun w' => w'.cell? ⟨gl, m, none⟩ = some (.int .i64 (flo l m : Int)) ∧ w'.cell? ⟨go, flo l m, none⟩ = some (.slice xa xn xc) ∧ w'.cell? ⟨g1, 0, none⟩ = some (.int .i64 xt) ∧ w'.cell? ⟨g1, 1, none⟩ = some (.int .i64 xk) ∧ w'.cell? ⟨g1, 2, none⟩ = some (.int .i64 xo) ∧ w'.cell? ⟨g1, 3, none⟩ = some (.int .i64 xv) ∧ w'.cell? ⟨g1, 4, none⟩ = some (.int .i64 xb)) mixed (by kernel_rfl) (fun c a d v w h => by cases d <;> exact h) ⟨gm, co, hE'⟩ ?_
        simp only [picks, List.map_cons, List.map_nil, List.getD_cons_zero, List.getD_cons_succ]
        repeat ((apply ReadRun.go rfl); (intro z1 hS; (obtain ⟨s0, s1, s2, s3, s4, s5, s6⟩ := hS); go_simp; first | done | exact rfl); (simp only [Act.put, List.setIfInBounds_toArray, List.set_cons_zero, List.set_cons_succ]))
        refine ReadRun.done ?_
        refine MakeRun.go rfl (fun K hK => ?_)
        go_wp2_with fail
        have hA : Below y2.heap.size y2 (y2.alloc (.cells #[.int .i64 xt, .int .i64 xk, .int .i64 xo, .int .i64 xv, .int .i64 xb] 36)).drew := ((Below.refl _ y2).alloc (Nat.le_refl _) _).drew
        refine ⟨⟨keep hA gm, keep hA co, (HE.out.below hA).all⟩, ?_⟩
        try simp only [Act.put, List.setIfInBounds_toArray, List.set_cons_zero, List.set_cons_succ]
        refine MakeRun.go rfl (fun K hK => ?_)
        clear hA
        refine wp_pushE (v := .slice xa xn xc) (.tmp 53) (.tmp 55) rfl ⟨xt, xk, xo, xv, xb⟩ rfl rfl HX.out Hg2.out Hcp.out ?_
        intro v' y4 hown hw hv
        obtain ⟨pa, pc, hpv, _⟩ := hown.slice
        revert hpv
        generalize (evsAt l (plE l m (flo l m)) ++ [(⟨xt, xk, xo, xv, xb⟩ : Ev)]).length = pn
        intro hpv
        subst hpv
        have hgl : gl < y2.heap.size := HR.out.lt
        have hgo : go < y2.heap.size := (HF.out.row.lt (x := go) rfl).2
        have k0 : y4.cell? ⟨gl, m, none⟩ = some (.int .i64 (flo l m : Int)) := (hw.cell (p := ⟨gl, m, none⟩) hgl (fun e => (Hne.out _ e).2.1 rfl)).trans gm
        have k1 : y4.cell? ⟨go, flo l m, none⟩ = some (.slice xa xn xc) := (hw.cell (p := ⟨go, flo l m, none⟩) hgo (fun e => (Hne.out _ e).2.2 rfl)).trans co
        have kf : y4.frozen? ⟨go, flo l m, none⟩ = false := (World.frozen?_of_block (a := ⟨go, flo l m, none⟩) (hw.block go hgo (fun e => (Hne.out _ e).2.2 rfl))).trans fo
        refine hK _ _ ⟨⟨k0, k1, (HE.out.wrote hw (fun e => (Hne.out _ e).1 rfl)).all⟩, ?_⟩
        clear hK
        try simp only [Act.put, List.setIfInBounds_toArray, List.set_cons_zero, List.set_cons_succ]
        refine MakeRun.done ?_
        have hput := OwnF.put (R := preF l m) (g := go) (c := vc) (f := flo l m) (x' := ⟨pa, pn, pc⟩) (by rw [preF_len]; exact HF.out) Hx0.out hown hw hv
        rw [preF_len, ← partF_succ Hx.out] at hput
        have hR4 := (HR.out.wrote hw (fun q hq => by have := (HX.out.lt hq).1; omega)).wrote (Wrote.setCell (R := fun q => q = go) y4 (p := ⟨go, flo l m, none⟩) (SlV.v ⟨pa, pn, pc⟩) rfl) (fun q hq => by have := Hgo.out; omega)
        have HP := Lib.hid (And.intro hR4 hput)
        clear hput hR4 hown hw hv HF HR HE HX Hx0 Hne Hcp Hgo HNX Hg2 hgl hgo gm co fo hE' htn hvc huc htop Hx
        go_wp2_with fail
        have HP : Hid (RowI n (fun j => (flT l m j : Int)) gl w1 (y4.setCell ⟨go, flo l m, none⟩ (.slice pa pn pc)) ∧ OwnF (y4.setCell ⟨go, flo l m, none⟩ (.slice pa pn pc)) (gl + 1) (.slice (some ⟨go, 0, none⟩) (topT l (m + 1)) vc) (vs2.set (flo l m) ⟨pa, pn, pc⟩) (partF l (m + 1))) := HP.out
        revert HP
        generalize vs2.set (flo l m) ⟨pa, pn, pc⟩ = vs3
        generalize y4.setCell ⟨go, flo l m, none⟩ (.slice pa pn pc) = y5
        intro HP
        clear k0 k1 kf
        have HBr : Hid (Below w1.heap.size w1 y5) := HP.out.1.base Hgl.out
        refine (obehind_calls (HO.out.below HBr.out) HG.out (m : Int)).mono ?_
        rintro e wy ⟨ur, rfl, hown, hb⟩
        rw [marks_bh Hl.out.symm hmn] at hown
        have HSy := Lib.hid (And.intro (HP.out.1.go hb) (HP.out.2.below hb))
        have hgB : gl < y5.heap.size := HP.out.1.lt
        clear hb HBr HP
        revert hown hgB
        generalize y5.heap.size = B'
        intro hown hgB
        obtain ⟨sa, sc, hu, hsc, _⟩ := hown.int_at
        rw [natsI_len] at hu hsc
        subst hu
        have HOw := Lib.hid hown
        have HgB := Lib.hid hgB
        have hDl : (bhN l m).length ≤ 100 := Nat.le_trans (bhN_len l m) (by rw [Hl.out]; exact hn100)
        have HDn : Hid (bhN l m).Nodup := bhN_nodup l m
        have HDm : Hid (∀ q ∈ bhN l m, q < n) := fun q hq => by have := (bhN_mem.1 hq).1; rw [Hl.out] at this; exact this
        have HDo : Hid (m ∉ bhN l m) := fun hm => by have := hbB_iff.1 (bhN_mem.1 hm).2; have := this.lt; omega
        have HDf : Hid (∀ j, j < n → mxF (fun j => (flT l m j : Int)) (bhN l m) ((flo l m : Int) + 1) j = (flT l (m + 1) j : Int)) := fun j hj => flT_next (by rw [Hl.out]; exact hj)
        have HCb : Hid (∀ j, (0 : Int) ≤ flT l m j ∧ (flT l m j : Int) ≤ 100) := fun j => by have := flT_le (l := l) m j; exact ⟨by omega, by omega⟩
        have Hfm : Hid ((fun j => (flT l m j : Int)) m = (flo l m : Int)) := rfl
        clear hown hgB
        revert HOw hDl hsc HDn HDm HDo HDf HCb HSy Hfm
        generalize bhN l m = D
        generalize hF : (fun j => (flT l m j : Int)) = F
        intro HSy hsc HOw hDl HDn HDm HDo HDf HCb Hfm
        have HCb' : Hid (∀ j, (0 : Int) ≤ F j ∧ F j ≤ 100) := by subst hF; exact HCb.out
        clear HCb hF
        go_wp2_with fail
        go_loopw [11, 62] (fun _ x wq => ∃ p : Nat, p ≤ D.length ∧ x = .int .i64 p ∧ Hid (RowI n (mxF F (D.take p) ((flo l m : Int) + 1)) gl w1 wq ∧ OwnF wq (gl + 1) (.slice (some ⟨go, 0, none⟩) (topT l (m + 1)) vc) vs3 (partF l (m + 1)) ∧ OwnL eltI wq B' (.slice sa D.length sc) (natsI D))) (fun _ x _ => D.length - (intOf x).toNat)
        case atStart => exact ⟨0, Nat.zero_le _, by go_num, ⟨HSy.out.1.of (fun j _ => by rw [List.take_zero, mxF_nil]), HSy.out.2, HOw.out⟩⟩
        case round =>
          clear HSy HOw
          obtain ⟨p, hp, rfl, HQ⟩ := hrel
          by_cases hpl : p < D.length
          · obtain ⟨q, hq⟩ : ∃ q, D[p]? = some q := ⟨_, List.getElem?_eq_getElem hpl⟩
            obtain ⟨g, rfl, cq⟩ := HQ.out.2.2.natAt hq
            have hqn : q < n := HDm.out q (List.mem_of_getElem? hq)
            obtain ⟨gc, gf⟩ := HQ.out.1.get hqn
            obtain ⟨gm, _⟩ := HQ.out.1.get hmn
            rw [mxF_at HDn.out hq] at gc
            rw [mxF_off HDo.out, Hfm.out] at gm
            obtain ⟨hz0, hz1⟩ := HCb'.out q
            have Hput := Lib.hid (mxF_put (F := F) (z := (flo l m : Int) + 1) hq)
            clear hq
            revert gc hz0 hz1 Hput
            generalize F q = z
            intro gc hz0 hz1 Hput
            go_upto_region 15 with (fail)
            refine wp_ext_draw 13 mixed (by kernel_rfl) ?_
            simp only [List.take_succ_cons, List.take_zero, List.drop_succ_cons, List.drop_zero]
            repeat ((first | ((apply TextRun.go rfl rfl rfl); (focus (intro w1 hS K hK; have hc := bcell hS; have hs := blt hS; have gc := keep hS gc; have gm := keep hS gm; go_wp2_with (fail); first | done | exact hS | exact hS.trans (hb.mono hS.size)))) | (refine TextRun.skip rfl ?_) | ((refine TextRun.wantedT rfl rfl rfl ?_); (apply Exists.intro); (apply And.intro); (focus (intro w1 hS K hK; have hc := bcell hS; have hs := blt hS; have gc := keep hS gc; have gm := keep hS gm; go_wp2_with (fail); first | done | exact hS | exact hS.trans (hb.mono hS.size))))); (simp only [Act.put, List.setIfInBounds_toArray, List.set_cons_zero, List.set_cons_succ]))
            refine TextRun.done ?_
            intro y7 hb
            have HN : Hid (RowI n (mxF F (D.take (p + 1)) ((flo l m : Int) + 1)) gl w1 (y7.setCell ⟨gl, q, none⟩ (.int .i64 (max z ((flo l m : Int) + 1)))) ∧ OwnF (y7.setCell ⟨gl, q, none⟩ (.int .i64 (max z ((flo l m : Int) + 1)))) (gl + 1) (.slice (some ⟨go, 0, none⟩) (topT l (m + 1)) vc) vs3 (partF l (m + 1)) ∧ OwnL eltI (y7.setCell ⟨gl, q, none⟩ (.int .i64 (max z ((flo l m : Int) + 1)))) B' (.slice (some ⟨g, 0, none⟩) D.length sc) (natsI D)) :=
              ⟨((HQ.out.1.go hb).put q (max z ((flo l m : Int) + 1))).of (fun j _ => Hput.out j), (HQ.out.2.1.below hb).low (Wrote.setCell (R := fun q => q = gl) y7 (p := ⟨gl, q, none⟩) _ rfl) (fun q hq => by omega), (HQ.out.2.2.below hb).cell_set HgB.out⟩
            have gc := keep hb gc
            have gf := ((HQ.out.1.go hb).get hqn).2
            clear hb HQ Hput gm cq
            go_wp2
            go_roundw
            case rel => exact ⟨p + 1, hpl, by go_num, HN.out⟩
            case measure => exact meas hpl
          · have hpl : D.length = p := Nat.le_antisymm (Nat.le_of_not_lt hpl) hp
            subst hpl
            have HN : Hid (RowI n (fun j => (flT l (m + 1) j : Int)) gl w1 wr ∧ OwnF wr (gl + 1) (.slice (some ⟨go, 0, none⟩) (topT l (m + 1)) vc) vs3 (partF l (m + 1))) := ⟨HQ.out.1.of (fun j hj => by rw [List.take_length]; exact HDf.out j hj), HQ.out.2.1⟩
            clear HQ
            go_wp2
            go_roundw
            case rel => exact ⟨m + 1, vs3, hmn, by go_num, HN.out⟩
            case measure => exact meas hmn
      · have hq : ((flo l m : Int) == (topT l m : Int)) = false := by simp; omega
        have htt : topT l (m + 1) = topT l m := topT_old (by omega)
        have hF := HL2.out.2
        rw [← preF_old hnew] at hF
        have HF := Lib.hid hF
        have HR := Lib.hid HL2.out.1
        have HE := Lib.hid HE1.out
        have HNX : Hid (∀ x0 : SlV, vs[flo l m]? = some x0 → ∀ q, x0.v.ownBlock = some q → q ≠ g1) := fun x0 hx0 q hq => by have := Hlt.out _ x0 q hx0 hq; omega
        have Hg2 := Lib.hid HB1y.out
        clear hF HL2 HE1 Hlt Hul hnew Hvl HB1y Hg1
        go_upto_region 11 with (fail)
        clear hq gm
        rw [← htt] at HF ⊢
        clear htt
        obtain ⟨va, vc, hv2, hvc, hvm, hat⟩ := HF.out.read
        rw [preF_len] at hv2 hvc
        cases hv2
        obtain ⟨go, ⟨xa, xn, xc⟩, rfl, hx0, co, fo, hx⟩ := hat _ _ (preF_at l m)
        have co : y1.cell? ⟨go, flo l m, none⟩ = some (.slice xa xn xc) := co
        have hx : OwnL eltEv y1 (gl + 1) (.slice xa xn xc) (evsAt l (plE l m (flo l m))) := hx
        have gm : y1.cell? ⟨gl, m, none⟩ = some (.int .i64 (flo l m : Int)) := (HR.out.get hmn).1
        have htp : flo l m < topT l (m + 1) := topT_gt (Nat.lt_succ_self m)
        have htn := topT_le l (m + 1)
        have Hx0 := Lib.hid hx0
        have HX := Lib.hid hx
        have Hne : Hid (∀ q, (Value.slice xa xn xc).ownBlock = some q → q ≠ g1 ∧ q ≠ gl ∧ q ≠ go) := fun q hq => ⟨HNX.out _ hx0 q hq, by have := (hx.lt hq).1; omega, fun e => HF.out.ap1 _ _ _ hx0 hq (by rw [e]; rfl)⟩
        have Hcp : Hid ((evsAt l (plE l m (flo l m))).length < 1000000) := by have := plE_len l m (flo l m); rw [Hid, evsAt_len]; omega
        have Hgo : Hid (gl + 1 ≤ go) := (HF.out.row.lt (x := go) rfl).1
        have hE' := HE.out.all
        clear hat hx hx0 hvm
        go_wp2_with fail
        refine wp_plan2_draw 15 [0, 1, 2, 3, 4, 5, 6, 7, 8, 9, 10, 11, 12] [13, 14] (fun w' => w'.cell? ⟨gl, m, none⟩ = some (.int .i64 (flo l m : Int)) ∧ w'.cell? ⟨go, flo l m, none⟩ = some (.slice xa xn xc) ∧ w'.cell? ⟨g1, 0, none⟩ = some (.int .i64 xt) ∧ w'.cell? ⟨g1, 1, none⟩ = some (.int .i64 xk) ∧ w'.cell? ⟨g1, 2, none⟩ = some (.int .i64 xo) ∧ w'.cell? ⟨g1, 3, none⟩ = some (.int .i64 xv) ∧ w'.cell? ⟨g1, 4, none⟩ = some (.int .i64 xb)) mixed (by kernel_rfl) (fun c a d v w h => by cases d <;> exact h) ⟨gm, co, hE'⟩ ?_
        simp only [picks, List.map_cons, List.map_nil, List.getD_cons_zero, List.getD_cons_succ]
        repeat ((apply ReadRun.go rfl); (intro z1 hS; (obtain ⟨s0, s1, s2, s3, s4, s5, s6⟩ := hS); go_simp; first | done | exact rfl); (simp only [Act.put, List.setIfInBounds_toArray, List.set_cons_zero, List.set_cons_succ]))
        refine ReadRun.done ?_
        refine MakeRun.go rfl (fun K hK => ?_)
        go_wp2_with fail
        have hA : Below y1.heap.size y1 (y1.alloc (.cells #[.int .i64 xt, .int .i64 xk, .int .i64 xo, .int .i64 xv, .int .i64 xb] 36)).drew := ((Below.refl _ y1).alloc (Nat.le_refl _) _).drew
        refine ⟨⟨keep hA gm, keep hA co, (HE.out.below hA).all⟩, ?_⟩
        try simp only [Act.put, List.setIfInBounds_toArray, List.set_cons_zero, List.set_cons_succ]
        refine MakeRun.go rfl (fun K hK => ?_)
        clear hA
        refine wp_pushE (v := .slice xa xn xc) (.tmp 53) (.tmp 55) rfl ⟨xt, xk, xo, xv, xb⟩ rfl rfl HX.out Hg2.out Hcp.out ?_
        intro v' y4 hown hw hv
        obtain ⟨pa, pc, hpv, _⟩ := hown.slice
        revert hpv
        generalize (evsAt l (plE l m (flo l m)) ++ [(⟨xt, xk, xo, xv, xb⟩ : Ev)]).length = pn
        intro hpv
        subst hpv
        have hgl : gl < y1.heap.size := HR.out.lt
        have hgo : go < y1.heap.size := (HF.out.row.lt (x := go) rfl).2
        have k0 : y4.cell? ⟨gl, m, none⟩ = some (.int .i64 (flo l m : Int)) := (hw.cell (p := ⟨gl, m, none⟩) hgl (fun e => (Hne.out _ e).2.1 rfl)).trans gm
        have k1 : y4.cell? ⟨go, flo l m, none⟩ = some (.slice xa xn xc) := (hw.cell (p := ⟨go, flo l m, none⟩) hgo (fun e => (Hne.out _ e).2.2 rfl)).trans co
        have kf : y4.frozen? ⟨go, flo l m, none⟩ = false := (World.frozen?_of_block (a := ⟨go, flo l m, none⟩) (hw.block go hgo (fun e => (Hne.out _ e).2.2 rfl))).trans fo
        refine hK _ _ ⟨⟨k0, k1, (HE.out.wrote hw (fun e => (Hne.out _ e).1 rfl)).all⟩, ?_⟩
        clear hK
        try simp only [Act.put, List.setIfInBounds_toArray, List.set_cons_zero, List.set_cons_succ]
        refine MakeRun.done ?_
        have hput := OwnF.put (R := preF l m) (g := go) (c := uc) (f := flo l m) (x' := ⟨pa, pn, pc⟩) (by rw [preF_len]; exact HF.out) Hx0.out hown hw hv
        rw [preF_len, ← partF_succ Hx.out] at hput
        have hR4 := (HR.out.wrote hw (fun q hq => by have := (HX.out.lt hq).1; omega)).wrote (Wrote.setCell (R := fun q => q = go) y4 (p := ⟨go, flo l m, none⟩) (SlV.v ⟨pa, pn, pc⟩) rfl) (fun q hq => by have := Hgo.out; omega)
        have HP := Lib.hid (And.intro hR4 hput)
        clear hput hR4 hown hw hv HF HR HE HX Hx0 Hne Hcp Hgo HNX Hg2 hgl hgo gm co fo hE' htn hvc huc htop Hx
        go_wp2_with fail
        have HP : Hid (RowI n (fun j => (flT l m j : Int)) gl w1 (y4.setCell ⟨go, flo l m, none⟩ (.slice pa pn pc)) ∧ OwnF (y4.setCell ⟨go, flo l m, none⟩ (.slice pa pn pc)) (gl + 1) (.slice (some ⟨go, 0, none⟩) (topT l (m + 1)) uc) (vs.set (flo l m) ⟨pa, pn, pc⟩) (partF l (m + 1))) := HP.out
        revert HP
        generalize vs.set (flo l m) ⟨pa, pn, pc⟩ = vs3
        generalize y4.setCell ⟨go, flo l m, none⟩ (.slice pa pn pc) = y5
        intro HP
        clear k0 k1 kf
        have HBr : Hid (Below w1.heap.size w1 y5) := HP.out.1.base Hgl.out
        refine (obehind_calls (HO.out.below HBr.out) HG.out (m : Int)).mono ?_
        rintro e wy ⟨ur, rfl, hown, hb⟩
        rw [marks_bh Hl.out.symm hmn] at hown
        have HSy := Lib.hid (And.intro (HP.out.1.go hb) (HP.out.2.below hb))
        have hgB : gl < y5.heap.size := HP.out.1.lt
        clear hb HBr HP
        revert hown hgB
        generalize y5.heap.size = B'
        intro hown hgB
        obtain ⟨sa, sc, hu, hsc, _⟩ := hown.int_at
        rw [natsI_len] at hu hsc
        subst hu
        have HOw := Lib.hid hown
        have HgB := Lib.hid hgB
        have hDl : (bhN l m).length ≤ 100 := Nat.le_trans (bhN_len l m) (by rw [Hl.out]; exact hn100)
        have HDn : Hid (bhN l m).Nodup := bhN_nodup l m
        have HDm : Hid (∀ q ∈ bhN l m, q < n) := fun q hq => by have := (bhN_mem.1 hq).1; rw [Hl.out] at this; exact this
        have HDo : Hid (m ∉ bhN l m) := fun hm => by have := hbB_iff.1 (bhN_mem.1 hm).2; have := this.lt; omega
        have HDf : Hid (∀ j, j < n → mxF (fun j => (flT l m j : Int)) (bhN l m) ((flo l m : Int) + 1) j = (flT l (m + 1) j : Int)) := fun j hj => flT_next (by rw [Hl.out]; exact hj)
        have HCb : Hid (∀ j, (0 : Int) ≤ flT l m j ∧ (flT l m j : Int) ≤ 100) := fun j => by have := flT_le (l := l) m j; exact ⟨by omega, by omega⟩
        have Hfm : Hid ((fun j => (flT l m j : Int)) m = (flo l m : Int)) := rfl
        clear hown hgB
        revert HOw hDl hsc HDn HDm HDo HDf HCb HSy Hfm
        generalize bhN l m = D
        generalize hF : (fun j => (flT l m j : Int)) = F
        intro HSy hsc HOw hDl HDn HDm HDo HDf HCb Hfm
        have HCb' : Hid (∀ j, (0 : Int) ≤ F j ∧ F j ≤ 100) := by subst hF; exact HCb.out
        clear HCb hF
        go_wp2_with fail
        go_loopw [11, 62] (fun _ x wq => ∃ p : Nat, p ≤ D.length ∧ x = .int .i64 p ∧ Hid (RowI n (mxF F (D.take p) ((flo l m : Int) + 1)) gl w1 wq ∧ OwnF wq (gl + 1) (.slice (some ⟨go, 0, none⟩) (topT l (m + 1)) uc) vs3 (partF l (m + 1)) ∧ OwnL eltI wq B' (.slice sa D.length sc) (natsI D))) (fun _ x _ => D.length - (intOf x).toNat)
        case atStart => exact ⟨0, Nat.zero_le _, by go_num, ⟨HSy.out.1.of (fun j _ => by rw [List.take_zero, mxF_nil]), HSy.out.2, HOw.out⟩⟩
        case round =>
          clear HSy HOw
          obtain ⟨p, hp, rfl, HQ⟩ := hrel
          by_cases hpl : p < D.length
          · obtain ⟨q, hq⟩ : ∃ q, D[p]? = some q := ⟨_, List.getElem?_eq_getElem hpl⟩
            obtain ⟨g, rfl, cq⟩ := HQ.out.2.2.natAt hq
            have hqn : q < n := HDm.out q (List.mem_of_getElem? hq)
            obtain ⟨gc, gf⟩ := HQ.out.1.get hqn
            obtain ⟨gm, _⟩ := HQ.out.1.get hmn
            rw [mxF_at HDn.out hq] at gc
            rw [mxF_off HDo.out, Hfm.out] at gm
            obtain ⟨hz0, hz1⟩ := HCb'.out q
            have Hput := Lib.hid (mxF_put (F := F) (z := (flo l m : Int) + 1) hq)
            clear hq
            revert gc hz0 hz1 Hput
            generalize F q = z
            intro gc hz0 hz1 Hput
            go_upto_region 15 with (fail)
            refine wp_ext_draw 13 mixed (by kernel_rfl) ?_
            simp only [List.take_succ_cons, List.take_zero, List.drop_succ_cons, List.drop_zero]
            repeat ((first | ((apply TextRun.go rfl rfl rfl); (focus (intro w1 hS K hK; have hc := bcell hS; have hs := blt hS; have gc := keep hS gc; have gm := keep hS gm; go_wp2_with (fail); first | done | exact hS | exact hS.trans (hb.mono hS.size)))) | (refine TextRun.skip rfl ?_) | ((refine TextRun.wantedT rfl rfl rfl ?_); (apply Exists.intro); (apply And.intro); (focus (intro w1 hS K hK; have hc := bcell hS; have hs := blt hS; have gc := keep hS gc; have gm := keep hS gm; go_wp2_with (fail); first | done | exact hS | exact hS.trans (hb.mono hS.size))))); (simp only [Act.put, List.setIfInBounds_toArray, List.set_cons_zero, List.set_cons_succ]))
            refine TextRun.done ?_
            intro y7 hb
            have HN : Hid (RowI n (mxF F (D.take (p + 1)) ((flo l m : Int) + 1)) gl w1 (y7.setCell ⟨gl, q, none⟩ (.int .i64 (max z ((flo l m : Int) + 1)))) ∧ OwnF (y7.setCell ⟨gl, q, none⟩ (.int .i64 (max z ((flo l m : Int) + 1)))) (gl + 1) (.slice (some ⟨go, 0, none⟩) (topT l (m + 1)) uc) vs3 (partF l (m + 1)) ∧ OwnL eltI (y7.setCell ⟨gl, q, none⟩ (.int .i64 (max z ((flo l m : Int) + 1)))) B' (.slice (some ⟨g, 0, none⟩) D.length sc) (natsI D)) :=
              ⟨((HQ.out.1.go hb).put q (max z ((flo l m : Int) + 1))).of (fun j _ => Hput.out j), (HQ.out.2.1.below hb).low (Wrote.setCell (R := fun q => q = gl) y7 (p := ⟨gl, q, none⟩) _ rfl) (fun q hq => by omega), (HQ.out.2.2.below hb).cell_set HgB.out⟩
            have gc := keep hb gc
            have gf := ((HQ.out.1.go hb).get hqn).2
            clear hb HQ Hput gm cq
            go_wp2
            go_roundw
            case rel => exact ⟨p + 1, hpl, by go_num, HN.out⟩
            case measure => exact meas hpl
          · have hpl : D.length = p := Nat.le_antisymm (Nat.le_of_not_lt hpl) hp
            subst hpl
            have HN : Hid (RowI n (fun j => (flT l (m + 1) j : Int)) gl w1 wr ∧ OwnF wr (gl + 1) (.slice (some ⟨go, 0, none⟩) (topT l (m + 1)) uc) vs3 (partF l (m + 1))) := ⟨HQ.out.1.of (fun j hj => by rw [List.take_length]; exact HDf.out j hj), HQ.out.2.1⟩
            clear HQ
            go_wp2
            go_roundw
            case rel => exact ⟨m + 1, vs3, hmn, by go_num, HN.out⟩
            case measure => exact meas hmn

    · have hmn : n = m := Nat.le_antisymm (Nat.le_of_not_lt hmn) hm
      subst hmn
      have Ht : Hid (topT l l.length = topT l n) := by rw [Hid, Hl.out]
      have HF : Hid (OwnF wr (gl + 1) (.slice ua (topT l n) uc) vs (partS l 0)) := by rw [Hid, partS_zero, Hl.out]; exact HL.out.2
      have HBr := Lib.hid (HL.out.1.base Hgl.out)
      clear HL huc
      go_wp2_with fail
      go_loopw [13, 83] (fun _ x wq => ∃ k : Nat, k ≤ topT l n ∧ x = .int .i64 k ∧ Hid (OwnF wq (gl + 1) (.slice ua (topT l n) uc) vs (partS l k) ∧ Below w1.heap.size w1 wq)) (fun _ x _ => topT l n - (intOf x).toNat)
      case atStart => exact ⟨0, Nat.zero_le _, by go_num, HF.out, HBr.out⟩
      case round =>
        clear HF HBr
        obtain ⟨k, hk, rfl, HQ⟩ := hrel
        by_cases hkt : k < topT l n
        · obtain ⟨_, _, he, _, _, hat⟩ := HQ.out.1.read
          rw [partS_len, Ht.out] at he
          cases he
          obtain ⟨go, ⟨xa, xn, xc⟩, rfl, hx0, co, _, hx⟩ := hat _ _ (partS_at (by rw [Ht.out]; exact hkt))
          have co : wr.cell? ⟨go, k, none⟩ = some (.slice xa xn xc) := co
          have hx : OwnL eltEv wr (gl + 1) (.slice xa xn xc) (evsAt l (plE l l.length k)) := hx
          have Hx := Lib.hid hx
          have Hx0 := Lib.hid hx0
          have Hcp : Hid ((evsAt l (plE l l.length k)).length < 1000000) := by have := plE_len l l.length k; have := Hl.out; rw [Hid, evsAt_len]; omega
          clear hat hx hx0
          go_wp2_with fail
          refine (sortEv_calls Hx.out Hcp.out).mono ?_
          rintro e wz ⟨rfl, ys, hp, hs, ho, hw⟩
          obtain rfl := rowF_sorted H8.out hp hs
          have hN := HQ.out.1.turn Hx0.out ho hw
          rw [partS_succ (by rw [Ht.out]; exact hkt)] at hN
          have HN := Lib.hid (And.intro hN (Wrote.below HQ.out.2 hw HQ.out.2.size (fun q hq => by have := (Hx.out.lt hq).1; have := Hgl.out; omega)))
          clear hp hs ho hw hN Hx Hx0 Hcp HQ co
          go_wp2
          go_roundw
          case rel => exact ⟨k + 1, hkt, by go_num, HN.out⟩
          case measure => exact meas hkt
        · have hkt : topT l n = k := Nat.le_antisymm (Nat.le_of_not_lt hkt) hk
          have hend := HQ.out.1
          rw [← hkt, ← Ht.out, partS_end] at hend
          have hs := hend.sees (flrs_wf H8.out Hev.out.wf)
          rw [Ht.out] at hs
          have Hq : Hid (FlrPost w (flrRes n l) (.returned (.tuple #[.slice ua (topT l n) uc, .int .i64 0])) wr) := by rw [Hid, Hr.out]; exact ⟨_, rfl, hs, HB1.out.trans (HQ.out.2.mono HB1.out.size)⟩
          clear hend hs HQ
          go_wp2
          go_returns
          exact Hq.out
end Go.Proofs.Ytjhlehepnhbbaaa

namespace Go.Proofs.Ytjhlehepnhbbaaa
open Go.ChangeShapes Go.WideShapes Go.ChangeAt Go.RowKit Go.Deep

/-- A list, made behind all that stands, laid as one row more. -/
theorem OwnF.push {w w' : World} {B B' : Nat} {v v' : Value} {vs : List SlV} {R : List (List Ev)} {x : SlV} {r : List Ev} (h : OwnF w B v vs R) (hx : OwnL eltEv w B' x.v r) (hB : B ≤ B') (hvB : ∀ g, v.ownBlock = Option.some g → g < B') (hvs : ∀ (i : Nat) (y : SlV) (g : Nat), vs[i]? = Option.some y → y.v.ownBlock = Option.some g → g < B')
    (ho : OwnL eltS w' B v' (vs ++ [x])) (hw : Wrote (fun q => v.ownBlock = Option.some q) w w') (hv : ∀ q, v'.ownBlock = Option.some q → v.ownBlock = Option.some q ∨ w.heap.size ≤ q) : OwnF w' B v' (vs ++ [x]) (R ++ [r]) := by
  have key : ∀ (i : Nat) (y : SlV), (vs ++ [x])[i]? = Option.some y → vs[i]? = Option.some y ∨ (i = vs.length ∧ y = x) := fun i y hy => by
    by_cases hi : i < vs.length
    · rw [List.getElem?_append_left hi] at hy; exact .inl hy
    · rw [List.getElem?_append_right (by omega)] at hy
      have h0 : i - vs.length = 0 := by have := (List.getElem?_eq_some_iff.1 hy).1; simp at this; omega
      rw [h0] at hy
      simp at hy
      exact .inr ⟨by omega, hy.symm⟩
  refine ⟨ho, by simp [h.len], fun i y s hy hs => ?_, fun i y g hy hg he => ?_, fun i j y z g hy hz hij hg he => ?_⟩
  · rcases key i y hy with hy2 | ⟨hi, hyx⟩
    · have hi : i < R.length := by rw [← h.len]; exact (List.getElem?_eq_some_iff.1 hy2).1
      rw [List.getElem?_append_left hi] at hs
      exact (h.at_ i y s hy2 hs).wrote hw (fun g hg => h.ap1 i y g hy2 hg)
    · rw [hi, h.len, List.getElem?_append_right (Nat.le_refl _), Nat.sub_self] at hs
      simp at hs
      rw [hyx, ← hs]
      have h1 := hx.wrote hw (fun g hg e => by have := (hx.lt hg).1; have := hvB g e; omega)
      exact ⟨ownsRow_base h1.own hB⟩
  · rcases key i y hy with hy2 | ⟨hi, hyx⟩
    · rcases hv g he with h1 | h1
      · exact h.ap1 i y g hy2 hg h1
      · have := (h.lt hy2 hg).2; omega
    · rw [hyx] at hg
      rcases hv g he with h1 | h1
      · have := (hx.lt hg).1; have := hvB g h1; omega
      · have := (hx.lt hg).2; omega
  · rcases key i y hy with hy2 | ⟨hi, hyx⟩
    · rcases key j z hz with hz2 | ⟨hj, hzx⟩
      · exact h.ap2 i j y z g hy2 hz2 hij hg he
      · rw [hzx] at he
        have := (hx.lt he).1; have := hvs i y g hy2 hg; omega
    · rcases key j z hz with hz2 | ⟨hj, hzx⟩
      · rw [hyx] at hg
        have := (hx.lt hg).1; have := hvs j z g hz2 he; omega
      · omega

/-- The row of floors while the one at m is reckoned. -/
noncomputable def rowD (l : List Ev) (m k j : Nat) : Int := if j < m then (flo l j : Int) else if j = m then (flT l k m : Int) else 0
theorem rowD_zero (l : List Ev) (j : Nat) : rowD l 0 0 j = 0 := by unfold rowD; rw [if_neg (Nat.not_lt_zero _)]; split <;> simp [flT]
theorem rowD_end (l : List Ev) (m j : Nat) : rowD l m m j = rowD l (m + 1) 0 j := by
  unfold rowD
  by_cases h1 : j < m
  · rw [if_pos h1, if_pos (by omega)]
  · rw [if_neg h1]
    by_cases h2 : j = m
    · subst h2; rw [if_pos rfl, if_pos (by omega)]; rfl
    · rw [if_neg h2, if_neg (by omega)]; split <;> simp [flT]
theorem rowD_self (l : List Ev) (m k : Nat) : rowD l m k m = (flT l k m : Int) := by unfold rowD; rw [if_neg (Nat.lt_irrefl _), if_pos rfl]
theorem rowD_old {l : List Ev} {m k j : Nat} (h : j < m) : rowD l m k j = (flo l j : Int) := by unfold rowD; rw [if_pos h]
theorem rowD_put {l : List Ev} {m k : Nat} (hb : hbB (rD l) k m = true) (j : Nat) : (if j = m then max (flT l k m : Int) ((flo l k : Int) + 1) else rowD l m k j) = rowD l m (k + 1) j := by
  unfold rowD
  by_cases h1 : j = m
  · subst h1
    rw [if_pos rfl, if_neg (Nat.lt_irrefl _), if_pos rfl, flT, if_pos hb]
    show max (flT l k j : Int) ((flT l k k : Int) + 1) = ((max (flT l k j) (flT l k k + 1) : Nat) : Int)
    omega
  · rw [if_neg h1, if_neg h1, if_neg h1]
theorem rowD_same {l : List Ev} {m k : Nat} (hb : hbB (rD l) k m = false) (j : Nat) : rowD l m k j = rowD l m (k + 1) j := by
  have e : flT l (k + 1) m = flT l k m := by rw [flT, if_neg (by rw [hb]; simp)]
  unfold rowD
  rw [e]
/-- Floors by threads, as far as told. -/
noncomputable def partD (l : List Ev) (f : Nat) : List (List Ev) := (List.range f).map (rowF l)
theorem partD_len (l : List Ev) (f : Nat) : (partD l f).length = f := by unfold partD; rw [List.length_map, List.length_range]
theorem partD_succ (l : List Ev) (f : Nat) : partD l (f + 1) = partD l f ++ [rowF l f] := by unfold partD; rw [List.range_succ, List.map_append]; rfl
noncomputable def partR (l : List Ev) (n f t i : Nat) : List Ev := evsAt l (plF l n f t ++ plT l i f t)
theorem partR_start (l : List Ev) (n f : Nat) : partR l n f 0 0 = [] := rfl
theorem partR_next (l : List Ev) (n f t : Nat) : partR l n f t n = partR l n f (t + 1) 0 := by
  unfold partR
  rw [plF]
  have : plT l 0 f (t + 1) = [] := rfl
  rw [this, List.append_nil]
theorem partR_end {l : List Ev} {n f : Nat} (h : l.length = n) : partR l n f 8 0 = rowF l f := by
  unfold partR rowF
  have : plT l 0 f 8 = [] := rfl
  rw [this, List.append_nil, h]
theorem partR_yes {l : List Ev} {n f t i : Nat} {x : Ev} (hx : l[i]? = some x) (h1 : flo l i = f) (h2 : x.t = (t : Int)) : partR l n f t (i + 1) = partR l n f t i ++ [x] := by
  unfold partR
  rw [plT_succ, if_pos ⟨h1, by rw [thE_of hx]; exact h2⟩, ← List.append_assoc, evsAt_app]
  congr 1
  unfold evsAt; rw [List.map_cons, List.map_nil, getD_of hx]
theorem partR_no {l : List Ev} {n f t i : Nat} {x : Ev} (hx : l[i]? = some x) (h : ¬ (flo l i = f ∧ x.t = (t : Int))) : partR l n f t (i + 1) = partR l n f t i := by
  unfold partR
  rw [plT_succ, if_neg (by rw [thE_of hx]; exact h), List.append_nil]
theorem partR_len (l : List Ev) (n f : Nat) : ∀ (t i : Nat), (partR l n f t i).length ≤ t * n + i := fun t i => by
  unfold partR
  rw [evsAt_len, List.length_append]
  have h1 : ∀ t i, (plT l i f t).length ≤ i := fun t i => by
    have := List.length_filter_le (fun i => flo l i == f && thE l i == (t : Int)) (List.range i)
    rw [List.length_range] at this; exact this
  have h2 : ∀ t, (plF l n f t).length ≤ t * n := fun t => by
    induction t with
    | zero => exact Nat.zero_le _
    | succ t ih => have := h1 t n; rw [plF, List.length_append, Nat.add_mul, Nat.one_mul]; omega
  have := h1 t i; have := h2 t; omega

set_option maxRecDepth 20000 in
set_option maxHeartbeats 16000000 in
theorem rfloors_calls {w : World} {a0 : Option Addr} {n c : Nat} {l : List Ev} (h : IsEvs w a0 n c l) :
    Calls Try.prog 28 #[.slice a0 n c] w (FlrPost w (flrRes n l)) := by
  have hnm : n ≤ 9223372036854775807 := by have := h.le; have := h.cap; unfold maxLen at *; omega
  have Hev := Lib.hid h
  have Hl := Lib.hid h.len
  have Ho := Lib.hid (rord_calls h)
  clear h
  go_enter Try.func28, Try.ntmps28
  go_wp2_with fail
  refine Ho.out.mono ?_
  rintro e w1 ⟨hb1, ⟨hz, rfl⟩ | ⟨hz, v1, v2, rfl, hM1, hM2⟩⟩
  · have HB1 := Lib.hid hb1
    have hz' : (wrongS n l != 0) = true := by simpa [bne] using hz
    have Hq : Hid (∀ x, FlrPost w (flrRes n l) (.returned (.tuple #[.slice none 0 0, .int .i64 (wrongS n l)])) (w1.alloc x)) := fun x => by rw [flrRes_bad hz]; exact FlrPost.none (HB1.out.alloc HB1.out.size _)
    clear hb1 hz Ho
    generalize wrongS n l = z at *
    go_wp2
    go_returns
    exact Hq.out _
  have Hr := Lib.hid (flrRes_good hz)
  have hn100 : n ≤ 100 := wrong_le16 hz
  have H8 : Hid (Thr8 l) := by obtain ⟨S, hS⟩ := wrong_ofS hz; exact thr8_of (good_of Hev.out hn100 hS)
  obtain ⟨sa, sp, sq, rfl⟩ := hM1.slice
  obtain ⟨ta, tp, tq, rfl⟩ := hM2.slice
  have hal : Below w1.heap.size w1 (w1.alloc (.cells #[.slice a0 n c, .slice sa sp sq, .slice ta tp tq] 93)) := (Below.refl _ w1).alloc (Nat.le_refl _) _
  have hR3 : ROrdAt (w1.alloc (.cells #[.slice a0 n c, .slice sa sp sq, .slice ta tp tq] 93)) w1.heap.size a0 n c (.slice sa sp sq) (.slice ta tp tq) l :=
    ⟨(MapKept.heap_alloc w1 _).1, ⟨_, hM1.below hal⟩, ⟨_, hM2.below hal⟩, (Hev.out.below hb1).below hal⟩
  have s1 : (w1.alloc (.cells #[.slice a0 n c, .slice sa sp sq, .slice ta tp tq] 93)).heap.size = w1.heap.size + 1 := by simp
  have HX := Lib.hid (And.intro hR3 (And.intro (hb1.trans (hal.mono hb1.size)) s1))
  clear s1 hb1 hal hR3 hM1 hM2 Ho hz hnm
  go_wp2_with (refine wpList_makeI rfl (.tmp 24) (.tmp 24) rfl n (by omega) rfl rfl ?_)
  revert HX
  generalize w1.alloc (.cells #[.slice a0 n c, .slice sa sp sq, .slice ta tp tq] 93) = w2
  intro HX
  have HR := Lib.hid HX.out.1
  have HB2 := Lib.hid HX.out.2.1
  have hgs := HX.out.2.2
  clear HX
  revert HR hgs
  generalize w1.heap.size = rb
  intro HR hgs
  have HS : RowI n (rowD l 0 0) w2.heap.size w2 (w2.alloc (.cells (intsA n fun _ => 0) 3)) := ⟨by rw [intsA_congr (g := fun _ => 0) (fun i _ => rowD_zero l i)]; exact (MapKept.heap_alloc w2 _).1, (Below.refl _ w2).alloc (Nat.le_refl _) _⟩
  revert HS
  generalize w2.alloc (.cells (intsA n fun _ => 0) 3) = w3
  intro HS
  obtain ⟨gl, hgl⟩ : ∃ gl, gl = rb + 1 := ⟨_, rfl⟩
  rw [hgs, ← hgl] at HS
  rw [← hgl]
  rw [← hgs] at hgl
  have Hgl := Lib.hid hgl
  have HS2 := Lib.hid HS
  clear hgl HS hgs
  go_wp2_with fail
  go_loopw [7, 8, 9] (fun u x _ wr => ∃ m : Nat, m ≤ n ∧ x = .int .i64 m ∧ u = .int .i64 (topT l m : Nat) ∧ Hid (RowI n (rowD l m 0) gl w2 wr)) (fun _ x _ _ => n - (intOf x).toNat)
  case atStart => exact ⟨0, Nat.zero_le _, by go_num, rfl, HS2.out⟩
  case round =>
    clear HS2
    obtain ⟨m, hm, rfl, rfl, HS⟩ := hrel
    by_cases hmn : m < n
    · go_wp2_with fail
      go_loopw [9] (fun x wq => ∃ k : Nat, k ≤ m ∧ x = .int .i64 k ∧ Hid (RowI n (rowD l m k) gl w2 wq)) (fun x _ => m - (intOf x).toNat)
      case atStart => exact ⟨0, Nat.zero_le _, by go_num, HS.out⟩
      case round =>
        clear HS
        obtain ⟨k, hk, rfl, HQ⟩ := hrel
        by_cases hkm : k < m
        · have hkn : k < n := Nat.lt_trans hkm hmn
          have hR := HR.out.below (HQ.out.base Hgl.out)
          have he := hR.ecell
          obtain ⟨B, hmat⟩ := hR.m1
          obtain ⟨x, co, g, hsv, cx, hnco, hgc⟩ := hmat.read hmn
          cases hsv
          have cg := hgc k hkn
          obtain ⟨gm, gf⟩ := HQ.out.get hmn
          obtain ⟨gk, _⟩ := HQ.out.get hkn
          rw [rowD_self] at gm
          rw [rowD_old hkm] at gk
          have h1 := flT_le (l := l) k m
          have h2 := flo_le_i (l := l) k
          clear hmat hgc hR
          rcases Bool.eq_false_or_eq_true (hbB (rD l) k m) with hb | hb
          · have Hput := Lib.hid (rowD_put hb)
            rw [hb] at cg
            clear hb
            have hz0 : (0 : Int) ≤ (flT l k m : Int) ∧ (flT l k m : Int) ≤ 100 := ⟨by omega, by omega⟩
            have hy0 : (0 : Int) ≤ (flo l k : Int) ∧ (flo l k : Int) ≤ 100 := ⟨by omega, by omega⟩
            clear h1 h2
            revert gm gk hz0 hy0 Hput
            generalize (flT l k m : Int) = z
            generalize (flo l k : Int) = y
            intro gm gk Hput hz0 hy0
            obtain ⟨hz1, hz2⟩ := hz0
            obtain ⟨hy1, hy2⟩ := hy0
            go_upto_region 13 with (fail)
            refine wp_ext_draw 13 mixed (by kernel_rfl) ?_
            simp only [List.take_succ_cons, List.take_zero, List.drop_succ_cons, List.drop_zero]
            repeat ((first | ((apply TextRun.go rfl rfl rfl); (focus (intro w1 hS K hK; have hc := bcell hS; have hs := blt hS; have gm := keep hS gm; have gk := keep hS gk; go_wp2_with (fail); first | done | exact hS | exact hS.trans (hb.mono hS.size)))) | (refine TextRun.skip rfl ?_) | ((refine TextRun.wantedT rfl rfl rfl ?_); (apply Exists.intro); (apply And.intro); (focus (intro w1 hS K hK; have hc := bcell hS; have hs := blt hS; have gm := keep hS gm; have gk := keep hS gk; go_wp2_with (fail); first | done | exact hS | exact hS.trans (hb.mono hS.size))))); (simp only [Act.put, List.setIfInBounds_toArray, List.set_cons_zero, List.set_cons_succ]))
            refine TextRun.done ?_
            intro y7 hb
            have HN : Hid (RowI n (rowD l m (k + 1)) gl w2 (y7.setCell ⟨gl, m, none⟩ (.int .i64 (max z (y + 1))))) := ((HQ.out.go hb).put m (max z (y + 1))).of (fun j _ => Hput.out j)
            have gm := keep hb gm
            have gf := ((HQ.out.go hb).get hmn).2
            clear hb HQ Hput gk he cx cg
            go_wp2
            go_roundw
            case rel => exact ⟨k + 1, hkm, by go_num, HN.out⟩
            case measure => exact meas hkm
          · have HN : Hid (RowI n (rowD l m (k + 1)) gl w2 wr) := HQ.out.of (fun j _ => rowD_same hb j)
            rw [hb] at cg
            clear hb HQ gm gk gf h1 h2
            go_wp2
            go_roundw
            case rel => exact ⟨k + 1, hkm, by go_num, HN.out⟩
            case measure => exact meas hkm
        · have hkm : m = k := Nat.le_antisymm (Nat.le_of_not_lt hkm) hk
          rw [← hkm] at HQ
          have HN : Hid (RowI n (rowD l (m + 1) 0) gl w2 wr) := HQ.out.of (fun j _ => rowD_end l m j)
          obtain ⟨gm, _⟩ := HQ.out.get hmn
          rw [rowD_self] at gm
          have hfm : flT l m m = flo l m := rfl
          rw [hfm] at gm
          have h1 := topT_le l m
          have h2 := flo_le_i (l := l) m
          have Ht : Hid ((topT l (m + 1) : Int) = max (topT l m : Int) ((flo l m : Int) + 1)) := by rw [Hid, topT]; omega
          clear HQ hfm
          have hz0 : (0 : Int) ≤ (topT l m : Int) ∧ (topT l m : Int) ≤ 100 := ⟨by omega, by omega⟩
          have hy0 : (0 : Int) ≤ (flo l m : Int) ∧ (flo l m : Int) ≤ 100 := ⟨by omega, by omega⟩
          clear h1 h2
          revert gm hz0 hy0 Ht
          generalize (topT l m : Int) = z
          generalize (flo l m : Int) = y
          intro gm Ht hz0 hy0
          obtain ⟨hz1, hz2⟩ := hz0
          obtain ⟨hy1, hy2⟩ := hy0
          subst hkm
          go_wp2
          go_roundw
          case rel => exact ⟨m + 1, hmn, by go_num, by rw [Ht.out], HN.out⟩
          case measure => exact meas hmn
    · have hmn : n = m := Nat.le_antisymm (Nat.le_of_not_lt hmn) hm
      subst hmn
      have HF : Hid (RowI n (fun j => (flo l j : Int)) gl w2 wr) := HS.out.of (fun j hj => rowD_old hj)
      have Hg1 : Hid (gl + 1 ≤ wr.heap.size) := HS.out.lt
      have htn := topT_le l n
      clear HS
      obtain ⟨B0, hB0⟩ : ∃ B0, B0 = gl + 1 := ⟨_, rfl⟩
      rw [← hB0] at Hg1
      have HB0 := Lib.hid hB0
      clear hB0
      go_wp2_with fail
      go_loopw [10, 11, 12, 13, 14] (fun u x _ _ _ wq => ∃ (f : Nat) (vs : List SlV), f ≤ topT l n ∧ x = .int .i64 f ∧ Hid (RowI n (fun j => (flo l j : Int)) gl w2 wq ∧ OwnF wq B0 u vs (partD l f))) (fun _ x _ _ _ _ => topT l n - (intOf x).toNat)
      case atStart => exact ⟨0, [], Nat.zero_le _, by go_num, HF.out, OwnF.nil ..⟩
      case round =>
        clear HF Hg1
        obtain ⟨f, vs, hf, rfl, HL⟩ := hrel
        obtain ⟨ua, uc, hu, huc, _, _⟩ := HL.out.2.read
        rw [partD_len] at hu huc
        subst hu
        have Hsz : Hid (B0 ≤ wr.heap.size) := by have := HL.out.1.lt; have := HB0.out; rw [Hid]; omega
        by_cases hft : f < topT l n
        · have HvB : Hid (∀ g, (Value.slice ua f uc).ownBlock = some g → g < wr.heap.size) := fun g hg => (HL.out.2.row.lt hg).2
          have Hvs : Hid (∀ (i : Nat) (y : SlV) (g : Nat), vs[i]? = some y → y.v.ownBlock = some g → g < wr.heap.size) := fun i y g hy hg => (HL.out.2.lt hy hg).2
          have Hgb : Hid (gl < wr.heap.size) := HL.out.1.lt
          obtain ⟨Br, hBr⟩ : ∃ x, x = wr.heap.size := ⟨_, rfl⟩
          rw [← hBr] at HvB Hvs Hgb Hsz
          have HL0 : Hid (RowI n (fun j => (flo l j : Int)) gl w2 wr ∧ OwnF wr B0 (.slice ua f uc) vs (partD l f) ∧ OwnL eltEv wr Br (.slice none 0 0) (partR l n f 0 0) ∧ Br ≤ wr.heap.size) := ⟨HL.out.1, HL.out.2, OwnL.nil .., Nat.le_of_eq hBr⟩
          clear HL hBr
          go_wp2_with fail
          go_loopw [12, 13, 14] (fun v x _ wq => ∃ t : Nat, t ≤ 8 ∧ x = .int .i64 t ∧ Hid (RowI n (fun j => (flo l j : Int)) gl w2 wq ∧ OwnF wq B0 (.slice ua f uc) vs (partD l f) ∧ OwnL eltEv wq Br v (partR l n f t 0) ∧ Br ≤ wq.heap.size)) (fun _ x _ _ => 8 - (intOf x).toNat)
          case atStart => exact ⟨0, Nat.zero_le _, by go_num, HL0.out⟩
          case round =>
            clear HL0
            obtain ⟨t, ht, rfl, HQ⟩ := hrel
            obtain ⟨xa, xc, hx, hxc, _⟩ := HQ.out.2.2.1.slice
            subst hx
            by_cases ht8 : t < 8
            · go_wp2_with fail
              rw [decide_eq_true (show (t : Int) < 8 by omega)]
              have HQ0 := HQ
              have Ht8 := Lib.hid ht8
              clear hxc HQ ht8 ht
              go_loopw [12, 14] (fun v x wq => ∃ i : Nat, i ≤ n ∧ x = .int .i64 i ∧ Hid (RowI n (fun j => (flo l j : Int)) gl w2 wq ∧ OwnF wq B0 (.slice ua f uc) vs (partD l f) ∧ OwnL eltEv wq Br v (partR l n f t i) ∧ Br ≤ wq.heap.size)) (fun _ x _ => n - (intOf x).toNat)
              case atStart => exact ⟨0, Nat.zero_le _, by go_num, HQ0.out⟩
              case round =>
                clear HQ0
                obtain ⟨i, hi, rfl, HI⟩ := hrel
                obtain ⟨xa, xc, hx, hxc, _⟩ := HI.out.2.2.1.slice
                subst hx
                by_cases hin : i < n
                · have HBw := Lib.hid (HB2.out.trans ((HI.out.1.base Hgl.out).mono HB2.out.size))
                  obtain ⟨b0, off, x, rfl, hx, _, c0, c1, c2, c3, c4⟩ := (Hev.out.below HBw.out).at hin
                  obtain ⟨gi, _⟩ := HI.out.1.get hin
                  have Hx := Lib.hid hx
                  obtain ⟨xt, xk, xo, xv, xb⟩ := x
                  simp only at c0 c1 c2 c3 c4
                  clear hx HBw
                  by_cases hfi : flo l i = f
                  · have hq : ((flo l i : Int) == (f : Int)) = true := by simp; omega
                    by_cases hti : xt = (t : Int)
                    · have hq2 : (xt == (t : Int)) = true := by simpa using hti
                      have Hp := Lib.hid (partR_yes (n := n) (f := f) (t := t) Hx.out hfi hti)
                      have Hcp : Hid ((partR l n f t i).length < 1000000) := by have := partR_len l n f t i; have : t * n ≤ 8 * 100 := Nat.mul_le_mul (Nat.le_of_lt Ht8.out) hn100; rw [Hid]; omega
                      clear hfi hti hxc
                      go_wp2_with (at_builtin; go_loud (refine wpList_push eltEv rfl (.tmp 95) (.tmp 100) rfl ⟨xt, xk, xo, xv, xb⟩ rfl rfl rfl HI.out.2.2.1 HI.out.2.2.2 Hcp.out ?_))
                      intro v' wv hown hw hv
                      have HN : Hid (RowI n (fun j => (flo l j : Int)) gl w2 wv ∧ OwnF wv B0 (.slice ua f uc) vs (partD l f) ∧ OwnL eltEv wv Br v' (partR l n f t (i + 1)) ∧ Br ≤ wv.heap.size) :=
                        ⟨HI.out.1.wrote hw (fun q hq => by have := (HI.out.2.2.1.lt hq).1; have := Hgb.out; omega), HI.out.2.1.wrote hw (fun g hg hk => by have := (HI.out.2.2.1.lt hk).1; have := HvB.out g hg; omega) (fun j y g hy hg hk => by have := (HI.out.2.2.1.lt hk).1; have := Hvs.out j y g hy hg; omega), by rw [Hp.out]; exact hown, Nat.le_trans HI.out.2.2.2 hw.size⟩
                      clear hown hw hv HI Hp Hcp
                      go_wp2
                      go_roundw
                      case rel => exact ⟨i + 1, hin, by go_num, HN.out⟩
                      case measure => exact meas hin
                    · have hq2 : (xt == (t : Int)) = false := by simpa using hti
                      have HN : Hid (RowI n (fun j => (flo l j : Int)) gl w2 wr ∧ OwnF wr B0 (.slice ua f uc) vs (partD l f) ∧ OwnL eltEv wr Br (.slice xa (partR l n f t i).length xc) (partR l n f t (i + 1)) ∧ Br ≤ wr.heap.size) := by
                        rw [Hid, partR_no Hx.out (fun e => hti e.2)]; exact HI.out
                      clear hfi hti hxc HI
                      go_wp2
                      go_roundw
                      case rel => exact ⟨i + 1, hin, by go_num, HN.out⟩
                      case measure => exact meas hin
                  · have hq : ((flo l i : Int) == (f : Int)) = false := by simp; omega
                    have HN : Hid (RowI n (fun j => (flo l j : Int)) gl w2 wr ∧ OwnF wr B0 (.slice ua f uc) vs (partD l f) ∧ OwnL eltEv wr Br (.slice xa (partR l n f t i).length xc) (partR l n f t (i + 1)) ∧ Br ≤ wr.heap.size) := by
                      rw [Hid, partR_no Hx.out (fun e => hfi e.1)]; exact HI.out
                    clear hfi hxc HI
                    go_wp2
                    go_roundw
                    case rel => exact ⟨i + 1, hin, by go_num, HN.out⟩
                    case measure => exact meas hin
                · have hin : n = i := Nat.le_antisymm (Nat.le_of_not_lt hin) hi
                  rw [← hin, partR_next] at HI
                  have HN := Lib.hid HI.out
                  clear HI hxc
                  rw [← hin, partR_next]
                  go_wp2
                  go_roundw
                  case rel => exact ⟨t + 1, Ht8.out, by go_num, HN.out⟩
                  case measure => exact meas Ht8.out
            · have ht8 : t = 8 := by omega
              subst ht8
              rw [partR_end Hl.out] at HQ hxc ⊢
              have Hcp : Hid (vs.length < 1000000) := by rw [Hid, HQ.out.2.1.len, partD_len]; omega
              have Hs2 : Hid (B0 ≤ wr.heap.size) := Nat.le_trans Hsz.out HQ.out.2.2.2
              go_wp2_with (at_builtin; go_loud (refine wpList_push eltS rfl (.tmp 102) (.tmp 104) rfl ⟨xa, (rowF l f).length, xc⟩ rfl rfl rfl HQ.out.2.1.row Hs2.out Hcp.out ?_))
              intro v' wv hown hw hv
              have hN := HQ.out.2.1.push (x := ⟨xa, (rowF l f).length, xc⟩) HQ.out.2.2.1 Hsz.out HvB.out Hvs.out hown hw hv
              rw [← partD_succ] at hN
              have HN := Lib.hid (And.intro (HQ.out.1.wrote hw (fun q hq => by have := (HQ.out.2.1.row.lt hq).1; have := HB0.out; omega)) hN)
              clear hown hw hv hN HQ Hcp Hs2 hxc
              revert HN
              generalize vs ++ [⟨xa, (rowF l f).length, xc⟩] = vs2
              intro HN
              go_wp2
              go_roundw
              case rel => exact ⟨f + 1, vs2, hft, by go_num, HN.out⟩
              case measure => exact meas hft
        · have hft : topT l n = f := Nat.le_antisymm (Nat.le_of_not_lt hft) hf
          have hend := HL.out.2
          have e1 : partD l f = flrs l := by unfold partD flrs; rw [Hl.out, hft]
          rw [e1] at hend
          have hs := hend.sees (flrs_wf H8.out Hev.out.wf)
          have Hq : Hid (FlrPost w (flrRes n l) (.returned (.tuple #[.slice ua f uc, .int .i64 0])) wr) := by rw [Hid, Hr.out]; exact ⟨_, rfl, hs, HB2.out.trans ((HL.out.1.base Hgl.out).mono HB2.out.size)⟩
          clear hend hs HL
          rw [hft] at *
          go_wp2
          go_returns
          exact Hq.out
end Go.Proofs.Ytjhlehepnhbbaaa
