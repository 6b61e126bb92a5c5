/-
  The way from one execution to another: plain law; rows of names; Way of the program.
-/
import Derived.Test.YtjhlehepnhbbaaaSwpA
import Derived.Test.YtjhlehepnhbbaaaFlrA
import Derived.BigRegion
import Derived.Test.YtjhlehepnhbbaaaInts
set_option linter.unusedSimpArgs false
set_option linter.unusedVariables false
namespace Go.Proofs.Ytjhlehepnhbbaaa
open Go Go.RowKit

/-- f with what stands at p moved to j. -/
def mvF {α : Type} (f : Nat → α) (p j u : Nat) : α := if u < j then f u else if u = j then f p else if u ≤ p then f (u - 1) else f u
theorem mvF_self {α : Type} (f : Nat → α) (p u : Nat) : mvF f p p u = f u := by
  unfold mvF
  split
  · rfl
  · split
    · rename_i h; rw [h]
    · rw [if_neg (by omega)]
theorem mvF_step {α : Type} (f : Nat → α) {p j : Nat} (hj : j + 1 ≤ p) (u : Nat) : (if u = j then mvF f p (j + 1) (j + 1) else if u = j + 1 then mvF f p (j + 1) j else mvF f p (j + 1) u) = mvF f p j u := by
  unfold mvF
  by_cases h1 : u = j
  · subst h1
    simp
  · rw [if_neg h1]
    by_cases h2 : u = j + 1
    · subst h2
      rw [if_pos rfl, if_pos (by omega), if_neg (by omega), if_neg (by omega), if_pos (by omega)]
      rfl
    · rw [if_neg h2]
      by_cases h3 : u < j
      · rw [if_pos (by omega), if_pos h3]
      · rw [if_neg (by omega), if_neg h3, if_neg h2, if_neg h1]
/-- How many of the first K are of the thread t. -/
def cntE (e : Nat → Ev) (t : Int) : Nat → Nat
  | 0 => 0
  | K + 1 => cntE e t K + if (e K).t = t then 1 else 0
theorem cntE_le (e : Nat → Ev) (t : Int) : ∀ K, cntE e t K ≤ K
  | 0 => Nat.le_refl _
  | K + 1 => by
    have := cntE_le e t K
    rw [cntE]; split <;> omega
theorem cntE_mono (e : Nat → Ev) (t : Int) {K M : Nat} (h : K ≤ M) : cntE e t K ≤ cntE e t M := by
  induction M with
  | zero => have : K = 0 := by omega
            subst this; exact Nat.le_refl _
  | succ M ih =>
    by_cases hK : K = M + 1
    · subst hK; exact Nat.le_refl _
    · have := ih (by omega)
      rw [cntE]; omega
theorem cntE_congr {e f : Nat → Ev} {t : Int} : ∀ {K : Nat}, (∀ u, u < K → (e u).t = (f u).t) → cntE e t K = cntE f t K
  | 0, _ => rfl
  | K + 1, h => by rw [cntE, cntE, cntE_congr (fun u hu => h u (by omega)), h K (by omega)]
/-- The name of the event at u. -/
def nmE (e : Nat → Ev) (u : Nat) : Int × Nat := ((e u).t, cntE e (e u).t (u + 1))
theorem nmE_pos (e : Nat → Ev) (u : Nat) : 1 ≤ (nmE e u).2 := by
  show 1 ≤ cntE e (e u).t (u + 1)
  rw [cntE, if_pos rfl]; omega
theorem nmE_inj {e : Nat → Ev} {u v : Nat} (h : nmE e u = nmE e v) : u = v := by
  have h1 : (e u).t = (e v).t := congrArg Prod.fst h
  have h2 : cntE e (e u).t (u + 1) = cntE e (e v).t (v + 1) := congrArg Prod.snd h
  rw [← h1] at h2
  rcases Nat.lt_trichotomy u v with hl | hl | hl
  · have h3 := cntE_mono e (e u).t (show u + 1 ≤ v by omega)
    rw [h2, cntE, if_pos h1.symm] at h3; omega
  · exact hl
  · have h3 := cntE_mono e (e u).t (show v + 1 ≤ u by omega)
    rw [← h2, cntE, if_pos rfl] at h3; omega
/-- Each number up to the count is some event's. -/
theorem nmE_some (e : Nat → Ev) (t : Int) {c : Nat} (hc : 1 ≤ c) : ∀ {K : Nat}, c ≤ cntE e t K → ∃ u, u < K ∧ nmE e u = (t, c)
  | 0, h => by simp [cntE] at h; omega
  | K + 1, h => by
    by_cases h1 : c ≤ cntE e t K
    · obtain ⟨u, hu, he⟩ := nmE_some e t hc h1
      exact ⟨u, by omega, he⟩
    · rw [cntE] at h
      by_cases ht : (e K).t = t
      · rw [if_pos ht] at h
        refine ⟨K, by omega, ?_⟩
        unfold nmE
        rw [ht, cntE, if_pos ht]
        congr 1; omega
      · rw [if_neg ht] at h; omega
theorem cnt_mv (e : Nat → Ev) {p k : Nat} (hkp : k ≤ p) (t : Int) : ∀ K, cntE (mvF e p k) t K = if K ≤ k then cntE e t K else if K ≤ p then cntE e t (K - 1) + (if (e p).t = t then 1 else 0) else cntE e t K
  | 0 => by rw [if_pos (Nat.zero_le _)]; rfl
  | K + 1 => by
    rw [cntE, cnt_mv e hkp t K]
    by_cases h1 : K + 1 ≤ k
    · rw [if_pos (by omega), if_pos h1, cntE]
      have : mvF e p k K = e K := by unfold mvF; rw [if_pos (by omega)]
      rw [this]
    · rw [if_neg h1]
      by_cases h2 : K = k
      · subst h2
        rw [if_pos (Nat.le_refl _)]
        have : mvF e p K K = e p := by unfold mvF; rw [if_neg (by omega), if_pos rfl]
        rw [this]
        by_cases h3 : K + 1 ≤ p
        · rw [if_pos h3]; rfl
        · have h4 : K = p := by omega
          subst h4
          rw [if_neg h3, cntE]
      · rw [if_neg (by omega)]
        by_cases h3 : K ≤ p
        · have : mvF e p k K = e (K - 1) := by unfold mvF; rw [if_neg (by omega), if_neg h2, if_pos h3]
          rw [if_pos h3, this]
          have h5 : cntE e t K = cntE e t (K - 1) + (if (e (K - 1)).t = t then 1 else 0) := by
            obtain ⟨M, rfl⟩ : ∃ M, K = M + 1 := ⟨K - 1, by omega⟩
            rfl
          by_cases h4 : K + 1 ≤ p
          · rw [if_pos h4, show K + 1 - 1 = K by omega, h5]; omega
          · have h6 : K = p := by omega
            rw [if_neg h4, cntE, h5, h6]; omega
        · have : mvF e p k K = e K := by unfold mvF; rw [if_neg (by omega), if_neg h2, if_neg h3]
          rw [if_neg h3, this, if_neg (show ¬ K + 1 ≤ p by omega), cntE]
theorem cnt_gap (e : Nat → Ev) (t : Int) {k : Nat} : ∀ {p : Nat}, k ≤ p → (∀ u, k ≤ u → u < p → (e u).t ≠ t) → cntE e t p = cntE e t k
  | 0, h, _ => by have : k = 0 := by omega
                  subst this; rfl
  | p + 1, h, hg => by
    by_cases hk : k = p + 1
    · subst hk; rfl
    · rw [cntE, if_neg (hg p (by omega) (by omega)), cnt_gap e t (by omega) (fun u h1 h2 => hg u h1 (by omega))]; rfl
/-- Names go with what is moved, where it passes none of its own thread. -/
theorem nm_mv {e : Nat → Ev} {p k : Nat} (hkp : k ≤ p) (hg : ∀ u, k ≤ u → u < p → (e u).t ≠ (e p).t) (u : Nat) : nmE (mvF e p k) u = mvF (nmE e) p k u := by
  by_cases h1 : u < k
  · have h2 : mvF e p k u = e u := by unfold mvF; rw [if_pos h1]
    have h3 : mvF (nmE e) p k u = nmE e u := by unfold mvF; rw [if_pos h1]
    rw [h3]; unfold nmE
    rw [h2, cnt_mv e hkp, if_pos (by omega)]
  · by_cases h2 : u = k
    · subst h2
      have h3 : mvF e p u u = e p := by unfold mvF; rw [if_neg h1, if_pos rfl]
      have h4 : mvF (nmE e) p u u = nmE e p := by unfold mvF; rw [if_neg h1, if_pos rfl]
      rw [h4]; unfold nmE
      rw [h3, cnt_mv e hkp, if_neg (by omega)]
      have h5 := cnt_gap e (e p).t hkp hg
      by_cases h6 : u + 1 ≤ p
      · rw [if_pos h6, if_pos rfl, show u + 1 - 1 = u by omega]
        congr 1
        rw [cntE, if_pos rfl, h5]
      · have h7 : u = p := by omega
        rw [if_neg h6, h7]
    · by_cases h3 : u ≤ p
      · have h4 : mvF e p k u = e (u - 1) := by unfold mvF; rw [if_neg h1, if_neg h2, if_pos h3]
        have h5 : mvF (nmE e) p k u = nmE e (u - 1) := by unfold mvF; rw [if_neg h1, if_neg h2, if_pos h3]
        have h6 := hg (u - 1) (by omega) (by omega)
        rw [h5]; unfold nmE
        rw [h4, cnt_mv e hkp, if_neg (by omega), show u - 1 + 1 = u by omega]
        by_cases h7 : u + 1 ≤ p
        · rw [if_pos h7, if_neg (fun e => h6 e.symm), show u + 1 - 1 = u by omega]; rfl
        · have h8 : u = p := by omega
          subst h8
          rw [if_neg h7, cntE, if_neg (fun e => h6 e.symm)]; rfl
      · have h4 : mvF e p k u = e u := by unfold mvF; rw [if_neg h1, if_neg h2, if_neg h3]
        have h5 : mvF (nmE e) p k u = nmE e u := by unfold mvF; rw [if_neg h1, if_neg h2, if_neg h3]
        rw [h5]; unfold nmE
        rw [h4, cnt_mv e hkp, if_neg (by omega), if_neg (by omega)]
end Go.Proofs.Ytjhlehepnhbbaaa

namespace Go.Proofs.Ytjhlehepnhbbaaa
open Go.ChangeShapes Go.WideShapes Go.ChangeAt Go.RowKit Go.Deep

def namC (x : Int × Nat) : List Value := [.int .i64 x.1, .int .i64 (x.2 : Int)]
def namesA (n : Nat) (f : Nat → Int × Nat) : Array Value := ((List.range n).flatMap fun i => namC (f i)).toArray
theorem namL_len (f : Nat → Int × Nat) : ∀ n, ((List.range n).flatMap fun i => namC (f i)).length = n * 2
  | 0 => rfl
  | n + 1 => by rw [List.range_succ, List.flatMap_append, List.length_append, namL_len f n]; simp [namC]; omega
theorem namesA_size (n : Nat) (f : Nat → Int × Nat) : (namesA n f).size = n * 2 := by unfold namesA; rw [List.size_toArray, namL_len]
theorem namL_get (f : Nat → Int × Nat) {j : Nat} (hj : j < 2) : ∀ {n i : Nat}, i < n → ((List.range n).flatMap fun i => namC (f i))[i * 2 + j]? = (namC (f i))[j]?
  | 0, i, h => by omega
  | n + 1, i, h => by
    rw [List.range_succ, List.flatMap_append]
    by_cases hi : i < n
    · rw [List.getElem?_append_left (by rw [namL_len]; omega)]; exact namL_get f hj hi
    · have : i = n := by omega
      subst this
      rw [List.getElem?_append_right (by rw [namL_len]; omega), namL_len]
      simp only [List.flatMap_cons, List.flatMap_nil, List.append_nil]
      congr 1; omega
theorem namesA_get {n i : Nat} {f : Nat → Int × Nat} (h : i < n) : (namesA n f)[i * 2]? = some (.int .i64 (f i).1) ∧ (namesA n f)[i * 2 + 1]? = some (.int .i64 ((f i).2 : Int)) := by
  unfold namesA
  rw [← Array.getElem?_toList, ← Array.getElem?_toList]
  exact ⟨namL_get f (j := 0) (by omega) h, namL_get f (j := 1) (by omega) h⟩
theorem namesA_congr {n : Nat} {f g : Nat → Int × Nat} (h : ∀ i, i < n → f i = g i) : namesA n f = namesA n g := by
  unfold namesA
  congr 1
  induction n with
  | zero => rfl
  | succ n ih => rw [List.range_succ, List.flatMap_append, List.flatMap_append, ih (fun i hi => h i (by omega))]; simp [h n (by omega)]
theorem namesA_put {n i : Nat} {z : Int × Nat} {f : Nat → Int × Nat} (hi : i < n) : ((namesA n f).setIfInBounds (i * 2) (.int .i64 z.1)).setIfInBounds (i * 2 + 1) (.int .i64 (z.2 : Int)) = namesA n (fun x => if x = i then z else f x) := by
  apply Array.ext_getElem?
  intro p
  have key : ∀ (g : Nat → Int × Nat) (m : Nat), m < n → ∀ j, j < 2 → (namesA n g)[m * 2 + j]? = (namC (g m))[j]? := fun g m hm j hj => by
    unfold namesA
    rw [← Array.getElem?_toList]
    exact namL_get g hj hm
  rw [Array.getElem?_setIfInBounds, Array.getElem?_setIfInBounds]
  by_cases hp : p < n * 2
  · obtain ⟨m, j, hj, rfl⟩ : ∃ m j, j < 2 ∧ p = m * 2 + j := ⟨p / 2, p % 2, Nat.mod_lt _ (by omega), by omega⟩
    have hm : m < n := by omega
    rw [key (fun x => if x = i then z else f x) m hm j hj]
    show _ = (namC (if m = i then z else f m))[j]?
    rcases (show j = 0 ∨ j = 1 by omega) with rfl | rfl
    · rw [if_neg (by omega)]
      by_cases he : m = i
      · subst he
        rw [if_pos (by omega), if_pos (by rw [namesA_size]; omega), if_pos rfl]; rfl
      · rw [if_neg (by omega), if_neg he, key f m hm 0 (by omega)]
    · by_cases he : m = i
      · subst he
        rw [if_pos rfl, if_pos (by rw [Array.size_setIfInBounds, namesA_size]; omega), if_pos rfl]; rfl
      · rw [if_neg (by omega), if_neg (by omega), if_neg he, key f m hm 1 (by omega)]
  · have h1 : ∀ g : Nat → Int × Nat, (namesA n g)[p]? = none := fun g => Array.getElem?_eq_none (by rw [namesA_size]; omega)
    rw [h1, h1, if_neg (by omega), if_neg (by omega)]
structure RowN (n : Nat) (f : Nat → Int × Nat) (rb : Nat) (wo wx : World) : Prop where
  row : wx.heap[rb]? = some (.cells (namesA n f) 87 (0, 0))
  below : Below rb wo wx
section
variable {n : Nat} {f g : Nat → Int × Nat} {rb : Nat} {wo wx wy : World}
theorem RowN.of (h : RowN n f rb wo wx) (e : ∀ i, i < n → f i = g i) : RowN n g rb wo wx := ⟨by rw [← namesA_congr e]; exact h.row, h.below⟩
theorem RowN.lt (h : RowN n f rb wo wx) : rb < wx.heap.size := (Array.getElem?_eq_some_iff.1 h.row).1
theorem RowN.go (h : RowN n f rb wo wx) (hb : Below wx.heap.size wx wy) : RowN n f rb wo wy := ⟨(hb.block rb h.lt).trans h.row, h.below.trans (hb.mono (Nat.le_of_lt h.lt))⟩
theorem RowN.put (h : RowN n f rb wo wx) {i : Nat} (hi : i < n) (z : Int × Nat) : RowN n (fun x => if x = i then z else f x) rb wo ((wx.setCell ⟨rb, i * 2, none⟩ (.int .i64 z.1)).setCell ⟨rb, i * 2 + 1, none⟩ (.int .i64 (z.2 : Int))) :=
  ⟨by rw [← namesA_put hi]; exact set_block (set_block h.row _) _, (h.below.setCell (p := ⟨rb, i * 2, none⟩) (Nat.le_refl _) _).setCell (p := ⟨rb, i * 2 + 1, none⟩) (Nat.le_refl _) _⟩
theorem RowN.get (h : RowN n f rb wo wx) {i : Nat} (hi : i < n) : wx.cell? ⟨rb, i * 2, none⟩ = some (.int .i64 (f i).1) ∧ wx.cell? ⟨rb, i * 2 + 1, none⟩ = some (.int .i64 ((f i).2 : Int)) ∧ wx.frozen? ⟨rb, i * 2, none⟩ = false ∧ wx.frozen? ⟨rb, i * 2 + 1, none⟩ = false :=
  ⟨by rw [cell_of_block h.row]; exact (namesA_get hi).1, by rw [cell_of_block h.row]; exact (namesA_get hi).2, free_of_block h.row, free_of_block h.row⟩
theorem RowN.wrote {R : Nat → Prop} (h : RowN n f rb wo wx) (hw : Wrote R wx wy) (hR : ∀ q, R q → rb < q) : RowN n f rb wo wy :=
  ⟨(hw.block rb h.lt (fun hr => Nat.lt_irrefl _ (hR rb hr))).trans h.row, Wrote.below h.below hw (Nat.le_of_lt h.lt) (fun q hq => Nat.le_of_lt (hR q hq))⟩
theorem RowN.base (h : RowN n f rb wo wx) (e : rb = wo.heap.size) : Below wo.heap.size wo wx := by rw [← e]; exact h.below
end

theorem infoNamed : (Try.prog.info? 87).map (fun i => (i.zero, i.size, i.bytes)) = some (some (.agg #[.int .i64 0, .int .i64 0]), 2, 16) := by kernel_rfl
theorem made_names (n : Nat) : madeCells #[.int .i64 0, .int .i64 0] (n * 2) = namesA n (fun _ => (0, 0)) := by
  apply Array.ext_getElem?
  intro p
  by_cases hp : p < n * 2
  · obtain ⟨m, j, hj, rfl⟩ : ∃ m j, j < 2 ∧ p = m * 2 + j := ⟨p / 2, p % 2, Nat.mod_lt _ (by omega), by omega⟩
    have hm : m < n := by omega
    have h1 : (namesA n (fun _ => ((0 : Int), 0)))[m * 2 + j]? = (namC (0, 0))[j]? := by
      unfold namesA
      rw [← Array.getElem?_toList]
      exact namL_get _ hj hm
    rw [h1]
    have h2 : (m * 2 + j) % 2 = j := by omega
    rcases (show j = 0 ∨ j = 1 by omega) with rfl | rfl
    · have hp' : m * 2 < n * 2 := by omega
      have h3 : (m * 2) % 2 = 0 := by omega
      simp [madeCells, hp', namC, h3]
    · simp [madeCells, hp, namC, h2]
  · rw [Array.getElem?_eq_none (by simp [madeCells]; omega), Array.getElem?_eq_none (by rw [namesA_size]; omega)]
theorem run_makeN (w : World) (n : Nat) (hn : n ≤ 1000) : (Instr.makeSlice 84 (.int .i64 (n : Int)) (.int .i64 (n : Int))).run Try.prog w = .ok (.slice (some ⟨w.heap.size, 0, none⟩) n n) (w.alloc (.cells (namesA n fun _ => (0, 0)) 87)) := by
  obtain ⟨i0, hi, hz, hs, hb⟩ := info_at infoNamed
  have hr := run_make (P := Try.prog) w 84 87 i0 (.agg #[.int .i64 0, .int .i64 0]) Try.underlying84 hi hz .i64 .i64 n n (by omega) (Int.le_refl _) (by rw [hb]; omega) (by omega)
  simp only [Int.toNat_natCast, hs] at hr
  rw [← made_names]
  exact hr
theorem wpList_makeN {w : World} {ops : Array Oper} {rest : List Oper} {o : Oper} {a : Act} {Q : Exit → Act → World → Prop} (hg : o.guard = none) (l c : Operand) (ho : o.op = .makeSlice 84 l c) (n : Nat) (hn : n ≤ 1000)
    (hl : a.eval l = .int .i64 (n : Int)) (hc : a.eval c = .int .i64 (n : Int))
    (h : wpList Try.prog ops Q rest (a.put o.dst (.slice (some ⟨w.heap.size, 0, none⟩) n n)) (w.alloc (.cells (namesA n fun _ => (0, 0)) 87))) : wpList Try.prog ops Q (o :: rest) a w := by
  refine wpList_plain hg fun _ hK => ?_
  unfold Oper.wp
  simp only [execOp, ho, hl, hc, Sem.run_bind, run_makeN w n hn, Result.andThen_ok]
  exact hK _ _ h
end Go.Proofs.Ytjhlehepnhbbaaa

namespace Go.Proofs.Ytjhlehepnhbbaaa
open Go Go.RowKit

theorem Lin.inv {l m : List Ev} (h : Lin l m) : (l = [] ∧ m = []) ∨ ∃ p n, FreeAt l p ∧ Lin (l.eraseIdx p) n ∧ m = l.getD p ev00 :: n := by
  cases h with
  | nil => exact .inl ⟨rfl, rfl⟩
  | cons h hn => exact .inr ⟨_, _, h, hn, rfl⟩
theorem free_find {l : List Ev} {p : Nat} (h : FreeAt l p) : l.findIdx (fun e => e.t == (l.getD p ev00).t) = p := by
  have hpl := h.1
  rw [List.findIdx_eq hpl]
  have hp : l[p] = l.getD p ev00 := by rw [List.getD_eq_getElem?_getD, List.getElem?_eq_getElem h.1]; rfl
  refine ⟨by rw [hp]; simp, fun j hj => ?_⟩
  have hjl : j < l.length := by have := h.1; omega
  have hq : l[j] = l.getD j ev00 := by rw [List.getD_eq_getElem?_getD, List.getElem?_eq_getElem hjl]; rfl
  rw [hq]
  have := depE_ne (h.2 j hj)
  simpa using this
/-- The place, behind k, of the next one of x's thread. -/
def wq (N : List Ev) (k : Nat) (x : Ev) : Nat := (N.drop k).findIdx fun e => e.t == x.t
def wstep (N : List Ev) (k : Nat) (x : Ev) : List Ev := N.take k ++ ((N.drop k).getD (wq N k x) ev00 :: (N.drop k).eraseIdx (wq N k x))
def nowW (a b : List Ev) : Nat → List Ev
  | 0 => a
  | k + 1 => wstep (nowW a b k) k (b.getD k ev00)
def posW (a b : List Ev) (k : Nat) : Nat := k + wq (nowW a b k) k (b.getD k ev00)
/-- The events at step k. -/
def evW (a b : List Ev) (k u : Nat) : Ev := (nowW a b k).getD u ev00

theorem getD_drop (l : List Ev) (k u : Nat) : (l.drop k).getD u ev00 = l.getD (k + u) ev00 := by
  rw [List.getD_eq_getElem?_getD, List.getElem?_drop, ← List.getD_eq_getElem?_getD]
theorem wstep_get {N : List Ev} {k : Nat} {x : Ev} (hk : k < N.length) (hq : wq N k x < (N.drop k).length) (u : Nat) : (wstep N k x).getD u ev00 = mvF (fun v => N.getD v ev00) (k + wq N k x) k u := by
  unfold wstep mvF
  have hl : (N.take k).length = k := by rw [List.length_take]; omega
  rw [List.getD_eq_getElem?_getD, List.getElem?_append]
  by_cases h1 : u < k
  · rw [if_pos (by omega), if_pos h1, List.getElem?_take_of_lt h1, ← List.getD_eq_getElem?_getD]
  · rw [if_neg (by omega), if_neg h1, hl, ← List.getD_eq_getElem?_getD]
    by_cases h2 : u = k
    · subst h2
      rw [if_pos rfl, Nat.sub_self, List.getD_cons_zero, getD_drop]
    · obtain ⟨d, hd⟩ : ∃ d, u - k = d + 1 := ⟨u - k - 1, by omega⟩
      rw [if_neg h2, hd, List.getD_cons_succ, getD_erase]
      by_cases h3 : d < wq N k x
      · rw [if_pos h3, if_pos (by omega), getD_drop]; congr 1; omega
      · rw [if_neg h3, if_neg (by omega), getD_drop]; congr 1; omega
theorem wstep_len {N : List Ev} {k : Nat} {x : Ev} (hk : k < N.length) (hq : wq N k x < (N.drop k).length) : (wstep N k x).length = N.length := by
  unfold wstep
  rw [List.length_append, List.length_cons, erase_len hq, List.length_take, List.length_drop]; omega
theorem wstep_drop {N : List Ev} {k : Nat} {x : Ev} (hk : k < N.length) : (wstep N k x).drop (k + 1) = (N.drop k).eraseIdx (wq N k x) := by
  unfold wstep
  have hl : (N.take k).length = k := by rw [List.length_take]; omega
  rw [List.drop_append, List.drop_of_length_le (by omega), hl, show k + 1 - k = 1 by omega]
  rfl
/-- What holds at step k. -/
structure WayAt (a b : List Ev) (k : Nat) : Prop where
  len : (nowW a b k).length = b.length
  done : ∀ u, u < k → evW a b k u = b.getD u ev00
  lin : Lin ((nowW a b k).drop k) (b.drop k)
structure WayNext (a b : List Ev) (k p : Nat) : Prop where
  ge : k ≤ p
  lt : p < b.length
  at_ : evW a b k p = b.getD k ev00
  free : ∀ u, k ≤ u → u < p → depE (evW a b k u) (evW a b k p) = false
theorem WayAt.next {a b : List Ev} {k : Nat} (h : WayAt a b k) (hk : k < b.length) : WayNext a b k (posW a b k) ∧ wq (nowW a b k) k (b.getD k ev00) < ((nowW a b k).drop k).length ∧ Lin (((nowW a b k).drop k).eraseIdx (wq (nowW a b k) k (b.getD k ev00))) (b.drop (k + 1)) := by
  rcases h.lin.inv with ⟨_, h2⟩ | ⟨p, n, hf, hn, he⟩
  · have := congrArg List.length h2
    rw [List.length_drop] at this
    simp at this; omega
  · have hb : b.drop k = b.getD k ev00 :: b.drop (k + 1) := by
      rw [List.drop_eq_getElem_cons hk]
      congr 1
      rw [List.getD_eq_getElem?_getD, List.getElem?_eq_getElem hk]; rfl
    rw [hb] at he
    obtain ⟨e1, e2⟩ := List.cons.inj he
    have hw : wq (nowW a b k) k (b.getD k ev00) = p := by unfold wq; rw [e1]; exact free_find hf
    have hpl : p < (nowW a b k).length - k := by have := hf.1; rw [List.length_drop] at this; exact this
    have hev : ∀ u, ((nowW a b k).drop k).getD u ev00 = evW a b k (k + u) := fun u => getD_drop _ _ _
    refine ⟨⟨by unfold posW; omega, ?_, ?_, fun u h1 h2 => ?_⟩, by rw [hw]; exact hf.1, by rw [hw, e2]; exact hn⟩
    · unfold posW; rw [hw]; have := h.len; omega
    · unfold posW; rw [hw, ← hev]; exact e1.symm
    · unfold posW at h2 ⊢
      rw [hw] at h2 ⊢
      have := hf.2 (u - k) (by omega)
      rw [hev, hev, show k + (u - k) = u by omega] at this
      exact this
theorem WayAt.step {a b : List Ev} {k : Nat} (h : WayAt a b k) (hk : k < b.length) : WayAt a b (k + 1) := by
  obtain ⟨hx, hq, hl⟩ := h.next hk
  have hkl : k < (nowW a b k).length := by rw [h.len]; exact hk
  refine ⟨by rw [nowW, wstep_len hkl hq]; exact h.len, fun u hu => ?_, by rw [nowW, wstep_drop hkl]; exact hl⟩
  unfold evW
  rw [nowW, wstep_get hkl hq]
  unfold mvF
  by_cases h1 : u < k
  · rw [if_pos h1]; exact h.done u h1
  · have h2 : u = k := by omega
    subst h2
    rw [if_neg h1, if_pos rfl]; exact hx.at_
theorem wayAt {a b : List Ev} (h : Tr a b) : ∀ k, k ≤ b.length → WayAt a b k
  | 0, _ => ⟨h.len.symm, fun u hu => absurd hu (Nat.not_lt_zero _), h.symm.lin (Lin.self b)⟩
  | k + 1, hk => (wayAt h k (by omega)).step (by omega)
theorem way_next {a b : List Ev} (h : Tr a b) {k : Nat} (hk : k < b.length) : WayNext a b k (posW a b k) := ((wayAt h k (by omega)).next hk).1
theorem evW_succ {a b : List Ev} (h : Tr a b) {k : Nat} (hk : k < b.length) : evW a b (k + 1) = mvF (evW a b k) (posW a b k) k := by
  have hw := wayAt h k (by omega)
  obtain ⟨_, hq, _⟩ := hw.next hk
  funext u
  unfold evW
  rw [nowW, wstep_get (by rw [hw.len]; exact hk) hq]
  rfl
theorem way_end {a b : List Ev} (h : Tr a b) : nowW a b b.length = b := by
  have hw := wayAt h b.length (Nat.le_refl _)
  exact ext_getD hw.len fun u hu => hw.done u (by rw [← hw.len]; exact hu)

/-! By names. -/
def nmL (l : List Ev) (u : Nat) : Int × Nat := nmE (fun v => l.getD v ev00) u
def nmW (a b : List Ev) (k u : Nat) : Int × Nat := nmE (evW a b k) u
theorem nmW_zero (a b : List Ev) (u : Nat) : nmW a b 0 u = nmL a u := rfl
theorem nmW_succ {a b : List Ev} (h : Tr a b) {k : Nat} (hk : k < b.length) (u : Nat) : nmW a b (k + 1) u = mvF (nmW a b k) (posW a b k) k u := by
  have hx := way_next h hk
  unfold nmW
  rw [evW_succ h hk]
  exact nm_mv hx.ge (fun u h1 h2 => depE_ne (hx.free u h1 h2)) u
theorem nmW_at {a b : List Ev} (h : Tr a b) {k : Nat} (hk : k < b.length) : nmW a b k (posW a b k) = nmL b k := by
  have hx := way_next h hk
  have hw := wayAt h k (by omega)
  unfold nmW nmL nmE
  rw [hx.at_]
  congr 1
  have e1 : (evW a b k (posW a b k)).t = (b.getD k ev00).t := by rw [hx.at_]
  rw [cntE, if_pos e1, cntE, if_pos rfl, cnt_gap (evW a b k) (b.getD k ev00).t hx.ge (fun u h1 h2 => by rw [← e1]; exact depE_ne (hx.free u h1 h2))]
  rw [cntE_congr (fun u hu => by rw [hw.done u hu])]
theorem nmW_ne {a b : List Ev} (h : Tr a b) {k u : Nat} (hk : k < b.length) (hu : u ≠ posW a b k) : nmW a b k u ≠ nmL b k := fun e => hu (nmE_inj (e.trans (nmW_at h hk).symm))
theorem way_th {a b : List Ev} (h : Tr a b) {k u : Nat} (hk : k < b.length) (h1 : k ≤ u) (h2 : u < posW a b k) : (evW a b k u).t ≠ (b.getD k ev00).t := by
  have hx := way_next h hk
  rw [← hx.at_]; exact depE_ne (hx.free u h1 h2)

/-! The places. -/
def dn (p j : Nat) : List Nat := (List.range (p - j)).map fun i => p - 1 - i
theorem dn_self (p : Nat) : dn p p = [] := by unfold dn; rw [Nat.sub_self]; rfl
theorem dn_succ {p j : Nat} (h : j + 1 ≤ p) : dn p j = dn p (j + 1) ++ [j] := by
  unfold dn
  rw [show p - j = (p - (j + 1)) + 1 by omega, List.range_succ, List.map_append, List.map_cons, List.map_nil]
  congr 2; omega
theorem dn_len (p j : Nat) : (dn p j).length = p - j := by unfold dn; rw [List.length_map, List.length_range]
def wayL (a b : List Ev) : Nat → List Nat
  | 0 => []
  | k + 1 => wayL a b k ++ dn (posW a b k) k
theorem wayL_len {a b : List Ev} (h : Tr a b) : ∀ k, k ≤ b.length → (wayL a b k).length ≤ k * b.length
  | 0, _ => Nat.zero_le _
  | k + 1, hk => by
    have h1 := wayL_len h k (by omega)
    have h2 := (way_next h (show k < b.length by omega)).lt
    rw [wayL, List.length_append, dn_len, Nat.add_mul, Nat.one_mul]
    omega
theorem wayL_lt {a b : List Ev} (h : Tr a b) : ∀ k, k ≤ b.length → ∀ x ∈ wayL a b k, x < b.length
  | 0, _, x, hx => by cases hx
  | k + 1, hk, x, hx => by
    rw [wayL] at hx
    rcases List.mem_append.1 hx with hx | hx
    · exact wayL_lt h k (by omega) x hx
    · have h2 := (way_next h (show k < b.length by omega)).lt
      unfold dn at hx
      obtain ⟨i, hi, rfl⟩ := List.mem_map.1 hx
      omega
/-- Exchanges at these places, one behind the other. -/
inductive Steps : List Ev → List Nat → List Ev → Prop
  | nil (l : List Ev) : Steps l [] l
  | cons {l m n : List Ev} {i : Nat} {w : List Nat} (h : Ex l m i) (hs : Steps m w n) : Steps l (i :: w) n
theorem Steps.append {l m n : List Ev} {v w : List Nat} (h : Steps l v m) (k : Steps m w n) : Steps l (v ++ w) n := by
  induction h with
  | nil => exact k
  | cons he _ ih => exact .cons he (ih k)
theorem Steps.inv {l n : List Ev} {v : List Nat} (h : Steps l v n) : (v = [] ∧ l = n) ∨ ∃ i w m, v = i :: w ∧ Ex l m i ∧ Steps m w n := by
  cases h with
  | nil => exact .inl ⟨rfl, rfl⟩
  | cons he hs => exact .inr ⟨_, _, _, rfl, he, hs⟩
def listF (n : Nat) (f : Nat → Ev) : List Ev := (List.range n).map f
theorem listF_len (n : Nat) (f : Nat → Ev) : (listF n f).length = n := by unfold listF; rw [List.length_map, List.length_range]
theorem listF_get {n u : Nat} (f : Nat → Ev) (h : u < n) : (listF n f).getD u ev00 = f u := by
  unfold listF
  rw [List.getD_eq_getElem?_getD, List.getElem?_map, List.getElem?_range h]; rfl
theorem listF_out {n u : Nat} (f : Nat → Ev) (h : n ≤ u) : (listF n f).getD u ev00 = ev00 := by
  rw [List.getD_eq_getElem?_getD, List.getElem?_eq_none (by rw [listF_len]; exact h)]; rfl
theorem Ex.listF {n i : Nat} {f g : Nat → Ev} (hi : i + 1 < n) (hg : ∀ u, u < n → g (sw i u) = f u) (hd : depE (f i) (f (i + 1)) = false) : Ex (Go.Proofs.Ytjhlehepnhbbaaa.listF n f) (Go.Proofs.Ytjhlehepnhbbaaa.listF n g) i where
  get u := by
    by_cases hu : u < n
    · rw [listF_get g (sw_lt hi hu), listF_get f hu, hg u hu]
    · rw [listF_out f (by omega), listF_out g (by rw [sw_hi (by omega)]; omega)]
  dep := by rw [listF_get f (by omega), listF_get f hi]; exact hd
  len := by rw [listF_len, listF_len]
  lt := by rw [listF_len]; exact hi
theorem down_steps {n p k : Nat} {f : Nat → Ev} (hp : p < n) (hd : ∀ u, k ≤ u → u < p → depE (f u) (f p) = false) : ∀ (d j : Nat), j + d = p → k ≤ j → Steps (listF n (mvF f p p)) (dn p j) (listF n (mvF f p j))
  | 0, j, h, _ => by
    have : j = p := by omega
    subst this
    rw [dn_self]; exact .nil _
  | d + 1, j, h, hk => by
    have ih := down_steps hp hd d (j + 1) (by omega) (by omega)
    rw [dn_succ (by omega)]
    refine ih.append (.cons (Ex.listF (by omega) (fun u hu => ?_) ?_) (.nil _))
    · have := mvF_step f (p := p) (j := j) (by omega)
      by_cases h1 : u = j
      · subst h1; rw [sw_i]; have := this (u + 1); rw [if_neg (by omega), if_pos rfl] at this; exact this.symm
      · by_cases h2 : u = j + 1
        · subst h2; rw [sw_i1]; have := this j; rw [if_pos rfl] at this; exact this.symm
        · rw [sw_out h1 h2]; have := this u; rw [if_neg h1, if_neg h2] at this; exact this.symm
    · have e1 : mvF f p (j + 1) j = f j := by unfold mvF; rw [if_pos (by omega)]
      have e2 : mvF f p (j + 1) (j + 1) = f p := by unfold mvF; rw [if_neg (by omega), if_pos rfl]
      rw [e1, e2]; exact hd j hk (by omega)
theorem list_listF (l : List Ev) : listF l.length (fun u => l.getD u ev00) = l := ext_getD (listF_len _ _) fun u hu => listF_get _ (by rw [listF_len] at hu; exact hu)
theorem way_steps {a b : List Ev} (h : Tr a b) : ∀ k, k ≤ b.length → Steps a (wayL a b k) (nowW a b k)
  | 0, _ => .nil _
  | k + 1, hk => by
    have hw := wayAt h k (by omega)
    have hw1 := wayAt h (k + 1) hk
    have hx := way_next h (show k < b.length by omega)
    rw [wayL]
    refine (way_steps h k (by omega)).append ?_
    have hs := down_steps (n := b.length) hx.lt hx.free (posW a b k - k) k (by have := hx.ge; omega) (Nat.le_refl _)
    have e1 : listF b.length (mvF (evW a b k) (posW a b k) (posW a b k)) = nowW a b k := by
      have : mvF (evW a b k) (posW a b k) (posW a b k) = evW a b k := funext fun u => mvF_self _ _ u
      rw [this, ← hw.len]; exact list_listF _
    have e2 : listF b.length (mvF (evW a b k) (posW a b k) k) = nowW a b (k + 1) := by
      rw [← evW_succ h (show k < b.length by omega), ← hw1.len]; exact list_listF _
    rw [e1, e2] at hs
    exact hs
theorem way_leads {a b : List Ev} (h : Tr a b) : Steps a (wayL a b b.length) b := by
  have := way_steps h b.length (Nat.le_refl _)
  rw [way_end h] at this
  exact this
theorem Ex.swp {l m : List Ev} {i n : Nat} (h : Ex l m i) (hn : l.length = n) (hw : wrongS n l = 0) : swpRes n l (i : Int) = (m, 0) := by
  have hlt := h.lt
  have h1 : l[i]? = some (l.getD i ev00) := getD_at (by omega)
  have h2 : l[i + 1]? = some (l.getD (i + 1) ev00) := getD_at hlt
  rw [swpRes_yes hw (by omega) h1 h2 h.dep, h.eq]
end Go.Proofs.Ytjhlehepnhbbaaa

namespace Go.Proofs.Ytjhlehepnhbbaaa
open Go.ChangeShapes Go.WideShapes Go.ChangeAt Go.RowKit Go.Deep

/-- Eight counts in a block of their own. -/
structure Row8 (f : Nat → Int) (rb : Nat) (wo wx : World) : Prop where
  row : wx.heap[rb]? = some (.cells (intsA 8 f) 78 (0, 0))
  below : Below rb wo wx
section
variable {f g : Nat → Int} {rb : Nat} {wo wx wy : World}
theorem Row8.of (h : Row8 f rb wo wx) (e : ∀ i, i < 8 → f i = g i) : Row8 g rb wo wx := ⟨by rw [← intsA_congr e]; exact h.row, h.below⟩
theorem Row8.lt (h : Row8 f rb wo wx) : rb < wx.heap.size := (Array.getElem?_eq_some_iff.1 h.row).1
theorem Row8.go (h : Row8 f rb wo wx) (hb : Below wx.heap.size wx wy) : Row8 f rb wo wy := ⟨(hb.block rb h.lt).trans h.row, h.below.trans (hb.mono (Nat.le_of_lt h.lt))⟩
theorem Row8.put (h : Row8 f rb wo wx) (i : Nat) (z : Int) : Row8 (fun x => if x = i then z else f x) rb wo (wx.setCell ⟨rb, i, none⟩ (.int .i64 z)) :=
  ⟨by rw [← intsA_put]; exact set_block h.row _, h.below.setCell (p := ⟨rb, i, none⟩) (Nat.le_refl _) _⟩
theorem Row8.get (h : Row8 f rb wo wx) {i : Nat} (hi : i < 8) : wx.cell? ⟨rb, i, none⟩ = some (.int .i64 (f i)) ∧ wx.frozen? ⟨rb, i, none⟩ = false :=
  ⟨by rw [cell_of_block h.row]; exact intsA_get hi, free_of_block h.row⟩
theorem Row8.wrote {R : Nat → Prop} (h : Row8 f rb wo wx) (hw : Wrote R wx wy) (hR : ∀ q, R q → rb < q) : Row8 f rb wo wy :=
  ⟨(hw.block rb h.lt (fun hr => Nat.lt_irrefl _ (hR rb hr))).trans h.row, Wrote.below h.below hw (Nat.le_of_lt h.lt) (fun q hq => Nat.le_of_lt (hR q hq))⟩
end
theorem heap_belowW {w w' : World} {g : Nat} {o : Obj} (h : w.heap[g]? = some o) (hb : Below w.heap.size w w') : w'.heap[g]? = some o := (hb.block g (Array.getElem?_eq_some_iff.1 h).1).trans h
theorem names_block {w : World} {g n i : Nat} {f : Nat → Int × Nat} {T : TypeId} (h : w.heap[g]? = some (.cells (namesA n f) T (0, 0))) (hi : i < n) (z : Int × Nat) :
    ((w.setCell ⟨g, i * 2, none⟩ (.int .i64 z.1)).setCell ⟨g, i * 2 + 1, none⟩ (.int .i64 (z.2 : Int))).heap[g]? = some (.cells (namesA n (fun x => if x = i then z else f x)) T (0, 0)) := by
  rw [← namesA_put hi]; exact set_block (set_block h _) _
theorem names_cells {w : World} {g n i : Nat} {f : Nat → Int × Nat} {T : TypeId} (h : w.heap[g]? = some (.cells (namesA n f) T (0, 0))) (hi : i < n) :
    w.cell? ⟨g, i * 2, none⟩ = some (.int .i64 (f i).1) ∧ w.cell? ⟨g, i * 2 + 1, none⟩ = some (.int .i64 ((f i).2 : Int)) ∧ w.frozen? ⟨g, i * 2, none⟩ = false ∧ w.frozen? ⟨g, i * 2 + 1, none⟩ = false :=
  ⟨by rw [cell_of_block h]; exact (namesA_get hi).1, by rw [cell_of_block h]; exact (namesA_get hi).2, free_of_block h, free_of_block h⟩
theorem wrote_two (w : World) (g a b : Nat) (u v : Value) : Wrote (fun q => q = g) w (((w.setCell ⟨g, a, none⟩ u).setCell ⟨g, b, none⟩ v).drew) :=
  ((Wrote.setCell (R := fun q => q = g) w (p := ⟨g, a, none⟩) u rfl).trans (Wrote.setCell (R := fun q => q = g) _ (p := ⟨g, b, none⟩) v rfl) (fun x hx => .inl hx)).trans (Wrote.drew _) (fun x hx => .inl hx)
def nmP (l : List Ev) (i u : Nat) : Int × Nat := if u < i then nmL l u else (0, 0)
theorem nmP_succ (l : List Ev) (i u : Nat) : (if u = i then nmL l i else nmP l i u) = nmP l (i + 1) u := by
  unfold nmP
  by_cases h : u = i
  · subst h; rw [if_pos rfl, if_pos (by omega)]
  · rw [if_neg h]
    by_cases h2 : u < i
    · rw [if_pos h2, if_pos (by omega)]
    · rw [if_neg h2, if_neg (by omega)]
def cntL (l : List Ev) (t : Int) (K : Nat) : Nat := cntE (fun v => l.getD v ev00) t K
theorem cntL_succ {l : List Ev} {i : Nat} {x : Ev} (hx : l[i]? = some x) (t : Int) : cntL l t (i + 1) = cntL l t i + if x.t = t then 1 else 0 := by
  unfold cntL; rw [cntE, getD_of hx]
theorem nmL_at {l : List Ev} {i : Nat} {x : Ev} (hx : l[i]? = some x) : nmL l i = (x.t, cntL l x.t (i + 1)) := by
  unfold nmL nmE cntL
  show ((l.getD i ev00).t, cntE (fun v => l.getD v ev00) (l.getD i ev00).t (i + 1)) = _
  rw [getD_of hx]
def NamesPost (w : World) (n : Nat) (f : Nat → Int × Nat) (e : Ending) (w' : World) : Prop := ∃ g, e = .returned (.slice (some ⟨g, 0, none⟩) n n) ∧ w'.heap[g]? = some (.cells (namesA n f) 87 (0, 0)) ∧ w.heap.size ≤ g ∧ Below w.heap.size w w'

set_option maxRecDepth 20000 in
set_option maxHeartbeats 8000000 in
theorem names_calls {w : World} {a0 : Option Addr} {n c : Nat} {l : List Ev} (h : IsEvs w a0 n c l) (hg : GoodL n l) :
    Calls Try.prog 51 #[.slice a0 n c] w (NamesPost w n (nmL l)) := by
  have hn100 : n ≤ 100 := hg.le
  have Hev := Lib.hid h
  have HG := Lib.hid hg
  clear h hg
  go_enter Try.func51, Try.ntmps51
  go_wp2_with (refine wpList_makeN rfl (.tmp 8) (.tmp 8) rfl n (by omega) rfl rfl ?_)
  have hM : Row8 (fun t => (cntL l (t : Int) 0 : Int)) w.heap.size w (w.alloc (.cells #[.int .i64 0, .int .i64 0, .int .i64 0, .int .i64 0, .int .i64 0, .int .i64 0, .int .i64 0, .int .i64 0] 78)) := by
    refine ⟨?_, (Below.refl _ w).alloc (Nat.le_refl _) _⟩
    rw [intsA_congr (n := 8) (g := fun _ => 0) (fun i _ => by simp [cntL, cntE])]
    exact (MapKept.heap_alloc w _).1
  have s1 : (w.alloc (.cells #[.int .i64 0, .int .i64 0, .int .i64 0, .int .i64 0, .int .i64 0, .int .i64 0, .int .i64 0, .int .i64 0] 78)).heap.size = w.heap.size + 1 := by simp
  revert hM s1
  generalize w.alloc (.cells #[.int .i64 0, .int .i64 0, .int .i64 0, .int .i64 0, .int .i64 0, .int .i64 0, .int .i64 0, .int .i64 0] 78) = w1
  intro hM s1
  have hN : RowN n (nmP l 0) w1.heap.size w1 (w1.alloc (.cells (namesA n fun _ => (0, 0)) 87)) := ⟨by rw [namesA_congr (g := fun _ => (0, 0)) (fun i _ => by simp [nmP])]; exact (MapKept.heap_alloc w1 _).1, (Below.refl _ w1).alloc (Nat.le_refl _) _⟩
  have hM2 := hM.go ((Below.refl w1.heap.size w1).alloc (Nat.le_refl _) (.cells (namesA n fun _ => (0, 0)) 87))
  rw [s1] at hN
  clear hM
  revert hN hM2
  generalize w1.alloc (.cells (namesA n fun _ => (0, 0)) 87) = w2
  intro hN hM2
  have HN := Lib.hid hN
  have HM := Lib.hid hM2
  have HBw : Hid (Below w.heap.size w w2) := hM2.below
  obtain ⟨g0, hg0⟩ : ∃ g, g = w.heap.size := ⟨_, rfl⟩
  rw [← hg0] at HM HN ⊢
  have Hg0 := Lib.hid hg0
  clear hN hM2 s1 hg0
  go_wp2_with fail
  go_loopw [5, 6, 12] (fun _ _ x wr => ∃ i : Nat, i ≤ n ∧ x = .int .i64 i ∧ Hid (Row8 (fun t => (cntL l (t : Int) i : Int)) g0 w wr ∧ wr.heap[g0 + 1]? = some (.cells (namesA n (nmP l i)) 87 (0, 0)))) (fun _ _ x _ => n - (intOf x).toNat)
  case atStart => exact ⟨0, Nat.zero_le _, by go_num, HM.out, HN.out.row⟩
  case round =>
    clear HM HN
    obtain ⟨i, hi, rfl, HL⟩ := hrel
    by_cases hin : i < n
    · have HBr : Hid (Below w.heap.size w wr) := by have := HL.out.1.below; rw [Hg0.out] at this; exact this
      obtain ⟨b0, off, x, rfl, hx, _, c0, c1, c2, c3, c4⟩ := (Hev.out.below HBr.out).at hin
      obtain ⟨hx0, hx8⟩ := HG.out.th hin
      rw [thE_of hx] at hx0 hx8
      have Hx := Lib.hid hx
      obtain ⟨xt, xk, xo, xv, xb⟩ := x
      simp only at c0 c1 c2 c3 c4 hx0 hx8
      obtain ⟨t, rfl⟩ := Int.eq_ofNat_of_zero_le hx0
      have ht8 : t < 8 := by omega
      clear hx hx0 hx8
      go_upto_region 6 with (fail)
      have hA := one_newR wr #[.int .i64 (t : Int), .int .i64 xk, .int .i64 xo, .int .i64 xv, .int .i64 xb] 36
      have HL2 := Lib.hid (And.intro (HL.out.1.go hA.2) (heap_belowW HL.out.2 hA.2))
      revert hA HL2
      generalize wr.alloc (.cells #[.int .i64 (t : Int), .int .i64 xk, .int .i64 xo, .int .i64 xv, .int .i64 xb] 36) = y1
      intro hA HL2
      have hA1 := hA.1
      have Hgg : Hid (g0 + 1 < wr.heap.size) := (Array.getElem?_eq_some_iff.1 HL.out.2).1
      clear HL HBr c0 c1 c2 c3 c4 hA
      revert hA1 Hgg
      generalize wr.heap.size = g1
      intro hA1 Hgg
      have e0 : y1.cell? ⟨g1, 0, none⟩ = some (.int .i64 (t : Int)) := cell_of_block hA1
      obtain ⟨m0, mf⟩ := HL2.out.1.get ht8
      have hcl : cntL l (t : Int) i ≤ i := cntE_le _ _ _
      have hc1 := cntL_succ Hx.out
      simp only at hc1
      have Hc1 := Lib.hid hc1
      clear hc1
      have Hnm : Hid (nmL l i = ((t : Int), cntL l (t : Int) i + 1)) := by
        rw [Hid, nmL_at Hx.out]
        show ((t : Int), cntL l (t : Int) (i + 1)) = _
        rw [Hc1.out, if_pos rfl]
      clear hA1
      go_upto_region 7 with (fail)
      have hM3 := (HL2.out.1.put t ((cntL l (t : Int) i : Int) + 1)).of (g := fun t => (cntL l (t : Int) (i + 1) : Int)) (fun s _ => by
        show (if s = t then (cntL l (t : Int) i : Int) + 1 else (cntL l (s : Int) i : Int)) = _
        rw [Hc1.out]
        by_cases hst : s = t
        · subst hst; rw [if_pos rfl, if_pos rfl]; omega
        · rw [if_neg hst, if_neg (fun e => hst (by omega))]; rfl)
      have hW : Wrote (fun q => q = g0) y1 (y1.setCell ⟨g0, t, none⟩ (.int .i64 ((cntL l (t : Int) i : Int) + 1))) := Wrote.setCell (R := fun q => q = g0) y1 (p := ⟨g0, t, none⟩) _ rfl
      have hN4 : (y1.setCell ⟨g0, t, none⟩ (.int .i64 ((cntL l (t : Int) i : Int) + 1))).heap[g0 + 1]? = some (.cells (namesA n (nmP l i)) 87 (0, 0)) := (hW.block (g0 + 1) (Array.getElem?_eq_some_iff.1 HL2.out.2).1 (by omega)).trans HL2.out.2
      have k0 : (y1.setCell ⟨g0, t, none⟩ (.int .i64 ((cntL l (t : Int) i : Int) + 1))).cell? ⟨g1, 0, none⟩ = some (.int .i64 (t : Int)) := (hW.cell (p := ⟨g1, 0, none⟩) (World.block_lt_of_cell? y1 _ e0) (by have := Hgg.out; show ¬ g1 = g0; omega)).trans e0
      have k1 : (y1.setCell ⟨g0, t, none⟩ (.int .i64 ((cntL l (t : Int) i : Int) + 1))).cell? ⟨g0, t, none⟩ = some (.int .i64 ((cntL l (t : Int) i : Int) + 1)) := by
        have := (hM3.get ht8).1
        rw [Hc1.out, if_pos rfl] at this
        exact this
      have nm := names_cells hN4 hin
      obtain ⟨n0, n1, nf0, nf1⟩ := nm
      have HM3 := Lib.hid hM3
      have HN4 := Lib.hid hN4
      clear hM3 hW hN4 HL2 m0 mf e0
      revert HM3 HN4 k0 k1 n0 n1 nf0 nf1
      generalize (y1.setCell ⟨g0, t, none⟩ (.int .i64 ((cntL l (t : Int) i : Int) + 1))) = y2
      intro k0 k1 n0 n1 nf0 nf1 HM3 HN4
      go_region
      have hW2 := wrote_two y2 (g0 + 1) (i * 2) (i * 2 + 1) (.int .i64 (t : Int)) (.int .i64 ((cntL l (t : Int) i : Int) + 1))
      have hN5 : (((y2.setCell ⟨g0 + 1, i * 2, none⟩ (.int .i64 (t : Int))).setCell ⟨g0 + 1, i * 2 + 1, none⟩ (.int .i64 ((cntL l (t : Int) i : Int) + 1))).drew).heap[g0 + 1]? = some (.cells (namesA n (nmP l (i + 1))) 87 (0, 0)) := by
        have h1 := names_block HN4.out hin ((t : Int), cntL l (t : Int) i + 1)
        have e1 : namesA n (fun x => if x = i then ((t : Int), cntL l (t : Int) i + 1) else nmP l i x) = namesA n (nmP l (i + 1)) := namesA_congr fun u _ => by rw [← nmP_succ, Hnm.out]
        rw [e1] at h1
        exact h1
      have HN6 := Lib.hid (And.intro (HM3.out.wrote hW2 (fun q hq => by omega)) hN5)
      clear hW2 hN5 HM3 HN4 k0 k1 n0 n1 nf0 nf1 Hnm Hc1
      revert HN6
      generalize ((y2.setCell ⟨g0 + 1, i * 2, none⟩ (.int .i64 (t : Int))).setCell ⟨g0 + 1, i * 2 + 1, none⟩ (.int .i64 ((cntL l (t : Int) i : Int) + 1))).drew = y3
      intro HN6
      go_wp2
      go_roundw
      case rel => exact ⟨i + 1, hin, by go_num, HN6.out⟩
      case measure => exact meas hin
    · have hin : i = n := Nat.le_antisymm hi (Nat.le_of_not_lt hin)
      subst hin
      have Hq : Hid (NamesPost w i (nmL l) (.returned (.slice (some ⟨g0 + 1, 0, none⟩) i i)) wr) := by
        refine ⟨g0 + 1, rfl, ?_, by have := Hg0.out; omega, by have := HL.out.1.below; rw [Hg0.out] at this; exact this⟩
        have e1 : namesA i (nmP l i) = namesA i (nmL l) := namesA_congr fun u hu => by unfold nmP; rw [if_pos hu]
        rw [HL.out.2, e1]
      clear HL
      go_wp2
      go_ret
      exact Hq.out

set_option maxRecDepth 20000 in
set_option maxHeartbeats 4000000 in
theorem nindex_calls {w : World} {g n p : Nat} {f : Nat → Int × Nat} {t : Int} {k : Nat} (h : w.heap[g]? = some (.cells (namesA n f) 87 (0, 0))) (hn : n ≤ 100) (hp : p < n) (hf : f p = (t, k)) (hne : ∀ u, u < p → f u ≠ (t, k)) :
    Calls Try.prog 52 #[.slice (some ⟨g, 0, none⟩) n n, .agg #[.int .i64 t, .int .i64 (k : Int)]] w fun e w' => e = .returned (.int .i64 (p : Int)) ∧ Below w.heap.size w w' := by
  have H := Lib.hid h
  have Hf := Lib.hid hf
  have Hne := Lib.hid hne
  clear h hf hne
  obtain ⟨kk, hkk⟩ : ∃ z : Int, z = (k : Int) := ⟨_, rfl⟩
  rw [← hkk]
  have Hkk := Lib.hid hkk
  clear hkk
  go_enter Try.func52, Try.ntmps52
  go_wp2_with fail
  have hA := one_newR w #[.int .i64 t, .int .i64 kk] 87
  have HN := Lib.hid (heap_belowW H.out hA.2)
  have HB0 := Lib.hid hA.2
  have hA1 := hA.1
  revert hA1 HN HB0
  generalize w.alloc (.cells #[.int .i64 t, .int .i64 kk] 87) = w1
  intro HN HB0 hA1
  obtain ⟨g0, hg0⟩ : ∃ x, x = w.heap.size := ⟨_, rfl⟩
  rw [← hg0] at hA1 ⊢
  have c0 : w1.cell? ⟨g0, 0, none⟩ = some (.int .i64 t) := cell_of_block hA1
  have c1 : w1.cell? ⟨g0, 1, none⟩ = some (.int .i64 kk) := cell_of_block hA1
  clear hA hA1 hg0
  go_loopw [5, 8] (fun _ x wr => ∃ i : Nat, i ≤ p ∧ x = .int .i64 i ∧ Hid (Below w1.heap.size w1 wr)) (fun _ x _ => n - (intOf x).toNat)
  case atStart => exact ⟨0, Nat.zero_le _, by go_num, Below.refl ..⟩
  case round =>
    obtain ⟨i, hi, rfl, HB⟩ := hrel
    have hin : i < n := Nat.lt_of_le_of_lt hi hp
    obtain ⟨n0, n1, _, _⟩ := names_cells (heap_belowW HN.out HB.out) hin
    have c0 := keep HB.out c0
    have c1 := keep HB.out c1
    by_cases hip : i = p
    · subst hip
      rw [Hf.out] at n0 n1
      simp only at n0 n1
      rw [← Hkk.out] at n1
      have b0 : (t == t) = true := by simp
      have b1 : (kk == kk) = true := by simp
      go_upto_region 4 with (fail)
      refine wp_ext_draw 6 mixed (by kernel_rfl) ?_
      simp only [List.take_succ_cons, List.take_zero, List.drop_succ_cons, List.drop_zero]
      repeat ((first | ((apply TextRun.go rfl rfl rfl); (focus (intro w1 hS K hK; have hc := bcell hS; have hs := blt hS; have c0 := keep hS c0; have c1 := keep hS c1; have n0 := keep hS n0; have n1 := keep hS n1; go_wp2_with (fail); first | done | exact hS | exact hS.trans (hb.mono hS.size)))) | (refine TextRun.skip rfl ?_) | ((refine TextRun.wantedT rfl rfl rfl ?_); (apply Exists.intro); (apply And.intro); (focus (intro w1 hS K hK; have hc := bcell hS; have hs := blt hS; have c0 := keep hS c0; have c1 := keep hS c1; have n0 := keep hS n0; have n1 := keep hS n1; go_wp2_with (fail); first | done | exact hS | exact hS.trans (hb.mono hS.size))))); (simp only [Act.put, List.setIfInBounds_toArray, List.set_cons_zero, List.set_cons_succ]))
      refine TextRun.done ?_
      intro w2 hb
      have HB2 := Lib.hid (HB0.out.trans ((HB.out.trans (hb.mono HB.out.size)).mono HB0.out.size))
      clear hb c0 c1 n0 n1 HB
      go_wp2
      go_ret
      exact ⟨rfl, HB2.out⟩
    · have hlt : i < p := by omega
      have hx := Hne.out i hlt
      have hx2 : ¬ (t = (f i).1 ∧ kk = ((f i).2 : Int)) := fun e => hx (by
        have h1 := e.2; rw [Hkk.out] at h1
        exact Prod.ext e.1.symm (by show (f i).2 = k; omega))
      clear hx
      revert n0 n1 hx2
      generalize (f i).1 = z1
      generalize ((f i).2 : Int) = z2
      intro n0 n1 hx2
      by_cases h1 : t = z1
      · have b0 : (t == z1) = true := by simpa using h1
        have b1 : (kk == z2) = false := by simpa using fun e => hx2 ⟨h1, e⟩
        clear h1 hx2
        go_upto_region 4 with (fail)
        refine wp_ext_draw 6 mixed (by kernel_rfl) ?_
        simp only [List.take_succ_cons, List.take_zero, List.drop_succ_cons, List.drop_zero]
        repeat ((first | ((apply TextRun.go rfl rfl rfl); (focus (intro w1 hS K hK; have hc := bcell hS; have hs := blt hS; have c0 := keep hS c0; have c1 := keep hS c1; have n0 := keep hS n0; have n1 := keep hS n1; go_wp2_with (fail); first | done | exact hS | exact hS.trans (hb.mono hS.size)))) | (refine TextRun.skip rfl ?_) | ((refine TextRun.wantedT rfl rfl rfl ?_); (apply Exists.intro); (apply And.intro); (focus (intro w1 hS K hK; have hc := bcell hS; have hs := blt hS; have c0 := keep hS c0; have c1 := keep hS c1; have n0 := keep hS n0; have n1 := keep hS n1; go_wp2_with (fail); first | done | exact hS | exact hS.trans (hb.mono hS.size))))); (simp only [Act.put, List.setIfInBounds_toArray, List.set_cons_zero, List.set_cons_succ]))
        refine TextRun.done ?_
        intro w2 hb
        have HB2 := Lib.hid (HB.out.trans (hb.mono HB.out.size))
        clear hb c0 c1 n0 n1 HB
        go_wp2
        go_roundw
        case rel => exact ⟨i + 1, hlt, by go_num, HB2.out⟩
        case measure => exact meas hin
      · have b0 : (t == z1) = false := by simpa using h1
        clear h1 hx2
        go_upto_region 4 with (fail)
        refine wp_ext_draw 6 mixed (by kernel_rfl) ?_
        simp only [List.take_succ_cons, List.take_zero, List.drop_succ_cons, List.drop_zero]
        repeat ((first | ((apply TextRun.go rfl rfl rfl); (focus (intro w1 hS K hK; have hc := bcell hS; have hs := blt hS; have c0 := keep hS c0; have c1 := keep hS c1; have n0 := keep hS n0; have n1 := keep hS n1; go_wp2_with (fail); first | done | exact hS | exact hS.trans (hb.mono hS.size)))) | (refine TextRun.skip rfl ?_) | ((refine TextRun.wantedT rfl rfl rfl ?_); (apply Exists.intro); (apply And.intro); (focus (intro w1 hS K hK; have hc := bcell hS; have hs := blt hS; have c0 := keep hS c0; have c1 := keep hS c1; have n0 := keep hS n0; have n1 := keep hS n1; go_wp2_with (fail); first | done | exact hS | exact hS.trans (hb.mono hS.size))))); (simp only [Act.put, List.setIfInBounds_toArray, List.set_cons_zero, List.set_cons_succ]))
        refine TextRun.done ?_
        intro w2 hb
        have HB2 := Lib.hid (HB.out.trans (hb.mono HB.out.size))
        clear hb c0 c1 n0 n1 HB
        go_wp2
        go_roundw
        case rel => exact ⟨i + 1, hlt, by go_num, HB2.out⟩
        case measure => exact meas hin

set_option maxHeartbeats 2000000 in
theorem clipI_calls {w : World} {a : Option Addr} {n c : Nat} {xs : List Int} (h : IsInts w a n c xs) :
    Calls Try.prog 53 #[.slice a n c] w fun e w' => e = .returned (.slice a n n) ∧ IsInts w' a n n xs ∧ w = w' := by
  have hc : c ≤ 9223372036854775807 := by have := h.cap; unfold maxLen at this; omega
  have hnc := h.le
  have H : Hid (IsInts w a n n xs) := ⟨h.reads, h.len, Nat.le_refl _, Nat.le_trans h.le h.cap, h.wf⟩
  clear h
  go_enter Try.func53, Try.ntmps53
  go_wp2
  go_ret
  exact ⟨rfl, H.out, rfl⟩
end Go.Proofs.Ytjhlehepnhbbaaa

namespace Go.Proofs.Ytjhlehepnhbbaaa
open Go.ChangeShapes Go.WideShapes Go.ChangeAt Go.RowKit Go.Deep

noncomputable def wayRes (n m : Nat) (a b : List Ev) : List Int × Bool × Int :=
  if wrongS n a ≠ 0 then ([], false, wrongS n a) else if wrongS m b ≠ 0 then ([], false, wrongS m b) else if eqB (normL a) (normL b) = false then ([], false, 0) else (natsI (wayL a b b.length), true, 0)
theorem wayRes_no {n m : Nat} {a b : List Ev} (h : (sameRes n m a b).2 ≠ 0 ∨ (sameRes n m a b).1 = false) : wayRes n m a b = ([], false, (sameRes n m a b).2) := by
  unfold wayRes
  unfold sameRes at *
  by_cases h1 : wrongS n a ≠ 0
  · rw [if_pos h1, if_pos h1]
  · rw [if_neg h1] at h ⊢
    rw [if_neg h1]
    by_cases h2 : wrongS m b ≠ 0
    · rw [if_pos h2, if_pos h2]
    · rw [if_neg h2] at h ⊢
      rw [if_neg h2]
      simp only at h ⊢
      rcases h with h | h
      · exact absurd rfl h
      · rw [if_pos h]
theorem wayRes_yes {n m : Nat} {a b : List Ev} (h : (sameRes n m a b).2 = 0) (h' : (sameRes n m a b).1 = true) : wrongS n a = 0 ∧ wrongS m b = 0 ∧ Tr a b ∧ wayRes n m a b = (natsI (wayL a b b.length), true, 0) := by
  unfold sameRes at h h'
  by_cases h1 : wrongS n a = 0
  · rw [if_neg (by rw [h1]; simp)] at h h'
    by_cases h2 : wrongS m b = 0
    · rw [if_neg (by rw [h2]; simp)] at h'
      refine ⟨h1, h2, norm_tr (eqB_iff.1 h'), ?_⟩
      unfold wayRes
      rw [if_neg (by rw [h1]; simp), if_neg (by rw [h2]; simp), if_neg (by simp only at h'; rw [h']; simp)]
    · rw [if_pos h2] at h'; cases h'
  · rw [if_pos h1] at h'; cases h'
/-- Who hands back a way. -/
def WayPost (w : World) (r : List Int × Bool × Int) (e : Ending) (w' : World) : Prop := ∃ xa xc, e = .returned (.tuple #[.slice xa r.1.length xc, .bool r.2.1, .int .i64 r.2.2]) ∧ IsInts w' xa r.1.length xc r.1 ∧ Below w.heap.size w w'
theorem ints_nil (w : World) : IsInts w none 0 0 [] := ⟨Reads.nil, rfl, Nat.le_refl _, Nat.zero_le _, fun e he => by cases he⟩
theorem WayPost.none {w w' : World} {z : Int} (hb : Below w.heap.size w w') : WayPost w ([], false, z) (.returned (.tuple #[.slice none 0 0, .bool false, .int .i64 z])) w' := ⟨Option.none, 0, rfl, ints_nil _, hb⟩
theorem measD {k j : Nat} (h : k ≤ j) : (intOf (.int .i64 (j : Int))).toNat - k < (intOf (.int .i64 ((j : Int) + 1))).toNat - k := by
  simp only [intOf]; omega

/-- What holds while the program exchanges. -/
structure NowP (w1 : World) (ga gb B n : Nat) (f g : Nat → Int × Nat) (u : Value) (D : List Nat) (wr : World) : Prop where
  row : wr.heap[ga]? = some (.cells (namesA n f) 87 (0, 0))
  goal : wr.heap[gb]? = some (.cells (namesA n g) 87 (0, 0))
  own : OwnL eltI wr B u (natsI D)
  below : Below w1.heap.size w1 wr
  lo : w1.heap.size ≤ ga
  ab : ga < B
  bb : gb < B
  ne : ga ≠ gb
  sz : B ≤ wr.heap.size
section
variable {w1 : World} {ga gb B n : Nat} {f f' g : Nat → Int × Nat} {u u' : Value} {D D' : List Nat} {wr wy : World}
theorem NowP.go (h : NowP w1 ga gb B n f g u D wr) (hb : Below wr.heap.size wr wy) : NowP w1 ga gb B n f g u D wy :=
  ⟨heap_belowW h.row hb, heap_belowW h.goal hb, h.own.below hb, h.below.trans (hb.mono h.below.size), h.lo, h.ab, h.bb, h.ne, Nat.le_trans h.sz hb.size⟩
theorem NowP.of (h : NowP w1 ga gb B n f g u D wr) (e : ∀ i, i < n → f i = f' i) : NowP w1 ga gb B n f' g u D wr :=
  ⟨by rw [← namesA_congr e]; exact h.row, h.goal, h.own, h.below, h.lo, h.ab, h.bb, h.ne, h.sz⟩
theorem NowP.push (h : NowP w1 ga gb B n f g u D wr) (ho : OwnL eltI wy B u' (natsI D')) (hw : Wrote (fun q => u.ownBlock = some q) wr wy) : NowP w1 ga gb B n f g u' D' wy :=
  ⟨(hw.block ga (Array.getElem?_eq_some_iff.1 h.row).1 (fun e => by have := (h.own.lt e).1; have := h.ab; omega)).trans h.row, (hw.block gb (Array.getElem?_eq_some_iff.1 h.goal).1 (fun e => by have := (h.own.lt e).1; have := h.bb; omega)).trans h.goal, ho,
    Wrote.below h.below hw h.below.size (fun q hq => by have := (h.own.lt hq).1; have := h.ab; have := h.lo; omega), h.lo, h.ab, h.bb, h.ne, Nat.le_trans h.sz hw.size⟩
theorem NowP.put (h : NowP w1 ga gb B n f g u D wr) (hr : wy.heap[ga]? = some (.cells (namesA n f') 87 (0, 0))) (hw : Wrote (fun q => q = ga) wr wy) : NowP w1 ga gb B n f' g u D wy :=
  ⟨hr, (hw.block gb (Array.getElem?_eq_some_iff.1 h.goal).1 (fun e => h.ne e.symm)).trans h.goal, h.own.wrote hw (fun q hq e => by have := (h.own.lt hq).1; have := h.ab; omega), Wrote.below h.below hw h.below.size (fun q hq => by have := h.lo; omega), h.lo, h.ab, h.bb, h.ne, Nat.le_trans h.sz hw.size⟩
end
theorem wrote_four (w : World) (g a b c d : Nat) (u v x y : Value) : Wrote (fun q => q = g) w (((((w.setCell ⟨g, a, none⟩ u).setCell ⟨g, b, none⟩ v).setCell ⟨g, c, none⟩ x).setCell ⟨g, d, none⟩ y).drew) :=
  ((((Wrote.setCell (R := fun q => q = g) w (p := ⟨g, a, none⟩) u rfl).trans (Wrote.setCell (R := fun q => q = g) _ (p := ⟨g, b, none⟩) v rfl) (fun x hx => .inl hx)).trans (Wrote.setCell (R := fun q => q = g) _ (p := ⟨g, c, none⟩) x rfl) (fun x hx => .inl hx)).trans (Wrote.setCell (R := fun q => q = g) _ (p := ⟨g, d, none⟩) y rfl) (fun x hx => .inl hx)).trans (Wrote.drew _) (fun x hx => .inl hx)
/-- Two names beside one another exchanged. -/
theorem names_exch {w : World} {g n j : Nat} {f : Nat → Int × Nat} {T : TypeId} (h : w.heap[g]? = some (.cells (namesA n f) T (0, 0))) (hj : j + 1 < n) (x y : Int × Nat) :
    (((((w.setCell ⟨g, j * 2, none⟩ (.int .i64 y.1)).setCell ⟨g, j * 2 + 1, none⟩ (.int .i64 (y.2 : Int))).setCell ⟨g, (j + 1) * 2, none⟩ (.int .i64 x.1)).setCell ⟨g, (j + 1) * 2 + 1, none⟩ (.int .i64 (x.2 : Int))).drew).heap[g]? = some (.cells (namesA n (fun u => if u = j then y else if u = j + 1 then x else f u)) T (0, 0)) := by
  have h1 := names_block (names_block h (show j < n by omega) y) hj x
  have e : namesA n (fun u => if u = j + 1 then x else if u = j then y else f u) = namesA n (fun u => if u = j then y else if u = j + 1 then x else f u) := namesA_congr fun u _ => by
    by_cases h1 : u = j
    · rw [if_neg (by omega), if_pos h1, if_pos h1]
    · rw [if_neg h1, if_neg h1]
  rw [e] at h1
  exact h1

set_option maxRecDepth 20000 in
set_option maxHeartbeats 16000000 in
theorem way_calls {w : World} {a0 b0 : Option Addr} {n c m d : Nat} {a b : List Ev} (h : IsEvs w a0 n c a) (h' : IsEvs w b0 m d b) :
    Calls Try.prog 22 #[.slice a0 n c, .slice b0 m d] w (WayPost w (wayRes n m a b)) := by
  have H := Lib.hid h
  have H' := Lib.hid h'
  clear h h'
  go_enter Try.func22, Try.ntmps22
  go_wp2_with fail
  refine (same_calls H.out H'.out).mono ?_
  rintro e w1 ⟨rfl, hb⟩
  have HB1 := Lib.hid hb
  clear hb
  by_cases hy : (sameRes n m a b).2 = 0 ∧ (sameRes n m a b).1 = true
  case neg =>
    have Hq : Hid (WayPost w (wayRes n m a b) (.returned (.tuple #[.slice none 0 0, .bool false, .int .i64 (sameRes n m a b).2])) w1) := by
      rw [Hid, wayRes_no (by
        rcases Classical.em ((sameRes n m a b).2 = 0) with h1 | h1
        · refine .inr ?_
          cases h2 : (sameRes n m a b).1
          · rfl
          · exact absurd ⟨h1, h2⟩ hy
        · exact .inl h1)]
      exact WayPost.none HB1.out
    have hor : ((sameRes n m a b).2 != 0) = true ∨ (((sameRes n m a b).2 != 0) = false ∧ (sameRes n m a b).1 = false) := by
      rcases Classical.em ((sameRes n m a b).2 = 0) with h1 | h1
      · refine .inr ⟨by simp [h1], ?_⟩
        cases h2 : (sameRes n m a b).1
        · rfl
        · exact absurd ⟨h1, h2⟩ hy
      · exact .inl (by simpa using h1)
    clear hy
    revert Hq hor
    generalize (sameRes n m a b).2 = z
    generalize (sameRes n m a b).1 = q
    intro Hq hor
    rcases hor with h1 | ⟨h1, rfl⟩
    · go_wp2
      go_returns
      exact Hq.out
    · go_wp2
      go_returns
      exact Hq.out
  obtain ⟨hz, hz', hT, hres⟩ := wayRes_yes hy.1 hy.2
  have hn100 : n ≤ 100 := wrong_le16 hz
  have hnm : m = n := by have := hT.len; rw [H.out.len, H'.out.len] at this; exact this
  subst hnm
  have HG : Hid (GoodL m a) := by obtain ⟨S, hS⟩ := wrong_ofS hz; exact good_of H.out hn100 hS
  have HG' : Hid (GoodL m b) := by obtain ⟨S, hS⟩ := wrong_ofS hz'; exact good_of H'.out hn100 hS
  rw [hy.1, hy.2]
  have Hres := Lib.hid hres
  have HT := Lib.hid hT
  have Hlb := Lib.hid H'.out.len
  clear hy hz hz' hT hres
  go_wp2_with fail
  refine (names_calls (H.out.below HB1.out) HG.out).mono ?_
  rintro e w2 ⟨ga, rfl, hra, hla, hb⟩
  have HB2 := Lib.hid (HB1.out.trans (hb.mono HB1.out.size))
  have HRa := Lib.hid (And.intro hra (And.intro hla hb))
  clear hra hla hb
  go_wp2_with fail
  refine (names_calls (H'.out.below HB2.out) HG'.out).mono ?_
  rintro e w3 ⟨gb, rfl, hrb, hlb, hb⟩
  have HN : Hid (NowP w1 ga gb w3.heap.size m (nmW a b 0) (nmL b) (.slice none 0 0) (wayL a b 0) w3) := by
    have h1 := HRa.out.1
    have h2 : ga < w2.heap.size := (Array.getElem?_eq_some_iff.1 h1).1
    have h3 : gb < w3.heap.size := (Array.getElem?_eq_some_iff.1 hrb).1
    have := hb.size
    exact ⟨heap_belowW h1 hb, hrb, OwnL.nil .., HRa.out.2.2.trans (hb.mono HRa.out.2.2.size), HRa.out.2.1, by omega, h3, by omega, Nat.le_refl _⟩
  clear hrb hlb hb HRa
  revert HN
  generalize w3.heap.size = B
  intro HN
  go_wp2_with fail
  go_loopw [11, 12, 13, 14, 34] (fun u _ _ _ x wr => ∃ k : Nat, k ≤ m ∧ x = .int .i64 k ∧ Hid (NowP w1 ga gb B m (nmW a b k) (nmL b) u (wayL a b k) wr)) (fun _ _ _ _ x _ => m - (intOf x).toNat)
  case atStart => exact ⟨0, Nat.zero_le _, by go_num, HN.out⟩
  case round =>
    clear HN
    obtain ⟨k, hk, rfl, HL⟩ := hrel
    by_cases hkm : k < m
    · have hkb : k < b.length := by rw [Hlb.out]; exact hkm
      have Hx := Lib.hid (way_next HT.out hkb)
      have Hat := Lib.hid (nmW_at HT.out hkb)
      have Hnx := Lib.hid (fun u (hu : u ≠ posW a b k) => nmW_ne HT.out hkb hu)
      have Hsu := Lib.hid (fun u => nmW_succ HT.out hkb u)
      have Hpl : Hid (posW a b k < m) := by rw [Hid, ← Hlb.out]; exact Hx.out.lt
      have Hwl : Hid ((wayL a b k).length ≤ 10000) := by
        have := wayL_len HT.out k (by omega)
        have : k * b.length ≤ 100 * 100 := Nat.mul_le_mul (by omega) (by rw [Hlb.out]; omega)
        rw [Hid]; omega
      have Hws : Hid (wayL a b (k + 1) = wayL a b k ++ dn (posW a b k) k) := rfl
      have hkp := Hx.out.ge
      have hpm := Hpl.out
      obtain ⟨g0, g1, _, _⟩ := names_cells HL.out.goal hkm
      have Hnn : Hid (nmL b k = ((nmL b k).1, (nmL b k).2)) := rfl
      clear hkb
      revert hkp hpm Hat Hnx Hsu Hpl Hws
      generalize posW a b k = p
      intro Hat Hnx Hsu Hpl Hws hkp hpm
      revert Hat Hnx g0 g1 Hnn
      generalize (nmL b k).1 = t
      generalize (nmL b k).2 = z
      generalize nmL b k = goal
      intro g0 g1 Hnn Hat Hnx
      obtain ⟨zz, hzz⟩ : ∃ q : Int, q = (z : Int) := ⟨_, rfl⟩
      rw [← hzz] at g1
      have Hzz := Lib.hid hzz
      clear hzz
      go_upto_region 9 with (fail)
      have hA := one_newR wr #[.int .i64 t, .int .i64 zz] 87
      have HL2 := Lib.hid (HL.out.go hA.2)
      have hA1 := hA.1
      clear hA HL g0 g1
      revert hA1 HL2
      generalize wr.alloc (.cells #[.int .i64 t, .int .i64 zz] 87) = y1
      generalize wr.heap.size = gg
      intro HL2 hA1
      have c0 : y1.cell? ⟨gg, 0, none⟩ = some (.int .i64 t) := cell_of_block hA1
      have c1 : y1.cell? ⟨gg, 1, none⟩ = some (.int .i64 zz) := cell_of_block hA1
      clear hA1
      have Hix : Hid (Calls Try.prog 52 #[.slice (some ⟨ga, 0, none⟩) m m, .agg #[.int .i64 t, .int .i64 zz]] y1 fun e w' => e = .returned (.int .i64 (p : Int)) ∧ Below y1.heap.size y1 w') := by
        rw [Hid, Hzz.out]
        exact nindex_calls HL2.out.row hn100 hpm (by rw [Hat.out, Hnn.out]) (fun u hu => by rw [← Hnn.out]; exact Hnx.out u (by omega))
      go_wp2_with fail
      refine Hix.out.mono ?_
      rintro e y2 ⟨rfl, hb⟩
      have HL3 : Hid (NowP w1 ga gb B m (mvF (nmW a b k) p p) (nmL b) u11 (wayL a b k ++ dn p p) y2) := by
        rw [Hid, dn_self, List.append_nil]
        exact (HL2.out.go hb).of (fun u _ => (mvF_self _ _ _).symm)
      clear hb HL2 Hix c0 c1
      go_wp2_with fail
      go_loopw [11, 14] (fun u x wq => ∃ j : Nat, k ≤ j ∧ j ≤ p ∧ x = .int .i64 j ∧ Hid (NowP w1 ga gb B m (mvF (nmW a b k) p j) (nmL b) u (wayL a b k ++ dn p j) wq)) (fun _ x _ => (intOf x).toNat - k)
      case atStart => exact ⟨p, hkp, Nat.le_refl _, by go_num, HL3.out⟩
      case round =>
        clear HL3
        obtain ⟨j, hkj, hjp, rfl, HQ⟩ := hrel
        by_cases hjk : k < j
        · obtain ⟨i, rfl⟩ : ∃ i, j = i + 1 := ⟨j - 1, by omega⟩
          have him : i + 1 < m := by omega
          have hki : k ≤ i := by omega
          obtain ⟨n0, n1, nf0, nf1⟩ := names_cells HQ.out.row (show i < m by omega)
          obtain ⟨o0, o1, of0, of1⟩ := names_cells HQ.out.row him
          have Hex := Lib.hid (fun x y => names_exch HQ.out.row him x y)
          have Hst := Lib.hid (mvF_step (nmW a b k) (p := p) (j := i) (by omega))
          have Hdn := Lib.hid (dn_succ (p := p) (j := i) (by omega))
          have hdl : (dn p (i + 1)).length ≤ 100 := by rw [dn_len]; omega
          have Hcp : Hid ((natsI (wayL a b k ++ dn p (i + 1))).length < 1000000) := by rw [Hid, natsI_len, List.length_append]; have := Hwl.out; omega
          clear hdl
          rw [show ((i + 1 : Nat) : Int) = (i : Int) + 1 by omega]
          have Hput : Hid (NowP w1 ga gb B m (mvF (nmW a b k) p i) (nmL b) u11 (wayL a b k ++ dn p (i + 1)) (((((wr.setCell ⟨ga, i * 2, none⟩ (.int .i64 (mvF (nmW a b k) p (i + 1) (i + 1)).1)).setCell ⟨ga, i * 2 + 1, none⟩ (.int .i64 ((mvF (nmW a b k) p (i + 1) (i + 1)).2 : Int))).setCell ⟨ga, (i + 1) * 2, none⟩ (.int .i64 (mvF (nmW a b k) p (i + 1) i).1)).setCell ⟨ga, (i + 1) * 2 + 1, none⟩ (.int .i64 ((mvF (nmW a b k) p (i + 1) i).2 : Int))).drew)) :=
            (HQ.out.put (Hex.out _ _) (wrote_four ..)).of (fun u _ => Hst.out u)
          clear Hex Hst
          revert n0 n1 o0 o1 Hput
          generalize (mvF (nmW a b k) p (i + 1) i).1 = q0
          generalize (mvF (nmW a b k) p (i + 1) i).2 = q1
          generalize (mvF (nmW a b k) p (i + 1) (i + 1)).1 = q2
          generalize (mvF (nmW a b k) p (i + 1) (i + 1)).2 = q3
          intro n0 n1 o0 o1 Hput
          clear HQ
          go_wp2_with fail
          go_region
          clear n0 n1 nf0 nf1 o0 o1 of0 of1
          revert Hput
          generalize ((((wr.setCell ⟨ga, i * 2, none⟩ (.int .i64 q2)).setCell ⟨ga, i * 2 + 1, none⟩ (.int .i64 (q3 : Int))).setCell ⟨ga, (i + 1) * 2, none⟩ (.int .i64 q0)).setCell ⟨ga, (i + 1) * 2 + 1, none⟩ (.int .i64 (q1 : Int))).drew = y3
          intro Hput
          go_wp2_with (at_builtin; go_loud (refine wpList_push eltI rfl (.tmp 63) (.tmp 66) rfl (i : Int) rfl rfl rfl Hput.out.own Hput.out.sz Hcp.out ?_))
          intro v' wv hown hw hv
          have HF := Lib.hid (Hput.out.push (D' := wayL a b k ++ dn p i) (by rw [Hdn.out, ← List.append_assoc, natsI_app]; exact hown) hw)
          clear hown hw hv Hput
          go_wp2
          go_roundw
          case rel => exact ⟨i, hki, by omega, by go_num, HF.out⟩
          case measure => exact measD hki
        · have hjk : j = k := by omega
          subst hjk
          have HF : Hid (NowP w1 ga gb B m (nmW a b (j + 1)) (nmL b) u11 (wayL a b (j + 1)) wr) := by
            rw [Hid, Hws.out]
            exact HQ.out.of (fun u _ => (Hsu.out u).symm)
          clear HQ
          go_wp2
          go_roundw
          case rel => exact ⟨j + 1, hkm, by go_num, HF.out⟩
          case measure => exact meas hkm
    · have hkm : k = m := Nat.le_antisymm hk (Nat.le_of_not_lt hkm)
      subst hkm
      have hfit : ∀ x ∈ natsI (wayL a b k), Fit x := fun x hx => by
        obtain ⟨y, hy, rfl⟩ := List.mem_map.1 hx
        have := wayL_lt HT.out k (by rw [Hlb.out]; exact Nat.le_refl _) y hy
        have := Hlb.out
        exact Fit.of (by omega) (by omega)
      obtain ⟨xa, xc, rfl, hI⟩ := HL.out.own.ints hfit
      have Hcl := Lib.hid (clipI_calls hI)
      have HB4 := Lib.hid (HB1.out.trans (HL.out.below.mono HB1.out.size))
      have Hr2 : Hid (wayRes k k a b = (natsI (wayL a b k), true, 0)) := by have := Hres.out; rw [Hlb.out] at this; exact this
      clear HL hfit hI Hres
      revert Hcl Hr2
      generalize natsI (wayL a b k) = L
      intro Hcl Hr2
      go_wp2_with fail
      refine Hcl.out.mono ?_
      rintro e w4 ⟨rfl, hI, rfl⟩
      have Hq : Hid (WayPost w (wayRes k k a b) (.returned (.tuple #[.slice xa L.length L.length, .bool true, .int .i64 0])) wr) := by
        rw [Hid, Hr2.out]
        exact ⟨xa, L.length, rfl, hI, HB4.out⟩
      clear hI Hcl Hr2 HB4
      go_wp2
      go_returns
      exact Hq.out
end Go.Proofs.Ytjhlehepnhbbaaa
