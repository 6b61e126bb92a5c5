/-
  What the inner loop of order.Of keeps; the laws by which its parts meet.
-/
import Derived.Test.YtadngicebbnnlaaOrdOfA
import Derived.Test.YtadngicebbnnlaaPart
import Derived.Great.BuildSlice
set_option linter.unusedSimpArgs false
set_option linter.unusedVariables false
namespace Go.Proofs.Ytadngicebbnnlaa
open Go.ChangeShapes Go.WideShapes Go.ChangeAt Go.RowKit Go.Deep

theorem rD_of {l : List Ev} {K k : Nat} {a b : Ev} (ha : l[K]? = some a) (hb : l[k]? = some b) : rD l K k = dependsB a.t a.k a.o b.t b.k b.o := by unfold rD depE; rw [getD_of ha, getD_of hb]
theorem rS_of {l : List Ev} {K k : Nat} {a b : Ev} (ha : l[K]? = some a) (hb : l[k]? = some b) : rS l K k = stepB a.t a.k a.o a.b b.t b.k b.o b.b := by unfold rS stpE; rw [getD_of ha, getD_of hb]
theorem thE_of {l : List Ev} {k : Nat} {a : Ev} (ha : l[k]? = some a) : thE l k = a.t := by unfold thE; rw [getD_of ha]

theorem cv_of {x : List Int} {m : Nat} (hl : x.length = 8) (hm : m ≤ 1000) (h : ∀ a ∈ x, 0 ≤ a ∧ a ≤ (m : Int)) : CV x :=
  ⟨hl, fun a ha => (h a ha).1, fun a ha => by have := h a ha; exact Fit.of (by omega) (by omega)⟩
theorem zip_mem {x y : List Int} {a : Int} (h : a ∈ List.zipWith max x y) : ∃ b ∈ x, ∃ c ∈ y, a = max b c := by
  obtain ⟨i, hi, rfl⟩ := List.getElem_of_mem h
  rw [List.length_zipWith] at hi
  exact ⟨x[i], List.getElem_mem _, y[i], List.getElem_mem _, by simp⟩
theorem accV_bound {r : Nat → Nat → Bool} {V : Nat → List Int} {j m : Nat} : ∀ {K : Nat}, (∀ i, i < K → ∀ a ∈ V i, 0 ≤ a ∧ a ≤ (m : Int)) → ∀ a ∈ accV r V j K, 0 ≤ a ∧ a ≤ (m : Int)
  | 0, _, a, ha => by rw [List.eq_of_mem_replicate (show a ∈ List.replicate 8 (0 : Int) from ha)]; omega
  | K + 1, h, a, ha => by
    unfold accV at ha
    split at ha
    · obtain ⟨b, hb, c, hc, rfl⟩ := zip_mem ha
      have := accV_bound (fun i hi => h i (by omega)) b hb
      have := h K (by omega) c hc
      omega
    · exact accV_bound (fun i hi => h i (by omega)) a ha
theorem vec_bound (r : Nat → Nat → Bool) (th : Nat → Int) (j : Nat) : ∀ a ∈ vec r th j, 0 ≤ a ∧ a ≤ ((j + 1 : Nat) : Int) := by
  induction j using Nat.strongRecOn with
  | _ j ih =>
    intro a ha
    rw [vec_eq] at ha
    rcases List.mem_or_eq_of_mem_set ha with h | h
    · exact accV_bound (m := j + 1) (fun i hi b hb => by have := ih i hi b hb; omega) a h
    · have := numT_le th j; omega
theorem vec_cv (r : Nat → Nat → Bool) (th : Nat → Int) {j : Nat} (hj : j < 100) : CV (vec r th j) := cv_of (vec_len r th j) (by omega) (vec_bound r th j)
theorem acc_cv (r : Nat → Nat → Bool) (th : Nat → Int) (j : Nat) {K : Nat} (hK : K ≤ 100) : CV (accV r (vec r th) j K) :=
  cv_of (m := K + 1) (accV_len (fun i _ => vec_len r th i)) (by omega) (accV_bound fun i hi b hb => by have := vec_bound r th i b hb; omega)

theorem joined_flat (w : World) {x y z : List Int} (hx : CV x) (hy : CV y) (hz : z = List.zipWith max x y) :
    Calls Try.prog 42 #[.agg #[.int .i64 (x[0]?.getD 0), .int .i64 (x[1]?.getD 0), .int .i64 (x[2]?.getD 0), .int .i64 (x[3]?.getD 0), .int .i64 (x[4]?.getD 0), .int .i64 (x[5]?.getD 0), .int .i64 (x[6]?.getD 0), .int .i64 (x[7]?.getD 0)], .agg #[.int .i64 (y[0]?.getD 0), .int .i64 (y[1]?.getD 0), .int .i64 (y[2]?.getD 0), .int .i64 (y[3]?.getD 0), .int .i64 (y[4]?.getD 0), .int .i64 (y[5]?.getD 0), .int .i64 (y[6]?.getD 0), .int .i64 (y[7]?.getD 0)]] w fun e w' => e = .returned (.agg #[.int .i64 (z[0]?.getD 0), .int .i64 (z[1]?.getD 0), .int .i64 (z[2]?.getD 0), .int .i64 (z[3]?.getD 0), .int .i64 (z[4]?.getD 0), .int .i64 (z[5]?.getD 0), .int .i64 (z[6]?.getD 0), .int .i64 (z[7]?.getD 0)]) ∧ Below w.heap.size w w' := by subst hz; exact joined_calls w hx hy

structure MidAt (l : List Ev) (e : Ev) (k K eb : Nat) (wr wx : World) : Prop where
  mom : wx.heap[eb + 1]? = some (.cells (momA e.t ((cntT (thE l) k K + 1 : Nat) : Int) (accV (rD l) (vec (rD l) (thE l)) k K) (accV (rS l) (vec (rS l) (thE l)) k K) (ahK (thE l) k K)) 82 (0, 0))
  ev : wx.heap[eb]? = some (.cells #[.int .i64 e.t, .int .i64 e.k, .int .i64 e.o, .int .i64 e.v, .int .i64 e.b] 38 (0, 0))
  below : Below eb wr wx
theorem MidAt.size {l : List Ev} {e : Ev} {k K eb : Nat} {wr wx : World} (h : MidAt l e k K eb wr wx) : eb + 1 < wx.heap.size := (Array.getElem?_eq_some_iff.1 h.mom).1
theorem MidAt.start {l : List Ev} {e : Ev} {k : Nat} {w : World} {z : Array Value} :
    MidAt l e k 0 w.heap.size w (((w.alloc (.cells #[.int .i64 e.t, .int .i64 e.k, .int .i64 e.o, .int .i64 e.v, .int .i64 e.b] 38)).alloc (.cells z 82)).setRow (w.heap.size + 1) (mom0 e.t)) := by
  obtain ⟨h1, h2, h3, _⟩ := made2 w #[.int .i64 e.t, .int .i64 e.k, .int .i64 e.o, .int .i64 e.v, .int .i64 e.b] z (mom0 e.t) 38 82
  exact ⟨by rw [h1]; rfl, h2, h3⟩
/-- The round's end, from what its world holds. -/
theorem MidAt.next {l : List Ev} {e e' : Ev} {k K eb : Nat} {wr wx w' : World} (h : MidAt l e k K eb wr wx) (he' : l[K]? = some e') (he : l[k]? = some e) {q : Int} {F S : List Int} {ah : Int}
    (hm : w'.heap[eb + 1]? = some (.cells (momA e.t q F S ah) 82 (0, 0)))
    (hF : F = if rD l K k then List.zipWith max (accV (rD l) (vec (rD l) (thE l)) k K) (vec (rD l) (thE l) K) else accV (rD l) (vec (rD l) (thE l)) k K)
    (hS : S = if rS l K k then List.zipWith max (accV (rS l) (vec (rS l) (thE l)) k K) (vec (rS l) (thE l) K) else accV (rS l) (vec (rS l) (thE l)) k K)
    (hq : q = ((cntT (thE l) k K + 1 : Nat) : Int) + ((e'.t == e.t).toNat : Int)) (ha : ah = if e'.t == e.t then (K : Int) else ahK (thE l) k K)
    (hb : Below (eb + 1) wx w') : MidAt l e k (K + 1) eb wr w' := by
  refine ⟨?_, (hb.block eb (by omega)).trans h.ev, h.below.trans (hb.mono (by omega))⟩
  rw [hm, hF, hS, hq, ha]
  have ht : (thE l K == thE l k) = (e'.t == e.t) := by rw [thE_of he', thE_of he]
  rw [cntT_succ, ht]
  have h1 : ∀ r, accV r (vec r (thE l)) k (K + 1) = if r K k then List.zipWith max (accV r (vec r (thE l)) k K) (vec r (thE l) K) else accV r (vec r (thE l)) k K := fun _ => rfl
  have h2 : ahK (thE l) k (K + 1) = if e'.t == e.t then (K : Int) else ahK (thE l) k K := by rw [← ht]; rfl
  have h3 : ((cntT (thE l) k K + (e'.t == e.t).toNat + 1 : Nat) : Int) = ((cntT (thE l) k K + 1 : Nat) : Int) + ((e'.t == e.t).toNat : Int) := by omega
  rw [h1, h1, h2, h3]

theorem cell_lt {w : World} {p : Addr} {v : Value} (h : w.cell? p = some v) : p.block < w.heap.size := by
  rcases Nat.lt_or_ge p.block w.heap.size with h' | h'
  · exact h'
  · simp [World.cell?, Array.getElem?_eq_none h'] at h
theorem keepW {m : Nat} {w w' : World} (h : Wrote (fun x => x = m) w w') {p : Addr} {v : Value} (hn : p.block ≠ m) (hc : w.cell? p = some v) : w'.cell? p = some v :=
  (h.cell (cell_lt hc) hn).trans hc
theorem set_block {w : World} {b i : Nat} {arr : Array Value} {T : TypeId} {fr : Nat × Nat} (h : w.heap[b]? = some (.cells arr T fr)) (v : Value) : (w.setCell ⟨b, i, none⟩ v).heap[b]? = some (.cells (arr.setIfInBounds i v) T fr) := by
  simp [World.setCell, Array.getElem?_modify, h]
theorem below8 {w W : World} {n b : Nat} (h : Below n w W) (hb : n ≤ b) (v0 v1 v2 v3 v4 v5 v6 v7 : Value) (o0 o1 o2 o3 o4 o5 o6 o7 : Nat) :
    Below n w ((((((((W.setCell ⟨b, o0, none⟩ v0).setCell ⟨b, o1, none⟩ v1).setCell ⟨b, o2, none⟩ v2).setCell ⟨b, o3, none⟩ v3).setCell ⟨b, o4, none⟩ v4).setCell ⟨b, o5, none⟩ v5).setCell ⟨b, o6, none⟩ v6).setCell ⟨b, o7, none⟩ v7) :=
  (((((((h.setCell (p := ⟨b, o0, none⟩) hb v0).setCell (p := ⟨b, o1, none⟩) hb v1).setCell (p := ⟨b, o2, none⟩) hb v2).setCell (p := ⟨b, o3, none⟩) hb v3).setCell (p := ⟨b, o4, none⟩) hb v4).setCell (p := ⟨b, o5, none⟩) hb v5).setCell (p := ⟨b, o6, none⟩) hb v6).setCell (p := ⟨b, o7, none⟩) hb v7
theorem patch_full (t q : Int) (F S Z : List Int) (ah : Int) : patch 2 [.int .i64 (Z[0]?.getD 0), .int .i64 (Z[1]?.getD 0), .int .i64 (Z[2]?.getD 0), .int .i64 (Z[3]?.getD 0), .int .i64 (Z[4]?.getD 0), .int .i64 (Z[5]?.getD 0), .int .i64 (Z[6]?.getD 0), .int .i64 (Z[7]?.getD 0)] 0 (momA t q F S ah) = momA t q Z S ah := by simp [patch, momA]
theorem patch_sync (t q : Int) (F S Z : List Int) (ah : Int) : patch 10 [.int .i64 (Z[0]?.getD 0), .int .i64 (Z[1]?.getD 0), .int .i64 (Z[2]?.getD 0), .int .i64 (Z[3]?.getD 0), .int .i64 (Z[4]?.getD 0), .int .i64 (Z[5]?.getD 0), .int .i64 (Z[6]?.getD 0), .int .i64 (Z[7]?.getD 0)] 0 (momA t q F S ah) = momA t q F Z ah := by simp [patch, momA]
theorem sizeCounts : (Try.prog.info? 80).map (·.size) = some 8 := by kernel_rfl
theorem eight_one (Z : List Int) : (#[.int .i64 (Z[0]?.getD 0), .int .i64 (Z[1]?.getD 0), .int .i64 (Z[2]?.getD 0), .int .i64 (Z[3]?.getD 0), .int .i64 (Z[4]?.getD 0), .int .i64 (Z[5]?.getD 0), .int .i64 (Z[6]?.getD 0), .int .i64 (Z[7]?.getD 0)] : Array Value).all (·.oneCell') = true := by simp [Value.oneCell']
theorem set_num {w : World} {b : Nat} {t q : Int} {F S : List Int} {ah : Int} {T : TypeId} (h : w.heap[b]? = some (.cells (momA t q F S ah) T (0, 0))) (q' ah' : Int) :
    ((w.setCell ⟨b, 1, none⟩ (.int .i64 q')).setCell ⟨b, 18, none⟩ (.int .i64 ah')).heap[b]? = some (.cells (momA t q' F S ah') T (0, 0)) :=
  by simp [World.setCell, Array.getElem?_modify, h, momA]
theorem mom_cell {w : World} {b : Nat} {t q : Int} {F S : List Int} {ah : Int} {T : TypeId} (h : w.heap[b]? = some (.cells (momA t q F S ah) T (0, 0))) {n : Nat} (hn : n < 8) :
    w.cell? ⟨b, 2 + n, none⟩ = some (.int .i64 (F.getD n 0)) ∧ w.cell? ⟨b, 10 + n, none⟩ = some (.int .i64 (S.getD n 0)) := by
  rw [cell_of_block h, cell_of_block h]
  obtain rfl | rfl | rfl | rfl | rfl | rfl | rfl | rfl : n = 0 ∨ n = 1 ∨ n = 2 ∨ n = 3 ∨ n = 4 ∨ n = 5 ∨ n = 6 ∨ n = 7 := by omega
  all_goals exact ⟨rfl, rfl⟩
theorem mom_end {l : List Ev} {k : Nat} {e : Ev} (he : l[k]? = some e) {tn : Nat} (ht : e.t = (tn : Int)) :
    (momA e.t ((cntT (thE l) k k + 1 : Nat) : Int) ((accV (rD l) (vec (rD l) (thE l)) k k).set tn ((cntT (thE l) k k + 1 : Nat) : Int)) ((accV (rS l) (vec (rS l) (thE l)) k k).set tn ((cntT (thE l) k k + 1 : Nat) : Int)) (ahK (thE l) k k)).toList = momL l k := by
  unfold momL numT
  rw [vec_eq (rD l), vec_eq (rS l), thE_of he, ht]
  rfl
theorem mom_info : ∃ i0, Try.prog.info? 82 = some i0 ∧ i0.zero = some (.agg #[.int .i64 0, .int .i64 0, .int .i64 0, .int .i64 0, .int .i64 0, .int .i64 0, .int .i64 0, .int .i64 0, .int .i64 0, .int .i64 0, .int .i64 0, .int .i64 0, .int .i64 0, .int .i64 0, .int .i64 0, .int .i64 0, .int .i64 0, .int .i64 0, .int .i64 0]) ∧ i0.size = 19 ∧ i0.bytes = 152 := by
  have h := infoMom
  cases hi : Try.prog.info? 82 with
  | none => rw [hi] at h; cases h
  | some i0 =>
    rw [hi] at h
    simp only [Option.map_some, Option.some.injEq, Prod.mk.injEq] at h
    exact ⟨i0, rfl, h.1, h.2.1, h.2.2⟩
theorem fill_mom (n : Nat) (hn : n = 19) (t q : Int) (F S : List Int) (ah : Int) :
    Instr.fill (fun i => some (i * n, n)) ((Array.range (1 * n)).map ((Value.agg #[.int .i64 0, .int .i64 0, .int .i64 0, .int .i64 0, .int .i64 0, .int .i64 0, .int .i64 0, .int .i64 0, .int .i64 0, .int .i64 0, .int .i64 0, .int .i64 0, .int .i64 0, .int .i64 0, .int .i64 0, .int .i64 0, .int .i64 0, .int .i64 0, .int .i64 0]).cells[· % (Value.agg #[.int .i64 0, .int .i64 0, .int .i64 0, .int .i64 0, .int .i64 0, .int .i64 0, .int .i64 0, .int .i64 0, .int .i64 0, .int .i64 0, .int .i64 0, .int .i64 0, .int .i64 0, .int .i64 0, .int .i64 0, .int .i64 0, .int .i64 0, .int .i64 0, .int .i64 0]).cells.size]!)) [(0, .agg (momA t q F S ah))] = some (momA t q F S ah) := by
  subst hn
  kernel_rfl
theorem mom_one (t q : Int) (F S : List Int) (ah : Int) : ∀ u ∈ (momA t q F S ah).toList, u.oneCell' = true := by
  intro u hu
  simp only [momA, List.mem_cons, List.not_mem_nil, or_false] at hu
  rcases hu with rfl | rfl | rfl | rfl | rfl | rfl | rfl | rfl | rfl | rfl | rfl | rfl | rfl | rfl | rfl | rfl | rfl | rfl | rfl <;> rfl
theorem thr_arr {t q : Int} {F S : List Int} {ah : Int} (hF : F.length = 8) (hS : S.length = 8) {n : Nat} (hn : n < 8) (x : Int) :
    ((momA t q F S ah).setIfInBounds (2 + n) (.int .i64 x)).setIfInBounds (10 + n) (.int .i64 x) = momA t q (F.set n x) (S.set n x) ah := by
  obtain ⟨a0, a1, a2, a3, a4, a5, a6, a7, rfl⟩ := len8 hF
  obtain ⟨b0, b1, b2, b3, b4, b5, b6, b7, rfl⟩ := len8 hS
  obtain rfl | rfl | rfl | rfl | rfl | rfl | rfl | rfl : n = 0 ∨ n = 1 ∨ n = 2 ∨ n = 3 ∨ n = 4 ∨ n = 5 ∨ n = 6 ∨ n = 7 := by omega
  all_goals rfl
/-- One event more. -/
theorem OrdAt.push {w w1 w2 : World} {B b : Nat} {v v' : Value} {l : List Ev} {k : Nat} (h : OrdAt w B b v l k) (hb : w1.heap[b]? = w.heap[b]?) (hown : w1.ownsRow B 82 19 v' (k + 1) (momRow l k ++ momL l k))
    (hv : ∀ g, v'.ownBlock = some g → g ≠ b) (h2 : w2 = w1.setCell ⟨b, 0, none⟩ v') : OrdAt w2 B b v' l (k + 1) := by
  subst h2
  refine ⟨?_, ?_, hv⟩
  · exact set_block (hb.trans h.blk) v'
  · rw [momRow_succ]
    exact ownsRow_at hown (fun g hg => Below.heap_setCell _ _ _ _ (hv g hg))
theorem set_thread {w : World} {b : Nat} {t q : Int} {F S : List Int} {ah : Int} {T : TypeId} (h : w.heap[b]? = some (.cells (momA t q F S ah) T (0, 0))) (hF : F.length = 8) (hS : S.length = 8) {n : Nat} (hn : n < 8) (x : Int) :
    ((w.setCell ⟨b, 2 + n, none⟩ (.int .i64 x)).setCell ⟨b, 10 + n, none⟩ (.int .i64 x)).heap[b]? = some (.cells (momA t q (F.set n x) (S.set n x) ah) T (0, 0)) := by
  obtain ⟨a0, a1, a2, a3, a4, a5, a6, a7, rfl⟩ := len8 hF
  obtain ⟨b0, b1, b2, b3, b4, b5, b6, b7, rfl⟩ := len8 hS
  refine (set_block (set_block h _) _).trans ?_
  obtain rfl | rfl | rfl | rfl | rfl | rfl | rfl | rfl : n = 0 ∨ n = 1 ∨ n = 2 ∨ n = 3 ∨ n = 4 ∨ n = 5 ∨ n = 6 ∨ n = 7 := by omega
  all_goals rfl
end Go.Proofs.Ytadngicebbnnlaa
