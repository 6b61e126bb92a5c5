/-
  What an Order tells: is there such a place, does a clock know an event.
-/
import Derived.Test.YtadngicebbnnlaaClosed
set_option linter.unusedSimpArgs false
set_option linter.unusedVariables false
namespace Go.Proofs.Ytadngicebbnnlaa
open Go.ChangeShapes Go.WideShapes Go.ChangeAt Go.RowKit Go.Deep

def inN (n : Nat) (i : Int) : Bool := decide (0 ≤ i) && decide (i < (n : Int))
theorem inN_iff {n : Nat} {i : Int} : inN n i = true ↔ 0 ≤ i ∧ i < (n : Int) := by simp [inN]
theorem inN_nat {n k : Nat} : inN n (k : Int) = decide (k < n) := by rw [Bool.eq_iff_iff, inN_iff]; simp
theorem inN_cases (n : Nat) (i : Int) : inN n i = false ∨ ∃ k : Nat, i = (k : Int) ∧ k < n := by
  cases h : inN n i
  · exact .inl rfl
  · obtain ⟨h0, h1⟩ := inN_iff.1 h
    obtain ⟨k, rfl⟩ := Int.eq_ofNat_of_zero_le h0
    exact .inr ⟨k, rfl, by omega⟩
noncomputable def befB (n : Nat) (r : Nat → Nat → Bool) (i j : Int) : Bool := inN n i && (inN n j && hbB r i.toNat j.toNat)

/-- What is known of the list of an Order. -/
structure GoodL (n : Nat) (l : List Ev) : Prop where
  len : l.length = n
  le : n ≤ 100
  right : ∀ (i : Nat) (e : Ev), l[i]? = some e → rB e = true
theorem GoodL.th {n : Nat} {l : List Ev} (h : GoodL n l) {i : Nat} (hi : i < n) : 0 ≤ thE l i ∧ thE l i < 8 := by
  obtain ⟨e, he⟩ : ∃ e, l[i]? = some e := ⟨_, List.getElem?_eq_getElem (by rw [h.len]; exact hi)⟩
  rw [thE_of he]; exact right_th (h.right i e he)
theorem rD_same {l : List Ev} {i j : Nat} (h : thE l i = thE l j) : rD l i j = true := by
  unfold thE at h; unfold rD depE; rw [depends_is, h]; unfold rdepB; simp
theorem rS_same {l : List Ev} {i j : Nat} (h : thE l i = thE l j) : rS l i j = true := by
  unfold thE at h; unfold rS stpE stepB; rw [h]; simp
theorem known_bef {n : Nat} {l : List Ev} (h : GoodL n l) {r : Nat → Nat → Bool} (hr : ∀ i j, thE l i = thE l j → r i j = true) {i j : Nat} (hi : i < n) (hj : j < n) (hne : i ≠ j) :
    decide ((numT (thE l) i : Int) ≤ (vec r (thE l) j).getD (thE l i).toNat 0) = hbB r i j := by
  rw [Bool.eq_iff_iff, decide_eq_true_iff, vec_known (n := n) (fun i hi => h.th hi) (fun i j _ _ e => hr i j e) hi hj, hbB_iff]
  constructor
  · rintro (h1 | h1)
    · exact absurd h1 hne
    · exact h1
  · exact .inr

set_option maxHeartbeats 2000000 in
theorem place_calls {w : World} {B b : Nat} {v : Value} {l : List Ev} {n : Nat} (h : OrdAt w B b v l n) (hn : n ≤ 100) (i : Int) :
    Calls Try.prog 45 #[.pointer (some ⟨b, 0, none⟩), .int .i64 i] w fun e w' => e = .returned (.bool (inN n i)) ∧ w = w' := by
  obtain ⟨a, c, rfl, hc, _⟩ := h.read
  have hnm : n ≤ 9223372036854775807 := by omega
  by_cases h0 : 0 ≤ i
  · have Hv : Hid (inN n i = decide (i < (n : Int))) := by unfold Hid inN; simp [h0]
    rw [Hv.out]
    have h0' : decide (0 ≤ i) = true := by simpa using h0
    go_enter Try.func45, Try.ntmps45
    go_wp2
    go_ret
    exact ⟨rfl, rfl⟩
  · have Hv : Hid (inN n i = false) := by unfold Hid inN; simp [h0]
    rw [Hv.out]
    have h0' : decide (0 ≤ i) = false := by simpa using h0
    go_enter Try.func45, Try.ntmps45
    go_wp2
    go_ret
    exact ⟨rfl, rfl⟩

set_option maxRecDepth 20000 in
set_option maxHeartbeats 4000000 in
theorem known_calls (w : World) {t q : Int} (F S C : List Int) (ah : Int) (ht : 0 ≤ t ∧ t < 8) :
    Calls Try.prog 46 #[.agg (momA t q F S ah), .agg (vecC C)] w fun e w' => e = .returned (.bool (decide (q ≤ C.getD t.toNat 0))) ∧ Below w.heap.size w w' := by
  obtain ⟨tn, rfl⟩ := Int.eq_ofNat_of_zero_le ht.1
  have ht8 : tn < 8 := by omega
  have hti : 0 ≤ (tn : Int) ∧ (tn : Int) < 8 := ht
  go_enter Try.func46, Try.ntmps46
  go_wp2_with fail
  have hA := (MapKept.heap_alloc w (.cells (momA (tn : Int) q F S ah) 82)).1
  have hB := heap_alloc1 w (momA (tn : Int) q F S ah) (vecC C) 82 80
  have b1 : Below w.heap.size w (w.alloc (.cells (momA (tn : Int) q F S ah) 82)) := (Below.refl _ w).alloc (Nat.le_refl _) _
  have b2 : Below (w.alloc (.cells (momA (tn : Int) q F S ah) 82)).heap.size (w.alloc (.cells (momA (tn : Int) q F S ah) 82)) ((w.alloc (.cells (momA (tn : Int) q F S ah) 82)).alloc (.cells (vecC C) 80)) := (Below.refl _ _).alloc (Nat.le_refl _) _
  have bB : Below w.heap.size w ((w.alloc (.cells (momA (tn : Int) q F S ah) 82)).alloc (.cells (vecC C) 80)) := b1.trans (b2.mono (by simp))
  have hA2 := (b2.block w.heap.size (by simp)).trans hA
  revert hA2 hB bB
  clear hA b1 b2
  generalize (w.alloc (.cells (momA (tn : Int) q F S ah) 82)).alloc (.cells (vecC C) 80) = w2
  intro hB bB hA2
  have c0 : w2.cell? ⟨w.heap.size, 0, none⟩ = some (.int .i64 tn) := cell_of_block hA2
  have c1 : w2.cell? ⟨w.heap.size, 1, none⟩ = some (.int .i64 q) := cell_of_block hA2
  have c2 : w2.cell? ⟨w.heap.size + 1, tn, none⟩ = some (.int .i64 (C.getD tn 0)) := by
    rw [cell_of_block hB]
    obtain rfl | rfl | rfl | rfl | rfl | rfl | rfl | rfl : tn = 0 ∨ tn = 1 ∨ tn = 2 ∨ tn = 3 ∨ tn = 4 ∨ tn = 5 ∨ tn = 6 ∨ tn = 7 := by omega
    all_goals rfl
  have HB := Lib.hid bB
  clear hA2 hB bB
  refine wp_ext_draw 7 mixed (by kernel_rfl) ?_
  simp only [List.take_succ_cons, List.take_zero, List.drop_succ_cons, List.drop_zero]
  repeat ((first | ((apply TextRun.go rfl rfl rfl); (focus (intro w1 hS K hK; have hc := bcell hS; have hs := blt hS; have c0 := keep hS c0; have c1 := keep hS c1; have c2 := keep hS c2; go_wp2_with (fail); first | done | exact hS | exact hS.trans (hb.mono hS.size)))) | (refine TextRun.skip rfl ?_) | ((refine TextRun.wantedT rfl rfl rfl ?_); (apply Exists.intro); (apply And.intro); (focus (intro w1 hS K hK; have hc := bcell hS; have hs := blt hS; have c0 := keep hS c0; have c1 := keep hS c1; have c2 := keep hS c2; go_wp2_with (fail); first | done | exact hS | exact hS.trans (hb.mono hS.size))))); (simp only [Act.put, List.setIfInBounds_toArray, List.set_cons_zero, List.set_cons_succ]))
  refine TextRun.done ?_
  intro w3 hb
  go_wp2
  go_ret
  exact ⟨by simp, HB.out.trans (hb.mono HB.out.size)⟩
end Go.Proofs.Ytadngicebbnnlaa
