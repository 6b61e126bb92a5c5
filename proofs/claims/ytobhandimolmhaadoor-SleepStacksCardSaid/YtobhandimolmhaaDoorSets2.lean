/-
  The document's Bits, Len, Least.
-/
import Derived.Test.YtobhandimolmhaaDoorSets
set_option linter.unusedSimpArgs false
set_option linter.unusedVariables false
namespace Go.Proofs.YtobhandimolmhaaDoor
open Go.ChangeShapes Go.WideShapes Go.ChangeAt Go.RowKit Go.Deep

theorem BitsAt.put {w : World} {b m m' : Nat} (h : BitsAt w b m) {i : Nat} (hi : i < 8) {v : Bool} (hv : m'.testBit i = v) (ho : ∀ j, j < 8 → j ≠ i → m'.testBit j = m.testBit j) : BitsAt (w.setCell ⟨b, i, none⟩ (.bool v)) b m' := by
  obtain ⟨cs, h1, h2, h3⟩ := h.blk
  refine ⟨⟨cs.setIfInBounds i (.bool v), by simp [World.setCell, Array.getElem?_modify, h1], by simpa using h2, fun j hj => ?_⟩⟩
  rw [Array.getElem?_setIfInBounds]
  by_cases hij : i = j
  · subst hij; simp [h2, hi, hv]
  · simp [hij, h3 j hj, ho j hj (fun e => hij e.symm)]
theorem shr_bit {s k : Nat} (hs : s < 18446744073709551616) : (bits .and .u64 ((s : Int) / 2 ^ k) 1 == 1) = s.testBit k := by
  have e : ((s : Int) / 2 ^ k) = ((s / 2 ^ k : Nat) : Int) := by
    rw [Int.natCast_ediv, Int.natCast_pow]; rfl
  have hl : s / 2 ^ k < 18446744073709551616 := Nat.lt_of_le_of_lt (Nat.div_le_self _ _) hs
  have := bits_and_u64_nat (s / 2 ^ k) 1 hl (by omega)
  rw [e]
  rw [show bits .and .u64 ((s / 2 ^ k : Nat) : Int) 1 = _ from this]
  rw [Nat.and_one_is_mod]
  rw [Nat.testBit_eq_decide_div_mod_eq]
  rcases Nat.mod_two_eq_zero_or_one (s / 2 ^ k) with h | h <;> rw [h] <;> rfl
theorem bits_step {s k : Nat} (j : Nat) : (s % 2 ^ (k + 1)).testBit j = if j = k then s.testBit k else (s % 2 ^ k).testBit j := by
  rw [Nat.testBit_mod_two_pow, Nat.testBit_mod_two_pow]
  by_cases h : j = k
  · subst h; simp
  · simp only [h, if_false]
    by_cases h1 : j < k
    · simp [h1, show j < k + 1 by omega]
    · simp [h1, show ¬ j < k + 1 by omega]

set_option maxHeartbeats 1000000 in
theorem rbits_calls (w : World) {s : Nat} (hs : s < 18446744073709551616) :
    Calls Tryd.prog 6 #[.int .u64 s] w fun e w' => e = .returned (bitsV (s % 256)) ∧ Below w.heap.size w w' := by
  have hz : ∀ (W : World), BitsAt (W.alloc (.cells #[.bool false, .bool false, .bool false, .bool false, .bool false, .bool false, .bool false, .bool false] 28)) W.heap.size 0 := fun W =>
    ⟨⟨_, (MapKept.heap_alloc W _).1, rfl, eight rfl rfl rfl rfl rfl rfl rfl rfl⟩⟩
  have Hz := Lib.hid hz
  clear hz
  go_enter Tryd.func6, Tryd.ntmps6
  go_wp2
  go_loopw [4] (fun i wr => ∃ k : Nat, k ≤ 8 ∧ i = .int .i64 k ∧ wr.heap[w.heap.size]? = some (.cells #[.bool false, .bool false, .bool false, .bool false, .bool false, .bool false, .bool false, .bool false] 28 (0, 0)) ∧ BitsAt wr (w.heap.size + 1) (s % 2 ^ k) ∧ Below w.heap.size w wr) (fun i _ => 8 - (intOf i).toNat)
  case atStart =>
    refine ⟨0, Nat.zero_le _, rfl, ?_, ?_, by go_grown⟩
    · exact (Below.heap_alloc _ _ _ (by simp)).trans (MapKept.heap_alloc w _).1
    · have := Hz.out (w.alloc (.cells #[.bool false, .bool false, .bool false, .bool false, .bool false, .bool false, .bool false, .bool false] 28))
      rw [Nat.pow_zero, Nat.mod_one]
      simpa using this
  case round =>
    obtain ⟨k, hk, rfl, hr, ho, hB⟩ := hrel
    by_cases hlt : k < 8
    · have c2 := ho.at hlt
      have c3 := ho.free k
      have hb := shr_bit (k := k) hs
      have Hs := Lib.hid (ho.put (m' := s % 2 ^ (k + 1)) hlt (v := s.testBit k) (by rw [bits_step, if_pos rfl]) (fun j _ hj => by rw [bits_step, if_neg hj]))
      have Hrs := Lib.hid ((Below.heap_setCell wr ⟨w.heap.size + 1, k, none⟩ (.bool (s.testBit k)) _ (by simp)).trans hr)
      clear hr ho
      generalize s.testBit k = q at *
      go_wp2

      refine ⟨⟨k + 1, by omega, rfl, Hrs.out, Hs.out, Below.setCell hB (by simp) _⟩, by simp [intOf]; omega⟩
    · obtain rfl : k = 8 := by omega
      have e8 : s % 2 ^ 8 = s % 256 := rfl
      obtain ⟨m, hm8⟩ : ∃ m, m = s % 256 := ⟨_, rfl⟩
      rw [e8, ← hm8] at ho
      have Hm := Lib.hid hm8
      clear hm8 e8
      have c0 := ho.at (i := 0) (by omega)
      have c1 := ho.at (i := 1) (by omega)
      have c2 := ho.at (i := 2) (by omega)
      have c3 := ho.at (i := 3) (by omega)
      have c4 := ho.at (i := 4) (by omega)
      have c5 := ho.at (i := 5) (by omega)
      have c6 := ho.at (i := 6) (by omega)
      have c7 := ho.at (i := 7) (by omega)
      have r0 : wr.cell? ⟨w.heap.size, 0, none⟩ = some (.bool false) := cell_blk hr
      have r1 : wr.cell? ⟨w.heap.size, 1, none⟩ = some (.bool false) := cell_blk hr
      have r2 : wr.cell? ⟨w.heap.size, 2, none⟩ = some (.bool false) := cell_blk hr
      have r3 : wr.cell? ⟨w.heap.size, 3, none⟩ = some (.bool false) := cell_blk hr
      have r4 : wr.cell? ⟨w.heap.size, 4, none⟩ = some (.bool false) := cell_blk hr
      have r5 : wr.cell? ⟨w.heap.size, 5, none⟩ = some (.bool false) := cell_blk hr
      have r6 : wr.cell? ⟨w.heap.size, 6, none⟩ = some (.bool false) := cell_blk hr
      have r7 : wr.cell? ⟨w.heap.size, 7, none⟩ = some (.bool false) := cell_blk hr
      have hf : ∀ o, wr.frozen? ⟨w.heap.size, o, none⟩ = false := fun o => by simp [World.frozen?, hr]
      have Hs := Lib.hid (set8 hr)
      have Hv : Hid (bitsV m = .agg #[.bool (decide (m % 2 = 1)), .bool (m.testBit 1), .bool (m.testBit 2), .bool (m.testBit 3), .bool (m.testBit 4), .bool (m.testBit 5), .bool (m.testBit 6), .bool (m.testBit 7)]) := by
        unfold Hid bitsV; rw [Nat.testBit_zero]
      clear hr ho
      go_wp2
      (try simp only [Exit.inBlock, Exit.then])
      refine bodyPost_ret (results_cell_row rfl _ _ w.heap.size 28 _ (0, 0) _ rfl (Hs.out _ _ _ _ _ _ _ _) Tryd.underlying28 rfl (by kernel_rfl)) rfl ?_
      exact ⟨by rw [← Hm.out, Hv.out], by go_grown⟩

end Go.Proofs.YtobhandimolmhaaDoor
