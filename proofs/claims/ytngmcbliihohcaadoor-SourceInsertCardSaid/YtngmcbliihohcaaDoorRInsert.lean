/-
  Insert: the document's text; the law.
-/
import Derived.Test.YtngmcbliihohcaaDoorInsert
import Derived.Test.YtngmcbliihohcaaDoorInitA
set_option linter.unusedSimpArgs false
set_option linter.unusedVariables false
namespace Go.Proofs.YtngmcbliihohcaaDoor
open Go.ChangeShapes Go.WideShapes Go.ChangeAt Go.RowKit Go.Deep

theorem com_hit {s m t : Nat} (ht : t < 8) (hs : s.testBit t = true) (hm : m.testBit t = true) : com s m = true := by
  have all : ∀ t : Fin 8, t ∈ all8 := by decide
  unfold com bl
  rw [List.any_eq_true]
  exact ⟨⟨t, ht⟩, List.mem_filter.2 ⟨all _, hm⟩, hs⟩
theorem com_none {s m : Nat} (h : ∀ t, t < 8 → ¬ (s.testBit t = true ∧ m.testBit t = true)) : com s m = false := by
  rw [← Bool.not_eq_true]
  intro hc
  unfold com bl at hc
  rw [List.any_eq_true] at hc
  obtain ⟨t, ht, hs⟩ := hc
  exact h t.val t.isLt ⟨hs, (List.mem_filter.1 ht).2⟩

set_option maxRecDepth 20000 in
set_option maxHeartbeats 4000000 in
theorem rinsert_calls (w : World) {s q : Nat} (hs : s < 18446744073709551616) (hq : q < 18446744073709551616) :
    Calls Tryd.prog 25 #[.int .u64 s, .int .u64 q] w fun x w' => x = .returned (.tuple #[.int .u64 ((insN s (q % 256)).1 : Nat), .bool (insN s (q % 256)).2]) ∧ Below w.heap.size w w' := by
  have hR := fun W => rbits_calls W hs
  have hR2 := fun W => rbits_calls W hq
  have hLs := fun W => rleast_calls W (m := q % 256)
  have hm := Nat.mod_lt q (show 256 > 0 by omega)
  have hbit : ∀ i, i < 8 → (s % 256).testBit i = s.testBit i := fun i hi => bit_mod s i hi
  generalize q % 256 = m at *
  obtain ⟨f, hf⟩ : ∃ f, f = (s % 256).testBit := ⟨_, rfl⟩
  obtain ⟨g, hg⟩ : ∃ g, g = m.testBit := ⟨_, rfl⟩
  rw [show bitsV (s % 256) = .agg #[.bool (f 0), .bool (f 1), .bool (f 2), .bool (f 3), .bool (f 4), .bool (f 5), .bool (f 6), .bool (f 7)] by rw [hf]; rfl] at hR
  rw [show bitsV m = .agg #[.bool (g 0), .bool (g 1), .bool (g 2), .bool (g 3), .bool (g 4), .bool (g 5), .bool (g 6), .bool (g 7)] by rw [hg]; rfl] at hR2 hLs
  rw [← hf] at hbit
  have hhit : ∀ t, t < 8 → f t = true → g t = true → insN s m = (s, false) := fun t ht h1 h2 => insN_com (com_hit ht (by rw [← hbit t ht]; exact h1) (by rw [← hg]; exact h2))
  have hnone : (∀ t, t < 8 → ¬ (f t = true ∧ g t = true)) → insN s m = if m = 0 then (s, false) else (s ||| oneN (leastI m), true) := fun h => by
    have hc : com s m = false := com_none fun t ht h' => h t ht ⟨by rw [hbit t ht]; exact h'.1, by rw [hg]; exact h'.2⟩
    unfold insN; rw [if_neg (by simp [hc])]
  have HR := Lib.hid hR
  have HR2 := Lib.hid hR2
  have HLs := Lib.hid hLs
  have Hhit := Lib.hid hhit
  have Hnone := Lib.hid hnone
  clear hR hR2 hLs hhit hnone hf hg hbit
  have hB_w := Below.refl w.heap.size w
  go_enter Tryd.func25, Tryd.ntmps25
  go_wp2_with fail
  (with_reducible refine (HR.out _).mono ?_)
  rintro e w1 ⟨rfl, hb⟩
  have hB_w1 := hB_w.trans (hb.mono hB_w.size)
  clear hb
  go_wp2_with fail
  have hA := hB_w1.alloc hB_w1.size (.cells #[.bool (f 0), .bool (f 1), .bool (f 2), .bool (f 3), .bool (f 4), .bool (f 5), .bool (f 6), .bool (f 7)] 25)
  have ca : ∀ t, t < 8 → (w1.alloc (.cells #[.bool (f 0), .bool (f 1), .bool (f 2), .bool (f 3), .bool (f 4), .bool (f 5), .bool (f 6), .bool (f 7)] 25)).cell? ⟨w1.heap.size, t, none⟩ = some (.bool (f t)) := eight (cell_alloc ..) (cell_alloc ..) (cell_alloc ..) (cell_alloc ..) (cell_alloc ..) (cell_alloc ..) (cell_alloc ..) (cell_alloc ..)
  have hz1 : w1.heap.size < (w1.alloc (.cells #[.bool (f 0), .bool (f 1), .bool (f 2), .bool (f 3), .bool (f 4), .bool (f 5), .bool (f 6), .bool (f 7)] 25)).heap.size := by simp
  have Hca := Lib.hid ca
  clear ca
  generalize (w1.alloc (.cells #[.bool (f 0), .bool (f 1), .bool (f 2), .bool (f 3), .bool (f 4), .bool (f 5), .bool (f 6), .bool (f 7)] 25)) = w2 at *
  generalize w1.heap.size = b1 at *
  refine (HR2.out _).mono ?_
  rintro x w3 ⟨rfl, hb⟩
  have hB3 := hA.trans (hb.mono hA.size)
  have ca3 : ∀ t, t < 8 → w3.cell? ⟨b1, t, none⟩ = some (.bool (f t)) := fun t ht => keep hb (Hca.out t ht)
  have hz3 := hb.size
  have Hca3 := Lib.hid ca3
  clear hb ca3 Hca
  go_wp2_with fail
  have hA4 := hB3.alloc hB3.size (.cells #[.bool (g 0), .bool (g 1), .bool (g 2), .bool (g 3), .bool (g 4), .bool (g 5), .bool (g 6), .bool (g 7)] 25)
  have hbb : Below w3.heap.size w3 (w3.alloc (.cells #[.bool (g 0), .bool (g 1), .bool (g 2), .bool (g 3), .bool (g 4), .bool (g 5), .bool (g 6), .bool (g 7)] 25)) := (Below.refl _ w3).alloc (Nat.le_refl _) _
  have cb : ∀ t, t < 8 → (w3.alloc (.cells #[.bool (g 0), .bool (g 1), .bool (g 2), .bool (g 3), .bool (g 4), .bool (g 5), .bool (g 6), .bool (g 7)] 25)).cell? ⟨w3.heap.size, t, none⟩ = some (.bool (g t)) := eight (cell_alloc ..) (cell_alloc ..) (cell_alloc ..) (cell_alloc ..) (cell_alloc ..) (cell_alloc ..) (cell_alloc ..) (cell_alloc ..)
  have ca4 : ∀ t, t < 8 → (w3.alloc (.cells #[.bool (g 0), .bool (g 1), .bool (g 2), .bool (g 3), .bool (g 4), .bool (g 5), .bool (g 6), .bool (g 7)] 25)).cell? ⟨b1, t, none⟩ = some (.bool (f t)) := fun t ht => keep hbb (Hca3.out t ht)
  have Hcb := Lib.hid cb
  have Hca4 := Lib.hid ca4
  clear cb ca4 hbb Hca3
  generalize (w3.alloc (.cells #[.bool (g 0), .bool (g 1), .bool (g 2), .bool (g 3), .bool (g 4), .bool (g 5), .bool (g 6), .bool (g 7)] 25)) = w4 at *
  generalize w3.heap.size = b2 at *
  clear hB3 hA hB_w1 hB_w
  have HB := Lib.hid hA4
  clear hA4
  go_wp2
  go_loopw [8] (fun i wr => ∃ k : Nat, k ≤ 8 ∧ i = .int .i64 k ∧ Hid (∀ t, t < k → ¬ (f t = true ∧ g t = true)) ∧ wr = w4) (fun i _ => 8 - (intOf i).toNat)
  case atStart => exact ⟨0, Nat.zero_le _, rfl, (fun t ht => by omega), rfl⟩
  case round =>
    obtain ⟨k, hk, rfl, hno, rfl⟩ := hrel
    by_cases hlt : k < 8
    · have r0 := Hca4.out k hlt
      have r1 := Hcb.out k hlt
      rcases Bool.eq_false_or_eq_true (f k) with h1 | h1
      · rcases Bool.eq_false_or_eq_true (g k) with h2 | h2
        · rw [h1] at r0
          rw [h2] at r1
          have Hv := Lib.hid (Hhit.out k hlt h1 h2)
          clear h1 h2
          go_wp2
          go_ret2
          exact ⟨by rw [Hv.out]; rfl, HB.out⟩
        · have hn : Hid (∀ t, t < k + 1 → ¬ (f t = true ∧ g t = true)) := fun t ht h => by
            rcases Nat.lt_succ_iff_lt_or_eq.1 ht with h' | h'
            · exact hno.out t h' h
            · rw [h', h2] at h; cases h.2
          rw [h1] at r0
          rw [h2] at r1
          clear h1 h2
          go_wp2
          go_roundw
          case rel => exact ⟨k + 1, by omega, by go_num, hn, by trivial⟩
          case measure => simp [intOf]; omega
      · have hn : Hid (∀ t, t < k + 1 → ¬ (f t = true ∧ g t = true)) := fun t ht h => by
          rcases Nat.lt_succ_iff_lt_or_eq.1 ht with h' | h'
          · exact hno.out t h' h
          · rw [h', h1] at h; cases h.1
        rw [h1] at r0
        clear h1
        go_wp2
        go_roundw
        case rel => exact ⟨k + 1, by omega, by go_num, hn, by trivial⟩
        case measure => simp [intOf]; omega
    · have hk8 : k = 8 := by omega
      subst hk8
      have hv := Hnone.out hno.out
      have r0 := Hcb.out 0 (by decide)
      have r1 := Hcb.out 1 (by decide)
      have r2 := Hcb.out 2 (by decide)
      have r3 := Hcb.out 3 (by decide)
      have r4 := Hcb.out 4 (by decide)
      have r5 := Hcb.out 5 (by decide)
      have r6 := Hcb.out 6 (by decide)
      have r7 := Hcb.out 7 (by decide)
      have hl0 : leastI 0 = -1 := by decide
      by_cases hm0 : m = 0
      · have hl : leastI m = -1 := by rw [hm0]; exact hl0
        rw [if_pos hm0] at hv
        have Hv := Lib.hid hv
        have Hl := Lib.hid hl
        clear hv hl hl0 hm0
        go_wp2_with fail
        refine (HLs.out _).mono ?_
        rintro x w5 ⟨rfl, hb⟩
        have HB5 := Lib.hid (HB.out.trans (hb.mono HB.out.size))
        clear hb r0 r1 r2 r3 r4 r5 r6 r7
        rw [Hl.out]
        go_wp2
        go_ret2
        exact ⟨by rw [Hv.out]; rfl, HB5.out⟩
      · rw [if_neg hm0] at hv
        have hl8 : ∃ t : Nat, leastI m = (t : Int) ∧ t < 8 ∧ oneN (leastI m) = 2 ^ t := by
          have all : ∀ m, m < 256 → m = 0 ∨ ∃ t : Nat, t < 8 ∧ leastI m = (t : Int) ∧ oneN (leastI m) = 2 ^ t := all256 (by kernel_rfl)
          rcases all m hm with h | ⟨t, h1, h2, h3⟩
          · exact absurd h hm0
          · exact ⟨t, h2, h1, h3⟩
        obtain ⟨t, hl, ht8, ho⟩ := hl8
        rw [ho] at hv
        have hor := bits_or_u64_nat s (2 ^ t) hs (Nat.lt_of_lt_of_le (Nat.pow_lt_pow_right (by omega) ht8) (by omega))
        have Hor := Lib.hid hor
        have Hv := Lib.hid hv
        have Hl := Lib.hid hl
        clear hv hl hl0 hm0 ho hor
        go_wp2_with fail
        refine (HLs.out _).mono ?_
        rintro x w5 ⟨rfl, hb⟩
        have HB5 := Lib.hid (HB.out.trans (hb.mono HB.out.size))
        clear hb r0 r1 r2 r3 r4 r5 r6 r7
        rw [Hl.out]
        go_wp2
        go_ret2
        have hw : IntKind.u64.wrap ((2 : Int) ^ t) = ((2 ^ t : Nat) : Int) := by
          obtain rfl | rfl | rfl | rfl | rfl | rfl | rfl | rfl : t = 0 ∨ t = 1 ∨ t = 2 ∨ t = 3 ∨ t = 4 ∨ t = 5 ∨ t = 6 ∨ t = 7 := by omega
          all_goals decide
        refine ⟨?_, HB5.out⟩
        rw [Hv.out]
        show Ending.returned (.tuple #[.int .u64 (bits .or .u64 (s : Int) (IntKind.u64.wrap ((2 : Int) ^ t))), .bool true]) = Ending.returned (.tuple #[.int .u64 ((s ||| 2 ^ t : Nat) : Int), .bool true])
        rw [hw, Hor.out]

set_option maxRecDepth 20000 in
set_option maxHeartbeats 4000000 in
theorem insert_law {w : World} (hT : TabOk w) {s q : Nat} (hs : s < 18446744073709551616) (hq : q < 18446744073709551616) :
    Calls Tryd.prog 7 #[.int .u64 s, .int .u64 q] w fun x w' => x = .returned (.bool true) ∧ Below w.heap.size w w' := by
  have hI := fun W (h : TabOk W) => insert_calls h hs hq
  have hR := fun W => rinsert_calls W hs hq
  generalize (insN s (q % 256)).1 = r at *
  generalize (insN s (q % 256)).2 = b at *
  have HI := Lib.hid hI
  have HR := Lib.hid hR
  clear hI hR
  have hB_w := Below.refl w.heap.size w
  go_enter Tryd.func7, Tryd.ntmps7
  go_wp2_with fail
  (with_reducible refine (awake19_calls _).mono ?_)
  rintro e w1 ⟨rfl, hb⟩
  have hB_w1 := hB_w.trans (hb.mono hB_w.size)
  clear hb
  go_wp2_with fail
  (with_reducible refine (HI.out _ (hT.below hB_w1)).mono ?_)
  rintro e w2 ⟨rfl, hb⟩
  have hB_w2 := hB_w1.trans (hb.mono hB_w1.size)
  clear hb
  go_wp2_with fail
  (with_reducible refine (HR.out _).mono ?_)
  rintro e w3 ⟨rfl, hb⟩
  have hB_w3 := hB_w2.trans (hb.mono hB_w2.size)
  clear hb
  cases b
  all_goals
    go_wp2
    go_ret
    exact ⟨by first | rfl | simp, hB_w3⟩
end Go.Proofs.YtngmcbliihohcaaDoor
