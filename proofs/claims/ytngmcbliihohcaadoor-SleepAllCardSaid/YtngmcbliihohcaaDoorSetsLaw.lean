/-
  SleepSets: the walk.
-/
import Derived.Test.YtngmcbliihohcaaDoorSets2
set_option linter.unusedSimpArgs false
set_option linter.unusedVariables false
namespace Go.Proofs.YtngmcbliihohcaaDoor
open Go.ChangeShapes Go.WideShapes Go.ChangeAt Go.RowKit Go.Deep

theorem two_ints (w : World) : IsInts (w.alloc (.cells #[.int .i64 0, .int .i64 1] 3)) (some ⟨w.heap.size, 0, none⟩) 2 2 [0, 1] := by
  have h := (MapKept.heap_alloc w (.cells #[.int .i64 0, .int .i64 1] 3)).1
  refine ⟨⟨by simp, fun _ => ⟨w.heap.size, 0, rfl, fun j u hu => ?_⟩⟩, rfl, Nat.le_refl _, by unfold maxLen; omega, fun x hx => ?_⟩
  · rw [cell_blk h, Nat.zero_add]
    have hj : j < 2 := by
      have := (List.getElem?_eq_some_iff.1 hu).1
      simpa using this
    obtain rfl | rfl : j = 0 ∨ j = 1 := by omega
    all_goals exact hu
  · simp only [List.mem_cons, List.not_mem_nil, or_false] at hx
    rcases hx with rfl | rfl
    all_goals exact Fit.of (by decide) (by decide)

set_option maxHeartbeats 1000000 in
theorem awake17_calls (w : World) : Calls Tryd.prog 9 #[] w fun e w' => e = .returned (.bool true) ∧ Below w.heap.size w w' := by
  have e1 : maskN [0, 1] = 3 := by decide
  have e2 : popT (3 % 256) 8 = 2 := by decide
  have hlen : ∀ W, Calls Tryd.prog 12 #[.int .u64 3] W fun e w' => e = .returned (.int .i64 2) ∧ W = w' := fun W => by
    have := len_calls W (s := 3) (by omega)
    rw [e2] at this
    exact this
  have ht := Lib.hid (two_ints w)
  have H1 := Lib.hid e1
  clear e1 e2
  go_enter Tryd.func9, Tryd.ntmps9
  go_wp2_with fail
  refine (sof_calls ht.out).mono ?_
  rintro e w1 ⟨rfl, hb⟩
  rw [H1.out]
  have hB_w1 : Below w.heap.size w w1 := Below.trans ((Below.refl _ _).alloc (Nat.le_refl _) _) (hb.mono (by simp))
  clear hb
  go_wp2_with fail
  refine (hlen _).mono ?_
  rintro e w2 ⟨rfl, rfl⟩
  go_wp2
  go_ret
  exact ⟨rfl, hB_w1⟩

set_option maxRecDepth 20000 in
set_option maxHeartbeats 4000000 in
theorem sets_law {w : World} (hT : TabOk w) {s : Nat} (hs : s < 18446744073709551616) (t : Int) :
    Calls Tryd.prog 3 #[.int .u64 s, .int .i64 t] w fun e w' => e = .returned (.bool true) ∧ Below w.heap.size w w' := by
  have hB_w := Below.refl w.heap.size w
  have hR : ∀ W, Calls Tryd.prog 10 #[.int .u64 s] W fun e w' => e = .returned (bitsV (s % 256)) ∧ Below W.heap.size W w' := fun W => rbits_calls W hs
  have hLn := fun W => len_calls W hs
  have hLs := fun W (h : TabOk W) => least_calls h hs
  have hrl := fun W => rlen_calls W (m := s % 256)
  have hrs := fun W => rleast_calls W (m := s % 256)
  have hbm : ∀ i, i < 8 → (s % 256).testBit i = s.testBit i := fun i hi => bit_mod s i hi
  generalize s % 256 = m at *
  generalize popT m 8 = pl at *
  generalize leastI m = ll at *
  obtain ⟨f, hf⟩ : ∃ f, f = m.testBit := ⟨_, rfl⟩
  have hbv : bitsV m = .agg #[.bool (f 0), .bool (f 1), .bool (f 2), .bool (f 3), .bool (f 4), .bool (f 5), .bool (f 6), .bool (f 7)] := by subst hf; rfl
  rw [hbv] at hR hrl hrs
  rw [← hf] at hbm
  clear hf hbv
  have key : ∀ (t : Int) (K : Int) (v : Bool), 0 ≤ t → t < 8 → ((oneN t : Nat) : Int) = K → f t.toNat = v →
      (∀ W, Calls Tryd.prog 11 #[.int .u64 s, .int .i64 t] W fun e w' => e = .returned (.bool v) ∧ W = w') ∧
      (∀ W, Calls Tryd.prog 14 #[.int .u64 s, .int .i64 t] W fun e w' => e = .returned (.int .u64 (bits .or .u64 s K)) ∧ W = w') ∧
      (∀ W, Calls Tryd.prog 15 #[.int .u64 s, .int .i64 t] W fun e w' => e = .returned (.int .u64 (bits .andNot .u64 s K)) ∧ W = w') := by
    intro t K v h0 h8 hK hv
    subst hK hv
    have e1 : hasB s t = f t.toNat := by
      unfold hasB in8
      rw [hbm t.toNat (by omega)]
      simp [h0, h8]
    refine ⟨fun W => ?_, fun W => ?_, fun W => ?_⟩
    · have := has64_calls W hs t
      rw [e1] at this
      exact this
    · rw [bits_or_u64_nat s (oneN t) hs (oneN_64 t)]
      exact put64_calls W hs t
    · rw [cut_val hs t]
      exact cut64_calls W hs t
  have none : ∀ t, in8 t = false → (∀ W, Calls Tryd.prog 11 #[.int .u64 s, .int .i64 t] W fun e w' => e = .returned (.bool false) ∧ W = w') ∧
      (∀ W, Calls Tryd.prog 14 #[.int .u64 s, .int .i64 t] W fun e w' => e = .returned (.int .u64 s) ∧ W = w') ∧
      (∀ W, Calls Tryd.prog 15 #[.int .u64 s, .int .i64 t] W fun e w' => e = .returned (.int .u64 s) ∧ W = w') := by
    intro t ht
    have e0 : oneN t = 0 := by unfold oneN; rw [ht]; rfl
    refine ⟨fun W => ?_, fun W => ?_, fun W => ?_⟩
    · have := has64_calls W hs t
      rw [show hasB s t = false by unfold hasB; rw [ht]; rfl] at this
      exact this
    · have := put64_calls W hs t
      rw [e0, Nat.or_zero] at this
      exact this
    · have := cut64_calls W hs t
      rw [show cutN s t = s by
        unfold cutN; rw [e0, Nat.sub_zero]
        have := Nat.and_two_pow_sub_one_of_lt_two_pow (n := 64) (x := s) (by omega)
        exact this] at this
      exact this
  have HR := Lib.hid hR
  have HLn := Lib.hid hLn
  have HLs := Lib.hid hLs
  have Hrl := Lib.hid hrl
  have Hrs := Lib.hid hrs
  have Key := Lib.hid key
  have None' := Lib.hid none
  clear hR hLn hLs hrl hrs hbm key none
  have ht : (t < 0 ∨ 8 ≤ t) ∨ t = 0 ∨ t = 1 ∨ t = 2 ∨ t = 3 ∨ t = 4 ∨ t = 5 ∨ t = 6 ∨ t = 7 := by omega
  obtain ho | ht := ht
  · have hN := None'.out t (by unfold in8; simp only [Bool.and_eq_false_iff, decide_eq_false_iff_not]; omega)
    have HN := Lib.hid hN
    clear hN Key None'
    obtain ho | ho := ho
    all_goals
      go_enter Tryd.func3, Tryd.ntmps3
      go_wp2_with fail
      (with_reducible refine (awake17_calls _).mono ?_)
      rintro e w1 ⟨rfl, hb⟩
      have hB_w1 := hB_w.trans (hb.mono hB_w.size)
      clear hb
      go_wp2_with fail
      (with_reducible refine (HR.out _).mono ?_)
      rintro e w2 ⟨rfl, hb⟩
      have hB_w2 := hB_w1.trans (hb.mono hB_w1.size)
      clear hb
      go_wp2_with fail
      refine (HN.out.1 _).mono ?_
      rintro e w3 ⟨rfl, rfl⟩
      go_wp2_with fail
      refine (HLn.out _).mono ?_
      rintro e w3 ⟨rfl, rfl⟩
      have hA : Below w.heap.size w (w2.alloc (.cells #[.bool (f 0), .bool (f 1), .bool (f 2), .bool (f 3), .bool (f 4), .bool (f 5), .bool (f 6), .bool (f 7)] 25)) := hB_w2.alloc hB_w2.size _
      have hz : w2.heap.size < (w2.alloc (.cells #[.bool (f 0), .bool (f 1), .bool (f 2), .bool (f 3), .bool (f 4), .bool (f 5), .bool (f 6), .bool (f 7)] 25)).heap.size := by simp
      have r0 := cell_alloc w2 #[.bool (f 0), .bool (f 1), .bool (f 2), .bool (f 3), .bool (f 4), .bool (f 5), .bool (f 6), .bool (f 7)] 25 0
      have r1 := cell_alloc w2 #[.bool (f 0), .bool (f 1), .bool (f 2), .bool (f 3), .bool (f 4), .bool (f 5), .bool (f 6), .bool (f 7)] 25 1
      have r2 := cell_alloc w2 #[.bool (f 0), .bool (f 1), .bool (f 2), .bool (f 3), .bool (f 4), .bool (f 5), .bool (f 6), .bool (f 7)] 25 2
      have r3 := cell_alloc w2 #[.bool (f 0), .bool (f 1), .bool (f 2), .bool (f 3), .bool (f 4), .bool (f 5), .bool (f 6), .bool (f 7)] 25 3
      have r4 := cell_alloc w2 #[.bool (f 0), .bool (f 1), .bool (f 2), .bool (f 3), .bool (f 4), .bool (f 5), .bool (f 6), .bool (f 7)] 25 4
      have r5 := cell_alloc w2 #[.bool (f 0), .bool (f 1), .bool (f 2), .bool (f 3), .bool (f 4), .bool (f 5), .bool (f 6), .bool (f 7)] 25 5
      have r6 := cell_alloc w2 #[.bool (f 0), .bool (f 1), .bool (f 2), .bool (f 3), .bool (f 4), .bool (f 5), .bool (f 6), .bool (f 7)] 25 6
      have r7 := cell_alloc w2 #[.bool (f 0), .bool (f 1), .bool (f 2), .bool (f 3), .bool (f 4), .bool (f 5), .bool (f 6), .bool (f 7)] 25 7
      simp only [List.getElem?_toArray, List.getElem?_cons_zero, List.getElem?_cons_succ] at r0 r1 r2 r3 r4 r5 r6 r7
      generalize (w2.alloc (.cells #[.bool (f 0), .bool (f 1), .bool (f 2), .bool (f 3), .bool (f 4), .bool (f 5), .bool (f 6), .bool (f 7)] 25)) = wa at *
      go_wp2_with fail
      refine (HLs.out _ (hT.below hA)).mono ?_
      rintro e w3 ⟨rfl, rfl⟩
      go_wp2_with fail
      refine (HN.out.2.1 _).mono ?_
      rintro e w3 ⟨rfl, rfl⟩
      go_wp2_with fail
      refine (HN.out.2.2 _).mono ?_
      rintro e w3 ⟨rfl, rfl⟩
      go_wp2_with fail
      refine (Hrl.out _).mono ?_
      rintro e w4 ⟨rfl, hb⟩
      have hB4 := hA.trans (hb.mono hA.size)
      have r0 := keep hb r0
      have r1 := keep hb r1
      have r2 := keep hb r2
      have r3 := keep hb r3
      have r4 := keep hb r4
      have r5 := keep hb r5
      have r6 := keep hb r6
      have r7 := keep hb r7
      clear hb
      go_wp2_with fail
      refine (Hrs.out _).mono ?_
      rintro e w5 ⟨rfl, hb⟩
      have hB5 := hB4.trans (hb.mono hB4.size)
      have r0 := keep hb r0
      have r1 := keep hb r1
      have r2 := keep hb r2
      have r3 := keep hb r3
      have r4 := keep hb r4
      have r5 := keep hb r5
      have r6 := keep hb r6
      have r7 := keep hb r7
      clear hb
      go_wp2
      go_ret
      exact ⟨by first | rfl | simp, hB5⟩
  · have HN : ∃ K v, Hid (f t.toNat = v ∧ (∀ W, Calls Tryd.prog 11 #[.int .u64 s, .int .i64 t] W fun e w' => e = .returned (.bool v) ∧ W = w') ∧
      (∀ W, Calls Tryd.prog 14 #[.int .u64 s, .int .i64 t] W fun e w' => e = .returned (.int .u64 (bits .or .u64 s K)) ∧ W = w') ∧
      (∀ W, Calls Tryd.prog 15 #[.int .u64 s, .int .i64 t] W fun e w' => e = .returned (.int .u64 (bits .andNot .u64 s K)) ∧ W = w')) ∧ K = ((oneN t : Nat) : Int) ∧ v = f t.toNat :=
      ⟨((oneN t : Nat) : Int), f t.toNat, ⟨rfl, Key.out t _ _ (by omega) (by omega) rfl rfl⟩, rfl, rfl⟩
    obtain ⟨K, v, HN, hK, hv⟩ := HN
    clear Key None'
    obtain rfl | rfl | rfl | rfl | rfl | rfl | rfl | rfl := ht
    all_goals
      simp only [oneN, in8] at hK
      simp at hK hv
      subst hK hv
      go_enter Tryd.func3, Tryd.ntmps3
      go_wp2_with fail
      (with_reducible refine (awake17_calls _).mono ?_)
      rintro e w1 ⟨rfl, hb⟩
      have hB_w1 := hB_w.trans (hb.mono hB_w.size)
      clear hb
      go_wp2_with fail
      (with_reducible refine (HR.out _).mono ?_)
      rintro e w2 ⟨rfl, hb⟩
      have hB_w2 := hB_w1.trans (hb.mono hB_w1.size)
      clear hb
      go_wp2_with fail
      refine (HN.out.2.1 _).mono ?_
      rintro e w3 ⟨rfl, rfl⟩
      go_wp2_with fail
      refine (HLn.out _).mono ?_
      rintro e w3 ⟨rfl, rfl⟩
      have hA : Below w.heap.size w (w2.alloc (.cells #[.bool (f 0), .bool (f 1), .bool (f 2), .bool (f 3), .bool (f 4), .bool (f 5), .bool (f 6), .bool (f 7)] 25)) := hB_w2.alloc hB_w2.size _
      have hz : w2.heap.size < (w2.alloc (.cells #[.bool (f 0), .bool (f 1), .bool (f 2), .bool (f 3), .bool (f 4), .bool (f 5), .bool (f 6), .bool (f 7)] 25)).heap.size := by simp
      have r0 := cell_alloc w2 #[.bool (f 0), .bool (f 1), .bool (f 2), .bool (f 3), .bool (f 4), .bool (f 5), .bool (f 6), .bool (f 7)] 25 0
      have r1 := cell_alloc w2 #[.bool (f 0), .bool (f 1), .bool (f 2), .bool (f 3), .bool (f 4), .bool (f 5), .bool (f 6), .bool (f 7)] 25 1
      have r2 := cell_alloc w2 #[.bool (f 0), .bool (f 1), .bool (f 2), .bool (f 3), .bool (f 4), .bool (f 5), .bool (f 6), .bool (f 7)] 25 2
      have r3 := cell_alloc w2 #[.bool (f 0), .bool (f 1), .bool (f 2), .bool (f 3), .bool (f 4), .bool (f 5), .bool (f 6), .bool (f 7)] 25 3
      have r4 := cell_alloc w2 #[.bool (f 0), .bool (f 1), .bool (f 2), .bool (f 3), .bool (f 4), .bool (f 5), .bool (f 6), .bool (f 7)] 25 4
      have r5 := cell_alloc w2 #[.bool (f 0), .bool (f 1), .bool (f 2), .bool (f 3), .bool (f 4), .bool (f 5), .bool (f 6), .bool (f 7)] 25 5
      have r6 := cell_alloc w2 #[.bool (f 0), .bool (f 1), .bool (f 2), .bool (f 3), .bool (f 4), .bool (f 5), .bool (f 6), .bool (f 7)] 25 6
      have r7 := cell_alloc w2 #[.bool (f 0), .bool (f 1), .bool (f 2), .bool (f 3), .bool (f 4), .bool (f 5), .bool (f 6), .bool (f 7)] 25 7
      simp only [List.getElem?_toArray, List.getElem?_cons_zero, List.getElem?_cons_succ] at r0 r1 r2 r3 r4 r5 r6 r7
      generalize (w2.alloc (.cells #[.bool (f 0), .bool (f 1), .bool (f 2), .bool (f 3), .bool (f 4), .bool (f 5), .bool (f 6), .bool (f 7)] 25)) = wa at *
      go_wp2_with fail
      refine (HLs.out _ (hT.below hA)).mono ?_
      rintro e w3 ⟨rfl, rfl⟩
      go_wp2_with fail
      refine (HN.out.2.2.1 _).mono ?_
      rintro e w3 ⟨rfl, rfl⟩
      go_wp2_with fail
      refine (HN.out.2.2.2 _).mono ?_
      rintro e w3 ⟨rfl, rfl⟩
      go_wp2_with fail
      refine (Hrl.out _).mono ?_
      rintro e w4 ⟨rfl, hb⟩
      have hB4 := hA.trans (hb.mono hA.size)
      have r0 := keep hb r0
      have r1 := keep hb r1
      have r2 := keep hb r2
      have r3 := keep hb r3
      have r4 := keep hb r4
      have r5 := keep hb r5
      have r6 := keep hb r6
      have r7 := keep hb r7
      clear hb
      go_wp2_with fail
      refine (Hrs.out _).mono ?_
      rintro e w5 ⟨rfl, hb⟩
      have hB5 := hB4.trans (hb.mono hB4.size)
      have r0 := keep hb r0
      have r1 := keep hb r1
      have r2 := keep hb r2
      have r3 := keep hb r3
      have r4 := keep hb r4
      have r5 := keep hb r5
      have r6 := keep hb r6
      have r7 := keep hb r7
      clear hb
      go_wp2
      go_ret
      exact ⟨by first | rfl | simp, hB5⟩
end Go.Proofs.YtngmcbliihohcaaDoor
