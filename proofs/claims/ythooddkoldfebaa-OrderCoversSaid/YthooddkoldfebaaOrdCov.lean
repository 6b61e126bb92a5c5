/-
  OrderCovers: an event is another one or happens before it just if that one's clock knows it.
-/
import Derived.Test.YthooddkoldfebaaOrdClk
set_option linter.unusedSimpArgs false
set_option linter.unusedVariables false
namespace Go.Proofs.Ythooddkoldfebaa
open Go.ChangeShapes Go.WideShapes Go.ChangeAt Go.RowKit Go.Deep

set_option maxRecDepth 20000 in
set_option maxHeartbeats 4000000 in
theorem onum_calls {w : World} {a0 : Option Addr} {n c : Nat} {l : List Ev} (h : IsEvs w a0 n c l) {i : Nat} (hi : i < n) :
    Calls Try.prog 30 #[.slice a0 n c, .int .i64 (i : Int)] w fun e w' => e = .returned (.int .i64 (numT (thE l) i : Int)) ∧ Below w.heap.size w w' := by
  have hnm : n ≤ 9223372036854775807 := by have := h.le; have := h.cap; unfold maxLen at *; omega
  obtain ⟨b, off, x, rfl, hx, _, d0, _⟩ := h.at hi
  have Ht : Hid (thE l i = x.t) := thE_of hx
  obtain ⟨xt, xk, xo, xv, xb⟩ := x
  simp only at d0 Ht
  have He := Lib.hid h
  clear h hx
  go_enter Try.func30, Try.ntmps30
  go_wp2_with fail
  go_loopw [5, 6] (fun u v wr => ∃ k : Nat, k ≤ i + 1 ∧ v = .int .i64 k ∧ u = .int .i64 (cntI (thE l) xt k : Int) ∧ Hid (Below w.heap.size w wr)) (fun _ v _ => i + 1 - (intOf v).toNat)
  case atStart => exact ⟨0, Nat.zero_le _, rfl, rfl, Below.refl _ _⟩
  case round =>
    obtain ⟨k, hk, rfl, rfl, HB⟩ := hrel
    have d0 := keep HB.out d0
    by_cases hki : k ≤ i
    · obtain ⟨b', off', y, hq, hy, _, f0, _⟩ := He.out.at (show k < n by omega)
      cases hq
      have f0 := keep HB.out f0
      have Hy : Hid (thE l k = y.t) := thE_of hy
      obtain ⟨yt, yk, yo, yv, yb⟩ := y
      simp only at f0 Hy
      have hkn : k < n := by omega
      have hle := cntI_le (thE l) xt k
      have Hs : Hid ((cntI (thE l) xt (k + 1) : Int) = (cntI (thE l) xt k : Int) + ((yt == xt).toNat : Int)) := by unfold Hid; rw [cntI_succ, Hy.out]; omega
      have Hw : Hid (RowKit.wrap64 ((cntI (thE l) xt k : Int) + 1) = (cntI (thE l) xt k : Int) + 1) := wrap64_fit (by omega) (by omega)
      have hki' : decide ((k : Int) ≤ (i : Int)) = true := by simp; omega
      clear hy hle
      revert Hs Hw
      generalize (cntI (thE l) xt k : Int) = z
      intro Hs Hw
      go_wp2_with fail
      refine wp_ext_draw 11 mixed (by kernel_rfl) ?_
      simp only [List.take_succ_cons, List.take_zero, List.drop_succ_cons, List.drop_zero]
      repeat ((first | ((apply TextRun.go rfl rfl rfl); (intro w1 hS K hK; have hc := bcell hS; have hs := blt hS; have d0 := keep hS d0; have f0 := keep hS f0; go_wp2_with (fail); first | exact hS | exact hS.trans (hb.mono hS.size))) | (refine TextRun.skip rfl ?_) | ((refine TextRun.wantedT rfl rfl rfl ?_); (apply Exists.intro); (apply And.intro); (intro w1 hS K hK; have hc := bcell hS; have hs := blt hS; have d0 := keep hS d0; have f0 := keep hS f0; go_wp2_with (fail); first | exact hS | exact hS.trans (hb.mono hS.size)))); (simp only [Act.put, List.setIfInBounds_toArray, List.set_cons_zero, List.set_cons_succ]))
      refine TextRun.done ?_
      intro w4 hb4
      have HB4 := Lib.hid (HB.out.trans (hb4.mono HB.out.size))
      clear hb4 d0 f0
      by_cases hq : yt = xt
      · have hq' : (yt == xt) = true := by simpa using hq
        rw [hq'] at Hs
        clear hq
        go_wp2
        rw [Hw.out]
        go_roundw
        case rel => exact ⟨k + 1, by omega, by go_num, by rw [Hs.out]; rfl, HB4⟩
        case measure => simp [intOf]; omega
      · have hq' : (yt == xt) = false := by simpa using hq
        rw [hq'] at Hs
        clear hq
        go_wp2
        go_roundw
        case rel => exact ⟨k + 1, by omega, by go_num, by rw [Hs.out]; simp, HB4⟩
        case measure => simp [intOf]; omega
    · have hke : k = i + 1 := by omega
      have hki' : decide ((k : Int) ≤ (i : Int)) = false := by simp; omega
      have Hf : Hid (numT (thE l) i = cntI (thE l) xt k) := by
        unfold Hid
        rw [hke, cntI_succ, numT_is, Ht.out]
        simp
      clear hke
      go_wp2
      go_ret
      exact ⟨by rw [Hf.out]; rfl, HB.out⟩

theorem bool_beq_self (b : Bool) : (b == b) = true := by cases b <;> rfl
set_option maxRecDepth 20000 in
set_option maxHeartbeats 8000000 in
theorem orderCovers_law {w : World} {a0 : Option Addr} {n c : Nat} {l : List Ev} (h : IsEvs w a0 n c l) (i j : Int) :
    Calls Try.prog 7 #[.slice a0 n c, .int .i64 i, .int .i64 j] w fun e w' => e = .returned (.bool true) ∧ Below w.heap.size w w' := by
  have hnm : n ≤ 9223372036854775807 := by have := h.le; have := h.cap; unfold maxLen at *; omega
  have Hev := Lib.hid h
  clear h
  go_enter Try.func7, Try.ntmps7
  go_wp2_with fail
  refine (oawake_calls _).mono ?_
  rintro e w1 ⟨rfl, hb1⟩
  have Hc := Lib.hid (both_calls (Hev.out.below hb1))
  have HB1 := Lib.hid hb1
  clear hb1
  go_wp2_with fail
  refine Hc.out.mono ?_
  rintro e w2 ⟨hb2, ⟨_, rfl⟩ | ⟨_, hg, b, v, v1, v2, B, rfl, hO, hM1, hM2⟩⟩
  · have HB2 := Lib.hid (HB1.out.trans (hb2.mono HB1.out.size))
    clear hb2
    go_wp2
    go_ret
    exact ⟨rfl, HB2.out.alloc HB2.out.size _⟩
  obtain ⟨sa, sp, sq, rfl⟩ := hM1.slice
  obtain ⟨ta, tp, tq, rfl⟩ := hM2.slice
  have hB2 := HB1.out.trans (hb2.mono HB1.out.size)
  have hal : Below w2.heap.size w2 (w2.alloc (.cells #[.slice a0 n c, .slice sa sp sq, .slice ta tp tq] 27)) := (Below.refl _ w2).alloc (Nat.le_refl _) _
  have hR3 : ROrdAt (w2.alloc (.cells #[.slice a0 n c, .slice sa sp sq, .slice ta tp tq] 27)) w2.heap.size a0 n c (.slice sa sp sq) (.slice ta tp tq) l :=
    ⟨(MapKept.heap_alloc w2 _).1, ⟨B, hM1.below hal⟩, ⟨B, hM2.below hal⟩, (Hev.out.below hB2).below hal⟩
  have hB3 := hB2.trans (hal.mono hB2.size)
  have HX := Lib.hid (And.intro (hO.below hal) (And.intro hR3 hB3))
  have HG := Lib.hid hg
  clear hb2 hB2 hal hR3 hB3 hO hM1 hM2 Hc hg
  by_cases hi0 : i < 0
  · have hd0 : decide (i < 0) = true := decide_eq_true hi0
    clear hi0
    go_wp2
    go_ret
    exact ⟨rfl, HX.out.2.2⟩
  have hd0 : decide (i < 0) = false := decide_eq_false hi0
  by_cases hj0 : j < 0
  · have hd1 : decide (j < 0) = true := decide_eq_true hj0
    clear hi0 hj0
    go_wp2
    go_ret
    exact ⟨rfl, HX.out.2.2⟩
  have hd1 : decide (j < 0) = false := decide_eq_false hj0
  by_cases hin : (n : Int) ≤ i
  · have hd2 : decide ((n : Int) ≤ i) = true := decide_eq_true hin
    clear hi0 hj0 hin
    go_wp2
    go_ret
    exact ⟨rfl, HX.out.2.2⟩
  have hd2 : decide ((n : Int) ≤ i) = false := decide_eq_false hin
  by_cases hjn : (n : Int) ≤ j
  · have hd3 : decide ((n : Int) ≤ j) = true := decide_eq_true hjn
    clear hi0 hj0 hin hjn
    go_wp2
    go_ret
    exact ⟨rfl, HX.out.2.2⟩
  have hd3 : decide ((n : Int) ≤ j) = false := decide_eq_false hjn
  obtain ⟨ki, rfl⟩ := Int.eq_ofNat_of_zero_le (show 0 ≤ i by omega)
  obtain ⟨kj, rfl⟩ := Int.eq_ofNat_of_zero_le (show 0 ≤ j by omega)
  have hki : ki < n := by omega
  have hkj : kj < n := by omega
  clear hi0 hj0 hin hjn
  go_wp2_with fail
  revert HX
  generalize w2.alloc (.cells #[.slice a0 n c, .slice sa sp sq, .slice ta tp tq] 27) = w3
  intro HX
  have HO := Lib.hid HX.out.1
  have HR := Lib.hid HX.out.2.1
  have HB3 := Lib.hid HX.out.2.2
  clear HX
  have hB := HB3.out
  refine (onum_calls (Hev.out.below HB3.out) hki).mono ?_
  rintro e w4 ⟨rfl, hb⟩
  have HB := Lib.hid hb
  clear hb hB
  go_wp2_with fail
  refine (before_calls (HO.out.below HB.out) HG.out ki kj).mono ?_
  rintro e w5 ⟨rfl, hb⟩
  have HB := Lib.hid (HB.out.trans (hb.mono HB.out.size))
  clear hb
  go_wp2_with fail
  refine (sync_calls (HO.out.below HB.out) HG.out ki kj).mono ?_
  rintro e w6 ⟨rfl, hb⟩
  have HB := Lib.hid (HB.out.trans (hb.mono HB.out.size))
  clear hb
  rw [befB_nat hki hkj, befB_nat hki hkj]
  go_wp2_with fail
  refine (oclock_calls (HO.out.below HB.out) HG.out kj).mono ?_
  rintro e w7 ⟨x1, y1, rfl, hI1, hb⟩
  have HB := Lib.hid (HB.out.trans (hb.mono HB.out.size))
  have HI := Lib.hid hI1
  clear hb hI1
  go_wp2_with fail
  refine (osclock_calls (HO.out.below HB.out) HG.out kj).mono ?_
  rintro e w8 ⟨x2, y2, rfl, hI2, hb⟩
  have HB := Lib.hid (HB.out.trans (hb.mono HB.out.size))
  have HI := Lib.hid (And.intro (HI.out.below hb) hI2)
  clear hb hI2
  have hc1 : clkP (rD l) l n (kj : Int) = vec (rD l) (thE l) kj := by unfold clkP; rw [inN_nat, decide_eq_true hkj]; rfl
  have hc2 : clkP (rS l) l n (kj : Int) = vec (rS l) (thE l) kj := by unfold clkP; rw [inN_nat, decide_eq_true hkj]; rfl
  rw [hc1, hc2] at HI
  rw [hc1, hc2, vec_len, vec_len]
  rw [vec_len, vec_len] at HI
  obtain ⟨bl, off, ei, rfl, hei, _, d0, _⟩ := Hev.out.at hki
  have d0 := keep (HB3.out.trans (HB.out.mono HB3.out.size)) d0
  have hth := HG.out.th hki
  have hte : thE l ki = ei.t := thE_of hei
  obtain ⟨et, ek, eo, ev, eb⟩ := ei
  simp only at d0 hte
  rw [hte] at hth
  obtain ⟨tn, rfl⟩ := Int.eq_ofNat_of_zero_le hth.1
  have htn : tn < 8 := by omega
  obtain ⟨b1, o1, z1, rfl, hz1, _, e1⟩ := HI.out.1.at htn
  obtain ⟨b2, o2, z2, rfl, hz2, _, e2⟩ := HI.out.2.at htn
  have hk1 := vec_known (r := rD l) (th := thE l) (n := n) (fun i hi => HG.out.th hi) (fun i j _ _ e => rD_same e) hki hkj
  have hk2 := vec_known (r := rS l) (th := thE l) (n := n) (fun i hi => HG.out.th hi) (fun i j _ _ e => rS_same e) hki hkj
  rw [hte, Int.toNat_natCast, List.getD_eq_getElem?_getD, hz1, ← hbB_iff] at hk1
  rw [hte, Int.toNat_natCast, List.getD_eq_getElem?_getD, hz2, ← hbB_iff] at hk2
  simp only [Option.getD_some] at hk1 hk2
  have T1 : (decide ((numT (thE l) ki : Int) ≤ z1) == (hbB (rD l) ki kj || ((ki : Int) == (kj : Int)))) = true := by
    have : decide ((numT (thE l) ki : Int) ≤ z1) = (hbB (rD l) ki kj || ((ki : Int) == (kj : Int))) := by
      rw [Bool.eq_iff_iff, decide_eq_true_iff, hk1]
      simp only [Bool.or_eq_true, beq_iff_eq, Int.natCast_inj]
      exact Or.comm
    rw [this]; exact bool_beq_self _
  have T2 : (decide ((numT (thE l) ki : Int) ≤ z2) == (hbB (rS l) ki kj || ((ki : Int) == (kj : Int)))) = true := by
    have : decide ((numT (thE l) ki : Int) ≤ z2) = (hbB (rS l) ki kj || ((ki : Int) == (kj : Int))) := by
      rw [Bool.eq_iff_iff, decide_eq_true_iff, hk2]
      simp only [Bool.or_eq_true, beq_iff_eq, Int.natCast_inj]
      exact Or.comm
    rw [this]; exact bool_beq_self _
  have HT := Lib.hid (And.intro T1 T2)
  clear hk1 hk2 T1 T2 hz1 hz2 hei hte hth hc1 hc2
  revert HT
  generalize hbB (rD l) ki kj = p
  generalize hbB (rS l) ki kj = q
  generalize (numT (thE l) ki : Int) = m
  cases hkk : ((ki : Int) == (kj : Int))
  all_goals
    cases p <;> cases q <;> cases hm1 : decide (m ≤ z1) <;> cases hm2 : decide (m ≤ z2) <;> intro HT
  all_goals first
    | (exfalso; exact Bool.noConfusion HT.out.1)
    | (exfalso; exact Bool.noConfusion HT.out.2)
    | (clear HT
       go_wp2
       go_ret
       exact ⟨rfl, HB3.out.trans (HB.out.mono HB3.out.size)⟩)
end Go.Proofs.Ythooddkoldfebaa
