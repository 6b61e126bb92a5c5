/-
  ClockScripts: the walk.
-/
import Derived.Test.YtngmcbliihohcaaSteps
set_option linter.unusedSimpArgs false
set_option linter.unusedVariables false
namespace Go.Proofs.Ytngmcbliihohcaa
open Go.ChangeShapes Go.WideShapes Go.ChangeAt Go.RowKit Go.Deep

section
variable {w : World} {a0 a1 a2 : Option Addr} {n0 n1 n2 k0 k1 k2 : Nat} {x y : List Int} {l : List St4}

set_option maxRecDepth 20000 in
set_option maxHeartbeats 4000000 in
theorem script_bad0 (hx : IsInts w a0 n0 k0 x) (hy : IsInts w a1 n1 k1 y) (ho : okClock x = false) :
    Calls Try.prog 7 #[.slice a0 n0 k0, .slice a1 n1 k1, .slice a2 n2 k2] w fun e w' => e = .returned (.bool true) ∧ Below w.heap.size w w' := by
  have ex := errOf_bad ho
  have hB_w := Below.refl w.heap.size w
  go_enter Try.func7, Try.ntmps7
  go_wp2_with fail
  (with_reducible refine (awake_calls _).mono ?_)
  rintro e w1 ⟨rfl, hb⟩
  have hB_w1 := hB_w.trans (hb.mono hB_w.size)
  clear hb
  go_wp2_with fail
  (with_reducible refine (rof_calls (hx.below hB_w1)).mono ?_)
  rintro e w2 ⟨rfl, hb⟩
  have hB_w2 := hB_w1.trans (hb.mono hB_w1.size)
  clear hb
  go_wp2_with fail
  (with_reducible refine (rof_calls (hy.below hB_w2)).mono ?_)
  rintro e w3 ⟨rfl, hb⟩
  have hB_w3 := hB_w2.trans (hb.mono hB_w2.size)
  clear hb
  go_wp2
  go_ret
  exact ⟨rfl, hB_w3⟩
set_option maxRecDepth 20000 in
set_option maxHeartbeats 4000000 in
theorem script_bad1 (hx : IsInts w a0 n0 k0 x) (hy : IsInts w a1 n1 k1 y) (ho : okClock x = true) (ho1 : okClock y = false) :
    Calls Try.prog 7 #[.slice a0 n0 k0, .slice a1 n1 k1, .slice a2 n2 k2] w fun e w' => e = .returned (.bool true) ∧ Below w.heap.size w w' := by
  have ex := errOf_ok ho
  have ey := errOf_bad ho1
  have hB_w := Below.refl w.heap.size w
  go_enter Try.func7, Try.ntmps7
  go_wp2_with fail
  (with_reducible refine (awake_calls _).mono ?_)
  rintro e w1 ⟨rfl, hb⟩
  have hB_w1 := hB_w.trans (hb.mono hB_w.size)
  clear hb
  go_wp2_with fail
  (with_reducible refine (rof_calls (hx.below hB_w1)).mono ?_)
  rintro e w2 ⟨rfl, hb⟩
  have hB_w2 := hB_w1.trans (hb.mono hB_w1.size)
  clear hb
  go_wp2_with fail
  (with_reducible refine (rof_calls (hy.below hB_w2)).mono ?_)
  rintro e w3 ⟨rfl, hb⟩
  have hB_w3 := hB_w2.trans (hb.mono hB_w2.size)
  clear hb
  go_wp2
  go_ret
  exact ⟨rfl, hB_w3⟩

set_option maxRecDepth 20000 in
set_option maxHeartbeats 8000000 in
theorem script_good (hx : IsInts w a0 n0 k0 x) (hy : IsInts w a1 n1 k1 y) (hs : IsSts w a2 n2 k2 l) (ho : okClock x = true) (ho1 : okClock y = true) :
    Calls Try.prog 7 #[.slice a0 n0 k0, .slice a1 n1 k1, .slice a2 n2 k2] w fun e w' => e = .returned (.bool true) ∧ Below w.heap.size w w' := by
  have ex := errOf_ok ho
  have ey := errOf_ok ho1
  have hB_w := Below.refl w.heap.size w
  have hnm := hs.bd
  go_enter Try.func7, Try.ntmps7
  go_wp2_with fail
  (with_reducible refine (awake_calls _).mono ?_)
  rintro e w1 ⟨rfl, hb⟩
  have hB_w1 := hB_w.trans (hb.mono hB_w.size)
  clear hb
  go_wp2_with fail
  (with_reducible refine (rof_calls (hx.below hB_w1)).mono ?_)
  rintro e w2 ⟨rfl, hb⟩
  have hB_w2 := hB_w1.trans (hb.mono hB_w1.size)
  clear hb
  go_wp2_with fail
  (with_reducible refine (rof_calls (hy.below hB_w2)).mono ?_)
  rintro e w3 ⟨rfl, hb⟩
  have hB_w3 := hB_w2.trans (hb.mono hB_w2.size)
  clear hb
  go_wp2_with fail
  have hp := Pair.new w3 (.pointer none) (.pointer none) 49
  have hA := hB_w3.alloc hB_w3.size (.cells #[.pointer none, .pointer none] 49)
  have hz : w3.heap.size < (w3.alloc (.cells #[.pointer none, .pointer none] 49)).heap.size := by simp
  have hz3 := hB_w3.size
  have hB_w4 := hA
  clear hA
  generalize (w3.alloc (.cells #[.pointer none, .pointer none] 49)) = w4 at *
  generalize w3.heap.size = bc at *
  refine (lof_calls (hx.below hB_w4) ho).mono ?_
  rintro e w5 ⟨b0, g0, rfl, C0, qb, qg, hb⟩
  have hp := hp.below hb
  have hB_w5 := hB_w4.trans (hb.mono hB_w4.size)
  clear hb
  obtain ⟨c0, _, f0, _⟩ := hp.facts
  go_wp2_with fail
  have hm := mod_set (mod_refl w5 (some bc)) 0 (.pointer (some ⟨b0, 0, none⟩))
  have hp6 := hp.set0 (u' := .pointer (some ⟨b0, 0, none⟩))
  have hB_w6 := below_of_mod hB_w5 hm hB_w5.size hz3
  have C0 := C0.mod hm (by omega) (by omega)
  have hz6 := hm.size
  have hz5 := C0.lt
  clear hp hm c0 f0
  generalize (w5.setCell ⟨bc, 0, none⟩ (.pointer (some ⟨b0, 0, none⟩))) = w6 at *
  refine (lof_calls (hy.below hB_w6) ho1).mono ?_
  rintro e w7 ⟨b1, g1, rfl, C1, qb1, qg1, hb⟩
  have hp := hp6.below hb
  have C0 := C0.below hb
  have hB_w7 := hB_w6.trans (hb.mono hB_w6.size)
  clear hb hp6
  obtain ⟨c0, c1, f0, f1⟩ := hp.facts
  have hm := mod_set (mod_refl w7 (some bc)) 1 (.pointer (some ⟨b1, 0, none⟩))
  have hp8 := hp.set1 (u' := .pointer (some ⟨b1, 0, none⟩))
  have hB_w8 := below_of_mod hB_w7 hm hB_w7.size hz3
  have C0 := C0.mod hm (by omega) (by omega)
  have C1 := C1.mod hm (by omega) (by omega)
  have hz8 := hm.size
  have hz9 : (w7.setCell ⟨bc, 1, none⟩ (.pointer (some ⟨b1, 0, none⟩))).heap.size = w7.heap.size := by simp
  go_wp2_with fail
  clear hp c0 f0 c1 f1 hm
  generalize (w7.setCell ⟨bc, 1, none⟩ (.pointer (some ⟨b1, 0, none⟩))) = w8 at *
  obtain ⟨c0, c1, f0, f1⟩ := hp8.facts
  go_wp2_with fail
  have hpl := Pair.new w8 (.slice a0 n0 k0) (.slice a1 n1 k1) 50
  have hb : Below w8.heap.size w8 (w8.alloc (.cells #[.slice a0 n0 k0, .slice a1 n1 k1] 50)) := (Below.refl _ w8).alloc (Nat.le_refl _) _
  have hB_w9 := hB_w8.trans (hb.mono hB_w8.size)
  have hl0 := C0.pos
  have hl1 := C1.pos
  have hl2 := hx.len
  have hl3 := hy.len
  have hc8 := C0.lt
  have hc9 := C1.lt
  have hE : ScE _ w.heap.size bc w8.heap.size 0 1 := ⟨_, _, _, _, _, _, _, _, _, _, _, _, Sc.start (hp8.below hb) hpl (C0.below hb) (C1.below hb) (hx.below hB_w9) (hy.below hB_w9) (ints_lt hx (by omega)) (ints_lt hy (by omega)) hz3 (by omega) (by omega) (by omega) (by omega) (by omega) (by omega) (by omega) (by omega)⟩
  rw [hz9] at hE
  have H := Lib.hid (And.intro hE hB_w9)
  clear hE hB_w9 hpl hb hp8 C0 C1 hc8 hc9 hl0 hl1 hl2 hl3 c0 c1 f0 f1 hB_w8 hB_w7 hB_w6 hB_w5 hB_w4 hB_w3 hB_w2 hB_w1 hB_w
  generalize (w8.alloc (.cells #[.slice a0 n0 k0, .slice a1 n1 k1] 50)) = w9 at *
  clear hz8
  generalize w7.heap.size = bl at *
  clear ex ey ho ho1 hx hy
  clear qb qg qb1 qg1 hz hz3 hz5 hz6 hz9
  go_loopw [12] (fun v wr => ∃ k : Nat, k ≤ n2 ∧ v = .int .i64 k ∧ Hid (ScE wr w.heap.size bc bl 0 1 ∧ Below w.heap.size w wr)) (fun v _ => n2 - (intOf v).toNat)
  case atStart => exact ⟨0, Nat.zero_le _, rfl, H⟩
  case round =>
    clear H
    obtain ⟨k, hk, rfl, H⟩ := hrel
    by_cases hlt : k < n2
    · obtain ⟨b, off, s, rfl, _, _, q0, q1, q2, q3⟩ := hs.at hlt
      obtain ⟨d, h, a, v⟩ := s
      have q0 := keep H.out.2 q0
      have q1 := keep H.out.2 q1
      have q2 := keep H.out.2 q2
      have q3 := keep H.out.2 q3
      simp only at q0 q1 q2 q3
      have Hs := Lib.hid hs
      clear hs
      have hR : ∃ i j : Nat, ((i = 0 ∧ j = 1 ∧ bits .and .i64 h 1 = 0) ∨ (i = 1 ∧ j = 0 ∧ bits .and .i64 h 1 = 1)) ∧ ScE wr w.heap.size bc bl i j := by
        rcases bits01 h with hw | hw
        · exact ⟨0, 1, .inl ⟨rfl, rfl, hw⟩, H.out.1⟩
        · exact ⟨1, 0, .inr ⟨rfl, rfl, hw⟩, H.out.1.swap⟩
      obtain ⟨i, j, hij, b0, b1, g0, g1, a0, a1, n0, k0, n1, k1, x, y, hS⟩ := hR
      have hA : Below wr.heap.size wr (wr.alloc (.cells #[.int .i64 d, .int .i64 h, .int .i64 a, .int .i64 v] 52)) := (Below.refl _ wr).alloc (Nat.le_refl _) _
      have hB := H.out.2.trans (hA.mono H.out.2.size)
      have hS' := hS.below hA
      have hX := StBox.new wr d h a v
      have hlq : ∀ q o s, a0 = some ⟨q, o, s⟩ → q < wr.heap.size := hS.ltA
      have hlr : ∀ q o s, a1 = some ⟨q, o, s⟩ → q < wr.heap.size := hS.swap.ltA
      have hlt := hS.lt
      have HS := Lib.hid (And.intro hB (And.intro hS' (And.intro hX (And.intro hlq hlr))))
      have c0 := hS.c0
      clear H hS hB hS' hX hlq hlr hA
      by_cases h7 : d = 7
      · subst h7
        rcases hij with ⟨rfl, rfl, hw⟩ | ⟨rfl, rfl, hw⟩
        all_goals
          go_wp2_with fail
          refine (copy_calls HS.out.2.1.C0).mono ?_
          rintro e wx ⟨b', g', rfl, C', qb, qg, hb⟩
          obtain ⟨hB, hS', hX, hlq, hlr⟩ := HS.out
          have hz := hB.size
          have hBx := hB.trans (hb.mono hB.size)
          have hSx := hS'.below hb
          have hlt' := hS'.lt
          have hlq' := hS'.ltA
          have hlr' := hS'.swap.ltA
          have hsz := hb.size
          have hBT := fun (o o' : Nat) (u u' : Value) => (hBx.setCell (p := ⟨bc, o, none⟩) hSx.lo.1 u).setCell (p := ⟨bl, o', none⟩) hSx.lo.2.1 u'
          have hTc := hSx.swap.setC C' (by omega) hlr' hlq' qb qg hz
          have hT := hTc.setL hTc.I1 hTc.h1 hTc.A1
          have c0 := hSx.c0
          have c1 := hSx.c1
          have f1 := hSx.f1
          have l0 := hSx.l0
          have l1 := hSx.l1
          have e1 := hSx.e1
          have nb := hSx.nb
          have nb' := hSx.nb.symm
          clear hTc hB hS' hX hlq hlr hBx hSx hb HS hlq' hlr' hlt' hlt qb qg hz hsz
          generalize (wr.alloc (.cells #[.int .i64 7, .int .i64 h, .int .i64 a, .int .i64 v] 52)) = wq at *
          go_wp2_with fail
          (first | (have hU := (hT : Sc _ _ _ _ 0 1 _ _ _ _ _ _ _ _ _ _ _ _ _ _)) | (have hU := (hT.swap : Sc _ _ _ _ 0 1 _ _ _ _ _ _ _ _ _ _ _ _ _ _)))
          refine (list_calls hU.C0).mono ?_
          rintro e y1 ⟨v0, rfl, o0, hb⟩
          obtain ⟨z0, cap0, rfl, I0, _, _⟩ := ints_of_own o0 hU.C0.pos hU.C0.wf
          have hU1 := hU.below hb
          have hB1 := Below.trans  (hBT _ _ _ _) (hb.mono (Below.size  (hBT _ _ _ _)))
          have c0 := hU1.c0
          have c1 := hU1.c1
          clear hU hT hBT hb o0
          go_wp2_with fail
          refine (list_calls hU1.C1).mono ?_
          rintro e y2 ⟨v1, rfl, o1, hb⟩
          obtain ⟨z1, cap1, rfl, I1, _, _⟩ := ints_of_own o1 hU1.C1.pos hU1.C1.wf
          have hU2 := hU1.below hb
          have I0 := I0.below hb
          have hB2 := hB1.trans (hb.mono hB1.size)
          have l0 := hU2.l0
          clear hU1 hB1 hb o1 c0 c1
          go_wp2_with fail
          refine (equal_calls I0 hU2.I0).mono ?_
          rintro e y3 ⟨rfl, hb⟩
          have hU3 := hU2.below hb
          have I1 := I1.below hb
          have hB3 := hB2.trans (hb.mono hB2.size)
          have l1 := hU3.l1
          clear hU2 hB2 hb l0 I0
          go_wp2_with fail
          refine (equal_calls I1 hU3.I1).mono ?_
          rintro e y4 ⟨rfl, hb⟩
          have HF := Lib.hid (And.intro (ScE.mk (hU3.below hb)) (hB3.trans (hb.mono hB3.size)))
          clear hU3 hB3 hb l1 I1
          simp only [decide_true]
          go_wp2
          go_roundw
          case rel => exact ⟨k + 1, by omega, by go_num, HF⟩
          case measure => simp [intOf]; omega
      by_cases h8 : d = 8
      · subst h8
        by_cases ha : 1 ≤ a ∧ a ≤ 8
        · rcases hij with ⟨rfl, rfl, hw⟩ | ⟨rfl, rfl, hw⟩
          all_goals
            go_wp2_with fail
            refine (new_calls a _ ha.1 ha.2).mono ?_
            rintro e y5 ⟨b', g', rfl, C', qb, qg, hb⟩
            obtain ⟨hB, hS', hX, hlq, hlr⟩ := HS.out
            have hz := hB.size
            have hlt' := hS'.lt
            have hlq' := hS'.ltA
            have hlr' := hS'.swap.ltA
            have hB5 := hB.trans (hb.mono hB.size)
            have hS5 := hS'.below hb
            obtain ⟨s0, s2, s3⟩ := hX.below hb
            have H5 := Lib.hid (And.intro hB5 hS5)
            clear hB hS' hX hlq hlr hB5 hS5 HS
            generalize (wr.alloc (.cells #[.int .i64 8, .int .i64 h, .int .i64 a, .int .i64 v] 52)) = wq at *
            have hq5 := hb.size
            have hC5 := C'.lt
            clear hb
            go_wp2_with fail
            refine (rnew_calls a _ ha.1 ha.2).mono ?_
            rintro e y6 ⟨rfl, I', hb⟩
            obtain ⟨hB, hS'⟩ := H5.out
            have hBx := hB.trans (hb.mono hB.size)
            have hSx := hS'.below hb
            have C' := C'.below hb
            have hp1 : 1 ≤ a.toNat := by omega
            generalize List.replicate a.toNat (0 : Int) = x' at C' I'
            have hBT := fun (o o' : Nat) (u u' : Value) => (hBx.setCell (p := ⟨bc, o, none⟩) hSx.lo.1 u).setCell (p := ⟨bl, o', none⟩) hSx.lo.2.1 u'
            have hTc := hSx.setC C' (by omega) hlq' hlr' qb qg hz
            have hTl := hS'.lt
            have hT := hTc.setL (I'.mod (mod_set (mod_refl y6 (some bc)) _ _) (fun q o s e => by cases e; omega)) hp1 (fun q o s e => by cases e; omega)
            have c0 := hSx.c0
            have c1 := hSx.c1
            have f0 := hSx.f0
            have l0 := hSx.l0
            have l1 := hSx.l1
            have e0 := hSx.e0
            have nb := hSx.nb
            have nb' := hSx.nb.symm
            clear hTc hB hS' hBx hSx hb hlq' hlr' hlt' hlt qb qg hz hTl hq5 hC5 H5 I' C'
            go_wp2_with fail
            (first | (have hU := (hT : Sc _ _ _ _ 0 1 _ _ _ _ _ _ _ _ _ _ _ _ _ _)) | (have hU := (hT.swap : Sc _ _ _ _ 0 1 _ _ _ _ _ _ _ _ _ _ _ _ _ _)))
            refine (list_calls hU.C0).mono ?_
            rintro e y1 ⟨v0, rfl, o0, hb⟩
            obtain ⟨z0, cap0, rfl, I0, _, _⟩ := ints_of_own o0 hU.C0.pos hU.C0.wf
            have hU1 := hU.below hb
            have hB1 := Below.trans  (hBT _ _ _ _) (hb.mono (Below.size  (hBT _ _ _ _)))
            have c0 := hU1.c0
            have c1 := hU1.c1
            clear hU hT hBT hb o0
            go_wp2_with fail
            refine (list_calls hU1.C1).mono ?_
            rintro e y2 ⟨v1, rfl, o1, hb⟩
            obtain ⟨z1, cap1, rfl, I1, _, _⟩ := ints_of_own o1 hU1.C1.pos hU1.C1.wf
            have hU2 := hU1.below hb
            have I0 := I0.below hb
            have hB2 := hB1.trans (hb.mono hB1.size)
            have l0 := hU2.l0
            clear hU1 hB1 hb o1 c0 c1
            go_wp2_with fail
            refine (equal_calls I0 hU2.I0).mono ?_
            rintro e y3 ⟨rfl, hb⟩
            have hU3 := hU2.below hb
            have I1 := I1.below hb
            have hB3 := hB2.trans (hb.mono hB2.size)
            have l1 := hU3.l1
            clear hU2 hB2 hb l0 I0
            go_wp2_with fail
            refine (equal_calls I1 hU3.I1).mono ?_
            rintro e y4 ⟨rfl, hb⟩
            have HF := Lib.hid (And.intro (ScE.mk (hU3.below hb)) (hB3.trans (hb.mono hB3.size)))
            clear hU3 hB3 hb l1 I1
            simp only [decide_true]
            go_wp2
            go_roundw
            case rel => exact ⟨k + 1, by omega, by go_num, HF⟩
            case measure => simp [intOf]; omega
        · have ha : a < 1 ∨ 8 < a := by omega
          rcases hij with ⟨rfl, rfl, hw⟩ | ⟨rfl, rfl, hw⟩
          all_goals
            go_wp2_with fail
            refine (new_bad a _ ha).mono ?_
            rintro e y5 ⟨rfl, rfl⟩
            obtain ⟨hB, hT, hX, _, _⟩ := HS.out
            obtain ⟨s0, s2, s3⟩ := hX
            have c0 := hT.c0
            have c1 := hT.c1
            have hBT := hB
            clear hB HS
            generalize (wr.alloc (.cells #[.int .i64 8, .int .i64 h, .int .i64 a, .int .i64 v] 52)) = wq at *
            go_wp2_with fail
            refine (rnew_bad a _ ha).mono ?_
            rintro e y6 ⟨rfl, rfl⟩
            go_wp2_with fail
            (first | (have hU := (hT : Sc _ _ _ _ 0 1 _ _ _ _ _ _ _ _ _ _ _ _ _ _)) | (have hU := (hT.swap : Sc _ _ _ _ 0 1 _ _ _ _ _ _ _ _ _ _ _ _ _ _)))
            refine (list_calls hU.C0).mono ?_
            rintro e y1 ⟨v0, rfl, o0, hb⟩
            obtain ⟨z0, cap0, rfl, I0, _, _⟩ := ints_of_own o0 hU.C0.pos hU.C0.wf
            have hU1 := hU.below hb
            have hB1 := Below.trans hBT (hb.mono (Below.size hBT))
            have c0 := hU1.c0
            have c1 := hU1.c1
            clear hU hT hBT hb o0
            go_wp2_with fail
            refine (list_calls hU1.C1).mono ?_
            rintro e y2 ⟨v1, rfl, o1, hb⟩
            obtain ⟨z1, cap1, rfl, I1, _, _⟩ := ints_of_own o1 hU1.C1.pos hU1.C1.wf
            have hU2 := hU1.below hb
            have I0 := I0.below hb
            have hB2 := hB1.trans (hb.mono hB1.size)
            have l0 := hU2.l0
            clear hU1 hB1 hb o1 c0 c1
            go_wp2_with fail
            refine (equal_calls I0 hU2.I0).mono ?_
            rintro e y3 ⟨rfl, hb⟩
            have hU3 := hU2.below hb
            have I1 := I1.below hb
            have hB3 := hB2.trans (hb.mono hB2.size)
            have l1 := hU3.l1
            clear hU2 hB2 hb l0 I0
            go_wp2_with fail
            refine (equal_calls I1 hU3.I1).mono ?_
            rintro e y4 ⟨rfl, hb⟩
            have HF := Lib.hid (And.intro (ScE.mk (hU3.below hb)) (hB3.trans (hb.mono hB3.size)))
            clear hU3 hB3 hb l1 I1
            simp only [decide_true]
            go_wp2
            go_roundw
            case rel => exact ⟨k + 1, by omega, by go_num, HF⟩
            case measure => simp [intOf]; omega
      rcases hij with ⟨rfl, rfl, hw⟩ | ⟨rfl, rfl, hw⟩
      · have h7' : (d == 7) = false := by simpa using h7
        have h8' : (d == 8) = false := by simpa using h8
        have hq1 : (wr.alloc (.cells #[.int .i64 d, .int .i64 h, .int .i64 a, .int .i64 v] 52)).cell? ⟨wr.heap.size, 1, none⟩ = some (.int .i64 h) := cell_new rfl
        obtain ⟨s0, s2, s3⟩ := HS.out.2.2.1
        go_wp2_with fail
        clear c0
        have c0 := HS.out.2.1.c0
        have c1 := HS.out.2.1.c1
        have l0 := HS.out.2.1.l0
        have l1 := HS.out.2.1.l1
        generalize (wr.alloc (.cells #[.int .i64 d, .int .i64 h, .int .i64 a, .int .i64 v] 52)) = wq at *
        refine wp_plan3_draw 20 [0, 1, 2, 3, 4, 5, 6, 7, 8, 9, 10, 11, 12, 13, 14] [15] [16, 17, 18, 19] (fun w' => w'.cell? ⟨bc, 0, none⟩ = some (.pointer (some ⟨b0, 0, none⟩)) ∧ w'.cell? ⟨bc, 1, none⟩ = some (.pointer (some ⟨b1, 0, none⟩)) ∧ w'.cell? ⟨bl, 0, none⟩ = some (.slice a0 n0 k0) ∧ w'.cell? ⟨bl, 1, none⟩ = some (.slice a1 n1 k1) ∧
          w'.cell? ⟨wr.heap.size, 0, none⟩ = some (.int .i64 d) ∧ w'.cell? ⟨wr.heap.size, 1, none⟩ = some (.int .i64 h) ∧ w'.cell? ⟨wr.heap.size, 2, none⟩ = some (.int .i64 a) ∧ w'.cell? ⟨wr.heap.size, 3, none⟩ = some (.int .i64 v)) mixed (by kernel_rfl) (by intro c a d v w h; cases d <;> exact h) ⟨c0, c1, l0, l1, s0, hq1, s2, s3⟩ ?_
        simp only [picks, List.map_cons, List.map_nil, List.getD_cons_zero, List.getD_cons_succ]
        try simp only [Act.put, List.setIfInBounds_toArray, List.set_cons_zero, List.set_cons_succ]
        have q1w : IntKind.i64.wrap 1 = 1 := by decide
        have q0w : IntKind.i64.wrap 0 = 0 := by decide
        repeat ((apply ReadRun.go rfl); (intro w1 hS; go_simp; first | done | exact rfl); (simp only [Act.put, List.setIfInBounds_toArray, List.set_cons_zero, List.set_cons_succ]); (try simp only [q1w, q0w]))
        refine ReadRun.done ?_
        refine MakeRun.go rfl (fun K hK => ?_)
        have hdr : Below wq.heap.size wq wq.drew := (Below.refl _ wq).drew
        have H1 := Lib.hid (And.intro (HS.out.1.trans (hdr.mono HS.out.1.size)) (HS.out.2.1.below hdr))
        have X1 := Lib.hid (And.intro (keep hdr s0) (And.intro (keep hdr hq1) (And.intro (keep hdr s2) (keep hdr s3))))
        go_wp2_with fail
        refine (play_calls H1.out.2.C0 H1.out.2.C1 H1.out.2.I0 H1.out.2.I1 H1.out.2.bg1 H1.out.2.gg.symm (fun q o s e => (H1.out.2.A0 q o s e).1) (fun q o s e => (H1.out.2.A1 q o s e).1) d h a v).mono ?_
        rintro e y5 ⟨a', n', c', rfl, I', C', hm, hq⟩
        have hS5 := H1.out.2.play C' hm
        have hzq : w.heap.size ≤ wq.drew.heap.size := H1.out.1.size
        have hB5 := below_of_mod H1.out.1 hm hzq H1.out.2.lo.2.2.1
        have hltq := H1.out.2.lt
        have hA' : ∀ q o s, a' = some ⟨q, o, s⟩ → q ≠ g0 ∧ q ≠ g1 ∧ q ≠ bc ∧ q ≠ bl := by
          intro q o s e
          rcases hq with ⟨rfl, _, _⟩ | ⟨q', rfl, hq'⟩
          · exact H1.out.2.A0 q o s e
          · cases e; omega
        have hn' : 1 ≤ n' := by have := I'.len; have := C'.pos; omega
        have hT := hS5.setL I' hn' hA'
        have hne : wr.heap.size ≠ g0 := by omega
        have s0 := hm.cell X1.out.1 (by simpa using hne)
        have s1 := hm.cell X1.out.2.1 (by simpa using hne)
        have s2 := hm.cell X1.out.2.2.1 (by simpa using hne)
        have s3 := hm.cell X1.out.2.2.2 (by simpa using hne)
        have c0 := hS5.c0
        have c1 := hS5.c1
        have l0 := hS5.l0
        have l1 := hS5.l1
        have e0 := hS5.e0
        have nb := hS5.nb
        have nb' := hS5.nb.symm
        have hBT := fun (o : Nat) (u : Value) => hB5.setCell (p := ⟨bl, o, none⟩) hS5.lo.2.1 u
        have HT := Lib.hid (And.intro hT hBT)
        clear hS5 hzq hB5 hltq hA' hn' hT hne hBT hm hq I' C' H1 X1 hdr
        (try go_wp2_with fail)
        refine ⟨⟨c0, c1, l0, l1, s0, s1, s2, s3⟩, ?_⟩
        try simp only [Act.put, List.setIfInBounds_toArray, List.set_cons_zero, List.set_cons_succ]
        refine MakeRun.done ?_
        repeat ((apply ReadRun.go rfl); (intro w1 hS; go_simp; first | done | exact rfl); (simp only [Act.put, List.setIfInBounds_toArray, List.set_cons_zero, List.set_cons_succ]); (try simp only [q1w, q0w]))
        refine ReadRun.done ?_
        simp only [List.drop_succ_cons, List.drop_zero]
        go_wp2_with fail
        obtain ⟨hT, hBT⟩ := HT.out
        (first | (have hU := (hT : Sc _ _ _ _ 0 1 _ _ _ _ _ _ _ _ _ _ _ _ _ _)) | (have hU := (hT.swap : Sc _ _ _ _ 0 1 _ _ _ _ _ _ _ _ _ _ _ _ _ _)))
        refine (list_calls hU.C0).mono ?_
        rintro e y1 ⟨v0, rfl, o0, hb⟩
        obtain ⟨z0, cap0, rfl, I0, _, _⟩ := ints_of_own o0 hU.C0.pos hU.C0.wf
        have hU1 := hU.below hb
        have hB1 := Below.trans (hBT _ _) (hb.mono (Below.size (hBT _ _)))
        have c0 := hU1.c0
        have c1 := hU1.c1
        clear hU hT hBT hb o0
        go_wp2_with fail
        refine (list_calls hU1.C1).mono ?_
        rintro e y2 ⟨v1, rfl, o1, hb⟩
        obtain ⟨z1, cap1, rfl, I1, _, _⟩ := ints_of_own o1 hU1.C1.pos hU1.C1.wf
        have hU2 := hU1.below hb
        have I0 := I0.below hb
        have hB2 := hB1.trans (hb.mono hB1.size)
        have l0 := hU2.l0
        clear hU1 hB1 hb o1 c0 c1
        go_wp2_with fail
        refine (equal_calls I0 hU2.I0).mono ?_
        rintro e y3 ⟨rfl, hb⟩
        have hU3 := hU2.below hb
        have I1 := I1.below hb
        have hB3 := hB2.trans (hb.mono hB2.size)
        have l1 := hU3.l1
        clear hU2 hB2 hb l0 I0
        go_wp2_with fail
        refine (equal_calls I1 hU3.I1).mono ?_
        rintro e y4 ⟨rfl, hb⟩
        have HF := Lib.hid (And.intro (ScE.mk (hU3.below hb)) (hB3.trans (hb.mono hB3.size)))
        clear hU3 hB3 hb l1 I1
        simp only [decide_true]
        go_wp2
        go_roundw
        case rel => exact ⟨k + 1, by omega, by go_num, HF⟩
        case measure => simp [intOf]; omega
      · have h7' : (d == 7) = false := by simpa using h7
        have h8' : (d == 8) = false := by simpa using h8
        have hq1 : (wr.alloc (.cells #[.int .i64 d, .int .i64 h, .int .i64 a, .int .i64 v] 52)).cell? ⟨wr.heap.size, 1, none⟩ = some (.int .i64 h) := cell_new rfl
        obtain ⟨s0, s2, s3⟩ := HS.out.2.2.1
        go_wp2_with fail
        clear c0
        have c0 := HS.out.2.1.c0
        have c1 := HS.out.2.1.c1
        have l0 := HS.out.2.1.l0
        have l1 := HS.out.2.1.l1
        generalize (wr.alloc (.cells #[.int .i64 d, .int .i64 h, .int .i64 a, .int .i64 v] 52)) = wq at *
        refine wp_plan3_draw 20 [0, 1, 2, 3, 4, 5, 6, 7, 8, 9, 10, 11, 12, 13, 14] [15] [16, 17, 18, 19] (fun w' => w'.cell? ⟨bc, 1, none⟩ = some (.pointer (some ⟨b0, 0, none⟩)) ∧ w'.cell? ⟨bc, 0, none⟩ = some (.pointer (some ⟨b1, 0, none⟩)) ∧ w'.cell? ⟨bl, 1, none⟩ = some (.slice a0 n0 k0) ∧ w'.cell? ⟨bl, 0, none⟩ = some (.slice a1 n1 k1) ∧
          w'.cell? ⟨wr.heap.size, 0, none⟩ = some (.int .i64 d) ∧ w'.cell? ⟨wr.heap.size, 1, none⟩ = some (.int .i64 h) ∧ w'.cell? ⟨wr.heap.size, 2, none⟩ = some (.int .i64 a) ∧ w'.cell? ⟨wr.heap.size, 3, none⟩ = some (.int .i64 v)) mixed (by kernel_rfl) (by intro c a d v w h; cases d <;> exact h) ⟨c0, c1, l0, l1, s0, hq1, s2, s3⟩ ?_
        simp only [picks, List.map_cons, List.map_nil, List.getD_cons_zero, List.getD_cons_succ]
        try simp only [Act.put, List.setIfInBounds_toArray, List.set_cons_zero, List.set_cons_succ]
        have q1w : IntKind.i64.wrap 1 = 1 := by decide
        have q0w : IntKind.i64.wrap 0 = 0 := by decide
        repeat ((apply ReadRun.go rfl); (intro w1 hS; go_simp; first | done | exact rfl); (simp only [Act.put, List.setIfInBounds_toArray, List.set_cons_zero, List.set_cons_succ]); (try simp only [q1w, q0w]))
        refine ReadRun.done ?_
        refine MakeRun.go rfl (fun K hK => ?_)
        have hdr : Below wq.heap.size wq wq.drew := (Below.refl _ wq).drew
        have H1 := Lib.hid (And.intro (HS.out.1.trans (hdr.mono HS.out.1.size)) (HS.out.2.1.below hdr))
        have X1 := Lib.hid (And.intro (keep hdr s0) (And.intro (keep hdr hq1) (And.intro (keep hdr s2) (keep hdr s3))))
        go_wp2_with fail
        refine (play_calls H1.out.2.C0 H1.out.2.C1 H1.out.2.I0 H1.out.2.I1 H1.out.2.bg1 H1.out.2.gg.symm (fun q o s e => (H1.out.2.A0 q o s e).1) (fun q o s e => (H1.out.2.A1 q o s e).1) d h a v).mono ?_
        rintro e y5 ⟨a', n', c', rfl, I', C', hm, hq⟩
        have hS5 := H1.out.2.play C' hm
        have hzq : w.heap.size ≤ wq.drew.heap.size := H1.out.1.size
        have hB5 := below_of_mod H1.out.1 hm hzq H1.out.2.lo.2.2.1
        have hltq := H1.out.2.lt
        have hA' : ∀ q o s, a' = some ⟨q, o, s⟩ → q ≠ g0 ∧ q ≠ g1 ∧ q ≠ bc ∧ q ≠ bl := by
          intro q o s e
          rcases hq with ⟨rfl, _, _⟩ | ⟨q', rfl, hq'⟩
          · exact H1.out.2.A0 q o s e
          · cases e; omega
        have hn' : 1 ≤ n' := by have := I'.len; have := C'.pos; omega
        have hT := hS5.setL I' hn' hA'
        have hne : wr.heap.size ≠ g0 := by omega
        have s0 := hm.cell X1.out.1 (by simpa using hne)
        have s1 := hm.cell X1.out.2.1 (by simpa using hne)
        have s2 := hm.cell X1.out.2.2.1 (by simpa using hne)
        have s3 := hm.cell X1.out.2.2.2 (by simpa using hne)
        have c0 := hS5.c0
        have c1 := hS5.c1
        have l0 := hS5.l0
        have l1 := hS5.l1
        have e0 := hS5.e0
        have nb := hS5.nb
        have nb' := hS5.nb.symm
        have hBT := fun (o : Nat) (u : Value) => hB5.setCell (p := ⟨bl, o, none⟩) hS5.lo.2.1 u
        have HT := Lib.hid (And.intro hT hBT)
        clear hS5 hzq hB5 hltq hA' hn' hT hne hBT hm hq I' C' H1 X1 hdr
        (try go_wp2_with fail)
        refine ⟨⟨c0, c1, l0, l1, s0, s1, s2, s3⟩, ?_⟩
        try simp only [Act.put, List.setIfInBounds_toArray, List.set_cons_zero, List.set_cons_succ]
        refine MakeRun.done ?_
        repeat ((apply ReadRun.go rfl); (intro w1 hS; go_simp; first | done | exact rfl); (simp only [Act.put, List.setIfInBounds_toArray, List.set_cons_zero, List.set_cons_succ]); (try simp only [q1w, q0w]))
        refine ReadRun.done ?_
        simp only [List.drop_succ_cons, List.drop_zero]
        go_wp2_with fail
        obtain ⟨hT, hBT⟩ := HT.out
        (first | (have hU := (hT : Sc _ _ _ _ 0 1 _ _ _ _ _ _ _ _ _ _ _ _ _ _)) | (have hU := (hT.swap : Sc _ _ _ _ 0 1 _ _ _ _ _ _ _ _ _ _ _ _ _ _)))
        refine (list_calls hU.C0).mono ?_
        rintro e y1 ⟨v0, rfl, o0, hb⟩
        obtain ⟨z0, cap0, rfl, I0, _, _⟩ := ints_of_own o0 hU.C0.pos hU.C0.wf
        have hU1 := hU.below hb
        have hB1 := Below.trans (hBT _ _) (hb.mono (Below.size (hBT _ _)))
        have c0 := hU1.c0
        have c1 := hU1.c1
        clear hU hT hBT hb o0
        go_wp2_with fail
        refine (list_calls hU1.C1).mono ?_
        rintro e y2 ⟨v1, rfl, o1, hb⟩
        obtain ⟨z1, cap1, rfl, I1, _, _⟩ := ints_of_own o1 hU1.C1.pos hU1.C1.wf
        have hU2 := hU1.below hb
        have I0 := I0.below hb
        have hB2 := hB1.trans (hb.mono hB1.size)
        have l0 := hU2.l0
        clear hU1 hB1 hb o1 c0 c1
        go_wp2_with fail
        refine (equal_calls I0 hU2.I0).mono ?_
        rintro e y3 ⟨rfl, hb⟩
        have hU3 := hU2.below hb
        have I1 := I1.below hb
        have hB3 := hB2.trans (hb.mono hB2.size)
        have l1 := hU3.l1
        clear hU2 hB2 hb l0 I0
        go_wp2_with fail
        refine (equal_calls I1 hU3.I1).mono ?_
        rintro e y4 ⟨rfl, hb⟩
        have HF := Lib.hid (And.intro (ScE.mk (hU3.below hb)) (hB3.trans (hb.mono hB3.size)))
        clear hU3 hB3 hb l1 I1
        simp only [decide_true]
        go_wp2
        go_roundw
        case rel => exact ⟨k + 1, by omega, by go_num, HF⟩
        case measure => simp [intOf]; omega
    · go_wp2
      go_ret
      exact ⟨rfl, H.out.2⟩

theorem script_law (hx : IsInts w a0 n0 k0 x) (hy : IsInts w a1 n1 k1 y) (hs : IsSts w a2 n2 k2 l) :
    Calls Try.prog 7 #[.slice a0 n0 k0, .slice a1 n1 k1, .slice a2 n2 k2] w fun e w' => e = .returned (.bool true) ∧ Below w.heap.size w w' := by
  cases ho : okClock x
  · exact script_bad0 hx hy ho
  cases ho1 : okClock y
  · exact script_bad1 hx hy ho ho1
  exact script_good hx hy hs ho ho1
end
end Go.Proofs.Ytngmcbliihohcaa
