/-
  Equality of lists of events, of both; Same of the program and of the document.
-/
import Derived.Test.YtjhlehepnhbbaaaRNor
set_option linter.unusedSimpArgs false
set_option linter.unusedVariables false
namespace Go.Proofs.Ytjhlehepnhbbaaa
open Go.ChangeShapes Go.WideShapes Go.ChangeAt Go.RowKit Go.Deep

open Classical in
noncomputable def eqB (xs ys : List Ev) : Bool := decide (xs = ys)
theorem eqB_iff {xs ys : List Ev} : eqB xs ys = true ↔ xs = ys := by unfold eqB; simp
theorem eqB_self (xs : List Ev) : eqB xs xs = true := eqB_iff.2 rfl
theorem eqB_no {xs ys : List Ev} (h : xs ≠ ys) : eqB xs ys = false := by
  cases hb : eqB xs ys
  · rfl
  · exact absurd (eqB_iff.1 hb) h
theorem evs_ne {xs ys : List Ev} {k : Nat} {x y : Ev} (hx : xs[k]? = some x) (hy : ys[k]? = some y) (h : x ≠ y) : eqB xs ys = false :=
  eqB_no fun e => h (by rw [e, hy] at hx; exact (Option.some.inj hx).symm)
theorem evs_eq {xs ys : List Ev} {n : Nat} (hx : xs.length = n) (hy : ys.length = n) (h : ∀ k, k < n → xs.getD k ev00 = ys.getD k ev00) : eqB xs ys = true :=
  eqB_iff.2 (ext_getD (by rw [hx, hy]) (fun u hu => h u (by omega)))
theorem evs_len_ne {xs ys : List Ev} {n m : Nat} (hx : xs.length = n) (hy : ys.length = m) (h : n ≠ m) : eqB xs ys = false :=
  eqB_no fun e => h (by rw [← hx, ← hy, e])

set_option maxRecDepth 20000 in
set_option maxHeartbeats 16000000 in
theorem eqE_calls {w : World} {a0 b0 : Option Addr} {n c m d : Nat} {xs ys : List Ev} (h : IsEvs w a0 n c xs) (h' : IsEvs w b0 m d ys) :
    Calls Try.prog 50 #[.slice a0 n c, .slice b0 m d] w fun e w' => e = .returned (.bool (eqB xs ys)) ∧ Below w.heap.size w w' := by
  have hnm : n ≤ 9223372036854775807 := by have := h.le; have := h.cap; unfold maxLen at *; omega
  have hmm : m ≤ 9223372036854775807 := by have := h'.le; have := h'.cap; unfold maxLen at *; omega
  have H := Lib.hid h
  have H' := Lib.hid h'
  clear h h'
  by_cases hnm2 : n = m
  case neg =>
    have Hn := Lib.hid (evs_len_ne H.out.len H'.out.len hnm2)
    have hb1 : ((n : Int) != (m : Int)) = true := by simpa [bne] using (show (n : Int) ≠ (m : Int) by omega)
    have hb2 : (n != m) = true := by simpa [bne] using hnm2
    clear hnm2
    go_enter Try.func50, Try.ntmps50
    go_wp2
    go_ret
    exact ⟨by rw [Hn.out]; rfl, Below.refl ..⟩
  subst hnm2
  go_enter Try.func50, Try.ntmps50
  go_wp2_with fail
  go_loopw [5, 13] (fun _ x wr => ∃ k : Nat, k ≤ n ∧ x = .int .i64 k ∧ Hid (∀ u, u < k → xs.getD u ev00 = ys.getD u ev00) ∧ Hid (Below w.heap.size w wr)) (fun _ x _ => n - (intOf x).toNat)
  case atStart => exact ⟨0, Nat.zero_le _, by go_num, fun u hu => absurd hu (Nat.not_lt_zero _), Below.refl ..⟩
  case round =>
    obtain ⟨k, hk, rfl, HP, HB⟩ := hrel
    by_cases hlt : k < n
    · obtain ⟨bx, ox, x, rfl, hx, _, c0, c1, c2, c3, c4⟩ := (H.out.below HB.out).at hlt
      obtain ⟨by', oy, y, rfl, hy, _, d0, d1, d2, d3, d4⟩ := (H'.out.below HB.out).at hlt
      have Hxy := Lib.hid (And.intro hx hy)
      have HNE : Hid (x ≠ y → eqB xs ys = false) := fun h => evs_ne Hxy.out.1 Hxy.out.2 h
      clear hx hy
      obtain ⟨xt, xk, xo, xv, xb⟩ := x
      obtain ⟨yt, yk, yo, yv, yb⟩ := y
      simp only at c0 c1 c2 c3 c4 d0 d1 d2 d3 d4
      go_wp2_with fail
      by_cases ht : xt = yt
      · subst ht
        by_cases hk : xk = yk
        · subst hk
          by_cases ho : xo = yo
          · subst ho
            by_cases hv : xv = yv
            · subst hv
              by_cases hb : xb = yb
              · subst hb
                have HP2 : Hid (∀ u, u < k + 1 → xs.getD u ev00 = ys.getD u ev00) := fun u hu => by
                  by_cases h : u = k
                  · rw [h, getD_of Hxy.out.1, getD_of Hxy.out.2]
                  · exact HP.out u (by omega)
                clear HNE
                refine wp_ext_draw 9 mixed (by kernel_rfl) ?_
                simp only [List.take_succ_cons, List.take_zero, List.drop_succ_cons, List.drop_zero]
                repeat ((first | ((apply TextRun.go rfl rfl rfl); (focus (intro w1 hS K hK; have hc := bcell hS; have hs := blt hS; have c0 := keep hS c0; have c1 := keep hS c1; have c2 := keep hS c2; have c3 := keep hS c3; have c4 := keep hS c4; have d0 := keep hS d0; have d1 := keep hS d1; have d2 := keep hS d2; have d3 := keep hS d3; have d4 := keep hS d4; go_wp2_with (fail); first | done | exact hS | exact hS.trans (hb.mono hS.size)))) | (refine TextRun.skip rfl ?_) | ((refine TextRun.wantedT rfl rfl rfl ?_); (apply Exists.intro); (apply And.intro); (focus (intro w1 hS K hK; have hc := bcell hS; have hs := blt hS; have c0 := keep hS c0; have c1 := keep hS c1; have c2 := keep hS c2; have c3 := keep hS c3; have c4 := keep hS c4; have d0 := keep hS d0; have d1 := keep hS d1; have d2 := keep hS d2; have d3 := keep hS d3; have d4 := keep hS d4; go_wp2_with (fail); first | done | exact hS | exact hS.trans (hb.mono hS.size))))); (simp only [Act.put, List.setIfInBounds_toArray, List.set_cons_zero, List.set_cons_succ]))
                refine TextRun.done ?_
                intro w2 hb
                have HB2 := Lib.hid (HB.out.trans (hb.mono HB.out.size))
                clear hb c0 c1 c2 c3 c4 d0 d1 d2 d3 d4
                go_wp2
                go_roundw
                case rel => exact ⟨k + 1, hlt, by go_num, HP2.out, HB2.out⟩
                case measure => exact meas hlt
              · have hneb : (xb == yb) = false := by simpa using hb
                have Hn := Lib.hid (HNE.out (fun e => hb (congrArg Ev.b e)))
                clear HNE
                refine wp_ext_draw 9 mixed (by kernel_rfl) ?_
                simp only [List.take_succ_cons, List.take_zero, List.drop_succ_cons, List.drop_zero]
                repeat ((first | ((apply TextRun.go rfl rfl rfl); (focus (intro w1 hS K hK; have hc := bcell hS; have hs := blt hS; have c0 := keep hS c0; have c1 := keep hS c1; have c2 := keep hS c2; have c3 := keep hS c3; have c4 := keep hS c4; have d0 := keep hS d0; have d1 := keep hS d1; have d2 := keep hS d2; have d3 := keep hS d3; have d4 := keep hS d4; go_wp2_with (fail); first | done | exact hS | exact hS.trans (hb.mono hS.size)))) | (refine TextRun.skip rfl ?_) | ((refine TextRun.wantedT rfl rfl rfl ?_); (apply Exists.intro); (apply And.intro); (focus (intro w1 hS K hK; have hc := bcell hS; have hs := blt hS; have c0 := keep hS c0; have c1 := keep hS c1; have c2 := keep hS c2; have c3 := keep hS c3; have c4 := keep hS c4; have d0 := keep hS d0; have d1 := keep hS d1; have d2 := keep hS d2; have d3 := keep hS d3; have d4 := keep hS d4; go_wp2_with (fail); first | done | exact hS | exact hS.trans (hb.mono hS.size))))); (simp only [Act.put, List.setIfInBounds_toArray, List.set_cons_zero, List.set_cons_succ]))
                refine TextRun.done ?_
                intro w2 hb
                have HB2 := Lib.hid (HB.out.trans (hb.mono HB.out.size))
                clear hb c0 c1 c2 c3 c4 d0 d1 d2 d3 d4
                go_wp2
                go_ret
                exact ⟨by rw [Hn.out]; rfl, HB2.out⟩
            · have hnev : (xv == yv) = false := by simpa using hv
              have Hn := Lib.hid (HNE.out (fun e => hv (congrArg Ev.v e)))
              clear HNE
              refine wp_ext_draw 9 mixed (by kernel_rfl) ?_
              simp only [List.take_succ_cons, List.take_zero, List.drop_succ_cons, List.drop_zero]
              repeat ((first | ((apply TextRun.go rfl rfl rfl); (focus (intro w1 hS K hK; have hc := bcell hS; have hs := blt hS; have c0 := keep hS c0; have c1 := keep hS c1; have c2 := keep hS c2; have c3 := keep hS c3; have c4 := keep hS c4; have d0 := keep hS d0; have d1 := keep hS d1; have d2 := keep hS d2; have d3 := keep hS d3; have d4 := keep hS d4; go_wp2_with (fail); first | done | exact hS | exact hS.trans (hb.mono hS.size)))) | (refine TextRun.skip rfl ?_) | ((refine TextRun.wantedT rfl rfl rfl ?_); (apply Exists.intro); (apply And.intro); (focus (intro w1 hS K hK; have hc := bcell hS; have hs := blt hS; have c0 := keep hS c0; have c1 := keep hS c1; have c2 := keep hS c2; have c3 := keep hS c3; have c4 := keep hS c4; have d0 := keep hS d0; have d1 := keep hS d1; have d2 := keep hS d2; have d3 := keep hS d3; have d4 := keep hS d4; go_wp2_with (fail); first | done | exact hS | exact hS.trans (hb.mono hS.size))))); (simp only [Act.put, List.setIfInBounds_toArray, List.set_cons_zero, List.set_cons_succ]))
              refine TextRun.done ?_
              intro w2 hb
              have HB2 := Lib.hid (HB.out.trans (hb.mono HB.out.size))
              clear hb c0 c1 c2 c3 c4 d0 d1 d2 d3 d4
              go_wp2
              go_ret
              exact ⟨by rw [Hn.out]; rfl, HB2.out⟩
          · have hneo : (xo == yo) = false := by simpa using ho
            have Hn := Lib.hid (HNE.out (fun e => ho (congrArg Ev.o e)))
            clear HNE
            refine wp_ext_draw 9 mixed (by kernel_rfl) ?_
            simp only [List.take_succ_cons, List.take_zero, List.drop_succ_cons, List.drop_zero]
            repeat ((first | ((apply TextRun.go rfl rfl rfl); (focus (intro w1 hS K hK; have hc := bcell hS; have hs := blt hS; have c0 := keep hS c0; have c1 := keep hS c1; have c2 := keep hS c2; have c3 := keep hS c3; have c4 := keep hS c4; have d0 := keep hS d0; have d1 := keep hS d1; have d2 := keep hS d2; have d3 := keep hS d3; have d4 := keep hS d4; go_wp2_with (fail); first | done | exact hS | exact hS.trans (hb.mono hS.size)))) | (refine TextRun.skip rfl ?_) | ((refine TextRun.wantedT rfl rfl rfl ?_); (apply Exists.intro); (apply And.intro); (focus (intro w1 hS K hK; have hc := bcell hS; have hs := blt hS; have c0 := keep hS c0; have c1 := keep hS c1; have c2 := keep hS c2; have c3 := keep hS c3; have c4 := keep hS c4; have d0 := keep hS d0; have d1 := keep hS d1; have d2 := keep hS d2; have d3 := keep hS d3; have d4 := keep hS d4; go_wp2_with (fail); first | done | exact hS | exact hS.trans (hb.mono hS.size))))); (simp only [Act.put, List.setIfInBounds_toArray, List.set_cons_zero, List.set_cons_succ]))
            refine TextRun.done ?_
            intro w2 hb
            have HB2 := Lib.hid (HB.out.trans (hb.mono HB.out.size))
            clear hb c0 c1 c2 c3 c4 d0 d1 d2 d3 d4
            go_wp2
            go_ret
            exact ⟨by rw [Hn.out]; rfl, HB2.out⟩
        · have hnek : (xk == yk) = false := by simpa using hk
          have Hn := Lib.hid (HNE.out (fun e => hk (congrArg Ev.k e)))
          clear HNE
          refine wp_ext_draw 9 mixed (by kernel_rfl) ?_
          simp only [List.take_succ_cons, List.take_zero, List.drop_succ_cons, List.drop_zero]
          repeat ((first | ((apply TextRun.go rfl rfl rfl); (focus (intro w1 hS K hK; have hc := bcell hS; have hs := blt hS; have c0 := keep hS c0; have c1 := keep hS c1; have c2 := keep hS c2; have c3 := keep hS c3; have c4 := keep hS c4; have d0 := keep hS d0; have d1 := keep hS d1; have d2 := keep hS d2; have d3 := keep hS d3; have d4 := keep hS d4; go_wp2_with (fail); first | done | exact hS | exact hS.trans (hb.mono hS.size)))) | (refine TextRun.skip rfl ?_) | ((refine TextRun.wantedT rfl rfl rfl ?_); (apply Exists.intro); (apply And.intro); (focus (intro w1 hS K hK; have hc := bcell hS; have hs := blt hS; have c0 := keep hS c0; have c1 := keep hS c1; have c2 := keep hS c2; have c3 := keep hS c3; have c4 := keep hS c4; have d0 := keep hS d0; have d1 := keep hS d1; have d2 := keep hS d2; have d3 := keep hS d3; have d4 := keep hS d4; go_wp2_with (fail); first | done | exact hS | exact hS.trans (hb.mono hS.size))))); (simp only [Act.put, List.setIfInBounds_toArray, List.set_cons_zero, List.set_cons_succ]))
          refine TextRun.done ?_
          intro w2 hb
          have HB2 := Lib.hid (HB.out.trans (hb.mono HB.out.size))
          clear hb c0 c1 c2 c3 c4 d0 d1 d2 d3 d4
          go_wp2
          go_ret
          exact ⟨by rw [Hn.out]; rfl, HB2.out⟩
      · have hnet : (xt == yt) = false := by simpa using ht
        have Hn := Lib.hid (HNE.out (fun e => ht (congrArg Ev.t e)))
        clear HNE
        refine wp_ext_draw 9 mixed (by kernel_rfl) ?_
        simp only [List.take_succ_cons, List.take_zero, List.drop_succ_cons, List.drop_zero]
        repeat ((first | ((apply TextRun.go rfl rfl rfl); (focus (intro w1 hS K hK; have hc := bcell hS; have hs := blt hS; have c0 := keep hS c0; have c1 := keep hS c1; have c2 := keep hS c2; have c3 := keep hS c3; have c4 := keep hS c4; have d0 := keep hS d0; have d1 := keep hS d1; have d2 := keep hS d2; have d3 := keep hS d3; have d4 := keep hS d4; go_wp2_with (fail); first | done | exact hS | exact hS.trans (hb.mono hS.size)))) | (refine TextRun.skip rfl ?_) | ((refine TextRun.wantedT rfl rfl rfl ?_); (apply Exists.intro); (apply And.intro); (focus (intro w1 hS K hK; have hc := bcell hS; have hs := blt hS; have c0 := keep hS c0; have c1 := keep hS c1; have c2 := keep hS c2; have c3 := keep hS c3; have c4 := keep hS c4; have d0 := keep hS d0; have d1 := keep hS d1; have d2 := keep hS d2; have d3 := keep hS d3; have d4 := keep hS d4; go_wp2_with (fail); first | done | exact hS | exact hS.trans (hb.mono hS.size))))); (simp only [Act.put, List.setIfInBounds_toArray, List.set_cons_zero, List.set_cons_succ]))
        refine TextRun.done ?_
        intro w2 hb
        have HB2 := Lib.hid (HB.out.trans (hb.mono HB.out.size))
        clear hb c0 c1 c2 c3 c4 d0 d1 d2 d3 d4
        go_wp2
        go_ret
        exact ⟨by rw [Hn.out]; rfl, HB2.out⟩
    · have hlt : n = k := Nat.le_antisymm (Nat.le_of_not_lt hlt) hk
      subst hlt
      have Hy := Lib.hid (evs_eq H.out.len H'.out.len HP.out)
      clear HP
      go_wp2
      go_ret
      exact ⟨by rw [Hy.out]; rfl, HB.out⟩

set_option maxRecDepth 20000 in
set_option maxHeartbeats 16000000 in
theorem sameE_calls {w : World} {a0 b0 : Option Addr} {n c m d : Nat} {xs ys : List Ev} (h : IsEvs w a0 n c xs) (h' : IsEvs w b0 m d ys) :
    Calls Try.prog 17 #[.slice a0 n c, .slice b0 m d] w fun e w' => e = .returned (.bool (eqB xs ys)) ∧ Below w.heap.size w w' := by
  have hnm : n ≤ 9223372036854775807 := by have := h.le; have := h.cap; unfold maxLen at *; omega
  have hmm : m ≤ 9223372036854775807 := by have := h'.le; have := h'.cap; unfold maxLen at *; omega
  have H := Lib.hid h
  have H' := Lib.hid h'
  clear h h'
  by_cases hnm2 : n = m
  case neg =>
    have Hn := Lib.hid (evs_len_ne H.out.len H'.out.len hnm2)
    have hb1 : ((n : Int) != (m : Int)) = true := by simpa [bne] using (show (n : Int) ≠ (m : Int) by omega)
    have hb2 : (n != m) = true := by simpa [bne] using hnm2
    clear hnm2
    go_enter Try.func17, Try.ntmps17
    go_wp2
    go_ret
    exact ⟨by rw [Hn.out]; rfl, Below.refl ..⟩
  subst hnm2
  go_enter Try.func17, Try.ntmps17
  go_wp2_with fail
  go_loopw [5] (fun x wr => ∃ k : Nat, k ≤ n ∧ x = .int .i64 k ∧ Hid (∀ u, u < k → xs.getD u ev00 = ys.getD u ev00) ∧ Hid (Below w.heap.size w wr)) (fun x _ => n - (intOf x).toNat)
  case atStart => exact ⟨0, Nat.zero_le _, by go_num, fun u hu => absurd hu (Nat.not_lt_zero _), Below.refl ..⟩
  case round =>
    obtain ⟨k, hk, rfl, HP, HB⟩ := hrel
    by_cases hlt : k < n
    · obtain ⟨bx, ox, x, rfl, hx, _, c0, c1, c2, c3, c4⟩ := (H.out.below HB.out).at hlt
      obtain ⟨by', oy, y, rfl, hy, _, d0, d1, d2, d3, d4⟩ := (H'.out.below HB.out).at hlt
      have Hxy := Lib.hid (And.intro hx hy)
      have HNE : Hid (x ≠ y → eqB xs ys = false) := fun h => evs_ne Hxy.out.1 Hxy.out.2 h
      clear hx hy
      obtain ⟨xt, xk, xo, xv, xb⟩ := x
      obtain ⟨yt, yk, yo, yv, yb⟩ := y
      simp only at c0 c1 c2 c3 c4 d0 d1 d2 d3 d4
      go_wp2_with fail
      by_cases ht : xt = yt
      · subst ht
        by_cases hk : xk = yk
        · subst hk
          by_cases ho : xo = yo
          · subst ho
            by_cases hv : xv = yv
            · subst hv
              by_cases hb : xb = yb
              · subst hb
                have HP2 : Hid (∀ u, u < k + 1 → xs.getD u ev00 = ys.getD u ev00) := fun u hu => by
                  by_cases h : u = k
                  · rw [h, getD_of Hxy.out.1, getD_of Hxy.out.2]
                  · exact HP.out u (by omega)
                clear HNE
                refine wp_ext_draw 9 mixed (by kernel_rfl) ?_
                simp only [List.take_succ_cons, List.take_zero, List.drop_succ_cons, List.drop_zero]
                repeat ((first | ((apply TextRun.go rfl rfl rfl); (focus (intro w1 hS K hK; have hc := bcell hS; have hs := blt hS; have c0 := keep hS c0; have c1 := keep hS c1; have c2 := keep hS c2; have c3 := keep hS c3; have c4 := keep hS c4; have d0 := keep hS d0; have d1 := keep hS d1; have d2 := keep hS d2; have d3 := keep hS d3; have d4 := keep hS d4; go_wp2_with (fail); first | done | exact hS | exact hS.trans (hb.mono hS.size)))) | (refine TextRun.skip rfl ?_) | ((refine TextRun.wantedT rfl rfl rfl ?_); (apply Exists.intro); (apply And.intro); (focus (intro w1 hS K hK; have hc := bcell hS; have hs := blt hS; have c0 := keep hS c0; have c1 := keep hS c1; have c2 := keep hS c2; have c3 := keep hS c3; have c4 := keep hS c4; have d0 := keep hS d0; have d1 := keep hS d1; have d2 := keep hS d2; have d3 := keep hS d3; have d4 := keep hS d4; go_wp2_with (fail); first | done | exact hS | exact hS.trans (hb.mono hS.size))))); (simp only [Act.put, List.setIfInBounds_toArray, List.set_cons_zero, List.set_cons_succ]))
                refine TextRun.done ?_
                intro w2 hb
                have HB2 := Lib.hid (HB.out.trans (hb.mono HB.out.size))
                clear hb c0 c1 c2 c3 c4 d0 d1 d2 d3 d4
                go_wp2
                go_roundw
                case rel => exact ⟨k + 1, hlt, by go_num, HP2.out, HB2.out⟩
                case measure => exact meas hlt
              · have hneb : (xb == yb) = false := by simpa using hb
                have Hn := Lib.hid (HNE.out (fun e => hb (congrArg Ev.b e)))
                clear HNE
                refine wp_ext_draw 9 mixed (by kernel_rfl) ?_
                simp only [List.take_succ_cons, List.take_zero, List.drop_succ_cons, List.drop_zero]
                repeat ((first | ((apply TextRun.go rfl rfl rfl); (focus (intro w1 hS K hK; have hc := bcell hS; have hs := blt hS; have c0 := keep hS c0; have c1 := keep hS c1; have c2 := keep hS c2; have c3 := keep hS c3; have c4 := keep hS c4; have d0 := keep hS d0; have d1 := keep hS d1; have d2 := keep hS d2; have d3 := keep hS d3; have d4 := keep hS d4; go_wp2_with (fail); first | done | exact hS | exact hS.trans (hb.mono hS.size)))) | (refine TextRun.skip rfl ?_) | ((refine TextRun.wantedT rfl rfl rfl ?_); (apply Exists.intro); (apply And.intro); (focus (intro w1 hS K hK; have hc := bcell hS; have hs := blt hS; have c0 := keep hS c0; have c1 := keep hS c1; have c2 := keep hS c2; have c3 := keep hS c3; have c4 := keep hS c4; have d0 := keep hS d0; have d1 := keep hS d1; have d2 := keep hS d2; have d3 := keep hS d3; have d4 := keep hS d4; go_wp2_with (fail); first | done | exact hS | exact hS.trans (hb.mono hS.size))))); (simp only [Act.put, List.setIfInBounds_toArray, List.set_cons_zero, List.set_cons_succ]))
                refine TextRun.done ?_
                intro w2 hb
                have HB2 := Lib.hid (HB.out.trans (hb.mono HB.out.size))
                clear hb c0 c1 c2 c3 c4 d0 d1 d2 d3 d4
                go_wp2
                go_ret
                exact ⟨by rw [Hn.out]; rfl, HB2.out⟩
            · have hnev : (xv == yv) = false := by simpa using hv
              have Hn := Lib.hid (HNE.out (fun e => hv (congrArg Ev.v e)))
              clear HNE
              refine wp_ext_draw 9 mixed (by kernel_rfl) ?_
              simp only [List.take_succ_cons, List.take_zero, List.drop_succ_cons, List.drop_zero]
              repeat ((first | ((apply TextRun.go rfl rfl rfl); (focus (intro w1 hS K hK; have hc := bcell hS; have hs := blt hS; have c0 := keep hS c0; have c1 := keep hS c1; have c2 := keep hS c2; have c3 := keep hS c3; have c4 := keep hS c4; have d0 := keep hS d0; have d1 := keep hS d1; have d2 := keep hS d2; have d3 := keep hS d3; have d4 := keep hS d4; go_wp2_with (fail); first | done | exact hS | exact hS.trans (hb.mono hS.size)))) | (refine TextRun.skip rfl ?_) | ((refine TextRun.wantedT rfl rfl rfl ?_); (apply Exists.intro); (apply And.intro); (focus (intro w1 hS K hK; have hc := bcell hS; have hs := blt hS; have c0 := keep hS c0; have c1 := keep hS c1; have c2 := keep hS c2; have c3 := keep hS c3; have c4 := keep hS c4; have d0 := keep hS d0; have d1 := keep hS d1; have d2 := keep hS d2; have d3 := keep hS d3; have d4 := keep hS d4; go_wp2_with (fail); first | done | exact hS | exact hS.trans (hb.mono hS.size))))); (simp only [Act.put, List.setIfInBounds_toArray, List.set_cons_zero, List.set_cons_succ]))
              refine TextRun.done ?_
              intro w2 hb
              have HB2 := Lib.hid (HB.out.trans (hb.mono HB.out.size))
              clear hb c0 c1 c2 c3 c4 d0 d1 d2 d3 d4
              go_wp2
              go_ret
              exact ⟨by rw [Hn.out]; rfl, HB2.out⟩
          · have hneo : (xo == yo) = false := by simpa using ho
            have Hn := Lib.hid (HNE.out (fun e => ho (congrArg Ev.o e)))
            clear HNE
            refine wp_ext_draw 9 mixed (by kernel_rfl) ?_
            simp only [List.take_succ_cons, List.take_zero, List.drop_succ_cons, List.drop_zero]
            repeat ((first | ((apply TextRun.go rfl rfl rfl); (focus (intro w1 hS K hK; have hc := bcell hS; have hs := blt hS; have c0 := keep hS c0; have c1 := keep hS c1; have c2 := keep hS c2; have c3 := keep hS c3; have c4 := keep hS c4; have d0 := keep hS d0; have d1 := keep hS d1; have d2 := keep hS d2; have d3 := keep hS d3; have d4 := keep hS d4; go_wp2_with (fail); first | done | exact hS | exact hS.trans (hb.mono hS.size)))) | (refine TextRun.skip rfl ?_) | ((refine TextRun.wantedT rfl rfl rfl ?_); (apply Exists.intro); (apply And.intro); (focus (intro w1 hS K hK; have hc := bcell hS; have hs := blt hS; have c0 := keep hS c0; have c1 := keep hS c1; have c2 := keep hS c2; have c3 := keep hS c3; have c4 := keep hS c4; have d0 := keep hS d0; have d1 := keep hS d1; have d2 := keep hS d2; have d3 := keep hS d3; have d4 := keep hS d4; go_wp2_with (fail); first | done | exact hS | exact hS.trans (hb.mono hS.size))))); (simp only [Act.put, List.setIfInBounds_toArray, List.set_cons_zero, List.set_cons_succ]))
            refine TextRun.done ?_
            intro w2 hb
            have HB2 := Lib.hid (HB.out.trans (hb.mono HB.out.size))
            clear hb c0 c1 c2 c3 c4 d0 d1 d2 d3 d4
            go_wp2
            go_ret
            exact ⟨by rw [Hn.out]; rfl, HB2.out⟩
        · have hnek : (xk == yk) = false := by simpa using hk
          have Hn := Lib.hid (HNE.out (fun e => hk (congrArg Ev.k e)))
          clear HNE
          refine wp_ext_draw 9 mixed (by kernel_rfl) ?_
          simp only [List.take_succ_cons, List.take_zero, List.drop_succ_cons, List.drop_zero]
          repeat ((first | ((apply TextRun.go rfl rfl rfl); (focus (intro w1 hS K hK; have hc := bcell hS; have hs := blt hS; have c0 := keep hS c0; have c1 := keep hS c1; have c2 := keep hS c2; have c3 := keep hS c3; have c4 := keep hS c4; have d0 := keep hS d0; have d1 := keep hS d1; have d2 := keep hS d2; have d3 := keep hS d3; have d4 := keep hS d4; go_wp2_with (fail); first | done | exact hS | exact hS.trans (hb.mono hS.size)))) | (refine TextRun.skip rfl ?_) | ((refine TextRun.wantedT rfl rfl rfl ?_); (apply Exists.intro); (apply And.intro); (focus (intro w1 hS K hK; have hc := bcell hS; have hs := blt hS; have c0 := keep hS c0; have c1 := keep hS c1; have c2 := keep hS c2; have c3 := keep hS c3; have c4 := keep hS c4; have d0 := keep hS d0; have d1 := keep hS d1; have d2 := keep hS d2; have d3 := keep hS d3; have d4 := keep hS d4; go_wp2_with (fail); first | done | exact hS | exact hS.trans (hb.mono hS.size))))); (simp only [Act.put, List.setIfInBounds_toArray, List.set_cons_zero, List.set_cons_succ]))
          refine TextRun.done ?_
          intro w2 hb
          have HB2 := Lib.hid (HB.out.trans (hb.mono HB.out.size))
          clear hb c0 c1 c2 c3 c4 d0 d1 d2 d3 d4
          go_wp2
          go_ret
          exact ⟨by rw [Hn.out]; rfl, HB2.out⟩
      · have hnet : (xt == yt) = false := by simpa using ht
        have Hn := Lib.hid (HNE.out (fun e => ht (congrArg Ev.t e)))
        clear HNE
        refine wp_ext_draw 9 mixed (by kernel_rfl) ?_
        simp only [List.take_succ_cons, List.take_zero, List.drop_succ_cons, List.drop_zero]
        repeat ((first | ((apply TextRun.go rfl rfl rfl); (focus (intro w1 hS K hK; have hc := bcell hS; have hs := blt hS; have c0 := keep hS c0; have c1 := keep hS c1; have c2 := keep hS c2; have c3 := keep hS c3; have c4 := keep hS c4; have d0 := keep hS d0; have d1 := keep hS d1; have d2 := keep hS d2; have d3 := keep hS d3; have d4 := keep hS d4; go_wp2_with (fail); first | done | exact hS | exact hS.trans (hb.mono hS.size)))) | (refine TextRun.skip rfl ?_) | ((refine TextRun.wantedT rfl rfl rfl ?_); (apply Exists.intro); (apply And.intro); (focus (intro w1 hS K hK; have hc := bcell hS; have hs := blt hS; have c0 := keep hS c0; have c1 := keep hS c1; have c2 := keep hS c2; have c3 := keep hS c3; have c4 := keep hS c4; have d0 := keep hS d0; have d1 := keep hS d1; have d2 := keep hS d2; have d3 := keep hS d3; have d4 := keep hS d4; go_wp2_with (fail); first | done | exact hS | exact hS.trans (hb.mono hS.size))))); (simp only [Act.put, List.setIfInBounds_toArray, List.set_cons_zero, List.set_cons_succ]))
        refine TextRun.done ?_
        intro w2 hb
        have HB2 := Lib.hid (HB.out.trans (hb.mono HB.out.size))
        clear hb c0 c1 c2 c3 c4 d0 d1 d2 d3 d4
        go_wp2
        go_ret
        exact ⟨by rw [Hn.out]; rfl, HB2.out⟩
    · have hlt : n = k := Nat.le_antisymm (Nat.le_of_not_lt hlt) hk
      subst hlt
      have Hy := Lib.hid (evs_eq H.out.len H'.out.len HP.out)
      clear HP
      go_wp2
      go_ret
      exact ⟨by rw [Hy.out]; rfl, HB.out⟩

/-- What both Same hand back. -/
noncomputable def sameRes (n m : Nat) (a b : List Ev) : Bool × Int := if wrongS n a ≠ 0 then (false, wrongS n a) else if wrongS m b ≠ 0 then (false, wrongS m b) else (eqB (normL a) (normL b), 0)
theorem sameRes_a {n m : Nat} {a b : List Ev} (h : wrongS n a ≠ 0) : sameRes n m a b = (false, wrongS n a) := if_pos h
theorem sameRes_b {n m : Nat} {a b : List Ev} (h : wrongS n a = 0) (h' : wrongS m b ≠ 0) : sameRes n m a b = (false, wrongS m b) := by unfold sameRes; rw [if_neg (by rw [h]; simp), if_pos h']
theorem sameRes_ok {n m : Nat} {a b : List Ev} (h : wrongS n a = 0) (h' : wrongS m b = 0) : sameRes n m a b = (eqB (normL a) (normL b), 0) := by unfold sameRes; rw [if_neg (by rw [h]; simp), if_neg (by rw [h']; simp)]
set_option maxRecDepth 20000 in
set_option maxHeartbeats 8000000 in
theorem same_calls {w : World} {a0 b0 : Option Addr} {n c m d : Nat} {a b : List Ev} (h : IsEvs w a0 n c a) (h' : IsEvs w b0 m d b) :
    Calls Try.prog 20 #[.slice a0 n c, .slice b0 m d] w fun e w' => e = .returned (.tuple #[.bool (sameRes n m a b).1, .int .i64 (sameRes n m a b).2]) ∧ Below w.heap.size w w' := by
  have H := Lib.hid h
  have H' := Lib.hid h'
  clear h h'
  go_enter Try.func20, Try.ntmps20
  go_wp2_with fail
  refine (normal_calls H.out).mono ?_
  rintro e w1 ⟨xa, xc, rfl, hI, hb⟩
  have HB1 := Lib.hid hb
  have HI := Lib.hid hI
  clear hb hI
  by_cases hz : wrongS n a = 0
  case neg =>
    have hz' : (wrongS n a != 0) = true := by simpa [bne] using hz
    have Hr := Lib.hid (sameRes_a (m := m) (b := b) hz)
    rw [normRes_bad hz] at HI ⊢
    clear hz
    simp only at HI ⊢
    generalize wrongS n a = z at *
    go_wp2
    go_returns
    exact ⟨by rw [Hr.out]; rfl, HB1.out⟩
  rw [normRes_good hz] at HI ⊢
  simp only at HI ⊢
  have Hz := Lib.hid hz
  clear hz
  go_wp2_with fail
  refine (normal_calls (H'.out.below HB1.out)).mono ?_
  rintro e w2 ⟨ya, yc, rfl, hI, hb⟩
  have HB2 := Lib.hid (HB1.out.trans (hb.mono HB1.out.size))
  have HI1 := Lib.hid (HI.out.below hb)
  have HI2 := Lib.hid hI
  clear hb hI HI
  by_cases hz : wrongS m b = 0
  case neg =>
    have hz' : (wrongS m b != 0) = true := by simpa [bne] using hz
    have Hr := Lib.hid (sameRes_b Hz.out hz)
    rw [normRes_bad hz] at HI2 ⊢
    clear hz
    simp only at HI2 ⊢
    generalize wrongS m b = z at *
    go_wp2
    go_returns
    exact ⟨by rw [Hr.out]; rfl, HB2.out⟩
  rw [normRes_good hz] at HI2 ⊢
  simp only at HI2 ⊢
  have Hr := Lib.hid (sameRes_ok Hz.out hz)
  clear hz
  go_wp2_with fail
  refine (eqE_calls HI1.out HI2.out).mono ?_
  rintro e w3 ⟨rfl, hb⟩
  have HB3 := Lib.hid (HB2.out.trans (hb.mono HB2.out.size))
  clear hb HI1 HI2
  revert Hr
  generalize eqB (normL a) (normL b) = q
  intro Hr
  go_wp2
  go_returns
  exact ⟨by rw [Hr.out]; rfl, HB3.out⟩

theorem normL_one (x : Ev) : normL [x] = [x] := by
  have h : LeastAt [x] 0 := ⟨⟨by simp, fun k hk => absurd hk (Nat.not_lt_zero _)⟩, fun q hq => by
    have : q = 0 := by have := hq.1; simp at this; exact this
    subst this; exact Int.le_refl _⟩
  exact (normL_norm [x]).det (Norm.cons h Norm.nil)
def one16 : List Ev := [⟨0, 1, 0, 0, 0⟩]
theorem one16_wrong : wrongS 1 one16 = 0 := by decide
theorem one16_evs (w : World) : IsEvs (w.alloc (.cells #[.int .i64 0, .int .i64 1, .int .i64 0, .int .i64 0, .int .i64 0] 36)) (some ⟨w.heap.size, 0, none⟩) 1 1 one16 := by
  refine ⟨⟨rfl, fun _ => ⟨w.heap.size, 0, rfl, fun j u hj => ?_⟩⟩, rfl, Nat.le_refl _, by unfold maxLen; omega, fun e he => ?_⟩
  · rw [Nat.zero_add]; exact cell_new (by rw [← Array.getElem?_toList]; exact hj)
  · simp only [one16, List.mem_cons, List.not_mem_nil, or_false] at he
    subst he
    exact ⟨Fit.of (by decide) (by decide), Fit.of (by decide) (by decide), Fit.of (by decide) (by decide), Fit.of (by decide) (by decide), Fit.of (by decide) (by decide)⟩
set_option maxHeartbeats 2000000 in
theorem awake16_calls (w : World) : Calls Try.prog 14 #[] w fun e w' => e = .returned (.bool true) ∧ Below w.heap.size w w' := by
  have HE := Lib.hid (one16_evs w)
  have HbE : Hid (Below w.heap.size w (w.alloc (.cells #[.int .i64 0, .int .i64 1, .int .i64 0, .int .i64 0, .int .i64 0] 36))) := (Below.refl _ w).alloc (Nat.le_refl _) _
  go_enter Try.func14, Try.ntmps14
  go_wp2_with fail
  refine (normal_calls HE.out).mono ?_
  rintro e w1 ⟨xa, xc, rfl, hI, hb⟩
  rw [normRes_good one16_wrong, show normL one16 = one16 from normL_one _] at hI ⊢
  simp only at hI ⊢
  have HI := Lib.hid hI
  have HB1 := Lib.hid (HbE.out.trans (hb.mono HbE.out.size))
  have HE1 := Lib.hid (HE.out.below hb)
  clear hI hb HE HbE
  go_wp2_with fail
  refine (sameE_calls HI.out HE1.out).mono ?_
  rintro e w2 ⟨rfl, hb⟩
  have HB2 := Lib.hid (HB1.out.trans (hb.mono HB1.out.size))
  clear hb
  rw [eqB_self]
  go_wp2
  go_ret
  exact ⟨rfl, HB2.out⟩

set_option maxRecDepth 20000 in
set_option maxHeartbeats 4000000 in
theorem swapSwaps_law {w : World} {a0 : Option Addr} {n c : Nat} {l : List Ev} (h : IsEvs w a0 n c l) (i : Int) :
    Calls Try.prog 3 #[.slice a0 n c, .int .i64 i] w fun e w' => e = .returned (.bool true) ∧ Below w.heap.size w w' := by
  have Hev := Lib.hid h
  clear h
  go_enter Try.func3, Try.ntmps3
  go_wp2_with fail
  refine (awake16_calls _).mono ?_
  rintro e w1 ⟨rfl, hb⟩
  have HB1 := Lib.hid hb
  clear hb
  go_wp2_with fail
  refine (swap_calls (Hev.out.below HB1.out) i).mono ?_
  rintro e w2 ⟨xa, xc, rfl, hI, hb⟩
  have HI := Lib.hid hI
  have HB2 := Lib.hid (HB1.out.trans (hb.mono HB1.out.size))
  clear hI hb
  go_wp2_with fail
  refine (rswap_calls (Hev.out.below HB2.out) i).mono ?_
  rintro e w3 ⟨ya, yc, rfl, hI, hb⟩
  have HI1 := Lib.hid (HI.out.below hb)
  have HI2 := Lib.hid hI
  have HB3 := Lib.hid (HB2.out.trans (hb.mono HB2.out.size))
  clear hI hb HI
  generalize swpRes n l i = r at *
  obtain ⟨xs, z⟩ := r
  simp only at HI1 HI2 ⊢
  go_wp2_with fail
  refine (sameE_calls HI1.out HI2.out).mono ?_
  rintro e w4 ⟨rfl, hb⟩
  have HB4 := Lib.hid (HB3.out.trans (hb.mono HB3.out.size))
  clear hb
  rw [eqB_self]
  have hzz : (z == z) = true := by simp
  go_wp2
  go_ret
  exact ⟨rfl, HB4.out⟩
end Go.Proofs.Ytjhlehepnhbbaaa
