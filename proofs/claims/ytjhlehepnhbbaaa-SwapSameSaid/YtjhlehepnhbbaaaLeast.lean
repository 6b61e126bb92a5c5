/-
  exchanged of layer 16; SwapLeast: Normal is the least of all that are the same but for exchanges.
-/
import Derived.Test.YtjhlehepnhbbaaaSwpA
set_option linter.unusedSimpArgs false
set_option linter.unusedVariables false
namespace Go.Proofs.Ytjhlehepnhbbaaa
open Go.ChangeShapes Go.WideShapes Go.ChangeAt Go.RowKit Go.Deep

theorem wrong_tr {n : Nat} {l m : List Ev} (h : Tr l m) (hw : wrongS n l = 0) : wrongS n m = 0 := by
  have hn := wrong_le16 hw
  obtain ⟨S, hS⟩ : ∃ S, ofS l = (S, 0, 0) := wrong_ofS hw
  obtain ⟨T, hT, _⟩ := h.ok hS
  unfold wrongS
  rw [if_neg (by omega), hT]
theorem swp_ok {n : Nat} {x : List Ev} {i : Int} (hw : wrongS n x = 0) (hl : x.length = n) (h : (swpRes n x i).2 = 0) : Tr x (swpRes n x i).1 ∧ (swpRes n x i).1.length = n := by
  unfold swpRes at h ⊢
  rw [if_neg (by rw [hw]; simp)] at h ⊢
  by_cases h1 : i < 0 ∨ (n : Int) - 1 ≤ i
  · rw [if_pos h1] at h; simp at h
  · rw [if_neg h1] at h ⊢
    by_cases h2 : depE (x.getD i.toNat ev00) (x.getD (i.toNat + 1) ev00) = true
    · rw [if_pos h2] at h; simp at h
    · rw [if_neg h2]
      exact ⟨Tr.one (Ex.of (by omega) (by simpa using h2)), by rw [swap_len]; exact hl⟩

/-- What exchanged hands back. -/
def ExPost (w : World) (n : Nat) (l : List Ev) (e : Ending) (w' : World) : Prop := ∃ x a c, e = .returned (.slice a n c) ∧ IsEvs w' a n c x ∧ Tr l x ∧ Below w.heap.size w w'
set_option maxRecDepth 20000 in
set_option maxHeartbeats 8000000 in
theorem exchanged_calls {w : World} {a0 p0 : Option Addr} {n c np pc : Nat} {l : List Ev} {P : List Int} (h : IsEvs w a0 n c l) (hp : IsInts w p0 np pc P) (hz : wrongS n l = 0) :
    Calls Try.prog 21 #[.slice a0 n c, .slice p0 np pc] w (ExPost w n l) := by
  have Hev := Lib.hid h
  have HP := Lib.hid hp
  have hnp : np ≤ 9223372036854775807 := hp.bd
  have hn100 : n ≤ 100 := wrong_le16 hz
  have Hz := Lib.hid hz
  clear h hp hz
  go_enter Try.func21, Try.ntmps21
  go_wp2_with fail
  go_loopw [5, 6] (fun u x wr => ∃ (j : Nat) (y : List Ev) (a : Option Addr) (c' : Nat), j ≤ np ∧ x = .int .i64 j ∧ u = .slice a n c' ∧ Hid (IsEvs wr a n c' y ∧ Tr l y ∧ Below w.heap.size w wr)) (fun _ x _ => np - (intOf x).toNat)
  case atStart => exact ⟨0, l, a0, c, Nat.zero_le _, by go_num, rfl, Hev.out, Tr.refl l, Below.refl ..⟩
  case round =>
    obtain ⟨j, y, a, c', hj, rfl, rfl, HL⟩ := hrel
    have Hq : Hid (ExPost w n l (.returned (.slice a n c')) wr) := ⟨y, a, c', rfl, HL.out⟩
    by_cases hjn : j < np
    · by_cases hn1 : 1 < n
      · obtain ⟨pb, po, q, rfl, hq, hfit, p0⟩ := (HP.out.below HL.out.2.2).at hjn
        have hne : ¬ ((n : Int) - 1 = 0) := by omega
        have hneb : ((n : Int) - 1 == 0) = false := by simp; omega
        have hn1d : decide ((1 : Int) < (n : Int)) = true := decide_eq_true (by omega)
        clear hq Hq
        by_cases hk : q.tmod ((n : Int) - 1) < 0
        · have hkd : decide (q.tmod ((n : Int) - 1) < 0) = true := decide_eq_true hk
          clear hk
          go_wp2_with fail
          generalize RowKit.wrap64 (-q.tmod ((n : Int) - 1)) = K
          refine (rswap_calls HL.out.1 K).mono ?_
          rintro e wy ⟨ya, yc, rfl, hI, hb⟩
          have HBy := Lib.hid (HL.out.2.2.trans (hb.mono HL.out.2.2.size))
          by_cases hs : (swpRes n y K).2 = 0
          · obtain ⟨hT, hLn⟩ := swp_ok (wrong_tr HL.out.2.1 Hz.out) HL.out.1.len hs
            rw [hLn] at hI ⊢
            rw [hs]
            have HN := Lib.hid (And.intro hI (And.intro (HL.out.2.1.trans hT) HBy.out))
            clear hI hb hT hLn hs HL
            go_wp2
            go_roundw
            case rel => exact ⟨j + 1, _, ya, yc, hjn, by go_num, rfl, HN.out⟩
            case measure => exact meas hjn
          · have hsb : ((swpRes n y K).2 == 0) = false := by simpa using hs
            have HN := Lib.hid (And.intro (HL.out.1.below hb) (And.intro HL.out.2.1 HBy.out))
            clear hI hb hs HL
            generalize (swpRes n y K).2 = z at *
            generalize (swpRes n y K).1 = Y at *
            go_wp2
            go_roundw
            case rel => exact ⟨j + 1, y, a, c', hjn, by go_num, rfl, HN.out⟩
            case measure => exact meas hjn
        · have hkd : decide (q.tmod ((n : Int) - 1) < 0) = false := decide_eq_false hk
          clear hk
          go_wp2_with fail
          obtain ⟨K, hK⟩ : ∃ K, K = q.tmod ((n : Int) - 1) := ⟨_, rfl⟩
          rw [← hK]
          clear hK
          refine (rswap_calls HL.out.1 K).mono ?_
          rintro e wy ⟨ya, yc, rfl, hI, hb⟩
          have HBy := Lib.hid (HL.out.2.2.trans (hb.mono HL.out.2.2.size))
          by_cases hs : (swpRes n y K).2 = 0
          · obtain ⟨hT, hLn⟩ := swp_ok (wrong_tr HL.out.2.1 Hz.out) HL.out.1.len hs
            rw [hLn] at hI ⊢
            rw [hs]
            have HN := Lib.hid (And.intro hI (And.intro (HL.out.2.1.trans hT) HBy.out))
            clear hI hb hT hLn hs HL
            go_wp2
            go_roundw
            case rel => exact ⟨j + 1, _, ya, yc, hjn, by go_num, rfl, HN.out⟩
            case measure => exact meas hjn
          · have hsb : ((swpRes n y K).2 == 0) = false := by simpa using hs
            have HN := Lib.hid (And.intro (HL.out.1.below hb) (And.intro HL.out.2.1 HBy.out))
            clear hI hb hs HL
            generalize (swpRes n y K).2 = z at *
            generalize (swpRes n y K).1 = Y at *
            go_wp2
            go_roundw
            case rel => exact ⟨j + 1, y, a, c', hjn, by go_num, rfl, HN.out⟩
            case measure => exact meas hjn
      · go_wp2
        go_ret
        exact Hq.out
    · go_wp2
      go_ret
      exact Hq.out

set_option maxRecDepth 20000 in
set_option maxHeartbeats 8000000 in
theorem swapLeast_law {w : World} {a0 p0 : Option Addr} {n c np pc : Nat} {l : List Ev} {P : List Int} (h : IsEvs w a0 n c l) (hp : IsInts w p0 np pc P) :
    Calls Try.prog 4 #[.slice a0 n c, .slice p0 np pc] w fun e w' => e = .returned (.bool true) ∧ Below w.heap.size w w' := by
  have hnm : n ≤ 9223372036854775807 := by have := h.le; have := h.cap; unfold maxLen at *; omega
  have Hev := Lib.hid h
  have HP := Lib.hid hp
  have Hl := Lib.hid h.len
  clear h hp
  go_enter Try.func4, Try.ntmps4
  go_wp2_with fail
  refine (awake16_calls _).mono ?_
  rintro e w1 ⟨rfl, hb⟩
  have HB1 := Lib.hid hb
  clear hb
  go_wp2_with fail
  refine (rwrong_calls (Hev.out.below HB1.out)).mono ?_
  rintro e w2 ⟨rfl, hb⟩
  have HB2 := Lib.hid (HB1.out.trans (hb.mono HB1.out.size))
  clear hb HB1
  by_cases hz : wrongS n l = 0
  case neg =>
    have hz' : (wrongS n l != 0) = true := by simpa [bne] using hz
    clear hz
    generalize wrongS n l = z at *
    go_wp2
    go_ret
    exact ⟨rfl, HB2.out⟩
  have Hz := Lib.hid hz
  have hn100 : n ≤ 100 := wrong_le16 hz
  have HzN : Hid (wrongS n (normL l) = 0) := wrong_tr (normL_norm l).tr hz
  have HlN : Hid ((normL l).length = n) := by rw [Hid, normL_len]; exact Hl.out
  rw [hz]
  clear hz
  go_wp2_with fail
  refine (normal_calls (Hev.out.below HB2.out)).mono ?_
  rintro e w3 ⟨na, nc, rfl, hI, hb⟩
  rw [normRes_good Hz.out] at hI ⊢
  simp only at hI ⊢
  rw [HlN.out] at hI ⊢
  have HN := Lib.hid hI
  have HB3 := Lib.hid (HB2.out.trans (hb.mono HB2.out.size))
  clear hb hI HB2
  go_wp2_with fail
  refine (same_calls (Hev.out.below HB3.out) HN.out).mono ?_
  rintro e w4 ⟨rfl, hb⟩
  rw [sameRes_ok Hz.out HzN.out, normL_idem, eqB_self]
  simp only
  have HN4 := Lib.hid (HN.out.below hb)
  have HB4 := Lib.hid (HB3.out.trans (hb.mono HB3.out.size))
  clear hb HN HB3
  go_wp2_with fail
  refine (normal_calls HN4.out).mono ?_
  rintro e w5 ⟨ma, mc, rfl, hI, hb⟩
  rw [normRes_good HzN.out] at hI ⊢
  simp only at hI ⊢
  rw [normL_idem, HlN.out] at hI
  rw [normL_idem, HlN.out]
  have HM := Lib.hid hI
  have HN5 := Lib.hid (HN4.out.below hb)
  have HB5 := Lib.hid (HB4.out.trans (hb.mono HB4.out.size))
  clear hb hI HB4 HN4
  go_wp2_with fail
  refine (sameE_calls HN5.out HM.out).mono ?_
  rintro e w6 ⟨rfl, hb⟩
  rw [eqB_self]
  have HN6 := Lib.hid (HN5.out.below hb)
  have HB6 := Lib.hid (HB5.out.trans (hb.mono HB5.out.size))
  clear hb HM HB5 HN5
  have hnn : ((n : Int) != (n : Int)) = false := by simp
  go_wp2_with fail
  refine (exchanged_calls (Hev.out.below HB6.out) (HP.out.below HB6.out) Hz.out).mono ?_
  rintro e w7 ⟨x, xa, xc, rfl, hI, hT, hb⟩
  have HX := Lib.hid hI
  have HN7 := Lib.hid (HN6.out.below hb)
  have HB7 := Lib.hid (HB6.out.trans (hb.mono HB6.out.size))
  have HF : Hid (∀ i, i < n → (∀ k, k < i → thE x k = thE (normL l) k) → thE x i ≠ thE (normL l) i → thE (normL l) i < thE x i) := fun i hi => (hT.norm (normL_norm l)).first i (by rw [hI.len]; exact hi)
  clear hb hI hT HN6 HB6
  revert HN7 HF
  clear HlN HzN
  generalize normL l = N
  intro HN7 HF
  go_wp2_with fail
  go_loopw [15] (fun v wr => ∃ i : Nat, i ≤ n ∧ v = .int .i64 i ∧ Hid (∀ k, k < i → thE x k = thE N k) ∧ Hid (Below w7.heap.size w7 wr)) (fun v _ => n - (intOf v).toNat)
  case atStart => exact ⟨0, Nat.zero_le _, by go_num, fun k hk => absurd hk (Nat.not_lt_zero _), Below.refl ..⟩
  case round =>
    obtain ⟨i, hi, rfl, HQ, HB⟩ := hrel
    by_cases hin : i < n
    · obtain ⟨bx, ox, p, rfl, hp, _, c0, _, _, _, _⟩ := (HX.out.below HB.out).at hin
      obtain ⟨by', oy, q, rfl, hq, _, d0, _, _, _, _⟩ := (HN7.out.below HB.out).at hin
      have ep : thE x i = p.t := thE_of hp
      have eq : thE N i = q.t := thE_of hq
      obtain ⟨pt, pk, po, pv, pb⟩ := p
      obtain ⟨qt, qk, qo, qv, qb⟩ := q
      simp only at c0 d0 ep eq
      clear hp hq
      by_cases ht : pt = qt
      · subst ht
        have HQ2 : Hid (∀ k, k < i + 1 → thE x k = thE N k) := fun k hk => by
          by_cases h : k = i
          · rw [h, ep, eq]
          · exact HQ.out k (by omega)
        have htt : (pt != pt) = false := by simp
        clear ep eq
        go_wp2_with fail
        refine wp_ext_draw 11 mixed (by kernel_rfl) ?_
        simp only [List.take_succ_cons, List.take_zero, List.drop_succ_cons, List.drop_zero]
        repeat ((first | ((apply TextRun.go rfl rfl rfl); (focus (intro w1 hS K hK; have hc := bcell hS; have hs := blt hS; have c0 := keep hS c0; have d0 := keep hS d0; go_wp2_with (fail); first | done | exact hS | exact hS.trans (hb.mono hS.size)))) | (refine TextRun.skip rfl ?_) | ((refine TextRun.wantedT rfl rfl rfl ?_); (apply Exists.intro); (apply And.intro); (focus (intro w1 hS K hK; have hc := bcell hS; have hs := blt hS; have c0 := keep hS c0; have d0 := keep hS d0; go_wp2_with (fail); first | done | exact hS | exact hS.trans (hb.mono hS.size))))); (simp only [Act.put, List.setIfInBounds_toArray, List.set_cons_zero, List.set_cons_succ]))
        refine TextRun.done ?_
        intro w2 hb
        have HB2 := Lib.hid (HB.out.trans (hb.mono HB.out.size))
        clear hb
        clear c0 d0
        go_wp2
        go_roundw
        case rel => exact ⟨i + 1, hin, by go_num, HQ2, HB2⟩
        case measure => exact meas hin
      · have htt : (pt != qt) = true := by simpa [bne] using ht
        have htb : (pt == qt) = false := by simpa using ht
        have hlt : qt < pt := by have := HF.out i hin HQ.out (by rw [ep, eq]; exact ht); rw [ep, eq] at this; exact this
        have hltd : decide (qt < pt) = true := decide_eq_true hlt
        clear ep eq hlt ht
        go_wp2_with fail
        refine wp_ext_draw 11 mixed (by kernel_rfl) ?_
        simp only [List.take_succ_cons, List.take_zero, List.drop_succ_cons, List.drop_zero]
        repeat ((first | ((apply TextRun.go rfl rfl rfl); (focus (intro w1 hS K hK; have hc := bcell hS; have hs := blt hS; have c0 := keep hS c0; have d0 := keep hS d0; go_wp2_with (fail); first | done | exact hS | exact hS.trans (hb.mono hS.size)))) | (refine TextRun.skip rfl ?_) | ((refine TextRun.wantedT rfl rfl rfl ?_); (apply Exists.intro); (apply And.intro); (focus (intro w1 hS K hK; have hc := bcell hS; have hs := blt hS; have c0 := keep hS c0; have d0 := keep hS d0; go_wp2_with (fail); first | done | exact hS | exact hS.trans (hb.mono hS.size))))); (simp only [Act.put, List.setIfInBounds_toArray, List.set_cons_zero, List.set_cons_succ]))
        refine TextRun.done ?_
        intro w2 hb
        have HB2 := Lib.hid (HB.out.trans (hb.mono HB.out.size))
        have c0 := keep hb c0
        have d0 := keep hb d0
        clear hb
        go_wp2_with fail
        refine wp_ext_draw 14 mixed (by kernel_rfl) ?_
        simp only [List.take_succ_cons, List.take_zero, List.drop_succ_cons, List.drop_zero]
        repeat ((first | ((apply TextRun.go rfl rfl rfl); (focus (intro w1 hS K hK; have hc := bcell hS; have hs := blt hS; have c0 := keep hS c0; have d0 := keep hS d0; go_wp2_with (fail); first | done | exact hS | exact hS.trans (hb.mono hS.size)))) | (refine TextRun.skip rfl ?_) | ((refine TextRun.wantedT rfl rfl rfl ?_); (apply Exists.intro); (apply And.intro); (focus (intro w1 hS K hK; have hc := bcell hS; have hs := blt hS; have c0 := keep hS c0; have d0 := keep hS d0; go_wp2_with (fail); first | done | exact hS | exact hS.trans (hb.mono hS.size))))); (simp only [Act.put, List.setIfInBounds_toArray, List.set_cons_zero, List.set_cons_succ]))
        refine TextRun.done ?_
        intro w4 hb
        have HB3 := Lib.hid (HB2.out.trans (hb.mono HB2.out.size))
        clear hb
        clear c0 d0
        go_wp2
        go_ret
        exact ⟨rfl, HB7.out.trans (HB3.out.mono HB7.out.size)⟩
    · go_wp2
      go_ret
      exact ⟨rfl, HB7.out.trans (HB.out.mono HB7.out.size)⟩
end Go.Proofs.Ytjhlehepnhbbaaa
