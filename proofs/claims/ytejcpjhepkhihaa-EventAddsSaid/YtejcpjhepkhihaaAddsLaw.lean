/-
  EventAdds: the walk.
-/
import Derived.Test.YtejcpjhepkhihaaAdds
set_option linter.unusedSimpArgs false
set_option linter.unusedVariables false
namespace Go.Proofs.Ytejcpjhepkhihaa
open Go.ChangeShapes Go.WideShapes Go.ChangeAt Go.RowKit Go.Deep

set_option maxRecDepth 20000 in
set_option maxHeartbeats 8000000 in
theorem adds_law {w : World} {a0 : Option Addr} {n c : Nat} {l : List Ev} (h : IsEvs w a0 n c l) (hcap : n * 40 ≤ 140737488355328) :
    Calls Try.prog 7 #[.slice a0 n c] w fun e w' => e = .returned (.bool true) ∧ Below w.heap.size w w' := by
  have hnm : n ≤ 9223372036854775807 := by have := h.le; have := h.cap; unfold maxLen at *; omega
  have Hl := Lib.hid h.len
  obtain ⟨i0, hi, hz0, hz1, hz2⟩ := info_parts infoEv
  have Hi := Lib.hid hi
  have Hz0 := Lib.hid hz0
  have Hz1 := Lib.hid hz1
  have Hz2 := Lib.hid hz2
  clear hi hz0 hz1 hz2
  go_enter Try.func7, Try.ntmps7
  go_wp2_with fail
  refine (awake_calls _).mono ?_
  rintro e w1 ⟨rfl, hb⟩
  have HB1 := Lib.hid hb
  clear hb
  go_wp2_with fail
  refine (lnew_calls _).mono ?_
  rintro e w2 ⟨rfl, hL, hb⟩
  have HB2 := Lib.hid (HB1.out.trans (hb.mono HB1.out.size))
  have HL2 := Lib.hid hL
  have hs12 : w1.heap.size ≤ w2.heap.size := hb.size
  clear hb hL
  go_wp2_with fail
  refine (first_calls _).mono ?_
  rintro e w3 ⟨rfl, hb⟩
  have HB3 := Lib.hid (HB2.out.trans (hb.mono HB2.out.size))
  have HL3 := Lib.hid (HL2.out.below hb)
  have hs23 : w2.heap.size ≤ w3.heap.size := hb.size
  have hbase : w.heap.size ≤ w1.heap.size := HB1.out.size
  clear hb HL2
  go_wp2_with (refine wpList_store_row rfl 34 (.tmp 5) (.tmp 17) rfl w3.heap.size (stArr log0.st log0.ow) rfl rfl 34 #[.int .i64 0, .int .i64 0, .int .i64 0, .int .i64 0, .int .i64 0, .int .i64 0, .int .i64 0, .int .i64 0, .int .i64 0, .int .i64 0, .int .i64 0, .int .i64 0, .int .i64 0, .int .i64 0, .int .i64 0, .int .i64 0] (MapKept.heap_alloc w3 _).1 infoState rfl (stArr_one _ _) ?_)
  have hrow := row_made w3 #[.int .i64 0, .int .i64 0, .int .i64 0, .int .i64 0, .int .i64 0, .int .i64 0, .int .i64 0, .int .i64 0, .int .i64 0, .int .i64 0, .int .i64 0, .int .i64 0, .int .i64 0, .int .i64 0, .int .i64 0, .int .i64 0] (stArr log0.st log0.ow) 34
  revert hrow
  generalize ((w3.alloc (.cells #[.int .i64 0, .int .i64 0, .int .i64 0, .int .i64 0, .int .i64 0, .int .i64 0, .int .i64 0, .int .i64 0, .int .i64 0, .int .i64 0, .int .i64 0, .int .i64 0, .int .i64 0, .int .i64 0, .int .i64 0, .int .i64 0] 34)).setRow w3.heap.size (stArr log0.st log0.ow)) = w4
  rintro ⟨hT, hb⟩
  have hT : StateAt w4 w3.heap.size log0 := hT
  have HB4 := Lib.hid (HB3.out.trans (hb.mono HB3.out.size))
  have hL4 := HL3.out.below hb
  have hI4 : AddsInv w4 w1.heap.size w1.heap.size w3.heap.size (.slice none 0 0) (.slice none 0 0) (.slice none 0 0) log0 :=
    ⟨hL4, hT, good0, la0, fun e he => (by cases he), World.ownsRow_nil _ _ _ _, fun g hg => (by cases hg), by omega⟩
  have HI4 := Lib.hid hI4
  clear hb hT hL4 hI4 HL3
  generalize w1.heap.size = B at *
  generalize w3.heap.size = bs at *
  go_loopw [6, 7] (fun u v wr => ∃ (k : Nat) (S : LogS) (vl va : Value), k ≤ n ∧ v = .int .i64 k ∧ Hid (AddsInv wr B B bs vl va u S ∧ S.l.length ≤ k ∧ Below w.heap.size w wr)) (fun _ v _ => n - (intOf v).toNat)
  case atStart => exact ⟨0, log0, _, _, Nat.zero_le _, rfl, ⟨HI4.out, Nat.le_refl _, HB4.out⟩⟩
  case round =>
    clear HI4
    rename_i v6 _ 
    obtain ⟨k, S, vl, va, hk, rfl, H⟩ := hrel
    by_cases hlt : k < n
    · obtain ⟨b, off, x, rfl, hx, hxw, c0, c1, c2, c3, c4⟩ := h.at hlt
      have hcells := And.intro c0 (And.intro c1 (And.intro c2 (And.intro c3 c4)))
      have HC := Lib.hid hcells
      have Hxw := Lib.hid hxw
      clear hx hxw hcells c0 c1 c2 c3 c4
      have d0 := keep H.out.2.2 HC.out.1
      have d1 := keep H.out.2.2 HC.out.2.1
      have d2 := keep H.out.2.2 HC.out.2.2.1
      have d3 := keep H.out.2.2 HC.out.2.2.2.1
      have d4 := keep H.out.2.2 HC.out.2.2.2.2
      go_wp2_with fail
      refine (add_calls H.out.1.log x (by have := H.out.2.1; omega)).mono ?_
      rintro e z2 ⟨vl', va', rfl, hL, hW, hsub⟩
      have HB2' := Lib.hid (Wrote.below H.out.2.2 hW H.out.2.2.size (fun q hq => by have := H.out.1.log.base q hq; omega))
      have HP := Lib.hid (And.intro hL (And.intro hW hsub))
      have HS2 := Lib.hid (H.out.1.st.wrote hW (state_ne H.out.1.log H.out.1.st))
      clear hL hW hsub d0 d1 d2 d3 d4
      have d0 := keep HB2'.out HC.out.1
      have d1 := keep HB2'.out HC.out.2.1
      have d2 := keep HB2'.out HC.out.2.2.1
      have d3 := keep HB2'.out HC.out.2.2.2.1
      have d4 := keep HB2'.out HC.out.2.2.2.2
      go_wp2_with fail
      refine (sadd_calls HS2.out H.out.1.good x).mono ?_
      rintro e z3 ⟨rfl, hT3, hM3⟩
      have HM := Lib.hid (AddsInv.mid H.out.1 HP.out.1 HP.out.2.1 HP.out.2.2 hT3 hM3)
      have HB3' := Lib.hid (below_of_mod HB2'.out hM3 HB2'.out.size (by have := H.out.1.bsB; omega))
      have hlen := H.out.2.1
      clear hT3 hM3 HP HS2 HB2' d0 d1 d2 d3 d4 H
      have d0 := keep HB3'.out HC.out.1
      have d1 := keep HB3'.out HC.out.2.1
      have d2 := keep HB3'.out HC.out.2.2.1
      have d3 := keep HB3'.out HC.out.2.2.2.1
      have d4 := keep HB3'.out HC.out.2.2.2.2
      by_cases hz : addE S x = 0
      · have Hz := Lib.hid hz
        rw [hz]
        clear hz
        have hA : Below z3.heap.size z3 (z3.alloc (.cells #[.int .i64 x.t, .int .i64 x.k, .int .i64 x.o, .int .i64 x.v, .int .i64 x.b] 23)) := (Below.refl _ z3).alloc (Nat.le_refl _) _
        have hN : ∀ j u, x.vals[j]? = some u → (z3.alloc (.cells #[.int .i64 x.t, .int .i64 x.k, .int .i64 x.o, .int .i64 x.v, .int .i64 x.b] 23)).cell? ((⟨z3.heap.size, 0, none⟩ : Addr).add j) = some u := fun j u hj => cells_new z3 _ _ j u hj
        have HN := Lib.hid hN
        have HA := Lib.hid (And.intro (HM.out.below hA) (HB3'.out.trans (hA.mono HB3'.out.size)))
        clear hA hN
        go_wp2_with (at_builtin; go_loud (refine wpList_append_at _ rfl (.tmp 40) (.tmp 45) 24 rfl B 23 i0 (.agg #[.int .i64 0, .int .i64 0, .int .i64 0, .int .i64 0, .int .i64 0]) 5 40 Try.underlying24 Hi.out Hz0.out Hz1.out Hz2.out rfl (by decide) _ S.l.length (evCells S.l) rfl HA.out.1.own ⟨z3.heap.size, 0, none⟩ 1 1 x.vals rfl rfl HN.out (vals_one x) (by unfold maxLen; omega) (by omega) (by have := HA.out.1.log.lt; have := HA.out.1.log.low; omega) ?_); intro v' z4 hown hg hnl hv; clear hnl; have hR := HA.out.1.yes Hz.out Hxw.out hown hg hv; have HBz := Lib.hid (HA.out.2.grown hg (by have := HA.out.2.size; omega) (fun q hq => by have := (HA.out.1.own.lt q hq).1; omega)); have HR := Lib.hid hR; clear hown hg hv hR)
        go_roundw
        case rel => exact ⟨k + 1, addS S x, vl', va', by omega, by go_num, HR.out, Nat.le_trans (addS_len S x) (by omega), HBz.out⟩
        case measure => simp [intOf]; omega
      · have Hno := Lib.hid (HM.out.no hz)
        have hz' : (addE S x == 0) = false := by simpa using hz
        clear hz HM
        generalize addE S x = q at *
        go_wp2
        go_roundw
        case rel => exact ⟨k + 1, S, vl', va', by omega, by go_num, Hno.out, by omega, HB3'.out⟩
        case measure => simp [intOf]; omega
    · clear h
      obtain ⟨a, c', rfl, hK⟩ := evs_own H.out.1.own H.out.1.wf
      have hml : S.l.length ≤ n := by have := H.out.2.1; omega
      have hmm : S.l.length ≤ 3518437208883 := by omega
      have H2 := Lib.hid (And.intro H.out.1 (And.intro hK H.out.2.2))
      clear H hK
      go_wp2_with fail
      go_loopw [10] (fun v wz => ∃ i : Int, -1 ≤ i ∧ i ≤ S.l.length + 1 ∧ v = .int .i64 i ∧ Hid (AddsInv wz B B bs vl va (.slice a S.l.length c') S ∧ IsEvs wz a S.l.length c' S.l ∧ Below w.heap.size w wz)) (fun v _ => ((S.l.length : Int) + 1 - intOf v).toNat)
      case atStart => exact ⟨-1, by omega, by omega, rfl, H2.out⟩
      case round =>
        clear H2
        obtain ⟨i, hi0, hi9, rfl, H⟩ := hrel
        by_cases h9 : i = S.l.length + 1
        · subst h9
          have HO := Lib.hid H.out.2.2
          go_wp2_with (refine wpList_load_row rfl 34 (.tmp 5) rfl bs rfl 34 (stArr S.st S.ow) (0, 0) _ H.out.1.st Try.underlying34 rfl (by kernel_rfl) ?_)
          refine (same_calls H.out.1.log H.out.2.1 H.out.1.la (by omega)).mono ?_
          rintro e z2 ⟨rfl, hb⟩
          have HF := Lib.hid (HO.out.trans (hb.mono HO.out.size))
          clear hb
          go_wp2
          go_ret
          exact ⟨rfl, HF.out⟩
        by_cases h1 : i = -1
        · subst h1
          have Ha : Hid (atL S.l (-1) = none) := rfl
          go_wp2_with fail
          refine (at_calls H.out.1.log _ (by omega)).mono ?_
          rintro e z2 ⟨rfl, hb⟩
          rw [Ha.out]
          simp only [evVal, Option.isSome]
          have hA := (Below.refl z2.heap.size z2).alloc (Nat.le_refl _) (.cells #[.int .i64 0, .int .i64 0, .int .i64 0, .int .i64 0, .int .i64 0] 23)
          have hb2 := hb.trans (hA.mono hb.size)
          have HF := Lib.hid (And.intro (H.out.1.below hb2) (And.intro (H.out.2.1.below hb2) (H.out.2.2.trans (hb2.mono H.out.2.2.size))))
          clear hb hA hb2
          go_wp2
          go_roundw
          case rel => exact ⟨0, by omega, by omega, rfl, HF.out⟩
          case measure => first | (simp [intOf]; done) | (simp [intOf]; omega)
        by_cases h8 : i = S.l.length
        · subst h8
          have Ha : Hid (atL S.l (S.l.length : Int) = none) := by unfold Hid atL; rw [if_pos (by omega)]; simp
          go_wp2_with fail
          refine (at_calls H.out.1.log _ (by omega)).mono ?_
          rintro e z2 ⟨rfl, hb⟩
          rw [Ha.out]
          simp only [evVal, Option.isSome]
          have hA := (Below.refl z2.heap.size z2).alloc (Nat.le_refl _) (.cells #[.int .i64 0, .int .i64 0, .int .i64 0, .int .i64 0, .int .i64 0] 23)
          have hb2 := hb.trans (hA.mono hb.size)
          have HF := Lib.hid (And.intro (H.out.1.below hb2) (And.intro (H.out.2.1.below hb2) (H.out.2.2.trans (hb2.mono H.out.2.2.size))))
          clear hb hA hb2
          go_wp2
          go_roundw
          case rel => exact ⟨(S.l.length : Int) + 1, by omega, by omega, by go_num, HF.out⟩
          case measure => first | (simp [intOf]; done) | (simp [intOf]; omega)
        · obtain ⟨j, rfl⟩ := Int.eq_ofNat_of_zero_le (show 0 ≤ i by omega)
          have hj : j < S.l.length := by omega
          obtain ⟨b', off', x, rfl, hx, _, _, _, _, _, _⟩ := H.out.2.1.at hj
          have Ha : Hid (atL S.l (j : Int) = some x) := by unfold Hid atL; rw [if_pos (by omega)]; simpa using hx
          have Hx := Lib.hid hx
          obtain ⟨xt, xk, xo, xv, xb⟩ := x
          clear hx
          have hj0 : (0 : Int) ≤ (j : Int) := by omega
          have hjb : ((j : Int) == (S.l.length : Int)) = false := by simp; omega
          go_wp2_with fail
          refine (at_calls H.out.1.log _ (by omega)).mono ?_
          rintro e z2 ⟨rfl, hb⟩
          rw [Ha.out]
          simp only [evVal, Option.isSome]
          have hA := (Below.refl z2.heap.size z2).alloc (Nat.le_refl _) (.cells #[.int .i64 xt, .int .i64 xk, .int .i64 xo, .int .i64 xv, .int .i64 xb] 23)
          have hb2 := hb.trans (hA.mono hb.size)
          have HF := Lib.hid (And.intro (H.out.1.below hb2) (And.intro (H.out.2.1.below hb2) (H.out.2.2.trans (hb2.mono H.out.2.2.size))))
          obtain ⟨b2, off2, y, he, hy, _, c0, c1, c2, c3, c4⟩ := (H.out.2.1.below hb).at hj
          cases he
          have hxy : y = ⟨xt, xk, xo, xv, xb⟩ := Option.some.inj (hy.symm.trans Hx.out)
          subst hxy
          clear hy
          clear hb hA hb2
          go_wp2_with fail
          refine wp_ext_draw 10 mixed (by kernel_rfl) ?_
          simp only [List.take_succ_cons, List.take_zero, List.drop_succ_cons, List.drop_zero]
          repeat ((first | ((apply TextRun.go rfl rfl rfl); (intro w1 hS K hK; have hc := bcell hS; have hs := blt hS; have c0 := keep (Below.trans (show Below z2.heap.size z2 _ by go_grown) (hS.mono (by first | omega | (simp <;> omega)))) c0; have c1 := keep (Below.trans (show Below z2.heap.size z2 _ by go_grown) (hS.mono (by first | omega | (simp <;> omega)))) c1; have c2 := keep (Below.trans (show Below z2.heap.size z2 _ by go_grown) (hS.mono (by first | omega | (simp <;> omega)))) c2; have c3 := keep (Below.trans (show Below z2.heap.size z2 _ by go_grown) (hS.mono (by first | omega | (simp <;> omega)))) c3; have c4 := keep (Below.trans (show Below z2.heap.size z2 _ by go_grown) (hS.mono (by first | omega | (simp <;> omega)))) c4; go_wp2_with (fail); first | exact hS | exact hS.trans (hb.mono hS.size))) | (refine TextRun.skip rfl ?_) | ((refine TextRun.wantedT rfl rfl rfl ?_); (apply Exists.intro); (apply And.intro); (intro w1 hS K hK; have hc := bcell hS; have hs := blt hS; have c0 := keep (Below.trans (show Below z2.heap.size z2 _ by go_grown) (hS.mono (by first | omega | (simp <;> omega)))) c0; have c1 := keep (Below.trans (show Below z2.heap.size z2 _ by go_grown) (hS.mono (by first | omega | (simp <;> omega)))) c1; have c2 := keep (Below.trans (show Below z2.heap.size z2 _ by go_grown) (hS.mono (by first | omega | (simp <;> omega)))) c2; have c3 := keep (Below.trans (show Below z2.heap.size z2 _ by go_grown) (hS.mono (by first | omega | (simp <;> omega)))) c3; have c4 := keep (Below.trans (show Below z2.heap.size z2 _ by go_grown) (hS.mono (by first | omega | (simp <;> omega)))) c4; go_wp2_with (fail); first | exact hS | exact hS.trans (hb.mono hS.size)))); (simp only [Act.put, List.setIfInBounds_toArray, List.set_cons_zero, List.set_cons_succ]))
          refine TextRun.done ?_
          intro z3 hb
          have HG := Lib.hid (And.intro (HF.out.1.below hb) (And.intro (HF.out.2.1.below hb) (HF.out.2.2.trans (hb.mono HF.out.2.2.size))))
          clear hb HF c0 c1 c2 c3 c4
          go_wp2
          go_roundw
          case rel => exact ⟨(j : Int) + 1, by omega, by omega, by go_num, HG.out⟩
          case measure => simp [intOf]; omega
end Go.Proofs.Ytejcpjhepkhihaa
