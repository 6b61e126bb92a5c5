/-
  FindStays: if two events beside one another that do not depend are exchanged, the same is found.
-/
import Derived.Test.YtadngicebbnnlaaGreatFindA
import Derived.BigRegion
set_option linter.unusedSimpArgs false
set_option linter.unusedVariables false
namespace Go.Proofs.YtadngicebbnnlaaGreat
open Go.ChangeShapes Go.WideShapes Go.ChangeAt Go.RowKit Go.Deep

set_option maxRecDepth 20000 in
set_option maxHeartbeats 16000000 in
theorem findStays_law {w : World} {a0 a1 : Option Addr} {n c n1 c1 : Nat} {l : List Ev} {next : List Ac} (h : IsEvs w a0 n c l) (hac : IsAcs w a1 n1 c1 next) (i : Int) :
    Calls Tryz.prog 5 #[.slice a0 n c, .slice a1 n1 c1, .int .i64 i] w fun e w' => e = .returned (.bool true) ∧ Below w.heap.size w w' := by
  have hnm : n ≤ 9223372036854775807 := by have := h.le; have := h.cap; unfold maxLen at *; omega
  have Hev := Lib.hid h
  have Hac := Lib.hid hac
  clear h hac
  go_enter Tryz.func5, Tryz.ntmps5
  go_wp2_with fail
  refine (awake21_calls _).mono ?_
  rintro e w1 ⟨rfl, hb⟩
  have HB1 := Lib.hid hb
  clear hb
  go_wp2_with fail
  refine (rwrong_calls (Hev.out.below HB1.out)).mono ?_
  rintro e w2 ⟨rfl, hb⟩
  have HB2 := Lib.hid (HB1.out.trans (hb.mono HB1.out.size))
  clear hb HB1
  by_cases hz : wrongS n l = 0
  case neg =>
    have hz' : (wrongS n l != 0) = true := by simpa [bne] using hz
    clear hz
    generalize wrongS n l = z at *
    go_wp2
    go_ret
    exact ⟨rfl, HB2.out⟩
  obtain ⟨S0, hS0⟩ := wrong_ofC hz
  have hn100 : n ≤ 100 := wrong_leC hz
  have Hw0 := Lib.hid hz
  have HS0 := Lib.hid hS0
  rw [hz]
  clear hz hS0
  have hwn : RowKit.wrap64 ((n : Int) - 1) = (n : Int) - 1 := wrap64_fit (by omega) (by omega)
  by_cases hi0 : i < 0
  · have hd0 : decide (i < 0) = true := decide_eq_true hi0
    clear hi0
    go_wp2
    go_ret
    exact ⟨rfl, HB2.out⟩
  have hd0 : decide (i < 0) = false := decide_eq_false hi0
  by_cases hin : (n : Int) - 1 ≤ i
  · have hd2 : decide ((n : Int) - 1 ≤ i) = true := decide_eq_true hin
    clear hi0 hin
    go_wp2
    go_ret
    exact ⟨rfl, HB2.out⟩
  have hd2 : decide ((n : Int) - 1 ≤ i) = false := decide_eq_false hin
  obtain ⟨k, rfl⟩ := Int.eq_ofNat_of_zero_le (show 0 ≤ i by omega)
  have hk : k + 1 < n := by omega
  have hwk : RowKit.wrap64 ((k : Int) + 1) = (k : Int) + 1 := wrap64_fit (by omega) (by omega)
  clear hi0 hin
  have hnc : n ≤ c := Hev.out.le
  have Hl := Lib.hid Hev.out.len
  have Hwf := Lib.hid Hev.out.wf
  go_wp2_with fail
  obtain ⟨b0, off, x, rfl, hx, _, c0, c1, c2, c3, c4⟩ := (Hev.out.below HB2.out).at (show k < n by omega)
  obtain ⟨b0', off', y, he, hy, _, d0, d1, d2, d3, d4⟩ := (Hev.out.below HB2.out).at hk
  cases he
  have Hxy := Lib.hid (And.intro hx hy)
  obtain ⟨xt, xk, xo, xv, xb⟩ := x
  obtain ⟨yt, yk, yo, yv, yb⟩ := y
  simp only at c0 c1 c2 c3 c4 d0 d1 d2 d3 d4
  have Hst : ∀ W, Calls Tryz.prog 17 #[.agg #[.int .i64 xt, .int .i64 xk, .int .i64 xo, .int .i64 xv, .int .i64 xb], .agg #[.int .i64 yt, .int .i64 yk, .int .i64 yo, .int .i64 yv, .int .i64 yb]] W fun x w' => x = .returned (.bool (dependsB xt xk xo yt yk yo)) ∧ Below W.heap.size W w' := fun W => by
    rw [depends_is]; exact rdep_calls _ _ _ _ _ _ _ _ _ _ _
  have HD : Hid (dependsB xt xk xo yt yk yo = dependsB xt xk xo yt yk yo) := rfl
  clear hx hy
  revert Hst HD
  generalize hdd : dependsB xt xk xo yt yk yo = dd
  intro Hst HD
  have Hdd := Lib.hid hdd
  clear hdd HD
  refine wp_ext_draw 11 mixed (by kernel_rfl) ?_
  simp only [List.take_succ_cons, List.take_zero, List.drop_succ_cons, List.drop_zero]
  repeat ((first | ((apply TextRun.go rfl rfl rfl); (focus (intro w1 hS K hK; have hc := bcell hS; have hs := blt hS; have c0 := keep hS c0; have c1 := keep hS c1; have c2 := keep hS c2; have c3 := keep hS c3; have c4 := keep hS c4; have d0 := keep hS d0; have d1 := keep hS d1; have d2 := keep hS d2; have d3 := keep hS d3; have d4 := keep hS d4; go_wp2_with ((with_reducible refine (Hst _).mono ?_); rintro x' w4 ⟨rfl, hb⟩); first | done | exact hS | exact hS.trans (hb.mono hS.size)))) | (refine TextRun.skip rfl ?_) | ((refine TextRun.wantedT rfl rfl rfl ?_); (apply Exists.intro); (apply And.intro); (focus (intro w1 hS K hK; have hc := bcell hS; have hs := blt hS; have c0 := keep hS c0; have c1 := keep hS c1; have c2 := keep hS c2; have c3 := keep hS c3; have c4 := keep hS c4; have d0 := keep hS d0; have d1 := keep hS d1; have d2 := keep hS d2; have d3 := keep hS d3; have d4 := keep hS d4; go_wp2_with ((with_reducible refine (Hst _).mono ?_); rintro x' w4 ⟨rfl, hb⟩); first | done | exact hS | exact hS.trans (hb.mono hS.size))))); (simp only [Act.put, List.setIfInBounds_toArray, List.set_cons_zero, List.set_cons_succ]))
  refine TextRun.done ?_
  intro w5 hb
  have HB5 := Lib.hid (HB2.out.trans (hb.mono HB2.out.size))
  clear hb c0 c1 c2 c3 c4 d0 d1 d2 d3 d4 Hst
  cases dd
  case true =>
    go_wp2
    go_ret
    exact ⟨rfl, HB5.out⟩
  obtain ⟨i0, hi, hz0, hz1, hz2⟩ := info_at infoEv
  have Hi := Lib.hid hi
  have Hz0 := Lib.hid hz0
  have Hz1 := Lib.hid hz1
  have Hz2 := Lib.hid hz2
  have Hn := Lib.hid (evs_cells (t := 46) (Hev.out.below HB5.out) (by omega))
  clear hi hz0 hz1 hz2
  go_wp2_with (at_builtin; go_loud (refine wpList_append_own _ rfl (.tmp 45) (.tmp 46) 22 rfl w5.heap.size 46 i0 (.agg #[.int .i64 0, .int .i64 0, .int .i64 0, .int .i64 0, .int .i64 0]) 5 40 Tryz.underlying22 Hi.out Hz0.out Hz1.out Hz2.out rfl (by decide) _ 0 [] rfl (World.ownsRow_made w5 #[] 0 (Nat.le_refl _) (Nat.zero_le _) rfl) ⟨b0, off, none⟩ n c (evCells l) rfl (by rw [evCells, flat_len Ev.vals 5 (fun _ => rfl), Hl.out]) Hn.out (cells_one l) (by unfold maxLen; omega) (by omega) (by simp) ?_); intro v' w6 hown hg hnl; clear hnl)
  obtain ⟨g, cap, rfl⟩ := own_slice hown (by omega)
  have hown' : w6.ownsRow w5.heap.size 46 5 (.slice (some ⟨g, 0, none⟩) n cap) n (evCells l) := by simpa using hown
  have hb6 : Below w5.heap.size w5 w6 := ((Below.refl _ _).alloc (Nat.le_refl _) _).grown hg (by simp) (fun k hk => by cases hk; exact Nat.le_refl _)
  have HB6 := Lib.hid (HB5.out.trans (hb6.mono HB5.out.size))
  have hgb : w5.heap.size ≤ g := (hown'.lt g rfl).1
  have hfr := own_free hown'
  obtain ⟨c0, c1, c2, c3, c4⟩ := own_ev hown' Hxy.out.1
  obtain ⟨d0, d1, d2, d3, d4⟩ := own_ev hown' Hxy.out.2
  simp only at c0 c1 c2 c3 c4 d0 d1 d2 d3 d4
  have HOw := Lib.hid hown'
  have Hgb := Lib.hid hgb
  clear hown hown' hg hb6 hgb
  go_wp2_with fail
  go_region
  have hO3 := own_swap HOw.out k (by have := Hl.out; omega) xt xk xo xv xb yt yk yo yv yb
  have hW7 := wrote_swap w6 g (k * 5) ((k + 1) * 5) (.int .i64 yt) (.int .i64 yk) (.int .i64 yo) (.int .i64 yv) (.int .i64 yb) (.int .i64 xt) (.int .i64 xk) (.int .i64 xo) (.int .i64 xv) (.int .i64 xb)
  clear HOw c0 c1 c2 c3 c4 d0 d1 d2 d3 d4 hfr
  revert hO3 hW7
  generalize ((((((((((w6.setCell ⟨g, k * 5, none⟩ (.int .i64 yt)).setCell ⟨g, k * 5 + 1, none⟩ (.int .i64 yk)).setCell ⟨g, k * 5 + 2, none⟩ (.int .i64 yo)).setCell ⟨g, k * 5 + 3, none⟩ (.int .i64 yv)).setCell ⟨g, k * 5 + 4, none⟩ (.int .i64 yb)).setCell ⟨g, (k + 1) * 5, none⟩ (.int .i64 xt)).setCell ⟨g, (k + 1) * 5 + 1, none⟩ (.int .i64 xk)).setCell ⟨g, (k + 1) * 5 + 2, none⟩ (.int .i64 xo)).setCell ⟨g, (k + 1) * 5 + 3, none⟩ (.int .i64 xv)).setCell ⟨g, (k + 1) * 5 + 4, none⟩ (.int .i64 xb)).drew = w7
  intro hO3 hW7
  have hwf2 : ∀ e ∈ swapAt l k ⟨xt, xk, xo, xv, xb⟩ ⟨yt, yk, yo, yv, yb⟩, e.wf := fun e he => by
    unfold swapAt at he
    rcases List.mem_or_eq_of_mem_set he with he | rfl
    · rcases List.mem_or_eq_of_mem_set he with he | rfl
      · exact Hwf.out e he
      · exact Hwf.out _ (List.mem_of_getElem? Hxy.out.2)
    · exact Hwf.out _ (List.mem_of_getElem? Hxy.out.1)
  have hI7 := evs_of_own hO3 hwf2
  have HI7 := Lib.hid hI7
  have hb7 := Wrote.below HB6.out hW7 HB6.out.size (fun q hq => by have := HB5.out.size; have := Hgb.out; omega)
  have HB7 := Lib.hid hb7
  have Hw7 := Lib.hid (wrong_swap Hw0.out Hxy.out.1 Hxy.out.2 Hdd.out)
  have HSw := Lib.hid (Swp.of HS0.out Hxy.out.1 Hxy.out.2 Hdd.out)
  clear hO3 hW7 hwf2 hI7 hb7 Hn Hi Hz0 Hz1 Hz2
  obtain ⟨T, hT, hlk⟩ := exch_of HS0.out Hxy.out.1 Hxy.out.2 Hdd.out
  have HT := Lib.hid hT
  have Hlk := Lib.hid hlk
  clear hT hlk
  go_wp2_with fail
  refine (fdof_calls (Hev.out.below HB7.out) (Hac.out.below HB7.out)).mono ?_
  rintro e w8 ⟨hb, ⟨hz, _⟩ | ⟨_, S1, x1, k1, R1, hS1, rfl, hF1, hM1⟩⟩
  · exact absurd Hw0.out hz
  have HB8 := Lib.hid (HB7.out.trans (hb.mono HB7.out.size))
  have HI8 := Lib.hid (HI7.out.below hb)
  have HF1 := Lib.hid hF1
  have HM1 := Lib.hid hM1
  have HS1 := Lib.hid hS1
  clear hb hF1 hM1 hS1 HI7
  go_wp2_with fail
  refine (fdof_calls HI8.out (Hac.out.below HB8.out)).mono ?_
  rintro e w9 ⟨hb, ⟨hz, _⟩ | ⟨_, S2, x2, k2, R2, hS2, rfl, hF2, hM2⟩⟩
  · exact absurd Hw7.out hz
  have HB9 := Lib.hid (HB8.out.trans (hb.mono HB8.out.size))
  have HF1 := Lib.hid (HF1.out.below hb)
  have HF2 := Lib.hid hF2
  have HN : Hid (R1.map (fun r => r.fd.strip) = R2.map (fun r => r.fd.strip)) := by
    have e1 : S0 = S1 := by
      have := HS0.out.symm.trans HS1.out
      exact congrArg Prod.fst this
    have e2 : T = S2 := by
      have := HT.out.symm.trans hS2
      exact congrArg Prod.fst this
    subst e1 e2
    have := found_same HSw.out Hlk.out.1 Hlk.out.2 next HM1.out hM2
    rw [List.map_map, List.map_map] at this
    exact this
  clear hb hF2 hM2 hS2 HI8 HM1
  go_wp2_with fail
  refine (falike_calls HF1.out HF2.out HN.out).mono ?_
  rintro e w10 ⟨rfl, hb⟩
  have HB10 := Lib.hid (HB9.out.trans (hb.mono HB9.out.size))
  clear hb HB9
  go_wp2
  go_ret
  exact ⟨rfl, HB10.out⟩
end Go.Proofs.YtadngicebbnnlaaGreat
