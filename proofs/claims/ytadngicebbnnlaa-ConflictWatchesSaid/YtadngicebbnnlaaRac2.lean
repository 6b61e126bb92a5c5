/-
  Races of both; the statements' awake; ConflictRaces.
-/
import Derived.Test.YtadngicebbnnlaaRac
import Derived.Test.YtadngicebbnnlaaLogYes
set_option linter.unusedSimpArgs false
set_option linter.unusedVariables false
namespace Go.Proofs.Ytadngicebbnnlaa
open Go.ChangeShapes Go.WideShapes Go.ChangeAt Go.RowKit Go.Deep

theorem measC {M j : Nat} (h : j < M) : M - (intOf (.int .i64 ((j : Int) + 1))).toNat < M - (intOf (.int .i64 (j : Int))).toNat := by
  simp only [intOf]; omega
theorem one_newC (w : World) (A : Array Value) (t : TypeId) : (w.alloc (.cells A t)).heap[w.heap.size]? = some (.cells A t (0, 0)) ∧ Below w.heap.size w (w.alloc (.cells A t)) := ⟨(MapKept.heap_alloc w (.cells A t)).1, (Below.refl _ w).alloc (Nat.le_refl _) _⟩
theorem wrong_leC {n : Nat} {l : List Ev} (h : wrongS n l = 0) : n ≤ 100 := by
  by_cases h2 : 100 < n
  · rw [wrongS, if_pos h2] at h; cases h
  · omega
theorem wrong_ofC {n : Nat} {l : List Ev} (h : wrongS n l = 0) : ∃ S, ofS l = (S, 0, 0) := by
  unfold wrongS at h
  rw [if_neg (by have := wrong_leC (n := n) (l := l) (by unfold wrongS; exact h); omega)] at h
  rcases ofS_cases l with ⟨S, hS, _⟩ | ⟨S, z, p, hS, hz⟩
  · exact ⟨S, hS⟩
  · rw [hS] at h; exact absurd h hz
theorem raceC_off {l : List Ev} {i j : Nat} {x y : Ev} (hx : l[i]? = some x) (hy : l[j]? = some y) (h : clE x y = false) : raceC l i j = false := by
  unfold raceC; rw [getD_of hx, getD_of hy, h]; rfl
theorem raceC_on {l : List Ev} {i j : Nat} {x y : Ev} (hx : l[i]? = some x) (hy : l[j]? = some y) (h : clE x y = true) : raceC l i j = !hbB (rS l) i j := by
  unfold raceC; rw [getD_of hx, getD_of hy, h]; rfl

set_option maxRecDepth 20000 in
set_option maxHeartbeats 8000000 in
theorem cfraces_calls {w : World} {a0 : Option Addr} {n c : Nat} {l : List Ev} (h : IsEvs w a0 n c l) :
    Calls Try.prog 11 #[.slice a0 n c] w (AllPost w (confRes n l)) := by
  have hnm : n ≤ 9223372036854775807 := by have := h.le; have := h.cap; unfold maxLen at *; omega
  have Hev := Lib.hid h
  have Ho := Lib.hid (order_calls h)
  clear h
  go_enter Try.func11, Try.ntmps11
  go_wp2_with fail
  refine Ho.out.mono ?_
  rintro e w1 ⟨hb1, ⟨hz, rfl⟩ | ⟨hz, hg, b, v, rfl, hO⟩⟩
  · have HB1 := Lib.hid hb1
    have hz' : (wrongS n l != 0) = true := by simpa [bne] using hz
    have Hq : Hid (AllPost w (confRes n l) (.returned (.tuple #[.slice none 0 0, .int .i64 (wrongS n l)])) w1) := by rw [Hid, confRes_bad hz]; exact AllPost.none HB1.out
    clear hb1 hz Ho
    generalize wrongS n l = z at *
    go_wp2
    go_returns
    exact Hq.out
  have HB1 := Lib.hid hb1
  have HO := Lib.hid hO
  have HG := Lib.hid hg
  have hn100 : n ≤ 100 := hg.le
  have Hr := Lib.hid (confRes_good hz)
  have HE1 := Lib.hid (Hev.out.below hb1)
  clear hb1 hg hO hz Ho hnm
  go_wp2_with fail
  go_loopw [6, 7, 8, 9, 20] (fun u _ _ _ x wr => ∃ i : Nat, i ≤ n ∧ x = .int .i64 i ∧ Hid (OwnL eltP wr w1.heap.size u (natsP (prgC l n i)) ∧ Below w1.heap.size w1 wr)) (fun _ _ _ _ x _ => n - (intOf x).toNat)
  case atStart => exact ⟨0, Nat.zero_le _, by go_num, OwnL.nil .., Below.refl ..⟩
  case round =>
    obtain ⟨i, hi, rfl, HL⟩ := hrel
    by_cases hin : i < n
    · obtain ⟨b0, off, x, rfl, hx, _, c0, c1, c2, c3, c4⟩ := (HE1.out.below HL.out.2).at hin
      have Hx := Lib.hid hx
      obtain ⟨xt, xk, xo, xv, xb⟩ := x
      simp only at c0 c1 c2 c3 c4
      have Hul : Hid (∀ q, u6.ownBlock = some q → q ≠ wr.heap.size) := fun q hq => by have := (HL.out.1.lt hq).2; omega
      have hcl : (prgC l n i).length ≤ 10000 := by have := prgC_len l hn100 i; have : i * 100 ≤ 100 * 100 := Nat.mul_le_mul_right _ (by omega); omega
      have Hcl := Lib.hid hcl
      clear hx hcl
      go_upto_region 9 with (fail)
      have hN := one_newC wr #[.int .i64 xt, .int .i64 xk, .int .i64 xo, .int .i64 xv, .int .i64 xb] 38
      have HL2 := Lib.hid (And.intro (HL.out.1.below hN.2) (HL.out.2.trans (hN.2.mono HL.out.2.size)))
      revert hN HL2
      generalize wr.alloc (.cells #[.int .i64 xt, .int .i64 xk, .int .i64 xo, .int .i64 xv, .int .i64 xb] 38) = y1
      intro hN HL2
      have hA := hN.1
      clear hN HL c0 c1 c2 c3 c4
      revert hA Hul
      generalize wr.heap.size = g1
      intro Hul hA
      have HE : Hid (EvBox y1 g1 xt xk xo xv xb) := ⟨cell_of_block hA, cell_of_block hA, cell_of_block hA, cell_of_block hA, cell_of_block hA⟩
      have Hgy : Hid (g1 < y1.heap.size) := (Array.getElem?_eq_some_iff.1 hA).1
      clear hA
      go_loopw [6, 9] (fun u x wq => ∃ j : Nat, i + 1 ≤ j ∧ j ≤ n ∧ x = .int .i64 j ∧ Hid (OwnL eltP wq w1.heap.size u (natsP (prgP l n i j)) ∧ Below w1.heap.size w1 wq ∧ EvBox wq g1 xt xk xo xv xb ∧ (∀ q, u.ownBlock = some q → q ≠ g1) ∧ g1 < wq.heap.size)) (fun _ x _ => n - (intOf x).toNat)
      case atStart => exact ⟨i + 1, Nat.le_refl _, hin, by go_num, by rw [prgP_start]; exact HL2.out.1, HL2.out.2, HE.out, Hul.out, Hgy.out⟩
      case round =>
        clear HL2 HE Hul Hgy
        obtain ⟨j, hij, hj, rfl, HQ⟩ := hrel
        by_cases hjn : j < n
        · obtain ⟨b0', off', y, he, hy, _, d0, d1, d2, d3, d4⟩ := (HE1.out.below HQ.out.2.1).at hjn
          cases he
          have Hy := Lib.hid hy
          obtain ⟨yt, yk, yo, yv, yb⟩ := y
          simp only at d0 d1 d2 d3 d4
          obtain ⟨e0, e1, e2, e3, e4⟩ := HQ.out.2.2.1.all
          have HSy : Hid (∀ W, Below wr.heap.size wr W → Calls Try.prog 17 #[.pointer (some ⟨b, 0, none⟩), .int .i64 (i : Int), .int .i64 (j : Int)] W fun e w' => e = .returned (.bool (hbB (rS l) i j)) ∧ Below W.heap.size W w') := fun W hW => by
            have := sync_calls ((HO.out.below HQ.out.2.1).below hW) HG.out (i : Int) (j : Int)
            rw [befB_nat hin hjn] at this; exact this
          have HCl : Hid (∀ W, Calls Try.prog 16 #[.agg #[.int .i64 xt, .int .i64 xk, .int .i64 xo, .int .i64 xv, .int .i64 xb], .agg #[.int .i64 yt, .int .i64 yk, .int .i64 yo, .int .i64 yv, .int .i64 yb]] W fun e w' => e = .returned (.bool (clE ⟨xt, xk, xo, xv, xb⟩ ⟨yt, yk, yo, yv, yb⟩)) ∧ Below W.heap.size W w') := fun W => clash_calls _ _ _ _ _ _ _ _ _ _ _
          have Hoff : Hid (clE ⟨xt, xk, xo, xv, xb⟩ ⟨yt, yk, yo, yv, yb⟩ = false → prgP l n i (j + 1) = prgP l n i j) := fun h => by rw [prgP_succ hij, raceC_off Hx.out Hy.out h]; simp
          have Hon : Hid (clE ⟨xt, xk, xo, xv, xb⟩ ⟨yt, yk, yo, yv, yb⟩ = true → prgP l n i (j + 1) = prgP l n i j ++ if hbB (rS l) i j then [] else [(i, j)]) := fun h => by rw [prgP_succ hij, raceC_on Hx.out Hy.out h]; cases hbB (rS l) i j <;> rfl
          clear hy Hy
          revert HSy HCl Hoff Hon
          generalize clE ⟨xt, xk, xo, xv, xb⟩ ⟨yt, yk, yo, yv, yb⟩ = cl
          generalize hbB (rS l) i j = sy
          intro HSy HCl Hoff Hon
          cases cl
          case false =>
            have Hp := Lib.hid (Hoff.out rfl)
            clear Hoff Hon
            go_wp2_with fail
            refine wp_ext_draw 13 mixed (by kernel_rfl) ?_
            simp only [List.take_succ_cons, List.take_zero, List.drop_succ_cons, List.drop_zero]
            repeat ((first | ((apply TextRun.go rfl rfl rfl); (focus (intro w1 hS K hK; have hc := bcell hS; have hs := blt hS; have d0 := keep hS d0; have d1 := keep hS d1; have d2 := keep hS d2; have d3 := keep hS d3; have d4 := keep hS d4; have e0 := keep hS e0; have e1 := keep hS e1; have e2 := keep hS e2; have e3 := keep hS e3; have e4 := keep hS e4; go_wp2_with ((with_reducible refine (HCl.out _).mono ?_); rintro e w' ⟨rfl, hb⟩); first | done | exact hS | exact hS.trans (hb.mono hS.size)))) | (refine TextRun.skip rfl ?_) | ((refine TextRun.wantedT rfl rfl rfl ?_); (apply Exists.intro); (apply And.intro); (focus (intro w1 hS K hK; have hc := bcell hS; have hs := blt hS; have d0 := keep hS d0; have d1 := keep hS d1; have d2 := keep hS d2; have d3 := keep hS d3; have d4 := keep hS d4; have e0 := keep hS e0; have e1 := keep hS e1; have e2 := keep hS e2; have e3 := keep hS e3; have e4 := keep hS e4; go_wp2_with ((with_reducible refine (HCl.out _).mono ?_); rintro e w' ⟨rfl, hb⟩); first | done | exact hS | exact hS.trans (hb.mono hS.size))))); (simp only [Act.put, List.setIfInBounds_toArray, List.set_cons_zero, List.set_cons_succ]))
            refine TextRun.done ?_
            intro w2 hb
            have HN : Hid (OwnL eltP w2 w1.heap.size u6 (natsP (prgP l n i (j + 1))) ∧ Below w1.heap.size w1 w2 ∧ EvBox w2 g1 xt xk xo xv xb ∧ (∀ q, u6.ownBlock = some q → q ≠ g1) ∧ g1 < w2.heap.size) := by
              rw [Hid, Hp.out]; exact ⟨HQ.out.1.below hb, HQ.out.2.1.trans (hb.mono HQ.out.2.1.size), HQ.out.2.2.1.below hb, HQ.out.2.2.2.1, Nat.lt_of_lt_of_le HQ.out.2.2.2.2 hb.size⟩
            clear hb HQ HSy HCl d0 d1 d2 d3 d4 e0 e1 e2 e3 e4
            go_wp2
            go_roundw
            case rel => exact ⟨j + 1, Nat.le_succ_of_le hij, hjn, by go_num, HN.out⟩
            case measure => exact measC hjn
          case true =>
            have Hp := Lib.hid (Hon.out rfl)
            clear Hoff Hon
            go_wp2_with fail
            refine wp_ext_draw 13 mixed (by kernel_rfl) ?_
            simp only [List.take_succ_cons, List.take_zero, List.drop_succ_cons, List.drop_zero]
            repeat ((first | ((apply TextRun.go rfl rfl rfl); (focus (intro w1 hS K hK; have hc := bcell hS; have hs := blt hS; have d0 := keep hS d0; have d1 := keep hS d1; have d2 := keep hS d2; have d3 := keep hS d3; have d4 := keep hS d4; have e0 := keep hS e0; have e1 := keep hS e1; have e2 := keep hS e2; have e3 := keep hS e3; have e4 := keep hS e4; go_wp2_with (first | ((with_reducible refine (HCl.out _).mono ?_); rintro e w' ⟨rfl, hb⟩) | ((with_reducible refine (HSy.out _ hS).mono ?_); rintro e w' ⟨rfl, hb⟩)); first | done | exact hS | exact hS.trans (hb.mono hS.size)))) | (refine TextRun.skip rfl ?_) | ((refine TextRun.wantedT rfl rfl rfl ?_); (apply Exists.intro); (apply And.intro); (focus (intro w1 hS K hK; have hc := bcell hS; have hs := blt hS; have d0 := keep hS d0; have d1 := keep hS d1; have d2 := keep hS d2; have d3 := keep hS d3; have d4 := keep hS d4; have e0 := keep hS e0; have e1 := keep hS e1; have e2 := keep hS e2; have e3 := keep hS e3; have e4 := keep hS e4; go_wp2_with (first | ((with_reducible refine (HCl.out _).mono ?_); rintro e w' ⟨rfl, hb⟩) | ((with_reducible refine (HSy.out _ hS).mono ?_); rintro e w' ⟨rfl, hb⟩)); first | done | exact hS | exact hS.trans (hb.mono hS.size))))); (simp only [Act.put, List.setIfInBounds_toArray, List.set_cons_zero, List.set_cons_succ]))
            refine TextRun.done ?_
            intro w2 hb
            have HQ2 := Lib.hid (And.intro (HQ.out.1.below hb) (And.intro (HQ.out.2.1.trans (hb.mono HQ.out.2.1.size)) (And.intro (HQ.out.2.2.1.below hb) (And.intro HQ.out.2.2.2.1 (Nat.lt_of_lt_of_le HQ.out.2.2.2.2 hb.size)))))
            clear hb HQ HSy HCl d0 d1 d2 d3 d4 e0 e1 e2 e3 e4
            cases sy
            case true =>
              have HN : Hid (OwnL eltP w2 w1.heap.size u6 (natsP (prgP l n i (j + 1))) ∧ Below w1.heap.size w1 w2 ∧ EvBox w2 g1 xt xk xo xv xb ∧ (∀ q, u6.ownBlock = some q → q ≠ g1) ∧ g1 < w2.heap.size) := by
                rw [Hid, Hp.out, if_pos rfl, List.append_nil]; exact HQ2.out
              clear HQ2 Hp
              go_wp2
              go_roundw
              case rel => exact ⟨j + 1, Nat.le_succ_of_le hij, hjn, by go_num, HN.out⟩
              case measure => exact measC hjn
            case false =>
              have Hcp : Hid ((natsP (prgP l n i j)).length < 1000000) := by rw [Hid, natsP_len]; have := prgP_len l n i j; have := Hcl.out; omega
              go_wp2_with (at_builtin; go_loud (refine wpList_push eltP rfl (.tmp 46) (.tmp 50) rfl ((i : Int), (j : Int)) rfl rfl rfl HQ2.out.1 HQ2.out.2.1.size Hcp.out ?_))
              intro v' wv hown hw hv
              have HN : Hid (OwnL eltP wv w1.heap.size v' (natsP (prgP l n i (j + 1))) ∧ Below w1.heap.size w1 wv ∧ EvBox wv g1 xt xk xo xv xb ∧ (∀ q, v'.ownBlock = some q → q ≠ g1) ∧ g1 < wv.heap.size) := by
                rw [Hid, Hp.out, if_neg (by simp), natsP_app]
                refine ⟨hown, Wrote.below HQ2.out.2.1 hw HQ2.out.2.1.size (fun q hq => (HQ2.out.1.lt hq).1), HQ2.out.2.2.1.wrote hw (fun e => HQ2.out.2.2.2.1 _ e rfl), fun q hq => ?_, Nat.lt_of_lt_of_le HQ2.out.2.2.2.2 hw.size⟩
                rcases hv q hq with h1 | h1
                · exact HQ2.out.2.2.2.1 q h1
                · have := HQ2.out.2.2.2.2; omega
              clear hown hw hv HQ2 Hp Hcp
              go_wp2
              go_roundw
              case rel => exact ⟨j + 1, Nat.le_succ_of_le hij, hjn, by go_num, HN.out⟩
              case measure => exact measC hjn
        · have hjn : n = j := Nat.le_antisymm (Nat.le_of_not_lt hjn) hj
          rw [← hjn, prgP_end] at HQ
          have HN := Lib.hid (And.intro HQ.out.1 HQ.out.2.1)
          clear HQ
          go_wp2
          go_roundw
          case rel => exact ⟨i + 1, hin, by go_num, HN.out⟩
          case measure => exact measC hin
    · have hin : i = n := Nat.le_antisymm hi (Nat.le_of_not_lt hin)
      rw [hin] at HL ⊢
      have Hcp : Hid ((natsP (prgC l n n)).length < 1000000) := by rw [Hid, natsP_len]; have := prgC_len l hn100 n; have : n * 100 ≤ 100 * 100 := Nat.mul_le_mul_right _ (by omega); omega
      go_wp2_with fail
      refine (sortPair_calls HL.out.1 Hcp.out).mono ?_
      rintro e w2 ⟨rfl, ys, hp, hs, ho, hw⟩
      have hys := sort_doc hp hs
      rw [hys] at ho
      have Hq : Hid (AllPost w (confRes n l) (.returned (.tuple #[u6, .int .i64 0])) w2) := by
        rw [Hid, Hr.out]
        have hb2 := Wrote.below HL.out.2 hw HL.out.2.size (fun q hq => (HL.out.1.lt hq).1)
        exact ⟨_, rfl, ho.sees, HB1.out.trans (hb2.mono HB1.out.size)⟩
      clear hp hs hys ho hw HL
      go_wp2
      go_returns
      exact Hq.out

set_option maxRecDepth 20000 in
set_option maxHeartbeats 8000000 in
theorem rcfraces_calls {w : World} {a0 : Option Addr} {n c : Nat} {l : List Ev} (h : IsEvs w a0 n c l) :
    Calls Try.prog 12 #[.slice a0 n c] w (AllPost w (confRes n l)) := by
  have hnm : n ≤ 9223372036854775807 := by have := h.le; have := h.cap; unfold maxLen at *; omega
  have Hev := Lib.hid h
  have Ho := Lib.hid (rord_calls h)
  clear h
  go_enter Try.func12, Try.ntmps12
  go_wp2_with fail
  refine Ho.out.mono ?_
  rintro e w1 ⟨hb1, ⟨hz, rfl⟩ | ⟨hz, v1, v2, rfl, hM1, hM2⟩⟩
  · have HB1 := Lib.hid hb1
    have hz' : (wrongS n l != 0) = true := by simpa [bne] using hz
    have Hq : Hid (∀ x, AllPost w (confRes n l) (.returned (.tuple #[.slice none 0 0, .int .i64 (wrongS n l)])) (w1.alloc x)) := fun x => by rw [confRes_bad hz]; exact AllPost.none (HB1.out.alloc HB1.out.size _)
    clear hb1 hz Ho
    generalize wrongS n l = z at *
    go_wp2
    go_returns
    exact Hq.out _
  have Hr := Lib.hid (confRes_good hz)
  have hn100 : n ≤ 100 := wrong_leC hz
  obtain ⟨sa, sp, sq, rfl⟩ := hM1.slice
  obtain ⟨ta, tp, tq, rfl⟩ := hM2.slice
  have hal : Below w1.heap.size w1 (w1.alloc (.cells #[.slice a0 n c, .slice sa sp sq, .slice ta tp tq] 68)) := (Below.refl _ w1).alloc (Nat.le_refl _) _
  have hR3 : ROrdAt (w1.alloc (.cells #[.slice a0 n c, .slice sa sp sq, .slice ta tp tq] 68)) w1.heap.size a0 n c (.slice sa sp sq) (.slice ta tp tq) l :=
    ⟨(MapKept.heap_alloc w1 _).1, ⟨_, hM1.below hal⟩, ⟨_, hM2.below hal⟩, (Hev.out.below hb1).below hal⟩
  have HX := Lib.hid (And.intro hR3 (hb1.trans (hal.mono hb1.size)))
  clear hb1 hal hR3 hM1 hM2 Ho hz hnm
  go_wp2_with fail
  revert HX
  generalize w1.alloc (.cells #[.slice a0 n c, .slice sa sp sq, .slice ta tp tq] 68) = w2
  intro HX
  have HR := Lib.hid HX.out.1
  have HB2 := Lib.hid HX.out.2
  clear HX
  revert HR
  generalize w1.heap.size = rb
  intro HR
  go_loopw [6, 7, 8, 9] (fun u x _ _ wr => ∃ j : Nat, j ≤ n ∧ x = .int .i64 j ∧ Hid (OwnL eltP wr w2.heap.size u (natsP (docC l j)) ∧ Below w2.heap.size w2 wr)) (fun _ x _ _ _ => n - (intOf x).toNat)
  case atStart => exact ⟨0, Nat.zero_le _, by go_num, OwnL.nil .., Below.refl ..⟩
  case round =>
    obtain ⟨j, hj, rfl, HL⟩ := hrel
    by_cases hjn : j < n
    · have Hcl : Hid ((docC l j).length ≤ 10000) := by have := docC_len l j (by omega); have : j * 100 ≤ 100 * 100 := Nat.mul_le_mul_right _ (by omega); rw [Hid]; omega
      go_wp2_with fail
      go_loopw [6, 8, 9] (fun u x _ wq => ∃ i : Nat, i ≤ j ∧ x = .int .i64 i ∧ Hid (OwnL eltP wq w2.heap.size u (natsP (docP l j i)) ∧ Below w2.heap.size w2 wq)) (fun _ x _ _ => j - (intOf x).toNat)
      case atStart => exact ⟨0, Nat.zero_le _, by go_num, by rw [docP_zero]; exact HL.out.1, HL.out.2⟩
      case round =>
        clear HL
        obtain ⟨i, hi, rfl, HQ⟩ := hrel
        by_cases hij : i < j
        · have hin : i < n := Nat.lt_trans hij hjn
          have hR := HR.out.below HQ.out.2
          obtain ⟨b0, off, x, rfl, hx, _, c0, c1, c2, c3, c4⟩ := hR.evs.at hin
          obtain ⟨b0', off', y, he, hy, _, d0, d1, d2, d3, d4⟩ := hR.evs.at hjn
          cases he
          have Hx := Lib.hid hx
          have Hy := Lib.hid hy
          obtain ⟨xt, xk, xo, xv, xb⟩ := x
          obtain ⟨yt, yk, yo, yv, yb⟩ := y
          simp only at c0 c1 c2 c3 c4 d0 d1 d2 d3 d4
          have cs : wr.cell? ⟨rb, 2, none⟩ = some (.slice ta tp tq) := cell_of_block hR.blk
          obtain ⟨B, hmat⟩ := hR.m2
          obtain ⟨x, co, g, hsv, cx, hnco, hgc⟩ := hmat.read hjn
          cases hsv
          have cg := hgc i hin
          have HCl : Hid (∀ W, Calls Try.prog 38 #[.agg #[.int .i64 xt, .int .i64 xk, .int .i64 xo, .int .i64 xv, .int .i64 xb], .agg #[.int .i64 yt, .int .i64 yk, .int .i64 yo, .int .i64 yv, .int .i64 yb]] W fun e w' => e = .returned (.bool (clE ⟨xt, xk, xo, xv, xb⟩ ⟨yt, yk, yo, yv, yb⟩)) ∧ Below W.heap.size W w') := fun W => rclash_calls _ _ _ _ _ _ _ _ _ _ _
          have Hoff : Hid (clE ⟨xt, xk, xo, xv, xb⟩ ⟨yt, yk, yo, yv, yb⟩ = false → docP l j (i + 1) = docP l j i) := fun h => by rw [docP_succ, raceC_off Hx.out Hy.out h]; simp
          have Hon : Hid (clE ⟨xt, xk, xo, xv, xb⟩ ⟨yt, yk, yo, yv, yb⟩ = true → docP l j (i + 1) = docP l j i ++ if hbB (rS l) i j then [] else [(i, j)]) := fun h => by rw [docP_succ, raceC_on Hx.out Hy.out h]; cases hbB (rS l) i j <;> rfl
          clear hx hy Hx Hy hmat hgc hR
          revert cg HCl Hoff Hon
          generalize clE ⟨xt, xk, xo, xv, xb⟩ ⟨yt, yk, yo, yv, yb⟩ = cl
          generalize hbB (rS l) i j = sy
          intro cg HCl Hoff Hon
          go_wp2_with fail
          refine wp_ext_draw 10 mixed (by kernel_rfl) ?_
          simp only [List.take_succ_cons, List.take_zero, List.drop_succ_cons, List.drop_zero]
          repeat ((first | ((apply TextRun.go rfl rfl rfl); (focus (intro w1 hS K hK; have hc := bcell hS; have hs := blt hS; have c0 := keep hS c0; have c1 := keep hS c1; have c2 := keep hS c2; have c3 := keep hS c3; have c4 := keep hS c4; have d0 := keep hS d0; have d1 := keep hS d1; have d2 := keep hS d2; have d3 := keep hS d3; have d4 := keep hS d4; go_wp2_with ((with_reducible refine (HCl.out _).mono ?_); rintro e w' ⟨rfl, hb⟩); first | done | exact hS | exact hS.trans (hb.mono hS.size)))) | (refine TextRun.skip rfl ?_) | ((refine TextRun.wantedT rfl rfl rfl ?_); (apply Exists.intro); (apply And.intro); (focus (intro w1 hS K hK; have hc := bcell hS; have hs := blt hS; have c0 := keep hS c0; have c1 := keep hS c1; have c2 := keep hS c2; have c3 := keep hS c3; have c4 := keep hS c4; have d0 := keep hS d0; have d1 := keep hS d1; have d2 := keep hS d2; have d3 := keep hS d3; have d4 := keep hS d4; go_wp2_with ((with_reducible refine (HCl.out _).mono ?_); rintro e w' ⟨rfl, hb⟩); first | done | exact hS | exact hS.trans (hb.mono hS.size))))); (simp only [Act.put, List.setIfInBounds_toArray, List.set_cons_zero, List.set_cons_succ]))
          refine TextRun.done ?_
          intro y2 hb
          have cs := keep hb cs
          have cx := keep hb cx
          have cg := keep hb cg
          have HQ2 := Lib.hid (And.intro (HQ.out.1.below hb) (HQ.out.2.trans (hb.mono HQ.out.2.size)))
          clear hb HQ HCl c0 c1 c2 c3 c4 d0 d1 d2 d3 d4
          cases cl
          case false =>
            have HN : Hid (OwnL eltP y2 w2.heap.size u6 (natsP (docP l j (i + 1))) ∧ Below w2.heap.size w2 y2) := by rw [Hid, Hoff.out rfl]; exact HQ2.out
            clear Hoff Hon HQ2 cs cx cg
            go_wp2
            go_roundw
            case rel => exact ⟨i + 1, hij, by go_num, HN.out⟩
            case measure => exact measC hij
          case true =>
            have Hp := Lib.hid (Hon.out rfl)
            clear Hoff Hon
            cases sy
            case true =>
              have HN : Hid (OwnL eltP y2 w2.heap.size u6 (natsP (docP l j (i + 1))) ∧ Below w2.heap.size w2 y2) := by rw [Hid, Hp.out, if_pos rfl, List.append_nil]; exact HQ2.out
              clear HQ2 Hp
              go_wp2
              go_roundw
              case rel => exact ⟨i + 1, hij, by go_num, HN.out⟩
              case measure => exact measC hij
            case false =>
              have Hcp : Hid ((natsP (docP l j i)).length < 1000000) := by rw [Hid, natsP_len]; have := docP_len l j i; have := Hcl.out; omega
              go_wp2_with (at_builtin; go_loud (refine wpList_push eltP rfl (.tmp 50) (.tmp 54) rfl ((i : Int), (j : Int)) rfl rfl rfl HQ2.out.1 HQ2.out.2.size Hcp.out ?_))
              intro v' wv hown hw hv
              have HN : Hid (OwnL eltP wv w2.heap.size v' (natsP (docP l j (i + 1))) ∧ Below w2.heap.size w2 wv) := by
                rw [Hid, Hp.out, if_neg (by simp), natsP_app]
                exact ⟨hown, Wrote.below HQ2.out.2 hw HQ2.out.2.size (fun q hq => (HQ2.out.1.lt hq).1)⟩
              clear hown hw hv HQ2 Hp Hcp cs cx cg
              go_wp2
              go_roundw
              case rel => exact ⟨i + 1, hij, by go_num, HN.out⟩
              case measure => exact measC hij
        · have hij : j = i := Nat.le_antisymm (Nat.le_of_not_lt hij) hi
          subst hij
          rw [docP_end] at HQ
          have HN := Lib.hid HQ.out
          clear HQ
          go_wp2
          go_roundw
          case rel => exact ⟨j + 1, hjn, by go_num, HN.out⟩
          case measure => exact measC hjn
    · have hjn : j = n := Nat.le_antisymm hj (Nat.le_of_not_lt hjn)
      subst hjn
      have Hq : Hid (AllPost w (confRes j l) (.returned (.tuple #[u6, .int .i64 0])) wr) := by rw [Hid, Hr.out]; exact ⟨_, rfl, HL.out.1.sees, HB2.out.trans (HL.out.2.mono HB2.out.size)⟩
      clear HL
      go_wp2
      go_returns
      exact Hq.out
end Go.Proofs.Ytadngicebbnnlaa
