/-
  The program's Normal: the least execution that is the same but for exchanges.
-/
import Derived.Test.YtjhlehepnhbbaaaRowI
set_option linter.unusedSimpArgs false
set_option linter.unusedVariables false
namespace Go.Proofs.Ytjhlehepnhbbaaa
open Go.ChangeShapes Go.WideShapes Go.ChangeAt Go.RowKit Go.Deep

noncomputable def normRes (n : Nat) (l : List Ev) : List Ev × Int := if wrongS n l ≠ 0 then ([], wrongS n l) else (normL l, 0)
theorem normRes_bad {n : Nat} {l : List Ev} (h : wrongS n l ≠ 0) : normRes n l = ([], wrongS n l) := if_pos h
theorem normRes_good {n : Nat} {l : List Ev} (h : wrongS n l = 0) : normRes n l = (normL l, 0) := by unfold normRes; rw [if_neg (by rw [h]; simp)]
theorem bestI_no {l : List Ev} {C : List Nat} {i : Nat} (h : availB l C i = false) : bestI l C (i + 1) = bestI l C i := by rw [bestI, h]; simp
theorem bestI_first {l : List Ev} {C : List Nat} {i : Nat} (h : availB l C i = true) (hb : bestI l C i = -1) : bestI l C (i + 1) = (i : Int) := by rw [bestI, h, hb]; simp
theorem bestI_less {l : List Ev} {C : List Nat} {i b : Nat} (h : availB l C i = true) (hb : bestI l C i = (b : Int)) (ht : thE l i < thE l b) : bestI l C (i + 1) = (i : Int) := by
  rw [bestI, h, hb, Int.toNat_natCast, decide_eq_true ht]; simp
theorem bestI_more {l : List Ev} {C : List Nat} {i b : Nat} (hb : bestI l C i = (b : Int)) (ht : ¬ thE l i < thE l b) : bestI l C (i + 1) = (b : Int) := by
  rw [bestI, hb, Int.toNat_natCast, decide_eq_false ht]
  have : decide ((b : Int) < 0) = false := by simp
  rw [this]; simp
theorem normL_wf {l : List Ev} (hw : ∀ e ∈ l, e.wf) : ∀ e ∈ normL l, e.wf := by
  unfold normL
  exact evsAt_wf hw (normI_laid l l.length (Nat.le_refl _)).2
theorem RowI.base {n : Nat} {f : Nat → Int} {rb : Nat} {wo wx : World} (h : RowI n f rb wo wx) (e : rb = wo.heap.size) : Below wo.heap.size wo wx := by rw [← e]; exact h.below
theorem OwnL.natAt {w : World} {B n c : Nat} {a : Option Addr} {R : List Nat} (h : OwnL eltI w B (.slice a n c) (natsI R)) {i q : Nat} (hq : R[i]? = some q) : ∃ g, a = some ⟨g, 0, none⟩ ∧ w.cell? ⟨g, i, none⟩ = some (.int .i64 (q : Int)) := by
  obtain ⟨a', c', he, _, hat⟩ := h.int_at
  cases he
  obtain ⟨g, h1, _, h2⟩ := hat i q (natsI_get hq)
  exact ⟨g, h1, h2⟩
/-- A list of numbers of one's own, while another row is written. -/
theorem OwnL.cell_set {w : World} {B g i : Nat} {v u : Value} {xs : List Int} (h : OwnL eltI w B v xs) (hg : g < B) : OwnL eltI (w.setCell ⟨g, i, none⟩ u) B v xs :=
  h.wrote (Wrote.setCell (R := fun q => q = g) w (p := ⟨g, i, none⟩) u rfl) (fun y hy hR => by have := (h.lt hy).1; omega)
theorem OwnL.cell_setE {w : World} {B g i : Nat} {v u : Value} {xs : List Ev} (h : OwnL eltEv w B v xs) (hg : g < B) : OwnL eltEv (w.setCell ⟨g, i, none⟩ u) B v xs :=
  h.wrote (Wrote.setCell (R := fun q => q = g) w (p := ⟨g, i, none⟩) u rfl) (fun y hy hR => by have := (h.lt hy).1; omega)

set_option maxRecDepth 20000 in
set_option maxHeartbeats 16000000 in
theorem normal_calls {w : World} {a0 : Option Addr} {n c : Nat} {l : List Ev} (h : IsEvs w a0 n c l) :
    Calls Try.prog 19 #[.slice a0 n c] w (EvsPost w (normRes n l)) := by
  have hnm : n ≤ 9223372036854775807 := by have := h.le; have := h.cap; unfold maxLen at *; omega
  have Hev := Lib.hid h
  have Ho := Lib.hid (order_calls h)
  have Hl := Lib.hid h.len
  clear h
  go_enter Try.func19, Try.ntmps19
  go_wp2_with fail
  refine Ho.out.mono ?_
  rintro e w1 ⟨hb1, ⟨hz, rfl⟩ | ⟨hz, hg, b, v, rfl, hO⟩⟩
  · have HB1 := Lib.hid hb1
    have hz' : (wrongS n l != 0) = true := by simpa [bne] using hz
    have Hq : Hid (EvsPost w (normRes n l) (.returned (.tuple #[.slice none 0 0, .int .i64 (wrongS n l)])) w1) := by rw [Hid, normRes_bad hz]; exact EvsPost.none HB1.out
    clear hb1 hz Ho
    generalize wrongS n l = z at *
    go_wp2
    go_returns
    exact Hq.out
  have HB1 := Lib.hid hb1
  have HO := Lib.hid hO
  have HG := Lib.hid hg
  have hn100 : n ≤ 100 := hg.le
  have Hr := Lib.hid (normRes_good hz)
  clear hb1 hg hO hz Ho hnm
  go_wp2_with (refine wpList_makeI rfl (.tmp 25) (.tmp 25) rfl n (by omega) rfl rfl ?_)
  have HS : RowI n (fun j => (cntU l [] 0 j : Int)) w1.heap.size w1 (w1.alloc (.cells (intsA n fun _ => 0) 3)) := ⟨by rw [intsA_congr (g := fun _ => 0) (fun i _ => by simp [cntU])]; exact (MapKept.heap_alloc w1 _).1, (Below.refl _ w1).alloc (Nat.le_refl _) _⟩
  revert HS
  generalize w1.alloc (.cells (intsA n fun _ => 0) 3) = w2
  intro HS
  obtain ⟨gl, hgl⟩ : ∃ gl, gl = w1.heap.size := ⟨_, rfl⟩
  rw [← hgl] at HS ⊢
  have Hgl := Lib.hid hgl
  have HS2 := Lib.hid HS
  clear hgl HS
  go_wp2_with fail
  go_loopw [7, 29] (fun _ x wr => ∃ i : Nat, i ≤ n ∧ x = .int .i64 i ∧ Hid (RowI n (fun j => (cntU l [] i j : Int)) gl w1 wr)) (fun _ x _ => n - (intOf x).toNat)
  case atStart => exact ⟨0, Nat.zero_le _, by go_num, HS2.out⟩
  case round =>
    clear HS2
    obtain ⟨i, hi, rfl, HS⟩ := hrel
    have HBr : Hid (Below w1.heap.size w1 wr) := HS.out.base Hgl.out
    by_cases hin : i < n
    · go_wp2_with fail
      refine (obehind_calls (HO.out.below HBr.out) HG.out (i : Int)).mono ?_
      rintro e wy ⟨ur, rfl, hown, hb⟩
      rw [marks_bh Hl.out.symm hin] at hown
      have HSy := Lib.hid (HS.out.go hb)
      have hgB : gl < wr.heap.size := HS.out.lt
      obtain ⟨B', hB'⟩ : ∃ B', B' = wr.heap.size := ⟨_, rfl⟩
      rw [← hB'] at hown hgB
      obtain ⟨sa, sc, hu, hsc, _⟩ := hown.int_at
      rw [natsI_len] at hu hsc
      subst hu
      have HOw := Lib.hid hown
      have HgB := Lib.hid hgB
      have hDl : (bhN l i).length ≤ 100 := Nat.le_trans (bhN_len l i) (by rw [Hl.out]; exact hn100)
      have HDn : Hid (bhN l i).Nodup := bhN_nodup l i
      have HDm : Hid (∀ q ∈ bhN l i, q < n) := fun q hq => by have := (bhN_mem.1 hq).1; rw [Hl.out] at this; exact this
      have HDf : Hid (∀ j, j < n → addF (fun j => (cntU l [] i j : Int)) (bhN l i) 1 j = (cntU l [] (i + 1) j : Int)) := fun j hj => first_counts (by rw [Hl.out]; exact hj)
      have HCb : Hid (∀ j, (0 : Int) ≤ cntU l [] i j ∧ (cntU l [] i j : Int) ≤ 100) := fun j => by have := cntU_le l [] i j; exact ⟨by omega, by omega⟩
      clear hb hown hB' hgB HS HBr
      revert HOw hDl hsc HDn HDm HDf HCb HSy
      generalize bhN l i = D
      generalize hF : (fun j => (cntU l [] i j : Int)) = F
      intro HSy hsc HOw hDl HDn HDm HDf HCb
      have HCb' : Hid (∀ j, (0 : Int) ≤ F j ∧ F j ≤ 100) := by subst hF; exact HCb.out
      clear HCb hF
      go_wp2_with fail
      go_loopw [9, 36] (fun _ x wq => ∃ p : Nat, p ≤ D.length ∧ x = .int .i64 p ∧ Hid (RowI n (addF F (D.take p) 1) gl w1 wq ∧ OwnL eltI wq B' (.slice sa D.length sc) (natsI D))) (fun _ x _ => D.length - (intOf x).toNat)
      case atStart => exact ⟨0, Nat.zero_le _, by go_num, ⟨HSy.out.of (fun j _ => by rw [List.take_zero, addF_nil]), HOw.out⟩⟩
      case round =>
        clear HSy HOw
        obtain ⟨p, hp, rfl, HQ⟩ := hrel
        by_cases hpl : p < D.length
        · obtain ⟨q, hq⟩ : ∃ q, D[p]? = some q := ⟨_, List.getElem?_eq_getElem hpl⟩
          obtain ⟨g, rfl, cq⟩ := HQ.out.2.natAt hq
          have hqn : q < n := HDm.out q (List.mem_of_getElem? hq)
          obtain ⟨gc, gf⟩ := HQ.out.1.get hqn
          rw [addF_mem HDn.out hq] at gc
          obtain ⟨z, hz⟩ : ∃ z, z = F q := ⟨_, rfl⟩
          obtain ⟨hz0, hz1⟩ := HCb'.out q
          rw [← hz] at gc hz0 hz1
          have HN : Hid (RowI n (addF F (D.take (p + 1)) 1) gl w1 (wr.setCell ⟨gl, q, none⟩ (.int .i64 (z + 1))) ∧ OwnL eltI (wr.setCell ⟨gl, q, none⟩ (.int .i64 (z + 1))) B' (.slice (some ⟨g, 0, none⟩) D.length sc) (natsI D)) :=
            ⟨(HQ.out.1.put q (z + 1)).of (fun j _ => by have := addF_put (f := F) (s := 1) HDn.out hq j; rw [addF_mem HDn.out hq] at this; rw [hz]; exact this), HQ.out.2.cell_set HgB.out⟩
          clear hq hz HQ
          go_wp2
          go_roundw
          case rel => exact ⟨p + 1, hpl, by go_num, HN.out⟩
          case measure => exact meas hpl
        · have hpl : D.length = p := Nat.le_antisymm (Nat.le_of_not_lt hpl) hp
          subst hpl
          have HN : Hid (RowI n (fun j => (cntU l [] (i + 1) j : Int)) gl w1 wr) := HQ.out.1.of (fun j hj => by rw [List.take_length]; exact HDf.out j hj)
          clear HQ
          go_wp2
          go_roundw
          case rel => exact ⟨i + 1, hin, by go_num, HN.out⟩
          case measure => exact meas hin
    · have hin : i = n := by omega
      subst hin
      have HSA : Hid (RowI i (leftF l []) gl w1 wr) := HS.out.of (fun j _ => by rw [← leftF_start, Hl.out])
      have HBr2 := HBr
      clear HS HBr
      obtain ⟨i0, hi0, hz0, hz1, hz2⟩ := info_parts infoEv
      have Hi := Lib.hid hi0
      have Hz0 := Lib.hid hz0
      have Hz1 := Lib.hid hz1
      have Hz2 := Lib.hid hz2
      have hglt : gl + 1 ≤ wr.heap.size := HSA.out.lt
      clear hi0 hz0 hz1 hz2
      go_wp2_with (refine wpList_make_own _ rfl _ (.tmp 49) 22 rfl (gl + 1) 36 i0 (.agg #[.int .i64 0, .int .i64 0, .int .i64 0, .int .i64 0, .int .i64 0]) 5 Try.underlying22 Hi.out Hz0.out Hz1.out .i64 .i64 _ i rfl rfl rfl (by rw [Hz2.out]; omega) (by unfold maxLen; omega) hglt ?_; intro w3 hown hgr)
      have hb3 : Below wr.heap.size wr w3 := (Below.refl _ wr).grown hgr (Nat.le_refl _) (fun k hk => by cases hk)
      have HS3 := Lib.hid (HSA.out.go hb3)
      have hO3 : OwnL eltEv w3 (gl + 1) (.slice (some ⟨wr.heap.size, 0, none⟩) 0 i) [] := ⟨hown⟩
      have HO3 := Lib.hid hO3
      clear hown hgr hb3 hO3 HSA HBr2 Hi Hz0 Hz1 Hz2 hglt
      go_wp2_with fail
      go_loopw [10, 11, 12, 53, 57] (fun u _ _ x _ wr => ∃ m : Nat, m ≤ i ∧ x = .int .i64 m ∧ Hid (RowI i (leftF l (normI l m)) gl w1 wr ∧ OwnL eltEv wr (gl + 1) u (evsAt l (normI l m)))) (fun _ _ _ x _ _ => i - (intOf x).toNat)
      case atStart => exact ⟨0, Nat.zero_le _, by go_num, HS3.out, HO3.out⟩
      case round =>
        clear HS3 HO3
        obtain ⟨m, hm, rfl, HL⟩ := hrel
        by_cases hmi : m < i
        · obtain ⟨bb, hb1, hb2, hb3, hb4, hb5⟩ := normI_next (l := l) (m := m) (by rw [Hl.out]; exact hmi)
          obtain ⟨hLa, _⟩ := normI_laid l m (by rw [Hl.out]; exact hm)
          rw [Hl.out] at hb1 hb2
          have HBest := Lib.hid hb1
          have HAv := Lib.hid hb3
          have HNx := Lib.hid hb4
          have HLa := Lib.hid hLa
          have HLen : Hid ((evsAt l (normI l m)).length < 1000000) := by rw [Hid, evsAt_len, normI_len]; omega
          clear hb1 hb3 hb4 hb5 hLa
          revert HL HBest HAv HNx HLa HLen
          generalize normI l m = C
          intro HL HBest HAv HNx HLa HLen
          have HBw := Lib.hid (HB1.out.trans ((HL.out.1.base Hgl.out).mono HB1.out.size))
          go_wp2_with fail
          go_loopw [11, 12, 57] (fun bst _ x wq => ∃ j : Nat, j ≤ i ∧ x = .int .i64 j ∧ bst = .int .i64 (bestI l C j) ∧ Hid (Below wr.heap.size wr wq)) (fun _ _ x _ => i - (intOf x).toNat)
          case atStart => exact ⟨0, Nat.zero_le _, by go_num, rfl, Below.refl ..⟩
          case round =>
            obtain ⟨j, hj, rfl, rfl, HB⟩ := hrel
            by_cases hji : j < i
            · have HBq := Lib.hid (HBw.out.trans (HB.out.mono HBw.out.size))
              obtain ⟨b0, off, x, rfl, hx, _, c0, c1, c2, c3, c4⟩ := (Hev.out.below HBq.out).at hji
              obtain ⟨gi, _⟩ := (HL.out.1.go HB.out).get hji
              have hth : thE l j = x.t := thE_of hx
              have hlf : (leftF l C j == 0) = availB l C j := leftF_zero (by rw [Hl.out]; exact hji)
              obtain ⟨z, hz⟩ : ∃ z, z = leftF l C j := ⟨_, rfl⟩
              rw [← hz] at gi hlf
              obtain ⟨xt, xk, xo, xv, xb⟩ := x
              simp only at c0 c1 c2 c3 c4 hth
              have Hth := Lib.hid hth
              have Hlf := Lib.hid hlf
              clear hx hth hlf hz
              go_wp2_with fail
              have hN := one_newR wr #[.int .i64 xt, .int .i64 xk, .int .i64 xo, .int .i64 xv, .int .i64 xb] 36
              revert hN
              generalize wr.alloc (.cells #[.int .i64 xt, .int .i64 xk, .int .i64 xo, .int .i64 xv, .int .i64 xb] 36) = y1
              rintro ⟨hA, hb⟩
              obtain ⟨g1, hg1⟩ : ∃ g1, g1 = wr.heap.size := ⟨_, rfl⟩
              rw [← hg1] at hA ⊢
              have t0 : y1.cell? ⟨g1, 0, none⟩ = some (.int .i64 xt) := cell_of_block hA
              have gi := keep hb gi
              have HBy := Lib.hid (HB.out.trans (hb.mono HB.out.size))
              have HBz := Lib.hid (HBq.out.trans (hb.mono HBq.out.size))
              clear hA hb hg1 c0 c1 c2 c3 c4 HB HBq
              by_cases hz : z = 0
              · have hz0 : (z == 0) = true := by simpa using hz
                have Hav : Hid (availB l C j = true) := by rw [Hid, ← Hlf.out]; exact hz0
                clear hz Hlf
                rcases bestI_spec l C j with ⟨hb, _⟩ | ⟨b', hb, hbj, _, _⟩
                · have Hb := Lib.hid (bestI_first Hav.out hb)
                  rw [hb]
                  clear hb
                  refine wp_ext_draw 19 mixed (by kernel_rfl) ?_
                  simp only [List.take_succ_cons, List.take_zero, List.drop_succ_cons, List.drop_zero]
                  repeat ((first | ((apply TextRun.go rfl rfl rfl); (focus (intro w1 hS K hK; have hc := bcell hS; have hs := blt hS; have gi := keep hS gi; have t0 := keep hS t0; go_wp2_with (fail); first | done | exact hS | exact hS.trans (hb.mono hS.size)))) | (refine TextRun.skip rfl ?_) | ((refine TextRun.wantedT rfl rfl rfl ?_); (apply Exists.intro); (apply And.intro); (focus (intro w1 hS K hK; have hc := bcell hS; have hs := blt hS; have gi := keep hS gi; have t0 := keep hS t0; go_wp2_with (fail); first | done | exact hS | exact hS.trans (hb.mono hS.size))))); (simp only [Act.put, List.setIfInBounds_toArray, List.set_cons_zero, List.set_cons_succ]))
                  refine TextRun.done ?_
                  intro y2 hb
                  have HB2 := Lib.hid (HBy.out.trans (hb.mono HBy.out.size))
                  clear hb
                  go_wp2
                  go_roundw
                  case rel => exact ⟨j + 1, hji, by go_num, by rw [Hb.out], HB2.out⟩
                  case measure => exact meas hji
                · obtain ⟨b0', off', y, he, hy, _, d0, _, _, _, _⟩ := (Hev.out.below HBz.out).at (show b' < i from Nat.lt_trans hbj hji)
                  cases he
                  have hthb : thE l b' = y.t := thE_of hy
                  have hbi : b' < i := Nat.lt_trans hbj hji
                  obtain ⟨yt, yk, yo, yv, yb⟩ := y
                  simp only at d0 hthb
                  have hb0 : decide ((b' : Int) < 0) = false := by simp
                  by_cases hlt : xt < yt
                  · have hltd : decide (xt < yt) = true := decide_eq_true hlt
                    have Hb := Lib.hid (bestI_less Hav.out hb (by rw [Hth.out, hthb]; exact hlt))
                    rw [hb]
                    clear hb hlt hthb hy
                    refine wp_ext_draw 19 mixed (by kernel_rfl) ?_
                    simp only [List.take_succ_cons, List.take_zero, List.drop_succ_cons, List.drop_zero]
                    repeat ((first | ((apply TextRun.go rfl rfl rfl); (focus (intro w1 hS K hK; have hc := bcell hS; have hs := blt hS; have gi := keep hS gi; have t0 := keep hS t0; have d0 := keep hS d0; go_wp2_with (fail); first | done | exact hS | exact hS.trans (hb.mono hS.size)))) | (refine TextRun.skip rfl ?_) | ((refine TextRun.wantedT rfl rfl rfl ?_); (apply Exists.intro); (apply And.intro); (focus (intro w1 hS K hK; have hc := bcell hS; have hs := blt hS; have gi := keep hS gi; have t0 := keep hS t0; have d0 := keep hS d0; go_wp2_with (fail); first | done | exact hS | exact hS.trans (hb.mono hS.size))))); (simp only [Act.put, List.setIfInBounds_toArray, List.set_cons_zero, List.set_cons_succ]))
                    refine TextRun.done ?_
                    intro y2 hb
                    have HB2 := Lib.hid (HBy.out.trans (hb.mono HBy.out.size))
                    clear hb
                    go_wp2
                    go_roundw
                    case rel => exact ⟨j + 1, hji, by go_num, by rw [Hb.out], HB2.out⟩
                    case measure => exact meas hji
                  · have hltd : decide (xt < yt) = false := decide_eq_false hlt
                    have Hb := Lib.hid (bestI_more (C := C) (i := j) hb (by rw [Hth.out, hthb]; exact hlt))
                    rw [hb]
                    clear hb hlt hthb hy
                    refine wp_ext_draw 19 mixed (by kernel_rfl) ?_
                    simp only [List.take_succ_cons, List.take_zero, List.drop_succ_cons, List.drop_zero]
                    repeat ((first | ((apply TextRun.go rfl rfl rfl); (focus (intro w1 hS K hK; have hc := bcell hS; have hs := blt hS; have gi := keep hS gi; have t0 := keep hS t0; have d0 := keep hS d0; go_wp2_with (fail); first | done | exact hS | exact hS.trans (hb.mono hS.size)))) | (refine TextRun.skip rfl ?_) | ((refine TextRun.wantedT rfl rfl rfl ?_); (apply Exists.intro); (apply And.intro); (focus (intro w1 hS K hK; have hc := bcell hS; have hs := blt hS; have gi := keep hS gi; have t0 := keep hS t0; have d0 := keep hS d0; go_wp2_with (fail); first | done | exact hS | exact hS.trans (hb.mono hS.size))))); (simp only [Act.put, List.setIfInBounds_toArray, List.set_cons_zero, List.set_cons_succ]))
                    refine TextRun.done ?_
                    intro y2 hb
                    have HB2 := Lib.hid (HBy.out.trans (hb.mono HBy.out.size))
                    clear hb
                    go_wp2
                    go_roundw
                    case rel => exact ⟨j + 1, hji, by go_num, by rw [Hb.out], HB2.out⟩
                    case measure => exact meas hji
              · have hz0 : (z == 0) = false := by simpa using hz
                have Hb : Hid (bestI l C (j + 1) = bestI l C j) := bestI_no (by rw [← Hlf.out]; exact hz0)
                clear hz Hlf
                refine wp_ext_draw 19 mixed (by kernel_rfl) ?_
                simp only [List.take_succ_cons, List.take_zero, List.drop_succ_cons, List.drop_zero]
                repeat ((first | ((apply TextRun.go rfl rfl rfl); (focus (intro w1 hS K hK; have hc := bcell hS; have hs := blt hS; have gi := keep hS gi; have t0 := keep hS t0; go_wp2_with (fail); first | done | exact hS | exact hS.trans (hb.mono hS.size)))) | (refine TextRun.skip rfl ?_) | ((refine TextRun.wantedT rfl rfl rfl ?_); (apply Exists.intro); (apply And.intro); (focus (intro w1 hS K hK; have hc := bcell hS; have hs := blt hS; have gi := keep hS gi; have t0 := keep hS t0; go_wp2_with (fail); first | done | exact hS | exact hS.trans (hb.mono hS.size))))); (simp only [Act.put, List.setIfInBounds_toArray, List.set_cons_zero, List.set_cons_succ]))
                refine TextRun.done ?_
                intro y2 hb
                have HB2 := Lib.hid (HBy.out.trans (hb.mono HBy.out.size))
                clear hb
                go_wp2
                go_roundw
                case rel => exact ⟨j + 1, hji, by go_num, by rw [Hb.out], HB2.out⟩
                case measure => exact meas hji
            · have hji : i = j := Nat.le_antisymm (Nat.le_of_not_lt hji) hj
              subst hji
              rw [HBest.out]
              have HL4 := Lib.hid (And.intro (HL.out.1.go HB.out) (HL.out.2.below HB.out))
              obtain ⟨gc, gf⟩ := HL4.out.1.get hb2
              have HL5 : Hid (RowI i (fun x => if x = bb then -1 else leftF l C x) gl w1 (wr.setCell ⟨gl, bb, none⟩ (.int .i64 (-1))) ∧ OwnL eltEv (wr.setCell ⟨gl, bb, none⟩ (.int .i64 (-1))) (gl + 1) u10 (evsAt l C)) := ⟨HL4.out.1.put bb (-1), HL4.out.2.cell_setE (Nat.lt_succ_self gl)⟩
              clear HL4 HL HB HBw HBest
              go_wp2_with fail
              revert HL5
              clear gc gf
              generalize wr.setCell ⟨gl, bb, none⟩ (.int .i64 (-1)) = y1
              intro HL5
              refine (obehind_calls (HO.out.below (HL5.out.1.base Hgl.out)) HG.out (bb : Int)).mono ?_
              rintro e y2 ⟨ur, rfl, hown, hb⟩
              rw [marks_bh Hl.out.symm hb2] at hown
              have HSy := Lib.hid (And.intro (HL5.out.1.go hb) (HL5.out.2.below hb))
              have hgB : gl < y1.heap.size := HL5.out.1.lt
              obtain ⟨B', hB'⟩ : ∃ B', B' = y1.heap.size := ⟨_, rfl⟩
              rw [← hB'] at hown hgB
              obtain ⟨sa, sc, hu, hsc, _⟩ := hown.int_at
              rw [natsI_len] at hu hsc
              subst hu
              have HOw := Lib.hid hown
              have HgB := Lib.hid hgB
              have hDl : (bhN l bb).length ≤ 100 := Nat.le_trans (bhN_len l bb) (by rw [Hl.out]; exact hn100)
              have HDn : Hid (bhN l bb).Nodup := bhN_nodup l bb
              have HDm : Hid (∀ q ∈ bhN l bb, q < i) := fun q hq => by have := (bhN_mem.1 hq).1; rw [Hl.out] at this; exact this
              have HDf : Hid (∀ j, j < i → addF (fun x => if x = bb then -1 else leftF l C x) (bhN l bb) (-1) j = leftF l (C ++ [bb]) j) := fun j hj => next_counts HLa.out (by rw [Hl.out]; exact hb2) HAv.out (by rw [Hl.out]; exact hj)
              have HCb : Hid (∀ j, (-1 : Int) ≤ (if j = bb then -1 else leftF l C j) ∧ (if j = bb then -1 else leftF l C j) ≤ (100 : Int)) := fun j => by
                have := leftF_fit l C j
                rw [Hl.out] at this
                split <;> omega
              clear hb hown hB' hgB HL5
              revert hsc HOw hDl HDn HDm HDf HCb HSy
              generalize bhN l bb = D
              generalize hF : (fun x => if x = bb then -1 else leftF l C x) = F
              intro HSy hsc HOw hDl HDn HDm HDf HCb
              have HCb' : Hid (∀ j, (-1 : Int) ≤ F j ∧ F j ≤ 100) := by subst hF; exact HCb.out
              clear HCb hF
              go_wp2_with fail
              go_loopw [15, 90] (fun _ x wq => ∃ p : Nat, p ≤ D.length ∧ x = .int .i64 p ∧ Hid (RowI i (addF F (D.take p) (-1)) gl w1 wq ∧ OwnL eltI wq B' (.slice sa D.length sc) (natsI D) ∧ OwnL eltEv wq (gl + 1) u10 (evsAt l C))) (fun _ x _ => D.length - (intOf x).toNat)
              case atStart => exact ⟨0, Nat.zero_le _, by go_num, ⟨HSy.out.1.of (fun j _ => by rw [List.take_zero, addF_nil]), HOw.out, HSy.out.2⟩⟩
              case round =>
                clear HSy HOw
                obtain ⟨p, hp, rfl, HQ⟩ := hrel
                by_cases hpl : p < D.length
                · obtain ⟨q, hq⟩ : ∃ q, D[p]? = some q := ⟨_, List.getElem?_eq_getElem hpl⟩
                  obtain ⟨g, rfl, cq⟩ := HQ.out.2.1.natAt hq
                  have hqn : q < i := HDm.out q (List.mem_of_getElem? hq)
                  obtain ⟨gc, gf⟩ := HQ.out.1.get hqn
                  rw [addF_mem HDn.out hq] at gc
                  obtain ⟨z, hz⟩ : ∃ z, z = F q := ⟨_, rfl⟩
                  obtain ⟨hz0, hz1⟩ := HCb'.out q
                  rw [← hz] at gc hz0 hz1
                  have HN : Hid (RowI i (addF F (D.take (p + 1)) (-1)) gl w1 (wr.setCell ⟨gl, q, none⟩ (.int .i64 (z - 1))) ∧ OwnL eltI (wr.setCell ⟨gl, q, none⟩ (.int .i64 (z - 1))) B' (.slice (some ⟨g, 0, none⟩) D.length sc) (natsI D) ∧ OwnL eltEv (wr.setCell ⟨gl, q, none⟩ (.int .i64 (z - 1))) (gl + 1) u10 (evsAt l C)) :=
                    ⟨(HQ.out.1.put q (z - 1)).of (fun j _ => by have := addF_put (f := F) (s := -1) HDn.out hq j; rw [addF_mem HDn.out hq] at this; rw [hz]; exact this), HQ.out.2.1.cell_set HgB.out, HQ.out.2.2.cell_setE (Nat.lt_succ_self gl)⟩
                  clear hq hz HQ
                  go_wp2
                  go_roundw
                  case rel => exact ⟨p + 1, hpl, by go_num, HN.out⟩
                  case measure => exact meas hpl
                · have hpl : D.length = p := Nat.le_antisymm (Nat.le_of_not_lt hpl) hp
                  subst hpl
                  have HN : Hid (RowI i (leftF l (C ++ [bb])) gl w1 wr ∧ OwnL eltEv wr (gl + 1) u10 (evsAt l C)) := ⟨HQ.out.1.of (fun j hj => by rw [List.take_length]; exact HDf.out j hj), HQ.out.2.2⟩
                  clear HQ
                  have HBn := Lib.hid (HB1.out.trans ((HN.out.1.base Hgl.out).mono HB1.out.size))
                  obtain ⟨b0, off, x, rfl, hx, _, c0, c1, c2, c3, c4⟩ := (Hev.out.below HBn.out).at hb2
                  obtain ⟨xt, xk, xo, xv, xb⟩ := x
                  simp only at c0 c1 c2 c3 c4
                  have Hx : Hid (evsAt l (C ++ [bb]) = evsAt l C ++ [⟨xt, xk, xo, xv, xb⟩]) := by rw [Hid, evsAt_app]; unfold evsAt; rw [List.map_cons, List.map_nil, getD_of hx]
                  clear hx
                  have hgl1 : gl + 1 ≤ wr.heap.size := HN.out.1.lt
                  go_wp2_with (at_builtin; go_loud (refine wpList_push eltEv rfl (.tmp 101) (.tmp 106) rfl ⟨xt, xk, xo, xv, xb⟩ rfl rfl rfl HN.out.2 hgl1 HLen.out ?_); intro v' wv hown hw hv; (have HL' := Lib.hid (And.intro (HN.out.1.wrote hw (fun q hq => by have := (HN.out.2.lt hq).1; omega)) (show OwnL eltEv wv (gl + 1) v' (evsAt l (C ++ [bb])) by rw [Hx.out]; exact hown))); clear hown hw hv)
                  go_roundw
                  case rel => exact ⟨m + 1, hmi, by go_num, by rw [HNx.out]; exact HL'.out⟩
                  case measure => exact meas hmi
        · have hmi : i = m := Nat.le_antisymm (Nat.le_of_not_lt hmi) hm
          subst hmi
          have hw2 : ∀ e ∈ evsAt l (normI l i), e.wf := by have := normL_wf (l := l) Hev.out.wf; unfold normL at this; rw [Hl.out] at this; exact this
          obtain ⟨xa, xc, rfl, hE⟩ := HL.out.2.evs hw2
          have Hq : Hid (EvsPost w (normRes i l) (.returned (.tuple #[.slice xa (evsAt l (normI l i)).length xc, .int .i64 0])) wr) := by
            rw [Hid, Hr.out]
            have e1 : normL l = evsAt l (normI l i) := by unfold normL; rw [Hl.out]
            rw [e1]
            exact ⟨xa, xc, rfl, hE, HB1.out.trans ((HL.out.1.base Hgl.out).mono HB1.out.size)⟩
          clear hE hw2 HL
          go_wp2
          go_returns
          exact Hq.out
end Go.Proofs.Ytjhlehepnhbbaaa
