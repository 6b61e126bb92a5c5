/-
  Behind: who sleeps on, of any set, actions and event: the program's function.
-/
import Derived.Test.YtobhandimolmhaaDoorActs
set_option linter.unusedSimpArgs false
set_option linter.unusedVariables false
namespace Go.Proofs.YtobhandimolmhaaDoor
open Go.ChangeShapes Go.WideShapes Go.ChangeAt Go.RowKit Go.Deep Go.Shelf

attribute [local go_sem] Oper.semAt_some

theorem others_below {W W' : World} (h : Below W.heap.size W W') : KeepsOthers W W' :=
  ⟨h.size, fun k o hk _ => (h.block k (Array.getElem?_eq_some_iff.1 hk).1).trans hk⟩
theorem frozen_keep {W w1 : World} (hb : Below W.heap.size W w1) {p : Addr} {v : Value} (h : W.cell? p = some v) (hf : W.frozen? p = false) : w1.frozen? p = false := by
  have hl : p.block < W.heap.size := block_of_cell0 (b := p.block) (o := p.off) (sp := p.spot) h
  rw [World.frozen?_of_block (hb.block p.block hl)]; exact hf
theorem free_blk {w : World} {b o : Nat} {cs : Array Value} {t : TypeId} (h : w.heap[b]? = some (.cells cs t (0, 0))) : w.frozen? ⟨b, o, none⟩ = false := by simp [World.frozen?, h]
theorem cell_nw (W : World) (cs : Array Value) (t : TypeId) (o : Nat) : (W.alloc (.cells cs t)).cell? ⟨W.heap.size, o, none⟩ = cs[o]? ∧ (W.alloc (.cells cs t)).frozen? ⟨W.heap.size, o, none⟩ = false :=
  ⟨cell_alloc W cs t o, free_blk (MapKept.heap_alloc W (.cells cs t)).1⟩

set_option maxRecDepth 100000 in
set_option maxHeartbeats 8000000 in
theorem behind_calls {w : World} (hT : TabOk w) {s : Nat} (hs : s < 18446744073709551616) {a0 : Option Addr} {n c : Nat} {next : List Ac} (hn : IsAcs w a0 n c next) (e : Ev) :
    Calls Tryd.prog 16 #[.int .u64 s, .slice a0 n c, .agg #[.int .i64 e.t, .int .i64 e.k, .int .i64 e.o, .int .i64 e.v, .int .i64 e.b]] w fun x w' =>
      x = .returned (.int .u64 (behN s next e : Nat)) ∧ Below w.heap.size w w' := by
  have hcut := cutN_lt hs e.t
  have hbn : behN s next e = outN next e (bl (cutN s e.t % 256)) := rfl
  have Hcut := fun W => callsIn_wide (n := 9).2 (cut64_calls W hs e.t)
  rw [hbn]
  generalize cutN s e.t = q at *
  have Hall := fun W => callsIn_wide (n := 9).2 (all_calls W (q : Int))
  have hT2 : 1 < w.heap.size := block_of_cell0 (hT.get 0 (by decide))
  refine (callsIn_wide (n := 10)).1 ?_
  refine callsIn_of_wp_marks Tryd.func16 rfl trivial ?_ rfl
  simp only [Tryd.ntmps16, List.size_toArray, List.length_cons, List.length_nil, Nat.reduceAdd, Nat.reduceSub, Array.replicate_succ, Array.replicate_zero, List.push_toArray, List.append_toArray, List.nil_append, List.cons_append]
  gi_wp2
  refine ⟨trivial, (Hcut _).mono ?_⟩
  rintro x w' ⟨rfl, rfl⟩
  gi_wp2
  refine ⟨trivial, (Hall _).mono ?_⟩
  rintro x w' ⟨rfl, rfl⟩
  gi_wp2
  obtain ⟨wa, hwa⟩ : ∃ wa, wa = w.alloc (.cells #[.slice a0 n c] 31) := ⟨_, rfl⟩
  have f0 := cell_nw w #[.slice a0 n c] 31 0
  have z0 : wa.heap.size = w.heap.size + 1 := by rw [hwa]; simp
  have bA : Below w.heap.size w wa := by rw [hwa]; exact (Below.refl _ w).alloc (Nat.le_refl _) _
  rw [← hwa] at f0 ⊢
  obtain ⟨wb, hwb⟩ : ∃ wb, wb = wa.alloc (.cells #[.int .i64 e.t, .int .i64 e.k, .int .i64 e.o, .int .i64 e.v, .int .i64 e.b] 33) := ⟨_, rfl⟩
  have fe := fun o => (cell_nw wa #[.int .i64 e.t, .int .i64 e.k, .int .i64 e.o, .int .i64 e.v, .int .i64 e.b] 33 o).1
  have z1 : wb.heap.size = w.heap.size + 1 + 1 := by rw [hwb]; simp [z0]
  have bB : Below wa.heap.size wa wb := by rw [hwb]; exact (Below.refl _ wa).alloc (Nat.le_refl _) _
  rw [← hwb] at fe ⊢
  obtain ⟨wc, hwc⟩ : ∃ wc, wc = wb.alloc (.cells #[.int .u64 0] 27) := ⟨_, rfl⟩
  have fo := cell_nw wb #[.int .u64 0] 27 0
  have z2 : wc.heap.size = w.heap.size + 1 + 1 + 1 := by rw [hwc]; simp [z1]
  have bC : Below wb.heap.size wb wc := by rw [hwc]; exact (Below.refl _ wb).alloc (Nat.le_refl _) _
  rw [← hwc] at fo ⊢
  obtain ⟨w0, hw0⟩ : ∃ w0, w0 = wc.alloc (.cells #[.int .u64 q] 27) := ⟨_, rfl⟩
  have fs := (cell_nw wc #[.int .u64 q] 27 0).1
  have z3 : w0.heap.size = w.heap.size + 1 + 1 + 1 + 1 := by rw [hw0]; simp [z2]
  have bD : Below wc.heap.size wc w0 := by rw [hw0]; exact (Below.refl _ wc).alloc (Nat.le_refl _) _
  rw [← hw0] at fs ⊢
  rw [z0] at fe
  rw [z1] at fo
  rw [z2] at fs
  have bBD := bB.trans ((bC.trans (bD.mono (by omega))).mono (by omega))
  have bAD := bA.trans (bBD.mono (by omega))
  have c0 : w0.cell? ⟨w.heap.size, 0, none⟩ = some (.slice a0 n c) := keep bBD f0.1
  have ce := fun o => (((bC.trans (bD.mono (by omega))).cell (p := ⟨w.heap.size + 1, o, none⟩) (by simp only; omega)).trans (fe o))
  have co : w0.cell? ⟨w.heap.size + 1 + 1, 0, none⟩ = some (.int .u64 0) := keep bD fo.1
  have fo2 : w0.frozen? ⟨w.heap.size + 1 + 1, 0, none⟩ = false := (bD.frozen (p := ⟨w.heap.size + 1 + 1, 0, none⟩) (by simp only; omega)).trans fo.2
  have e0 := ce 0
  have e1 := ce 1
  have e2 := ce 2
  have e3 := ce 3
  have e4 := ce 4
  simp only [List.getElem?_toArray, List.getElem?_cons_zero, List.getElem?_cons_succ] at e0 e1 e2 e3 e4 fs
  clear ce fe fo f0 bA bB bC bD hwa hwb hwc hw0 bBD
  have hT0 := hT.below bAD
  have hn0 := hn.below bAD
  refine wpIn_rangeFunc_ownF rfl (by omega) (gf := 30) (lb := #[.pointer (some ⟨w.heap.size + 1 + 1 + 1, 0, none⟩)]) rfl trivial (enters_of Tryd.func30 (by kernel_rfl) rfl)
    (all_stops _ (w.heap.size + 1 + 1 + 1) (w.heap.size + 1 + 1) hcut (by omega) w0 (by omega) (by omega) hT0 fs) belowK_t (belowK_b (by omega)) (Below.refl _ _) (fun _ => rfl)
    (fun pre W => (W.cell? ⟨w.heap.size + 1 + 1, 0, none⟩ = some (.int .u64 (outN next e pre : Nat)) ∧ W.frozen? ⟨w.heap.size + 1 + 1, 0, none⟩ = false) ∧ Below (w.heap.size + 1 + 1) w0 W)
    (fun _ _ _ => False)
    (OwnFrom.and (Own.from (fun s A B row hs hg hr => ⟨cell_kept hs.1 hg hr, (frozen_kept hs.1 hg hr).trans hs.2⟩) _) (ownFrom_below (by omega) (by omega)))
    (fun _ _ _ _ _ hs _ _ => hs)
    ⟨⟨co, fo2⟩, Below.refl _ _⟩
    ?a1 ?assign ?body ?done ?stop
  case assign =>
    intro l x W K hK
    simp [encT]
    gi_wp2
    exact hK
  case body =>
    rintro l pre x W ⟨⟨hc, hf⟩, hB⟩ _
    have k0 := (hB.cell (p := ⟨w.heap.size, 0, none⟩) (by simp only; omega)).trans c0
    have k1 := fun o => hB.cell (p := ⟨w.heap.size + 1, o, none⟩) (by simp only; omega)
    have g0 := (k1 0).trans e0
    have g1 := (k1 1).trans e1
    have g2 := (k1 2).trans e2
    have g3 := (k1 3).trans e3
    have g4 := (k1 4).trans e4
    have hsz := hB.size
    have hnW := hn.below (bAD.trans (hB.mono (by omega)))
    have hx8 := x.isLt
    have hstep := outN_snoc next e pre x
    by_cases hx : x.val < n
    · obtain ⟨b, off, ac, rfl, hac, _, n0, n1⟩ := hnW.at hx
      have hkp : keepT next e x.val = (!(ac.k == 0) && !(dependsB (x.val : Int) ac.k ac.o e.t e.k e.o)) := by unfold keepT; rw [hac]
      rw [hkp] at hstep
      have Hst := Lib.hid hstep
      clear hstep
      by_cases hk0 : ac.k = 0
      · have Hk := Lib.hid hk0
        have hk1 : (ac.k == 0) = true := by simpa using hk0
        have hq : Hid (outN next e (pre ++ [x]) = outN next e pre) := by unfold Hid; rw [Hst.out, hk1]; rfl
        clear hk0
        gi_wp2
        exact ⟨KeepsOthers.refl _, Below.refl _ _, ⟨by rw [hq.out]; exact hc, hf⟩, hB⟩
      · have hk1 : (ac.k == 0) = false := by simpa using hk0
        have hq := Hst.out
        rw [hk1, Bool.not_false, Bool.true_and] at hq
        have Hq := Lib.hid hq
        clear hq hk0
        gi_wp2
        have hnx : decide (n ≤ x.val) = false := by simpa using hx
        simp only [hnx]
        refine wpIn_ext_draw (by rintro ⟨_, _, h⟩; exact h) 15 mixed (by kernel_rfl) ?_
        simp only [List.take_succ_cons, List.take_zero, List.drop_succ_cons, List.drop_zero]
        cases hd : dependsB (x.val : Int) ac.k ac.o e.t e.k e.o
        all_goals
          rw [hd] at Hq
          have Hd := Lib.hid hd
          clear hd
          repeat ((first | ((apply TextRun.go rfl rfl rfl); (focus (intro w1 hS K hK; have hc := bcell hS; have hs := blt hS; have k0 := keep hS k0; have g0 := keep hS g0; have g1 := keep hS g1; have g2 := keep hS g2; have g3 := keep hS g3; have g4 := keep hS g4; have n0 := keep hS n0; have n1 := keep hS n1; go_wp2_with ((go_at_call 24; refine (depends_calls _ _ _ _ _ _ _ _ _ _ _).mono ?_; rintro e' w3 ⟨rfl, hb⟩; rw [Hd.out])); first | done | exact hS | exact hS.trans (hb.mono hS.size)))) | (refine TextRun.skip rfl ?_) | ((refine TextRun.wantedT rfl rfl rfl ?_); (apply Exists.intro); (apply And.intro); (focus (intro w1 hS K hK; have hc := bcell hS; have hs := blt hS; have k0 := keep hS k0; have g0 := keep hS g0; have g1 := keep hS g1; have g2 := keep hS g2; have g3 := keep hS g3; have g4 := keep hS g4; have n0 := keep hS n0; have n1 := keep hS n1; go_wp2_with ((go_at_call 24; refine (depends_calls _ _ _ _ _ _ _ _ _ _ _).mono ?_; rintro e' w3 ⟨rfl, hb⟩; rw [Hd.out])); first | done | exact hS | exact hS.trans (hb.mono hS.size))))); (simp only [Act.put, List.setIfInBounds_toArray, List.set_cons_zero, List.set_cons_succ]))
          refine TextRun.done ?_
          intro y2 hb2
          have hc2 := keep hb2 hc
          have hf2 := frozen_keep hb2 hc hf
          have hB2 := hB.trans (hb2.mono (by omega))
          have HK := Lib.hid (others_below hb2)
          have HB2 := Lib.hid (hb2.mono (show w.heap.size + 1 + 1 ≤ W.heap.size by omega))
          clear hc hf hb2
          go_wp2
          gi_wp2
        · refine ⟨trivial, (CallsIn.inRound l (callsIn_wide.2 (put64_calls _ (Nat.lt_trans (outN_lt next e pre) (by omega)) _))).mono ?_⟩
          rintro e' w3 ⟨rfl, rfl⟩
          gi_wp2
          exact ⟨HK.out.trans (KeepsOthers.setCell _ _ _), HB2.out.setCell (p := ⟨w.heap.size + 1 + 1, 0, none⟩) (Nat.le_refl _) _, ⟨by rw [Hq.out]; exact World.cell?_setCell_same' _ _ _ (by rw [hc2]; rfl), by rw [World.frozen?_setCell]; exact hf2⟩, hB2.setCell (p := ⟨w.heap.size + 1 + 1, 0, none⟩) (Nat.le_refl _) _⟩
        · exact ⟨HK.out, HB2.out, ⟨by rw [Hq.out]; exact hc2, hf2⟩, hB2⟩
    · have hkp : keepT next e x.val = false := by unfold keepT; rw [List.getElem?_eq_none (by rw [hn.len]; omega)]
      have hq : Hid (outN next e (pre ++ [x]) = outN next e pre) := by unfold Hid; rw [hstep, hkp]; rfl
      clear hstep
      gi_wp2
      exact ⟨KeepsOthers.refl _, Below.refl _ _, ⟨by rw [hq.out]; exact hc, hf⟩, hB⟩
  case done =>
    rintro D ys W hD rfl ⟨⟨hc, _⟩, hB⟩ hK
    gi_wp2
    refine ⟨by simp, .inl ⟨_, _, rfl, run_takeDeferred hK, ?_⟩⟩
    exact ⟨_, results_tmp rfl _ _ _, rfl, bAD.trans ((hB.mono (by omega)).trans (belowK_b (w := w) (Nat.le_refl _) W D _ _ (by omega) hK rfl rfl))⟩
  case stop =>
    rintro D c pre W _ _ h _
    exact h.elim
end Go.Proofs.YtobhandimolmhaaDoor
