/-
  Insert: a set with a thread more, if it has none of these; the program's text.
-/
import Derived.Test.YtngmcbliihohcaaDoorIter
import Derived.Test.YtngmcbliihohcaaDoorSets2
set_option linter.unusedSimpArgs false
set_option linter.unusedVariables false
namespace Go.Proofs.YtngmcbliihohcaaDoor
open Go.ChangeShapes Go.WideShapes Go.ChangeAt Go.RowKit Go.Deep Go.Shelf

attribute [local go_sem] Oper.semAt_some

def com (back m : Nat) : Bool := (bl m).any (fun t => back.testBit t.val)
def insN (back m : Nat) : Nat × Bool := if com back m then (back, false) else if m = 0 then (back, false) else (back ||| oneN (leastI m), true)
theorem insN_com {back m : Nat} (h : com back m = true) : insN back m = (back, false) := by unfold insN; rw [if_pos h]
theorem insN_zero {back : Nat} : insN back 0 = (back, false) := by unfold insN; split <;> rfl
theorem insN_new {back m : Nat} (h : com back m = false) (h0 : m ≠ 0) : insN back m = (back ||| oneN (leastI m), true) := by unfold insN; rw [if_neg (by simp [h]), if_neg h0]
theorem pop_zero {m : Nat} (hm : m < 256) : (((popT m 8 : Nat) : Int) == 0) = decide (m = 0) := by
  have all : ∀ m, m < 256 → (((popT m 8 : Nat) : Int) == 0) = decide (m = 0) := all256 (by kernel_rfl)
  exact all m hm
theorem has_fin (back : Nat) (t : Fin 8) : hasB back (t.val : Int) = back.testBit t.val := by
  unfold hasB in8
  have := t.isLt
  rw [show (decide (0 ≤ (t.val : Int)) && decide ((t.val : Int) < 8)) = true by simp; omega]
  rfl
theorem cell_nw2 (W : World) (cs : Array Value) (t : TypeId) (o : Nat) : (W.alloc (.cells cs t)).cell? ⟨W.heap.size, o, none⟩ = cs[o]? ∧ (W.alloc (.cells cs t)).frozen? ⟨W.heap.size, o, none⟩ = false :=
  ⟨cell_alloc W cs t o, by rw [World.frozen?, (MapKept.heap_alloc W (.cells cs t)).1]; simp⟩

set_option maxRecDepth 100000 in
set_option maxHeartbeats 8000000 in
theorem insert_calls {w : World} (hT : TabOk w) {s q : Nat} (hs : s < 18446744073709551616) (hq : q < 18446744073709551616) :
    Calls Tryd.prog 24 #[.int .u64 s, .int .u64 q] w fun x w' => x = .returned (.tuple #[.int .u64 ((insN s (q % 256)).1 : Nat), .bool (insN s (q % 256)).2]) ∧ Below w.heap.size w w' := by
  have hm := Nat.mod_lt q (show 256 > 0 by omega)
  have Hall := fun W => callsIn_wide (n := 9).2 (all_calls W (q : Int))
  have Hlen := fun W => callsIn_wide (n := 9).2 (len_calls W hq)
  have Hleast := fun W (h : TabOk W) => least_calls h hq
  have hst := fun (w0 : World) (Bn n₀ : Nat) (h2 : 2 ≤ n₀) (h3 : Bn < w0.heap.size) (h4 : n₀ ≤ w0.heap.size) (h5 : TabOk w0) (h6 : w0.cell? ⟨Bn, 0, none⟩ = some (.int .u64 q)) => all_stops 9 Bn n₀ hq h2 w0 h3 h4 h5 h6
  have hT2 : 1 < w.heap.size := by
    have := hT.get 0 (by decide)
    rcases Nat.lt_or_ge 1 w.heap.size with h1 | h1
    · exact h1
    · simp [World.cell?, Array.getElem?_eq_none h1] at this
  generalize q % 256 = m at *
  refine (callsIn_wide (n := 10)).1 ?_
  refine callsIn_of_wp_marks Tryd.func24 rfl trivial ?_ rfl
  simp only [Tryd.ntmps24, List.size_toArray, List.length_cons, List.length_nil, Nat.reduceAdd, Nat.reduceSub, Array.replicate_succ, Array.replicate_zero, List.push_toArray, List.append_toArray, List.nil_append, List.cons_append]
  gi_wp2
  refine ⟨trivial, (Hall _).mono ?_⟩
  rintro x w' ⟨rfl, rfl⟩
  gi_wp2
  obtain ⟨wa, hwa⟩ : ∃ wa, wa = w.alloc (.cells #[.int .u64 s] 24) := ⟨_, rfl⟩
  have f0 := (cell_nw2 w #[.int .u64 s] 24 0).1
  have z0 : wa.heap.size = w.heap.size + 1 := by rw [hwa]; simp
  have bA : Below w.heap.size w wa := by rw [hwa]; exact (Below.refl _ w).alloc (Nat.le_refl _) _
  rw [← hwa] at f0 ⊢
  obtain ⟨wb, hwb⟩ : ∃ wb, wb = wa.alloc (.cells #[.int .u64 0] 24) := ⟨_, rfl⟩
  have f1 := cell_nw2 wa #[.int .u64 0] 24 0
  have z1 : wb.heap.size = w.heap.size + 1 + 1 := by rw [hwb]; simp [z0]
  have bB : Below wa.heap.size wa wb := by rw [hwb]; exact (Below.refl _ wa).alloc (Nat.le_refl _) _
  rw [← hwb] at f1 ⊢
  obtain ⟨wc, hwc⟩ : ∃ wc, wc = wb.alloc (.cells #[.bool false] 4) := ⟨_, rfl⟩
  have f2 := cell_nw2 wb #[.bool false] 4 0
  have z2 : wc.heap.size = w.heap.size + 1 + 1 + 1 := by rw [hwc]; simp [z1]
  have bC : Below wb.heap.size wb wc := by rw [hwc]; exact (Below.refl _ wb).alloc (Nat.le_refl _) _
  rw [← hwc] at f2 ⊢
  obtain ⟨w0, hw0⟩ : ∃ w0, w0 = wc.alloc (.cells #[.int .u64 q] 24) := ⟨_, rfl⟩
  have f3 := (cell_nw2 wc #[.int .u64 q] 24 0).1
  have z3 : w0.heap.size = w.heap.size + 1 + 1 + 1 + 1 := by rw [hw0]; simp [z2]
  have bD : Below wc.heap.size wc w0 := by rw [hw0]; exact (Below.refl _ wc).alloc (Nat.le_refl _) _
  rw [← hw0] at f3 ⊢
  rw [z0] at f1
  rw [z1] at f2
  rw [z2] at f3
  have bCD := bC.trans (bD.mono (by omega))
  have bBD := bB.trans (bCD.mono (by omega))
  have bAD := bA.trans (bBD.mono (by omega))
  have c0 : w0.cell? ⟨w.heap.size, 0, none⟩ = some (.int .u64 s) := (bBD.cell (p := ⟨w.heap.size, 0, none⟩) (by simp only; omega)).trans f0
  have c1 : w0.cell? ⟨w.heap.size + 1, 0, none⟩ = some (.int .u64 0) := (bCD.cell (p := ⟨w.heap.size + 1, 0, none⟩) (by simp only; omega)).trans f1.1
  have g1 : w0.frozen? ⟨w.heap.size + 1, 0, none⟩ = false := (bCD.frozen (p := ⟨w.heap.size + 1, 0, none⟩) (by simp only; omega)).trans f1.2
  have c2 : w0.cell? ⟨w.heap.size + 1 + 1, 0, none⟩ = some (.bool false) := (bD.cell (p := ⟨w.heap.size + 1 + 1, 0, none⟩) (by simp only; omega)).trans f2.1
  have g2 : w0.frozen? ⟨w.heap.size + 1 + 1, 0, none⟩ = false := (bD.frozen (p := ⟨w.heap.size + 1 + 1, 0, none⟩) (by simp only; omega)).trans f2.2
  clear f0 f1 f2 bA bB bC bD hwa hwb hwc hw0 bBD bCD
  have hT0 := hT.below bAD
  refine wpIn_rangeFunc_ownF rfl (by omega) (gf := 36) (lb := #[.pointer (some ⟨w.heap.size + 1 + 1 + 1, 0, none⟩)]) rfl trivial (enters_of Tryd.func36 (by kernel_rfl) rfl)
    (hst w0 (w.heap.size + 1 + 1 + 1) (w.heap.size + 1) (by omega) (by omega) (by omega) hT0 f3) belowK_t (belowK_b (by omega)) (Below.refl _ _) (fun _ => rfl)
    (fun pre W => ((∀ t ∈ pre, s.testBit t.val = false) ∧ W.cell? ⟨w.heap.size + 1, 0, none⟩ = some (.int .u64 0) ∧ W.frozen? ⟨w.heap.size + 1, 0, none⟩ = false ∧ W.cell? ⟨w.heap.size + 1 + 1, 0, none⟩ = some (.bool false) ∧ W.frozen? ⟨w.heap.size + 1 + 1, 0, none⟩ = false) ∧ Below (w.heap.size + 1) w0 W)
    (fun c pre W => (c = .ret ∧ (∃ t ∈ pre, s.testBit t.val = true) ∧ W.cell? ⟨w.heap.size + 1, 0, none⟩ = some (.int .u64 s) ∧ W.cell? ⟨w.heap.size + 1 + 1, 0, none⟩ = some (.bool false)) ∧ Below (w.heap.size + 1) w0 W)
    (OwnFrom.and (Own.from (fun s A B row hs hg hr => ⟨hs.1, cell_kept hs.2.1 hg hr, (frozen_kept hs.2.1 hg hr).trans hs.2.2.1, cell_kept hs.2.2.2.1 hg hr, (frozen_kept hs.2.2.2.1 hg hr).trans hs.2.2.2.2⟩) _) (ownFrom_below (by omega) (by omega)))
    (fun c => OwnFrom.and (Own.from (fun s A B row hs hg hr => ⟨hs.1, hs.2.1, cell_kept hs.2.2.1 hg hr, cell_kept hs.2.2.2 hg hr⟩) _) (ownFrom_below (by omega) (by omega)))
    ⟨⟨fun t ht => (by cases ht), c1, g1, c2, g2⟩, Below.refl _ _⟩
    ?a1 ?assign ?body ?done ?stop
  case assign =>
    intro l x W K hK
    simp [encT]
    gi_wp2
    exact hK
  case body =>
    rintro l pre x W ⟨⟨hpre, hc1, hg1, hc2, hg2⟩, hB⟩ _
    have k0 := (hB.cell (p := ⟨w.heap.size, 0, none⟩) (by simp only; omega)).trans c0
    have hh := has64_calls W hs (x.val : Int)
    rw [has_fin] at hh
    cases hb : s.testBit x.val
    all_goals
      rw [hb] at hh
      gi_wp2
      refine ⟨trivial, (CallsIn.inRound l (callsIn_wide.2 hh)).mono ?_⟩
      rintro e' w3 ⟨rfl, rfl⟩
      gi_wp2
    · exact ⟨KeepsOthers.refl _, Below.refl _ _, ⟨fun t ht => (List.mem_append.1 ht).elim (hpre t) (fun h => by rw [List.mem_singleton.1 h]; exact hb), hc1, hg1, hc2, hg2⟩, hB⟩
    · exact ⟨(KeepsOthers.setCell _ _ _).trans (KeepsOthers.setCell _ _ _), ⟨rfl, ⟨x, by simp, hb⟩, (World.cell?_setCell_other _ _ _ _ (by simp)).trans (World.cell?_setCell_same' _ _ _ (by rw [hc1]; rfl)),
        World.cell?_setCell_same' _ _ _ (by rw [World.cell?_setCell_other _ _ _ _ (by simp), hc2]; rfl)⟩, (hB.setCell (p := ⟨w.heap.size + 1, 0, none⟩) (Nat.le_refl _) _).setCell (p := ⟨w.heap.size + 1 + 1, 0, none⟩) (by simp) _⟩
  case done =>
    rintro D ys W hD rfl ⟨⟨hpre, hc1, hg1, hc2, hg2⟩, hB⟩ hK
    have hcom : com s m = false := by
      rw [← Bool.not_eq_true]
      intro hc
      unfold com at hc
      rw [List.any_eq_true] at hc
      obtain ⟨t, ht, h⟩ := hc
      rw [hpre t ht] at h
      cases h
    have hz := pop_zero hm
    have k0 := (hB.cell (p := ⟨w.heap.size, 0, none⟩) (by simp only; omega)).trans c0
    have hsz := hB.size
    by_cases hm0 : m = 0
    · rw [decide_eq_true hm0] at hz
      have hv : insN s m = (s, false) := by rw [hm0]; exact insN_zero
      have Hv := Lib.hid hv
      clear hv hm0
      gi_wp2
      refine ⟨trivial, (Hlen _).mono ?_⟩
      rintro x w' ⟨rfl, rfl⟩
      gi_wp2
      have hK2 := ((KeepsOthers.setCell W ⟨w.heap.size + 1, 0, none⟩ (.int .u64 s)).trans (KeepsOthers.setCell _ ⟨w.heap.size + 1 + 1, 0, none⟩ (.bool false))).same D _ hK rfl
      refine ⟨by simp, .inl ⟨_, _, rfl, run_takeDeferred hK2, ?_⟩⟩
      have h40 : ((W.setCell ⟨w.heap.size + 1, 0, none⟩ (.int .u64 s)).setCell ⟨w.heap.size + 1 + 1, 0, none⟩ (.bool false)).cell? ⟨w.heap.size + 1, 0, none⟩ = some (.int .u64 s) := by
        rw [World.cell?_setCell_other _ _ _ _ (by simp)]; exact World.cell?_setCell_same' _ _ _ (by rw [hc1]; rfl)
      have h4 := cell_kept h40 (grownBy_putObj' _ D (.deferred none)) (fun r e => by cases e; exact ⟨_, hK2, rfl⟩)
      have h5 := cell_kept (World.cell?_setCell_same' (W.setCell ⟨w.heap.size + 1, 0, none⟩ (.int .u64 s)) ⟨w.heap.size + 1 + 1, 0, none⟩ (.bool false) (by rw [World.cell?_setCell_other _ _ _ _ (by simp), hc2]; rfl)) (grownBy_putObj' _ D (.deferred none)) (fun r e => by cases e; exact ⟨_, hK2, rfl⟩)
      refine ⟨.tuple #[.int .u64 s, .bool false], ?_, by rw [Hv.out], bAD.trans ((((hB.setCell (p := ⟨w.heap.size + 1, 0, none⟩) (Nat.le_refl _) _).setCell (p := ⟨w.heap.size + 1 + 1, 0, none⟩) (by simp) _).mono (by omega)).trans (belowK_b (w := w) (Nat.le_refl _) _ D _ _ (by omega) hK2 rfl rfl))⟩
      simp [results, Tryd.f24, go_sem, h4, h5]
    · rw [decide_eq_false hm0] at hz
      have hv := insN_new hcom hm0
      have Hv := Lib.hid hv
      clear hv hm0
      gi_wp2
      refine ⟨trivial, (Hlen _).mono ?_⟩
      rintro x w' ⟨rfl, rfl⟩
      gi_wp2
      have hs64 := hs
      refine wpIn_wide.2 ?_
      have hTW : TabOk W := hT.below (bAD.trans (hB.mono (by omega)))
      refine wp_ext_draw 4 mixed (by kernel_rfl) ?_
      simp only [List.take_succ_cons, List.take_zero, List.drop_succ_cons, List.drop_zero]
      repeat ((first | ((apply TextRun.go rfl rfl rfl); (intro w1 hS K hK; have hc := bcell hS; have hs := blt hS; have k0 := keep hS k0; go_wp2_with ((first | (go_at_call 13; refine (Hleast _ (hTW.below hS)).mono ?_; rintro e' w3 ⟨rfl, rfl⟩) | (go_at_call 14; refine (put64_calls _ hs64 _).mono ?_; rintro e' w3 ⟨rfl, rfl⟩))); first | exact hS | exact hS.trans (hb.mono hS.size))) | (refine TextRun.skip rfl ?_) | ((refine TextRun.wantedT rfl rfl rfl ?_); (apply Exists.intro); (apply And.intro); (intro w1 hS K hK; have hc := bcell hS; have hs := blt hS; have k0 := keep hS k0; go_wp2_with ((first | (go_at_call 13; refine (Hleast _ (hTW.below hS)).mono ?_; rintro e' w3 ⟨rfl, rfl⟩) | (go_at_call 14; refine (put64_calls _ hs64 _).mono ?_; rintro e' w3 ⟨rfl, rfl⟩))); first | exact hS | exact hS.trans (hb.mono hS.size)))); (simp only [Act.put, List.setIfInBounds_toArray, List.set_cons_zero, List.set_cons_succ]))
      refine TextRun.done ?_
      intro y2 hb2
      have hd1 := keep hb2 hc1
      have hd2 := keep hb2 hc2
      have hf1 : y2.frozen? ⟨w.heap.size + 1, 0, none⟩ = false := (hb2.frozen (p := ⟨w.heap.size + 1, 0, none⟩) (by simp only; omega)).trans hg1
      have hf2 : y2.frozen? ⟨w.heap.size + 1 + 1, 0, none⟩ = false := (hb2.frozen (p := ⟨w.heap.size + 1 + 1, 0, none⟩) (by simp only; omega)).trans hg2
      have hK1 := (hb2.block D (Array.getElem?_eq_some_iff.1 hK).1).trans hK
      have hB2 := hB.trans (hb2.mono (by omega))
      go_wp2
      gi_wp2
      have hK2 := ((KeepsOthers.setCell y2 ⟨w.heap.size + 1, 0, none⟩ (.int .u64 (s ||| oneN (leastI m) : Nat))).trans (KeepsOthers.setCell _ ⟨w.heap.size + 1 + 1, 0, none⟩ (.bool true))).same D _ hK1 rfl
      refine ⟨by simp, .inl ⟨_, _, rfl, run_takeDeferred hK2, ?_⟩⟩
      have h40 : ((y2.setCell ⟨w.heap.size + 1, 0, none⟩ (.int .u64 (s ||| oneN (leastI m) : Nat))).setCell ⟨w.heap.size + 1 + 1, 0, none⟩ (.bool true)).cell? ⟨w.heap.size + 1, 0, none⟩ = some (.int .u64 (s ||| oneN (leastI m) : Nat)) := by
        rw [World.cell?_setCell_other _ _ _ _ (by simp)]; exact World.cell?_setCell_same' _ _ _ (by rw [hd1]; rfl)
      have h4 := cell_kept h40 (grownBy_putObj' _ D (.deferred none)) (fun r e => by cases e; exact ⟨_, hK2, rfl⟩)
      have h5 := cell_kept (World.cell?_setCell_same' (y2.setCell ⟨w.heap.size + 1, 0, none⟩ (.int .u64 (s ||| oneN (leastI m) : Nat))) ⟨w.heap.size + 1 + 1, 0, none⟩ (.bool true) (by rw [World.cell?_setCell_other _ _ _ _ (by simp), hd2]; rfl)) (grownBy_putObj' _ D (.deferred none)) (fun r e => by cases e; exact ⟨_, hK2, rfl⟩)
      refine ⟨.tuple #[.int .u64 (s ||| oneN (leastI m) : Nat), .bool true], ?_, by rw [Hv.out], bAD.trans ((((hB2.setCell (p := ⟨w.heap.size + 1, 0, none⟩) (Nat.le_refl _) _).setCell (p := ⟨w.heap.size + 1 + 1, 0, none⟩) (by simp) _).mono (by omega)).trans (belowK_b (w := w) (Nat.le_refl _) _ D _ _ (by omega) hK2 rfl rfl))⟩
      simp [results, Tryd.f24, go_sem, h4, h5]
  case stop =>
    rintro D c pre W hD hpre ⟨⟨rfl, hin, hc1, hc2⟩, hB⟩ hK
    gi_wp2
    have hcom : com s m = true := by
      obtain ⟨t, ht, h⟩ := hin
      unfold com
      rw [List.any_eq_true]
      exact ⟨t, hpre.subset ht, h⟩
    rw [insN_com hcom]
    refine ⟨by simp, .inl ⟨_, _, rfl, run_takeDeferred hK, ?_⟩⟩
    have h4 := cell_kept hc1 (grownBy_putObj' _ D (.deferred none)) (fun r e => by cases e; exact ⟨_, hK, rfl⟩)
    have h5 := cell_kept hc2 (grownBy_putObj' _ D (.deferred none)) (fun r e => by cases e; exact ⟨_, hK, rfl⟩)
    refine ⟨.tuple #[.int .u64 s, .bool false], ?_, rfl, bAD.trans ((hB.mono (by omega)).trans (belowK_b (w := w) (Nat.le_refl _) W D _ _ (by omega) hK rfl rfl))⟩
    simp [results, Tryd.f24, go_sem, h4, h5]
end Go.Proofs.YtngmcbliihohcaaDoor
