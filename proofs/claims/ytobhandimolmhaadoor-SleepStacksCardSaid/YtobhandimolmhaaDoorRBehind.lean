/-
  The document's Behind.
-/
import Derived.Test.YtobhandimolmhaaDoorBehind
import Derived.Test.YtobhandimolmhaaDoorSetsLaw
set_option linter.unusedSimpArgs false
set_option linter.unusedVariables false
namespace Go.Proofs.YtobhandimolmhaaDoor
open Go.ChangeShapes Go.WideShapes Go.ChangeAt Go.RowKit Go.Deep

theorem mod_full {B n : Nat} (hB : B < 256) (h : ∀ j, j < 8 → n ≤ j → B.testBit j = false) : B % 2 ^ n = B := by
  apply Nat.eq_of_testBit_eq
  intro j
  rw [Nat.testBit_mod_two_pow]
  by_cases hj : j < n
  · simp [hj]
  · have : B.testBit j = false := by
      rcases Nat.lt_or_ge j 8 with h8 | h8
      · exact h j h8 (by omega)
      · exact Nat.testBit_lt_two_pow (Nat.lt_of_lt_of_le hB (by rw [show 256 = 2 ^ 8 by rfl]; exact Nat.pow_le_pow_right (by omega) h8))
    simp [hj, this]

set_option maxRecDepth 100000 in
set_option maxHeartbeats 8000000 in
theorem rbehind_calls {w : World} {m B : Nat} {a0 : Option Addr} {n c : Nat} {next : List Ac} (hn : IsAcs w a0 n c next) (e : Ev) (hlt : B < 256)
    (hb0 : ∀ j, j < 8 → B.testBit j = (m.testBit j && !((j : Int) == e.t) && keepT next e j)) :
    Calls Tryd.prog 8 #[bitsV m, .slice a0 n c, .agg #[.int .i64 e.t, .int .i64 e.k, .int .i64 e.o, .int .i64 e.v, .int .i64 e.b]] w fun x w' =>
      x = .returned (bitsV B) ∧ Below w.heap.size w w' := by
  have hbd := hn.bd
  have hz : ∀ (W : World), BitsAt (W.alloc (.cells #[.bool false, .bool false, .bool false, .bool false, .bool false, .bool false, .bool false, .bool false] 28)) W.heap.size 0 := fun W =>
    ⟨⟨_, (MapKept.heap_alloc W _).1, rfl, eight rfl rfl rfl rfl rfl rfl rfl rfl⟩⟩
  have hfull : ∀ k, k = 8 ∨ k = n → k ≤ 8 → B % 2 ^ k = B := fun k hk h8 => mod_full hlt fun j hj hkj => by
    rcases hk with rfl | rfl
    · omega
    · rw [hb0 j hj, show keepT next e j = false by unfold keepT; rw [List.getElem?_eq_none (by rw [hn.len]; omega)]]; simp
  obtain ⟨f, hf⟩ : ∃ f, f = m.testBit := ⟨_, rfl⟩
  rw [show bitsV m = .agg #[.bool (f 0), .bool (f 1), .bool (f 2), .bool (f 3), .bool (f 4), .bool (f 5), .bool (f 6), .bool (f 7)] by rw [hf]; rfl]
  rw [← hf] at hb0
  clear hf
  have Hb0 := Lib.hid hb0
  have Hz := Lib.hid hz
  have Hfull := Lib.hid hfull
  clear hz hb0 hfull
  go_enter Tryd.func8, Tryd.ntmps8
  go_wp2
  obtain ⟨wa, hwa⟩ : ∃ wa, wa = w.alloc (.cells #[.bool (f 0), .bool (f 1), .bool (f 2), .bool (f 3), .bool (f 4), .bool (f 5), .bool (f 6), .bool (f 7)] 28) := ⟨_, rfl⟩
  have fa := fun o => (cell_nw w #[.bool (f 0), .bool (f 1), .bool (f 2), .bool (f 3), .bool (f 4), .bool (f 5), .bool (f 6), .bool (f 7)] 28 o).1
  have z0 : wa.heap.size = w.heap.size + 1 := by rw [hwa]; simp
  have bA : Below w.heap.size w wa := by rw [hwa]; exact (Below.refl _ w).alloc (Nat.le_refl _) _
  rw [← hwa] at fa ⊢
  obtain ⟨wb, hwb⟩ : ∃ wb, wb = wa.alloc (.cells #[.int .i64 e.t, .int .i64 e.k, .int .i64 e.o, .int .i64 e.v, .int .i64 e.b] 33) := ⟨_, rfl⟩
  have fe := fun o => (cell_nw wa #[.int .i64 e.t, .int .i64 e.k, .int .i64 e.o, .int .i64 e.v, .int .i64 e.b] 33 o).1
  have z1 : wb.heap.size = w.heap.size + 1 + 1 := by rw [hwb]; simp [z0]
  have bB : Below wa.heap.size wa wb := by rw [hwb]; exact (Below.refl _ wa).alloc (Nat.le_refl _) _
  rw [← hwb] at fe ⊢
  obtain ⟨wc, hwc⟩ : ∃ wc, wc = wb.alloc (.cells #[.bool false, .bool false, .bool false, .bool false, .bool false, .bool false, .bool false, .bool false] 28) := ⟨_, rfl⟩
  have fr := (MapKept.heap_alloc wb (.cells #[.bool false, .bool false, .bool false, .bool false, .bool false, .bool false, .bool false, .bool false] 28)).1
  have z2 : wc.heap.size = w.heap.size + 1 + 1 + 1 := by rw [hwc]; simp [z1]
  have bC : Below wb.heap.size wb wc := by rw [hwc]; exact (Below.refl _ wb).alloc (Nat.le_refl _) _
  rw [← hwc] at fr ⊢
  obtain ⟨w0, hw0⟩ : ∃ w0, w0 = wc.alloc (.cells #[.bool false, .bool false, .bool false, .bool false, .bool false, .bool false, .bool false, .bool false] 28) := ⟨_, rfl⟩
  have fo := Hz.out wc
  have z3 : w0.heap.size = w.heap.size + 1 + 1 + 1 + 1 := by rw [hw0]; simp [z2]
  have bD : Below wc.heap.size wc w0 := by rw [hw0]; exact (Below.refl _ wc).alloc (Nat.le_refl _) _
  rw [← hw0] at fo ⊢
  rw [z0] at fe
  rw [z1] at fr
  rw [z2] at fo
  have hr0 := (bD.block (w.heap.size + 1 + 1) (by omega)).trans fr
  have bCD := bC.trans (bD.mono (by omega))
  have bBD := bB.trans (bCD.mono (by omega))
  have bAD := bA.trans (bBD.mono (by omega))
  have ce := fun o => ((bCD.cell (p := ⟨w.heap.size + 1, o, none⟩) (by simp only; omega)).trans (fe o))
  have ca := fun o => ((bBD.cell (p := ⟨w.heap.size, o, none⟩) (by simp only; omega)).trans (fa o))
  have ca8 : ∀ t, t < 8 → w0.cell? ⟨w.heap.size, t, none⟩ = some (.bool (f t)) := eight (ca 0) (ca 1) (ca 2) (ca 3) (ca 4) (ca 5) (ca 6) (ca 7)
  have e0 := ce 0
  have e1 := ce 1
  have e2 := ce 2
  have e3 := ce 3
  have e4 := ce 4
  simp only [List.getElem?_toArray, List.getElem?_cons_zero, List.getElem?_cons_succ] at e0 e1 e2 e3 e4
  have Hca := Lib.hid ca8
  clear ce ca ca8 fa fe fr bA bB bC bD hwa hwb hwc hw0 bBD bCD
  go_loopw [8] (fun i wr => ∃ k : Nat, k ≤ 8 ∧ k ≤ n ∧ i = .int .i64 k ∧ wr.heap[w.heap.size + 1 + 1]? = some (.cells #[.bool false, .bool false, .bool false, .bool false, .bool false, .bool false, .bool false, .bool false] 28 (0, 0)) ∧ BitsAt wr (w.heap.size + 1 + 1 + 1) (B % 2 ^ k) ∧ Below (w.heap.size + 1 + 1) w0 wr) (fun i _ => 8 - (intOf i).toNat)
  case atStart => exact ⟨0, Nat.zero_le _, Nat.zero_le _, rfl, hr0, by rw [Nat.pow_zero, Nat.mod_one]; exact fo, Below.refl _ _⟩
  case round =>
    obtain ⟨k, hk, hkn, rfl, hr, ho, hB⟩ := hrel
    have hwr := hB.size
    by_cases hlt8 : k < 8
    · by_cases hltn : k < n
      · have s0 := (hB.cell (p := ⟨w.heap.size, k, none⟩) (by simp only; omega)).trans (Hca.out k hlt8)
        have k1 := fun o => hB.cell (p := ⟨w.heap.size + 1, o, none⟩) (by simp only; omega)
        have g0 := (k1 0).trans e0
        have g1 := (k1 1).trans e1
        have g2 := (k1 2).trans e2
        have g3 := (k1 3).trans e3
        have g4 := (k1 4).trans e4
        obtain ⟨b, off, ac, rfl, hac, _, n0, n1⟩ := (hn.below (bAD.trans (hB.mono (by omega)))).at hltn
        have hbk := Hb0.out k hlt8
        have hkp : keepT next e k = (!(ac.k == 0) && !(rdepB (k : Int) ac.k ac.o e.t e.k e.o)) := by unfold keepT; rw [hac, ← depends_is]
        rw [hkp] at hbk
        have Hs := Lib.hid (ho.put (m' := B % 2 ^ (k + 1)) hlt8 (v := B.testBit k) (by rw [bits_step, if_pos rfl]) (fun j _ hj => by rw [bits_step, if_neg hj]))
        clear k1 e0 e1 e2 e3 e4 hkp
        obtain ⟨dp, hd⟩ : ∃ dp, rdepB (k : Int) ac.k ac.o e.t e.k e.o = dp := ⟨_, rfl⟩
        rw [hd] at hbk
        have Hd := Lib.hid hd
        have Hbk := Lib.hid hbk
        have HO := Lib.hid (And.intro hr (And.intro ho hB))
        clear hd hbk Hs hr ho hB
        go_wp2_with fail
        refine wp_ext_draw 15 mixed (by kernel_rfl) ?_
        simp only [List.take_succ_cons, List.take_zero, List.drop_succ_cons, List.drop_zero]
        repeat ((first | ((apply TextRun.go rfl rfl rfl); (focus (intro w1 hS K hK; have hc := bcell hS; have hs := blt hS; have s0 := keep hS s0; have g0 := keep hS g0; have g1 := keep hS g1; have g2 := keep hS g2; have g3 := keep hS g3; have g4 := keep hS g4; have n0 := keep hS n0; have n1 := keep hS n1; go_wp2_with ((go_at_call 17; refine (rdep_calls _ _ _ _ _ _ _ _ _ _ _).mono ?_; rintro e' w3 ⟨rfl, hb⟩; rw [Hd.out])); first | done | exact hS | exact hS.trans (hb.mono hS.size)))) | (refine TextRun.skip rfl ?_) | ((refine TextRun.wantedT rfl rfl rfl ?_); (apply Exists.intro); (apply And.intro); (focus (intro w1 hS K hK; have hc := bcell hS; have hs := blt hS; have s0 := keep hS s0; have g0 := keep hS g0; have g1 := keep hS g1; have g2 := keep hS g2; have g3 := keep hS g3; have g4 := keep hS g4; have n0 := keep hS n0; have n1 := keep hS n1; go_wp2_with ((go_at_call 17; refine (rdep_calls _ _ _ _ _ _ _ _ _ _ _).mono ?_; rintro e' w3 ⟨rfl, hb⟩; rw [Hd.out])); first | done | exact hS | exact hS.trans (hb.mono hS.size))))); (simp only [Act.put, List.setIfInBounds_toArray, List.set_cons_zero, List.set_cons_succ]))
        refine TextRun.done ?_
        intro y2 hb
        have s0 := keep hb s0
        have g0 := keep hb g0
        have n0 := keep hb n0
        have ho2 := HO.out.2.1.below hb
        have hr2 := (hb.block (w.heap.size + 1 + 1) (by omega)).trans HO.out.1
        have hB2 := HO.out.2.2.trans (hb.mono (by omega))
        have c2 := ho2.at hlt8
        have c3 := ho2.free k
        have key : ∀ v, B.testBit k = v → BitsAt (y2.setCell ⟨w.heap.size + 1 + 1 + 1, k, none⟩ (.bool v)) (w.heap.size + 1 + 1 + 1) (B % 2 ^ (k + 1)) ∧
            (y2.setCell ⟨w.heap.size + 1 + 1 + 1, k, none⟩ (.bool v)).heap[w.heap.size + 1 + 1]? = some (.cells #[.bool false, .bool false, .bool false, .bool false, .bool false, .bool false, .bool false, .bool false] 28 (0, 0)) :=
          fun v hv => ⟨ho2.put hlt8 (by rw [bits_step, if_pos rfl]; exact hv) (fun j _ hj => by rw [bits_step, if_neg hj]), (Below.heap_setCell _ _ _ _ (by simp)).trans hr2⟩
        have Key := Lib.hid key
        have HB2 := Lib.hid hB2
        clear key ho2 hr2 hB2 hb HO
        cases h1 : f k
        · have HS2 := Lib.hid (Key.out false (by rw [Hbk.out, h1]; rfl)).1
          have HR2 := Lib.hid (Key.out false (by rw [Hbk.out, h1]; rfl)).2
          rw [h1] at s0
          clear Key h1
          go_wp2
          go_roundw
          case rel => exact ⟨k + 1, by omega, by omega, by go_num, HR2.out, HS2.out, (Below.setCell HB2.out (by simp) _)⟩
          case measure => simp [intOf]; omega
        · rw [h1] at s0
          rcases Bool.eq_false_or_eq_true ((k : Int) == e.t) with hth | hth
          · have HS2 := Lib.hid (Key.out false (by rw [Hbk.out, h1, hth]; rfl)).1
            have HR2 := Lib.hid (Key.out false (by rw [Hbk.out, h1, hth]; rfl)).2
            have hth2 : ((k : Int) != e.t) = false := by rw [bne, hth]; rfl
            clear Key h1
            go_wp2
            go_roundw
            case rel => exact ⟨k + 1, by omega, by omega, by go_num, HR2.out, HS2.out, (Below.setCell HB2.out (by simp) _)⟩
            case measure => simp [intOf]; omega
          · have hth2 : ((k : Int) != e.t) = true := by rw [bne, hth]; rfl
            rcases Bool.eq_false_or_eq_true (ac.k == 0) with hk0 | hk0
            · have HS2 := Lib.hid (Key.out false (by rw [Hbk.out, h1, hth, hk0]; rfl)).1
              have HR2 := Lib.hid (Key.out false (by rw [Hbk.out, h1, hth, hk0]; rfl)).2
              have hk2 : (ac.k != 0) = false := by rw [bne, hk0]; rfl
              clear Key h1
              go_wp2
              go_roundw
              case rel => exact ⟨k + 1, by omega, by omega, by go_num, HR2.out, HS2.out, (Below.setCell HB2.out (by simp) _)⟩
              case measure => simp [intOf]; omega
            · have HS2 := Lib.hid (Key.out (!dp) (by rw [Hbk.out, h1, hth, hk0]; simp)).1
              have HR2 := Lib.hid (Key.out (!dp) (by rw [Hbk.out, h1, hth, hk0]; simp)).2
              have hk2 : (ac.k != 0) = true := by rw [bne, hk0]; rfl
              clear Key h1
              go_wp2
              go_roundw
              case rel => exact ⟨k + 1, by omega, by omega, by go_num, HR2.out, HS2.out, (Below.setCell HB2.out (by simp) _)⟩
              case measure => simp [intOf]; omega
      · have hf8 := Hfull.out k (.inr (by omega)) hk
        rw [hf8] at ho
        clear hf8
        have c0 := ho.at (i := 0) (by omega)
        have c1 := ho.at (i := 1) (by omega)
        have c2 := ho.at (i := 2) (by omega)
        have c3 := ho.at (i := 3) (by omega)
        have c4 := ho.at (i := 4) (by omega)
        have c5 := ho.at (i := 5) (by omega)
        have c6 := ho.at (i := 6) (by omega)
        have c7 := ho.at (i := 7) (by omega)
        have r0 : wr.cell? ⟨w.heap.size + 1 + 1, 0, none⟩ = some (.bool false) := cell_blk hr
        have r1 : wr.cell? ⟨w.heap.size + 1 + 1, 1, none⟩ = some (.bool false) := cell_blk hr
        have r2 : wr.cell? ⟨w.heap.size + 1 + 1, 2, none⟩ = some (.bool false) := cell_blk hr
        have r3 : wr.cell? ⟨w.heap.size + 1 + 1, 3, none⟩ = some (.bool false) := cell_blk hr
        have r4 : wr.cell? ⟨w.heap.size + 1 + 1, 4, none⟩ = some (.bool false) := cell_blk hr
        have r5 : wr.cell? ⟨w.heap.size + 1 + 1, 5, none⟩ = some (.bool false) := cell_blk hr
        have r6 : wr.cell? ⟨w.heap.size + 1 + 1, 6, none⟩ = some (.bool false) := cell_blk hr
        have r7 : wr.cell? ⟨w.heap.size + 1 + 1, 7, none⟩ = some (.bool false) := cell_blk hr
        have hfz : ∀ o, wr.frozen? ⟨w.heap.size + 1 + 1, o, none⟩ = false := fun o => by simp [World.frozen?, hr]
        have Hs := Lib.hid (set8 hr)
        have Hv : Hid (bitsV B = .agg #[.bool (decide (B % 2 = 1)), .bool (B.testBit 1), .bool (B.testBit 2), .bool (B.testBit 3), .bool (B.testBit 4), .bool (B.testBit 5), .bool (B.testBit 6), .bool (B.testBit 7)]) := by
          unfold Hid bitsV; rw [Nat.testBit_zero]
        have HB2 := Lib.hid (bAD.trans (hB.mono (by omega)))
        clear hr ho hB e0 e1 e2 e3 e4
        go_wp2
        (try simp only [Exit.inBlock, Exit.then])
        refine bodyPost_ret (results_cell_row rfl _ _ (w.heap.size + 1 + 1) 28 _ (0, 0) _ rfl (Hs.out _ _ _ _ _ _ _ _) Tryd.underlying28 rfl (by kernel_rfl)) rfl ?_
        refine ⟨by rw [Hv.out], ?_⟩
        have HB3 := HB2.out
        clear HB2
        go_grown
    · have hf8 := Hfull.out k (.inl (by omega)) hk
      rw [hf8] at ho
      clear hf8
      have c0 := ho.at (i := 0) (by omega)
      have c1 := ho.at (i := 1) (by omega)
      have c2 := ho.at (i := 2) (by omega)
      have c3 := ho.at (i := 3) (by omega)
      have c4 := ho.at (i := 4) (by omega)
      have c5 := ho.at (i := 5) (by omega)
      have c6 := ho.at (i := 6) (by omega)
      have c7 := ho.at (i := 7) (by omega)
      have r0 : wr.cell? ⟨w.heap.size + 1 + 1, 0, none⟩ = some (.bool false) := cell_blk hr
      have r1 : wr.cell? ⟨w.heap.size + 1 + 1, 1, none⟩ = some (.bool false) := cell_blk hr
      have r2 : wr.cell? ⟨w.heap.size + 1 + 1, 2, none⟩ = some (.bool false) := cell_blk hr
      have r3 : wr.cell? ⟨w.heap.size + 1 + 1, 3, none⟩ = some (.bool false) := cell_blk hr
      have r4 : wr.cell? ⟨w.heap.size + 1 + 1, 4, none⟩ = some (.bool false) := cell_blk hr
      have r5 : wr.cell? ⟨w.heap.size + 1 + 1, 5, none⟩ = some (.bool false) := cell_blk hr
      have r6 : wr.cell? ⟨w.heap.size + 1 + 1, 6, none⟩ = some (.bool false) := cell_blk hr
      have r7 : wr.cell? ⟨w.heap.size + 1 + 1, 7, none⟩ = some (.bool false) := cell_blk hr
      have hfz : ∀ o, wr.frozen? ⟨w.heap.size + 1 + 1, o, none⟩ = false := fun o => by simp [World.frozen?, hr]
      have Hs := Lib.hid (set8 hr)
      have Hv : Hid (bitsV B = .agg #[.bool (decide (B % 2 = 1)), .bool (B.testBit 1), .bool (B.testBit 2), .bool (B.testBit 3), .bool (B.testBit 4), .bool (B.testBit 5), .bool (B.testBit 6), .bool (B.testBit 7)]) := by
        unfold Hid bitsV; rw [Nat.testBit_zero]
      have HB2 := Lib.hid (bAD.trans (hB.mono (by omega)))
      clear hr ho hB e0 e1 e2 e3 e4
      go_wp2
      (try simp only [Exit.inBlock, Exit.then])
      refine bodyPost_ret (results_cell_row rfl _ _ (w.heap.size + 1 + 1) 28 _ (0, 0) _ rfl (Hs.out _ _ _ _ _ _ _ _) Tryd.underlying28 rfl (by kernel_rfl)) rfl ?_
      refine ⟨by rw [Hv.out], ?_⟩
      have HB3 := HB2.out
      clear HB2
      go_grown
end Go.Proofs.YtobhandimolmhaaDoor
