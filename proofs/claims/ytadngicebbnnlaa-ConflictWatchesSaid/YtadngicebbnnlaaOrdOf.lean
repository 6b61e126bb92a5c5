/-
  order.Of, of a list that is right: the two loops.
-/
import Derived.Test.YtadngicebbnnlaaOrdMid
set_option linter.unusedSimpArgs false
set_option linter.unusedVariables false
namespace Go.Proofs.Ytadngicebbnnlaa
open Go.ChangeShapes Go.WideShapes Go.ChangeAt Go.RowKit Go.Deep

set_option maxRecDepth 20000 in
set_option maxHeartbeats 16000000 in
theorem ord_good {w : World} {a0 : Option Addr} {n c : Nat} {l : List Ev} (h : IsEvs w a0 n c l) (hn100 : n ≤ 100) {S : LogS} (hR : ofS l = (S, 0, 0)) :
    Calls Try.prog 15 #[.slice a0 n c] w (OrdPost l n w) := by
  have hnm : n ≤ 9223372036854775807 := by omega
  have hrt : ∀ (i : Nat) (e : Ev), l[i]? = some e → 0 ≤ e.t ∧ e.t < 8 := fun i e he => of_right hR he
  have hp : ∀ b v w', OrdAt w' w.heap.size b v l n → Below w.heap.size w w' → OrdPost l n w (.returned (.tuple #[.pointer (some ⟨b, 0, none⟩), .int .i64 0])) w' := fun b v w' h1 h2 => ⟨h2, .inr (.inr ⟨hn100, by rw [hR], b, v, rfl, h1⟩)⟩
  have Hp := Lib.hid hp
  have Hrt := Lib.hid hrt
  clear hp hrt
  go_enter Try.func15, Try.ntmps15
  go_wp2_with fail
  refine (lof_ok h (by omega) hR).mono ?_
  rintro e w1 ⟨lb, vl, va, rfl, _, hB1⟩
  go_wp2_with fail
  obtain ⟨w2, hw2⟩ : ∃ w2, w2 = w1.alloc (.cells #[.slice none 0 0] 79) := ⟨_, rfl⟩
  have hO : OrdAt w2 w.heap.size w1.heap.size (.slice none 0 0) l 0 := by
    rw [hw2]; exact ⟨(MapKept.heap_alloc w1 _).1, World.ownsRow_nil .., fun g hg => by cases hg⟩
  have hB2 : Below w.heap.size w w2 := by rw [hw2]; exact hB1.alloc hB1.size _
  rw [← hw2]
  clear hw2
  have H2 := Lib.hid (And.intro hO hB2)
  have hbs := hB1.size
  generalize w1.heap.size = b at *
  clear hO hB2 hB1 hR
  go_loopw [29] (fun i wr => ∃ (k : Nat) (v : Value), k ≤ n ∧ i = .int .i64 k ∧ Hid (OrdAt wr w.heap.size b v l k ∧ Below w.heap.size w wr)) (fun i _ => n - (intOf i).toNat)
  case atStart => exact ⟨0, _, Nat.zero_le _, rfl, H2⟩
  case round =>
    clear H2
    obtain ⟨k, v, hk, rfl, H⟩ := hrel
    by_cases hkn : k < n
    · obtain ⟨bl, off, e, rfl, he, _, c0, c1, c2, c3, c4⟩ := h.at hkn
      have c0 := keep H.out.2 c0
      have c1 := keep H.out.2 c1
      have c2 := keep H.out.2 c2
      have c3 := keep H.out.2 c3
      have c4 := keep H.out.2 c4
      have hkc : k ≤ c := by have := h.le; omega
      go_wp2_with (first | refine wpList_buildTo rfl 82 #[(0, .tmp 35), (1, .const (.int .i64 1)), (4, .const (.int .i64 (-1)))] rfl (some 36) rfl (mom0 e.t) (built_mom e.t) ?_ | refine wpList_store_row rfl 82 (.tmp 10) (.tmp 36) rfl (wr.heap.size + 1) (mom0 e.t) rfl rfl 82 momZ (heap_alloc1 wr _ _ _ _) sizeMom rfl (mom0_one _) ?_)
      have HS : MidAt l e k 0 wr.heap.size wr (((wr.alloc (.cells #[.int .i64 e.t, .int .i64 e.k, .int .i64 e.o, .int .i64 e.v, .int .i64 e.b] 38)).alloc (.cells #[.int .i64 0, .int .i64 0, .int .i64 0, .int .i64 0, .int .i64 0, .int .i64 0, .int .i64 0, .int .i64 0, .int .i64 0, .int .i64 0, .int .i64 0, .int .i64 0, .int .i64 0, .int .i64 0, .int .i64 0, .int .i64 0, .int .i64 0, .int .i64 0, .int .i64 0] 82)).setRow (wr.heap.size + 1) (mom0 e.t)) := MidAt.start
      revert HS
      generalize ((wr.alloc (.cells #[.int .i64 e.t, .int .i64 e.k, .int .i64 e.o, .int .i64 e.v, .int .i64 e.b] 38)).alloc (.cells #[.int .i64 0, .int .i64 0, .int .i64 0, .int .i64 0, .int .i64 0, .int .i64 0, .int .i64 0, .int .i64 0, .int .i64 0, .int .i64 0, .int .i64 0, .int .i64 0, .int .i64 0, .int .i64 0, .int .i64 0, .int .i64 0, .int .i64 0, .int .i64 0, .int .i64 0] 82)).setRow (wr.heap.size + 1) (mom0 e.t) = wy
      intro HS
      obtain ⟨ao, co, rfl, hcb, hrd⟩ := H.out.1.read
      have hbl := H.out.1.lt
      have hws := H.out.2.size
      have Hrd := Lib.hid hrd
      have Hcb := Lib.hid hcb
      have Hk := Lib.hid hkn
      have He := Lib.hid he
      clear c0 c1 c2 c3 c4 hrd hcb hkn he
      obtain ⟨wo, hwo⟩ : ∃ wo, wo = wr := ⟨_, rfl⟩
      subst hwo
      obtain ⟨eb, heb⟩ : ∃ eb, eb = wo.heap.size := ⟨_, rfl⟩
      rw [← heb] at HS hbl hws ⊢
      have Heb := Lib.hid heb
      clear heb
      go_loopw [41] (fun i wx => ∃ K : Nat, K ≤ k ∧ i = .int .i64 K ∧ MidAt l e k K eb wo wx) (fun i _ => k - (intOf i).toNat)
      case atStart => exact ⟨0, Nat.zero_le _, rfl, HS⟩
      case round =>
        obtain ⟨K, hK, rfl, HM⟩ := hrel
        clear HS
        by_cases hKk : K < k
        · obtain ⟨_, _, e', hq, he', _, d0, d1, d2, d3, d4⟩ := h.at (show K < n from Nat.lt_of_lt_of_le hKk hk)
          cases hq
          have hBx : Below w.heap.size w wr := H.out.2.trans (HM.below.mono hws)
          have d0 := keep hBx d0
          have d1 := keep hBx d1
          have d2 := keep hBx d2
          have d3 := keep hBx d3
          have d4 := keep hBx d4
          have f0 : wr.cell? ⟨eb, 0, none⟩ = some (.int .i64 e.t) := cell_of_block HM.ev
          have f1 : wr.cell? ⟨eb, 1, none⟩ = some (.int .i64 e.k) := cell_of_block HM.ev
          have f2 : wr.cell? ⟨eb, 2, none⟩ = some (.int .i64 e.o) := cell_of_block HM.ev
          have f3 : wr.cell? ⟨eb, 3, none⟩ = some (.int .i64 e.v) := cell_of_block HM.ev
          have f4 : wr.cell? ⟨eb, 4, none⟩ = some (.int .i64 e.b) := cell_of_block HM.ev
          have He' := Lib.hid he'
          have hebl : eb < wr.heap.size := by have := HM.size; omega
          have hebn : eb ≠ wr.heap.size := by omega
          clear he'
          go_wp2_with fail
          have Hdep := depends_calls e'.t e'.k e'.o e'.v e'.b e.t e.k e.o e.v e.b (wr.alloc (.cells #[.int .i64 e'.t, .int .i64 e'.k, .int .i64 e'.o, .int .i64 e'.v, .int .i64 e'.b] 38))
          rw [← rD_of He'.out He.out] at Hdep
          refine Hdep.mono ?_
          rintro x w3 ⟨rfl, hb3⟩
          clear Hdep
          have B3 : Below wr.heap.size wr w3 := ((Below.refl _ wr).alloc (Nat.le_refl _) _).trans (hb3.mono (by simp))
          have hs3 : wr.heap.size < w3.heap.size := by have := hb3.size; simp at this; omega
          have d0 : w3.cell? ⟨wr.heap.size, 0, none⟩ = some (.int .i64 e'.t) := keep hb3 (cell_new rfl)
          have d1 : w3.cell? ⟨wr.heap.size, 1, none⟩ = some (.int .i64 e'.k) := keep hb3 (cell_new rfl)
          have d2 : w3.cell? ⟨wr.heap.size, 2, none⟩ = some (.int .i64 e'.o) := keep hb3 (cell_new rfl)
          have d3 : w3.cell? ⟨wr.heap.size, 3, none⟩ = some (.int .i64 e'.v) := keep hb3 (cell_new rfl)
          have d4 : w3.cell? ⟨wr.heap.size, 4, none⟩ = some (.int .i64 e'.b) := keep hb3 (cell_new rfl)
          have f0 := keep B3 f0
          have f1 := keep B3 f1
          have f2 := keep B3 f2
          have f3 := keep B3 f3
          have f4 := keep B3 f4
          obtain ⟨g, hao, hg1, hg2, hg3, hcell⟩ := Hrd.out K hKk
          subst hao
          rw [← Heb.out] at hg2
          have cb : w3.cell? ⟨b, 0, none⟩ = some (.slice (some ⟨g, 0, none⟩) k co) := keep B3 ((HM.below.cell (p := ⟨b, 0, none⟩) hbl).trans Hcb.out)
          have M3 : w3.heap[eb + 1]? = some (.cells (momA e.t ((cntT (thE l) k K + 1 : Nat) : Int) (accV (rD l) (vec (rD l) (thE l)) k K) (accV (rS l) (vec (rS l) (thE l)) k K) (ahK (thE l) k K)) 82 (0, 0)) := (B3.block _ HM.size).trans HM.mom
          have r2 : w3.cell? ⟨g, K * 19 + 2, none⟩ = some (.int .i64 ((vec (rD l) (thE l) K).getD 0 0)) := keep B3 ((HM.below.cell (p := ⟨g, K * 19 + 2, none⟩) hg2).trans (hcell 2 _ rfl))
          have r3 : w3.cell? ⟨g, K * 19 + 3, none⟩ = some (.int .i64 ((vec (rD l) (thE l) K).getD 1 0)) := keep B3 ((HM.below.cell (p := ⟨g, K * 19 + 3, none⟩) hg2).trans (hcell 3 _ rfl))
          have r4 : w3.cell? ⟨g, K * 19 + 4, none⟩ = some (.int .i64 ((vec (rD l) (thE l) K).getD 2 0)) := keep B3 ((HM.below.cell (p := ⟨g, K * 19 + 4, none⟩) hg2).trans (hcell 4 _ rfl))
          have r5 : w3.cell? ⟨g, K * 19 + 5, none⟩ = some (.int .i64 ((vec (rD l) (thE l) K).getD 3 0)) := keep B3 ((HM.below.cell (p := ⟨g, K * 19 + 5, none⟩) hg2).trans (hcell 5 _ rfl))
          have r6 : w3.cell? ⟨g, K * 19 + 6, none⟩ = some (.int .i64 ((vec (rD l) (thE l) K).getD 4 0)) := keep B3 ((HM.below.cell (p := ⟨g, K * 19 + 6, none⟩) hg2).trans (hcell 6 _ rfl))
          have r7 : w3.cell? ⟨g, K * 19 + 7, none⟩ = some (.int .i64 ((vec (rD l) (thE l) K).getD 5 0)) := keep B3 ((HM.below.cell (p := ⟨g, K * 19 + 7, none⟩) hg2).trans (hcell 7 _ rfl))
          have r8 : w3.cell? ⟨g, K * 19 + 8, none⟩ = some (.int .i64 ((vec (rD l) (thE l) K).getD 6 0)) := keep B3 ((HM.below.cell (p := ⟨g, K * 19 + 8, none⟩) hg2).trans (hcell 8 _ rfl))
          have r9 : w3.cell? ⟨g, K * 19 + 9, none⟩ = some (.int .i64 ((vec (rD l) (thE l) K).getD 7 0)) := keep B3 ((HM.below.cell (p := ⟨g, K * 19 + 9, none⟩) hg2).trans (hcell 9 _ rfl))
          have r10 : w3.cell? ⟨g, K * 19 + 10, none⟩ = some (.int .i64 ((vec (rS l) (thE l) K).getD 0 0)) := keep B3 ((HM.below.cell (p := ⟨g, K * 19 + 10, none⟩) hg2).trans (hcell 10 _ rfl))
          have r11 : w3.cell? ⟨g, K * 19 + 11, none⟩ = some (.int .i64 ((vec (rS l) (thE l) K).getD 1 0)) := keep B3 ((HM.below.cell (p := ⟨g, K * 19 + 11, none⟩) hg2).trans (hcell 11 _ rfl))
          have r12 : w3.cell? ⟨g, K * 19 + 12, none⟩ = some (.int .i64 ((vec (rS l) (thE l) K).getD 2 0)) := keep B3 ((HM.below.cell (p := ⟨g, K * 19 + 12, none⟩) hg2).trans (hcell 12 _ rfl))
          have r13 : w3.cell? ⟨g, K * 19 + 13, none⟩ = some (.int .i64 ((vec (rS l) (thE l) K).getD 3 0)) := keep B3 ((HM.below.cell (p := ⟨g, K * 19 + 13, none⟩) hg2).trans (hcell 13 _ rfl))
          have r14 : w3.cell? ⟨g, K * 19 + 14, none⟩ = some (.int .i64 ((vec (rS l) (thE l) K).getD 4 0)) := keep B3 ((HM.below.cell (p := ⟨g, K * 19 + 14, none⟩) hg2).trans (hcell 14 _ rfl))
          have r15 : w3.cell? ⟨g, K * 19 + 15, none⟩ = some (.int .i64 ((vec (rS l) (thE l) K).getD 5 0)) := keep B3 ((HM.below.cell (p := ⟨g, K * 19 + 15, none⟩) hg2).trans (hcell 15 _ rfl))
          have r16 : w3.cell? ⟨g, K * 19 + 16, none⟩ = some (.int .i64 ((vec (rS l) (thE l) K).getD 6 0)) := keep B3 ((HM.below.cell (p := ⟨g, K * 19 + 16, none⟩) hg2).trans (hcell 16 _ rfl))
          have r17 : w3.cell? ⟨g, K * 19 + 17, none⟩ = some (.int .i64 ((vec (rS l) (thE l) K).getD 7 0)) := keep B3 ((HM.below.cell (p := ⟨g, K * 19 + 17, none⟩) hg2).trans (hcell 17 _ rfl))
          have hX := acc_cv (rD l) (thE l) k (K := K) (by omega)
          have hXS := acc_cv (rS l) (thE l) k (K := K) (by omega)
          have hY := vec_cv (rD l) (thE l) (j := K) (by omega)
          have hYS := vec_cv (rS l) (thE l) (j := K) (by omega)
          obtain ⟨X, hXe⟩ : ∃ X, X = accV (rD l) (vec (rD l) (thE l)) k K := ⟨_, rfl⟩
          obtain ⟨XS, hXSe⟩ : ∃ X, X = accV (rS l) (vec (rS l) (thE l)) k K := ⟨_, rfl⟩
          obtain ⟨Y, hYe⟩ : ∃ X, X = vec (rD l) (thE l) K := ⟨_, rfl⟩
          obtain ⟨YS, hYSe⟩ : ∃ X, X = vec (rS l) (thE l) K := ⟨_, rfl⟩
          obtain ⟨q, hqe⟩ : ∃ q : Int, q = ((cntT (thE l) k K + 1 : Nat) : Int) := ⟨_, rfl⟩
          obtain ⟨ah, hae⟩ : ∃ q : Int, q = ahK (thE l) k K := ⟨_, rfl⟩
          have hq0 : 0 ≤ q ∧ q ≤ 101 := by have := cntT_le (thE l) k K; omega
          rw [← hXe, ← hXSe, ← hqe, ← hae] at M3
          rw [← hXe] at hX
          rw [← hXSe] at hXS
          rw [← hYe] at hY
          rw [← hYSe] at hYS
          rw [← hYe] at r2
          rw [← hYe] at r3
          rw [← hYe] at r4
          rw [← hYe] at r5
          rw [← hYe] at r6
          rw [← hYe] at r7
          rw [← hYe] at r8
          rw [← hYe] at r9
          rw [← hYSe] at r10
          rw [← hYSe] at r11
          rw [← hYSe] at r12
          rw [← hYSe] at r13
          rw [← hYSe] at r14
          rw [← hYSe] at r15
          rw [← hYSe] at r16
          rw [← hYSe] at r17
          have HNext : ∀ (F S : List Int) (q' ah' : Int) (w' : World), w'.heap[eb + 1]? = some (.cells (momA e.t q' F S ah') 82 (0, 0)) → F = (if rD l K k then List.zipWith max X Y else X) → S = (if rS l K k then List.zipWith max XS YS else XS) →
              q' = q + ((e'.t == e.t).toNat : Int) → ah' = (if e'.t == e.t then (K : Int) else ah) → Below (eb + 1) wr w' → MidAt l e k (K + 1) eb wo w' := by
            intro F S q' ah' w' h1 h2 h3 h4 h5 h6
            rw [hXe, hYe] at h2
            rw [hXSe, hYSe] at h3
            rw [hqe] at h4
            rw [hae] at h5
            exact HM.next He'.out He.out h1 h2 h3 h4 h5 h6
          have HNx := Lib.hid HNext
          have Nw3 := M3
          have hn1 : wr.heap.size ≠ eb + 1 := by have := HM.size; omega
          have hn2 : eb ≠ eb + 1 := by omega
          have hn3 : b ≠ eb + 1 := by omega
          have hn4 : g ≠ eb + 1 := by omega
          have HsE := HM.size
          clear HNext M3 hXe hXSe hYe hYSe hqe hae hcell Hrd Hcb hb3 HM
          have Ww3 : Wrote (fun x => x = eb + 1) w3 w3 := Wrote.refl _ _
          rcases Bool.eq_false_or_eq_true (rD l K k) with hd | hd
          · rw [hd]
            have L3 := Nat.lt_trans HsE hs3
            obtain ⟨Z, hZ⟩ : ∃ Z, Z = List.zipWith max X Y := ⟨_, rfl⟩
            have HZ := Lib.hid hZ
            clear hZ
            have m2 : w3.cell? ⟨eb + 1, 2, none⟩ = some (.int .i64 (X.getD 0 0)) := cell_of_block Nw3
            have m3 : w3.cell? ⟨eb + 1, 3, none⟩ = some (.int .i64 (X.getD 1 0)) := cell_of_block Nw3
            have m4 : w3.cell? ⟨eb + 1, 4, none⟩ = some (.int .i64 (X.getD 2 0)) := cell_of_block Nw3
            have m5 : w3.cell? ⟨eb + 1, 5, none⟩ = some (.int .i64 (X.getD 3 0)) := cell_of_block Nw3
            have m6 : w3.cell? ⟨eb + 1, 6, none⟩ = some (.int .i64 (X.getD 4 0)) := cell_of_block Nw3
            have m7 : w3.cell? ⟨eb + 1, 7, none⟩ = some (.int .i64 (X.getD 5 0)) := cell_of_block Nw3
            have m8 : w3.cell? ⟨eb + 1, 8, none⟩ = some (.int .i64 (X.getD 6 0)) := cell_of_block Nw3
            have m9 : w3.cell? ⟨eb + 1, 9, none⟩ = some (.int .i64 (X.getD 7 0)) := cell_of_block Nw3
            go_wp2_with fail
            refine wp_ext_draw 11 mixed (by kernel_rfl) ?_
            simp only [List.take_succ_cons, List.take_zero, List.drop_succ_cons, List.drop_zero]
            repeat ((first | ((apply TextRun.go rfl rfl rfl); (focus (intro w1 hS K hK; have hc := bcell hS; have hs := blt hS; have cb := keep hS cb; have m2 := keep hS m2; have m3 := keep hS m3; have m4 := keep hS m4; have m5 := keep hS m5; have m6 := keep hS m6; have m7 := keep hS m7; have m8 := keep hS m8; have m9 := keep hS m9; have r2 := keep hS r2; have r3 := keep hS r3; have r4 := keep hS r4; have r5 := keep hS r5; have r6 := keep hS r6; have r7 := keep hS r7; have r8 := keep hS r8; have r9 := keep hS r9; go_wp2_with ((with_reducible refine (joined_flat _ hX hY HZ.out).mono ?_); rintro x' w4 ⟨rfl, hb⟩); first | done | exact hS | exact hS.trans (hb.mono hS.size)))) | (refine TextRun.skip rfl ?_) | ((refine TextRun.wantedT rfl rfl rfl ?_); (apply Exists.intro); (apply And.intro); (focus (intro w1 hS K hK; have hc := bcell hS; have hs := blt hS; have cb := keep hS cb; have m2 := keep hS m2; have m3 := keep hS m3; have m4 := keep hS m4; have m5 := keep hS m5; have m6 := keep hS m6; have m7 := keep hS m7; have m8 := keep hS m8; have m9 := keep hS m9; have r2 := keep hS r2; have r3 := keep hS r3; have r4 := keep hS r4; have r5 := keep hS r5; have r6 := keep hS r6; have r7 := keep hS r7; have r8 := keep hS r8; have r9 := keep hS r9; go_wp2_with ((with_reducible refine (joined_flat _ hX hY HZ.out).mono ?_); rintro x' w4 ⟨rfl, hb⟩); first | done | exact hS | exact hS.trans (hb.mono hS.size))))); (simp only [Act.put, List.setIfInBounds_toArray, List.set_cons_zero, List.set_cons_succ]))
            refine TextRun.done ?_
            intro w4 hbw4
            have Nw4 := (hbw4.block _ L3).trans Nw3
            clear m2 m3 m4 m5 m6 m7 m8 m9
            go_wp2_with (refine wpList_store_part rfl 80 (.tmp 60) (.tmp 59) rfl (eb + 1) 2 #[.int .i64 (Z[0]?.getD 0), .int .i64 (Z[1]?.getD 0), .int .i64 (Z[2]?.getD 0), .int .i64 (Z[3]?.getD 0), .int .i64 (Z[4]?.getD 0), .int .i64 (Z[5]?.getD 0), .int .i64 (Z[6]?.getD 0), .int .i64 (Z[7]?.getD 0)] rfl rfl 82 (momA e.t q X XS ah) (momA e.t q Z XS ah) Nw4 sizeCounts (Nat.le_of_ble_eq_true rfl) (eight_one Z) (patch_full ..) ?_; have Ww5 : Wrote (fun x => x = eb + 1) w3 (w4.setRow (eb + 1) (momA e.t q Z XS ah)) := (Ww3.trans (Wrote.of_below (R := fun x => x = eb + 1) hbw4) (fun _ h => .inl h)).trans (Wrote.of_grown (R := fun x => x = eb + 1) (setRow_wrote _ _ _) (fun k hk => by cases hk; rfl)) (fun _ h => .inl h); have Nw5 := setRow_heap _ _ _ (momA e.t q Z XS ah) _ _ Nw4; revert Ww5 Nw5; generalize w4.setRow (eb + 1) (momA e.t q Z XS ah) = w5; intro Ww5 Nw5; have d0w5 := keepW Ww5 hn1 d0; have d1w5 := keepW Ww5 hn1 d1; have d2w5 := keepW Ww5 hn1 d2; have d3w5 := keepW Ww5 hn1 d3; have d4w5 := keepW Ww5 hn1 d4; have f0w5 := keepW Ww5 hn2 f0; have f1w5 := keepW Ww5 hn2 f1; have f2w5 := keepW Ww5 hn2 f2; have f3w5 := keepW Ww5 hn2 f3; have f4w5 := keepW Ww5 hn2 f4)
            have Hst := steps_calls e'.t e'.k e'.o e'.v e'.b e.t e.k e.o e.v e.b w5
            rw [← rS_of He'.out He.out] at Hst
            refine Hst.mono ?_
            rintro x w6 ⟨rfl, hb6⟩
            clear Hst
            have N6 := (hb6.block _ (Array.getElem?_eq_some_iff.1 Nw5).1).trans Nw5
            have Ww6 := Ww5.trans (Wrote.of_below (R := fun x => x = eb + 1) hb6) (fun _ h => .inl h)
            have Nw6 := N6
            have Lw6 := (Array.getElem?_eq_some_iff.1 N6).1
            clear N6 Ww5 Nw5
            rcases Bool.eq_false_or_eq_true (rS l K k) with hs | hs
            · rw [hs]
              have cb := keepW Ww6 hn3 cb
              have r10 := keepW Ww6 hn4 r10
              have r11 := keepW Ww6 hn4 r11
              have r12 := keepW Ww6 hn4 r12
              have r13 := keepW Ww6 hn4 r13
              have r14 := keepW Ww6 hn4 r14
              have r15 := keepW Ww6 hn4 r15
              have r16 := keepW Ww6 hn4 r16
              have r17 := keepW Ww6 hn4 r17
              obtain ⟨ZS, hZS⟩ : ∃ Z, Z = List.zipWith max XS YS := ⟨_, rfl⟩
              have HZS := Lib.hid hZS
              clear hZS
              have m10 : w6.cell? ⟨eb + 1, 10, none⟩ = some (.int .i64 (XS.getD 0 0)) := cell_of_block Nw6
              have m11 : w6.cell? ⟨eb + 1, 11, none⟩ = some (.int .i64 (XS.getD 1 0)) := cell_of_block Nw6
              have m12 : w6.cell? ⟨eb + 1, 12, none⟩ = some (.int .i64 (XS.getD 2 0)) := cell_of_block Nw6
              have m13 : w6.cell? ⟨eb + 1, 13, none⟩ = some (.int .i64 (XS.getD 3 0)) := cell_of_block Nw6
              have m14 : w6.cell? ⟨eb + 1, 14, none⟩ = some (.int .i64 (XS.getD 4 0)) := cell_of_block Nw6
              have m15 : w6.cell? ⟨eb + 1, 15, none⟩ = some (.int .i64 (XS.getD 5 0)) := cell_of_block Nw6
              have m16 : w6.cell? ⟨eb + 1, 16, none⟩ = some (.int .i64 (XS.getD 6 0)) := cell_of_block Nw6
              have m17 : w6.cell? ⟨eb + 1, 17, none⟩ = some (.int .i64 (XS.getD 7 0)) := cell_of_block Nw6
              go_wp2_with fail
              refine wp_ext_draw 11 mixed (by kernel_rfl) ?_
              simp only [List.take_succ_cons, List.take_zero, List.drop_succ_cons, List.drop_zero]
              repeat ((first | ((apply TextRun.go rfl rfl rfl); (focus (intro w1 hS K hK; have hc := bcell hS; have hs := blt hS; have cb := keep hS cb; have m10 := keep hS m10; have m11 := keep hS m11; have m12 := keep hS m12; have m13 := keep hS m13; have m14 := keep hS m14; have m15 := keep hS m15; have m16 := keep hS m16; have m17 := keep hS m17; have r10 := keep hS r10; have r11 := keep hS r11; have r12 := keep hS r12; have r13 := keep hS r13; have r14 := keep hS r14; have r15 := keep hS r15; have r16 := keep hS r16; have r17 := keep hS r17; go_wp2_with ((with_reducible refine (joined_flat _ hXS hYS HZS.out).mono ?_); rintro x' w4 ⟨rfl, hb⟩); first | done | exact hS | exact hS.trans (hb.mono hS.size)))) | (refine TextRun.skip rfl ?_) | ((refine TextRun.wantedT rfl rfl rfl ?_); (apply Exists.intro); (apply And.intro); (focus (intro w1 hS K hK; have hc := bcell hS; have hs := blt hS; have cb := keep hS cb; have m10 := keep hS m10; have m11 := keep hS m11; have m12 := keep hS m12; have m13 := keep hS m13; have m14 := keep hS m14; have m15 := keep hS m15; have m16 := keep hS m16; have m17 := keep hS m17; have r10 := keep hS r10; have r11 := keep hS r11; have r12 := keep hS r12; have r13 := keep hS r13; have r14 := keep hS r14; have r15 := keep hS r15; have r16 := keep hS r16; have r17 := keep hS r17; go_wp2_with ((with_reducible refine (joined_flat _ hXS hYS HZS.out).mono ?_); rintro x' w4 ⟨rfl, hb⟩); first | done | exact hS | exact hS.trans (hb.mono hS.size))))); (simp only [Act.put, List.setIfInBounds_toArray, List.set_cons_zero, List.set_cons_succ]))
              refine TextRun.done ?_
              intro w7 hbw7
              have Nw7 := (hbw7.block _ Lw6).trans Nw6
              clear m10 m11 m12 m13 m14 m15 m16 m17
              rcases Bool.eq_false_or_eq_true (e'.t == e.t) with ht | ht
              · go_wp2_with (refine wpList_store_part rfl 80 (.tmp 75) (.tmp 74) rfl (eb + 1) 10 #[.int .i64 (ZS[0]?.getD 0), .int .i64 (ZS[1]?.getD 0), .int .i64 (ZS[2]?.getD 0), .int .i64 (ZS[3]?.getD 0), .int .i64 (ZS[4]?.getD 0), .int .i64 (ZS[5]?.getD 0), .int .i64 (ZS[6]?.getD 0), .int .i64 (ZS[7]?.getD 0)] rfl rfl 82 (momA e.t q Z XS ah) (momA e.t q Z ZS ah) Nw7 sizeCounts (Nat.le_of_ble_eq_true rfl) (eight_one ZS) (patch_sync ..) ?_; have Ww8 : Wrote (fun x => x = eb + 1) w3 (w7.setRow (eb + 1) (momA e.t q Z ZS ah)) := (Ww6.trans (Wrote.of_below (R := fun x => x = eb + 1) hbw7) (fun _ h => .inl h)).trans (Wrote.of_grown (R := fun x => x = eb + 1) (setRow_wrote _ _ _) (fun k hk => by cases hk; rfl)) (fun _ h => .inl h); have Nw8 := setRow_heap _ _ _ (momA e.t q Z ZS ah) _ _ Nw7; revert Ww8 Nw8; generalize w7.setRow (eb + 1) (momA e.t q Z ZS ah) = w8; intro Ww8 Nw8; have d0w8 := keepW Ww8 hn1 d0; have f0w8 := keepW Ww8 hn2 f0; have n1 : w8.cell? ⟨eb + 1, 1, none⟩ = some (.int .i64 q) := cell_of_block Nw8; have n18 : w8.cell? ⟨eb + 1, 18, none⟩ = some (.int .i64 ah) := cell_of_block Nw8; have hfz : ∀ o, w8.frozen? ⟨eb + 1, o, none⟩ = false := fun o => free_of_block Nw8; have HN := Lib.hid Nw8; clear Nw8)
                go_roundw
                case rel => exact ⟨K + 1, by omega, by go_num, HNx.out Z ZS (q + 1) K _ (set_num HN.out _ _) (by rw [if_pos hd]; exact HZ.out) (by rw [if_pos hs]; exact HZS.out) (by rw [ht]; rfl) (by rw [ht]; rfl) (Wrote.below (B3.mono (by omega)) ((Ww8.trans (Wrote.setCell (R := fun x => x = eb + 1) _ _ rfl) (fun _ h => .inl h)).trans (Wrote.setCell (R := fun x => x = eb + 1) _ _ rfl) (fun _ h => .inl h)) (by omega) (fun _ h => by omega))⟩
                case measure => simp [intOf]; omega
              · go_wp2_with (refine wpList_store_part rfl 80 (.tmp 75) (.tmp 74) rfl (eb + 1) 10 #[.int .i64 (ZS[0]?.getD 0), .int .i64 (ZS[1]?.getD 0), .int .i64 (ZS[2]?.getD 0), .int .i64 (ZS[3]?.getD 0), .int .i64 (ZS[4]?.getD 0), .int .i64 (ZS[5]?.getD 0), .int .i64 (ZS[6]?.getD 0), .int .i64 (ZS[7]?.getD 0)] rfl rfl 82 (momA e.t q Z XS ah) (momA e.t q Z ZS ah) Nw7 sizeCounts (Nat.le_of_ble_eq_true rfl) (eight_one ZS) (patch_sync ..) ?_; have Ww8 : Wrote (fun x => x = eb + 1) w3 (w7.setRow (eb + 1) (momA e.t q Z ZS ah)) := (Ww6.trans (Wrote.of_below (R := fun x => x = eb + 1) hbw7) (fun _ h => .inl h)).trans (Wrote.of_grown (R := fun x => x = eb + 1) (setRow_wrote _ _ _) (fun k hk => by cases hk; rfl)) (fun _ h => .inl h); have Nw8 := setRow_heap _ _ _ (momA e.t q Z ZS ah) _ _ Nw7; revert Ww8 Nw8; generalize w7.setRow (eb + 1) (momA e.t q Z ZS ah) = w8; intro Ww8 Nw8; have d0w8 := keepW Ww8 hn1 d0; have f0w8 := keepW Ww8 hn2 f0; have HN := Lib.hid Nw8; clear Nw8)
                go_roundw
                case rel => exact ⟨K + 1, by omega, by go_num, HNx.out Z ZS q ah _ HN.out (by rw [if_pos hd]; exact HZ.out) (by rw [if_pos hs]; exact HZS.out) (by rw [ht]; simp) (by rw [ht]; rfl) (Wrote.below (B3.mono (by omega)) Ww8 (by omega) (fun _ h => by omega))⟩
                case measure => simp [intOf]; omega
            · rw [hs]
              have d0 := keepW Ww6 hn1 d0
              have f0 := keepW Ww6 hn2 f0
              rcases Bool.eq_false_or_eq_true (e'.t == e.t) with ht | ht
              · have n1 : w6.cell? ⟨eb + 1, 1, none⟩ = some (.int .i64 q) := cell_of_block Nw6
                have n18 : w6.cell? ⟨eb + 1, 18, none⟩ = some (.int .i64 ah) := cell_of_block Nw6
                have hfz : ∀ o, w6.frozen? ⟨eb + 1, o, none⟩ = false := fun o => free_of_block Nw6
                have HN := Lib.hid Nw6
                clear Nw6
                go_wp2
                go_roundw
                case rel => exact ⟨K + 1, by omega, by go_num, HNx.out Z XS (q + 1) K _ (set_num HN.out _ _) (by rw [if_pos hd]; exact HZ.out) (by rw [hs]; rfl) (by rw [ht]; rfl) (by rw [ht]; rfl) (Wrote.below (B3.mono (by omega)) ((Ww6.trans (Wrote.setCell (R := fun x => x = eb + 1) _ _ rfl) (fun _ h => .inl h)).trans (Wrote.setCell (R := fun x => x = eb + 1) _ _ rfl) (fun _ h => .inl h)) (by omega) (fun _ h => by omega))⟩
                case measure => simp [intOf]; omega
              · have HN := Lib.hid Nw6
                clear Nw6
                go_wp2
                go_roundw
                case rel => exact ⟨K + 1, by omega, by go_num, HNx.out Z XS q ah _ HN.out (by rw [if_pos hd]; exact HZ.out) (by rw [hs]; rfl) (by rw [ht]; simp) (by rw [ht]; rfl) (Wrote.below (B3.mono (by omega)) Ww6 (by omega) (fun _ h => by omega))⟩
                case measure => simp [intOf]; omega
          · rw [hd]
            go_wp2_with fail
            have Hst := steps_calls e'.t e'.k e'.o e'.v e'.b e.t e.k e.o e.v e.b w3
            rw [← rS_of He'.out He.out] at Hst
            refine Hst.mono ?_
            rintro x w6 ⟨rfl, hb6⟩
            clear Hst
            have N6 := (hb6.block _ (Array.getElem?_eq_some_iff.1 Nw3).1).trans Nw3
            have Ww6 := Ww3.trans (Wrote.of_below (R := fun x => x = eb + 1) hb6) (fun _ h => .inl h)
            have Nw6 := N6
            have Lw6 := (Array.getElem?_eq_some_iff.1 N6).1
            clear N6 Ww3 Nw3
            rcases Bool.eq_false_or_eq_true (rS l K k) with hs | hs
            · rw [hs]
              have cb := keepW Ww6 hn3 cb
              have r10 := keepW Ww6 hn4 r10
              have r11 := keepW Ww6 hn4 r11
              have r12 := keepW Ww6 hn4 r12
              have r13 := keepW Ww6 hn4 r13
              have r14 := keepW Ww6 hn4 r14
              have r15 := keepW Ww6 hn4 r15
              have r16 := keepW Ww6 hn4 r16
              have r17 := keepW Ww6 hn4 r17
              obtain ⟨ZS, hZS⟩ : ∃ Z, Z = List.zipWith max XS YS := ⟨_, rfl⟩
              have HZS := Lib.hid hZS
              clear hZS
              have m10 : w6.cell? ⟨eb + 1, 10, none⟩ = some (.int .i64 (XS.getD 0 0)) := cell_of_block Nw6
              have m11 : w6.cell? ⟨eb + 1, 11, none⟩ = some (.int .i64 (XS.getD 1 0)) := cell_of_block Nw6
              have m12 : w6.cell? ⟨eb + 1, 12, none⟩ = some (.int .i64 (XS.getD 2 0)) := cell_of_block Nw6
              have m13 : w6.cell? ⟨eb + 1, 13, none⟩ = some (.int .i64 (XS.getD 3 0)) := cell_of_block Nw6
              have m14 : w6.cell? ⟨eb + 1, 14, none⟩ = some (.int .i64 (XS.getD 4 0)) := cell_of_block Nw6
              have m15 : w6.cell? ⟨eb + 1, 15, none⟩ = some (.int .i64 (XS.getD 5 0)) := cell_of_block Nw6
              have m16 : w6.cell? ⟨eb + 1, 16, none⟩ = some (.int .i64 (XS.getD 6 0)) := cell_of_block Nw6
              have m17 : w6.cell? ⟨eb + 1, 17, none⟩ = some (.int .i64 (XS.getD 7 0)) := cell_of_block Nw6
              go_wp2_with fail
              refine wp_ext_draw 11 mixed (by kernel_rfl) ?_
              simp only [List.take_succ_cons, List.take_zero, List.drop_succ_cons, List.drop_zero]
              repeat ((first | ((apply TextRun.go rfl rfl rfl); (focus (intro w1 hS K hK; have hc := bcell hS; have hs := blt hS; have cb := keep hS cb; have m10 := keep hS m10; have m11 := keep hS m11; have m12 := keep hS m12; have m13 := keep hS m13; have m14 := keep hS m14; have m15 := keep hS m15; have m16 := keep hS m16; have m17 := keep hS m17; have r10 := keep hS r10; have r11 := keep hS r11; have r12 := keep hS r12; have r13 := keep hS r13; have r14 := keep hS r14; have r15 := keep hS r15; have r16 := keep hS r16; have r17 := keep hS r17; go_wp2_with ((with_reducible refine (joined_flat _ hXS hYS HZS.out).mono ?_); rintro x' w4 ⟨rfl, hb⟩); first | done | exact hS | exact hS.trans (hb.mono hS.size)))) | (refine TextRun.skip rfl ?_) | ((refine TextRun.wantedT rfl rfl rfl ?_); (apply Exists.intro); (apply And.intro); (focus (intro w1 hS K hK; have hc := bcell hS; have hs := blt hS; have cb := keep hS cb; have m10 := keep hS m10; have m11 := keep hS m11; have m12 := keep hS m12; have m13 := keep hS m13; have m14 := keep hS m14; have m15 := keep hS m15; have m16 := keep hS m16; have m17 := keep hS m17; have r10 := keep hS r10; have r11 := keep hS r11; have r12 := keep hS r12; have r13 := keep hS r13; have r14 := keep hS r14; have r15 := keep hS r15; have r16 := keep hS r16; have r17 := keep hS r17; go_wp2_with ((with_reducible refine (joined_flat _ hXS hYS HZS.out).mono ?_); rintro x' w4 ⟨rfl, hb⟩); first | done | exact hS | exact hS.trans (hb.mono hS.size))))); (simp only [Act.put, List.setIfInBounds_toArray, List.set_cons_zero, List.set_cons_succ]))
              refine TextRun.done ?_
              intro w7 hbw7
              have Nw7 := (hbw7.block _ Lw6).trans Nw6
              clear m10 m11 m12 m13 m14 m15 m16 m17
              rcases Bool.eq_false_or_eq_true (e'.t == e.t) with ht | ht
              · go_wp2_with (refine wpList_store_part rfl 80 (.tmp 75) (.tmp 74) rfl (eb + 1) 10 #[.int .i64 (ZS[0]?.getD 0), .int .i64 (ZS[1]?.getD 0), .int .i64 (ZS[2]?.getD 0), .int .i64 (ZS[3]?.getD 0), .int .i64 (ZS[4]?.getD 0), .int .i64 (ZS[5]?.getD 0), .int .i64 (ZS[6]?.getD 0), .int .i64 (ZS[7]?.getD 0)] rfl rfl 82 (momA e.t q X XS ah) (momA e.t q X ZS ah) Nw7 sizeCounts (Nat.le_of_ble_eq_true rfl) (eight_one ZS) (patch_sync ..) ?_; have Ww8 : Wrote (fun x => x = eb + 1) w3 (w7.setRow (eb + 1) (momA e.t q X ZS ah)) := (Ww6.trans (Wrote.of_below (R := fun x => x = eb + 1) hbw7) (fun _ h => .inl h)).trans (Wrote.of_grown (R := fun x => x = eb + 1) (setRow_wrote _ _ _) (fun k hk => by cases hk; rfl)) (fun _ h => .inl h); have Nw8 := setRow_heap _ _ _ (momA e.t q X ZS ah) _ _ Nw7; revert Ww8 Nw8; generalize w7.setRow (eb + 1) (momA e.t q X ZS ah) = w8; intro Ww8 Nw8; have d0w8 := keepW Ww8 hn1 d0; have f0w8 := keepW Ww8 hn2 f0; have n1 : w8.cell? ⟨eb + 1, 1, none⟩ = some (.int .i64 q) := cell_of_block Nw8; have n18 : w8.cell? ⟨eb + 1, 18, none⟩ = some (.int .i64 ah) := cell_of_block Nw8; have hfz : ∀ o, w8.frozen? ⟨eb + 1, o, none⟩ = false := fun o => free_of_block Nw8; have HN := Lib.hid Nw8; clear Nw8)
                go_roundw
                case rel => exact ⟨K + 1, by omega, by go_num, HNx.out X ZS (q + 1) K _ (set_num HN.out _ _) (by rw [hd]; rfl) (by rw [if_pos hs]; exact HZS.out) (by rw [ht]; rfl) (by rw [ht]; rfl) (Wrote.below (B3.mono (by omega)) ((Ww8.trans (Wrote.setCell (R := fun x => x = eb + 1) _ _ rfl) (fun _ h => .inl h)).trans (Wrote.setCell (R := fun x => x = eb + 1) _ _ rfl) (fun _ h => .inl h)) (by omega) (fun _ h => by omega))⟩
                case measure => simp [intOf]; omega
              · go_wp2_with (refine wpList_store_part rfl 80 (.tmp 75) (.tmp 74) rfl (eb + 1) 10 #[.int .i64 (ZS[0]?.getD 0), .int .i64 (ZS[1]?.getD 0), .int .i64 (ZS[2]?.getD 0), .int .i64 (ZS[3]?.getD 0), .int .i64 (ZS[4]?.getD 0), .int .i64 (ZS[5]?.getD 0), .int .i64 (ZS[6]?.getD 0), .int .i64 (ZS[7]?.getD 0)] rfl rfl 82 (momA e.t q X XS ah) (momA e.t q X ZS ah) Nw7 sizeCounts (Nat.le_of_ble_eq_true rfl) (eight_one ZS) (patch_sync ..) ?_; have Ww8 : Wrote (fun x => x = eb + 1) w3 (w7.setRow (eb + 1) (momA e.t q X ZS ah)) := (Ww6.trans (Wrote.of_below (R := fun x => x = eb + 1) hbw7) (fun _ h => .inl h)).trans (Wrote.of_grown (R := fun x => x = eb + 1) (setRow_wrote _ _ _) (fun k hk => by cases hk; rfl)) (fun _ h => .inl h); have Nw8 := setRow_heap _ _ _ (momA e.t q X ZS ah) _ _ Nw7; revert Ww8 Nw8; generalize w7.setRow (eb + 1) (momA e.t q X ZS ah) = w8; intro Ww8 Nw8; have d0w8 := keepW Ww8 hn1 d0; have f0w8 := keepW Ww8 hn2 f0; have HN := Lib.hid Nw8; clear Nw8)
                go_roundw
                case rel => exact ⟨K + 1, by omega, by go_num, HNx.out X ZS q ah _ HN.out (by rw [hd]; rfl) (by rw [if_pos hs]; exact HZS.out) (by rw [ht]; simp) (by rw [ht]; rfl) (Wrote.below (B3.mono (by omega)) Ww8 (by omega) (fun _ h => by omega))⟩
                case measure => simp [intOf]; omega
            · rw [hs]
              have d0 := keepW Ww6 hn1 d0
              have f0 := keepW Ww6 hn2 f0
              rcases Bool.eq_false_or_eq_true (e'.t == e.t) with ht | ht
              · have n1 : w6.cell? ⟨eb + 1, 1, none⟩ = some (.int .i64 q) := cell_of_block Nw6
                have n18 : w6.cell? ⟨eb + 1, 18, none⟩ = some (.int .i64 ah) := cell_of_block Nw6
                have hfz : ∀ o, w6.frozen? ⟨eb + 1, o, none⟩ = false := fun o => free_of_block Nw6
                have HN := Lib.hid Nw6
                clear Nw6
                go_wp2
                go_roundw
                case rel => exact ⟨K + 1, by omega, by go_num, HNx.out X XS (q + 1) K _ (set_num HN.out _ _) (by rw [hd]; rfl) (by rw [hs]; rfl) (by rw [ht]; rfl) (by rw [ht]; rfl) (Wrote.below (B3.mono (by omega)) ((Ww6.trans (Wrote.setCell (R := fun x => x = eb + 1) _ _ rfl) (fun _ h => .inl h)).trans (Wrote.setCell (R := fun x => x = eb + 1) _ _ rfl) (fun _ h => .inl h)) (by omega) (fun _ h => by omega))⟩
                case measure => simp [intOf]; omega
              · have HN := Lib.hid Nw6
                clear Nw6
                go_wp2
                go_roundw
                case rel => exact ⟨K + 1, by omega, by go_num, HNx.out X XS q ah _ HN.out (by rw [hd]; rfl) (by rw [hs]; rfl) (by rw [ht]; simp) (by rw [ht]; rfl) (Wrote.below (B3.mono (by omega)) Ww6 (by omega) (fun _ h => by omega))⟩
                case measure => simp [intOf]; omega
        · have hKe : K = k := by omega
          rw [hKe] at HM
          have hB5 : Below w.heap.size w wr := H.out.2.trans (HM.below.mono hws)
          obtain ⟨tn, htn⟩ := Int.eq_ofNat_of_zero_le (Hrt.out k e He.out).1
          have ht8 : tn < 8 := by have := (Hrt.out k e He.out).2; omega
          have hti : 0 ≤ (tn : Int) ∧ (tn : Int) < 8 := by omega
          have hend := mom_end He.out htn
          have hX := accV_len (r := rD l) (V := vec (rD l) (thE l)) (j := k) (K := k) (fun i _ => vec_len _ _ i)
          have hXS := accV_len (r := rS l) (V := vec (rS l) (thE l)) (j := k) (K := k) (fun i _ => vec_len _ _ i)
          have M := HM.mom
          have hq0 : ((cntT (thE l) k k + 1 : Nat) : Int) ≤ 101 := by have := cntT_le (thE l) k k; have := Hk.out; omega
          revert hend hX hXS M hq0
          generalize accV (rD l) (vec (rD l) (thE l)) k k = X
          generalize accV (rS l) (vec (rS l) (thE l)) k k = XS
          generalize ((cntT (thE l) k k + 1 : Nat) : Int) = q
          generalize ahK (thE l) k k = ah
          intro hend hX hXS M hq0
          have f0 : wr.cell? ⟨eb, 0, none⟩ = some (.int .i64 tn) := by rw [← htn]; exact cell_of_block HM.ev
          have n1 : wr.cell? ⟨eb + 1, 1, none⟩ = some (.int .i64 q) := cell_of_block M
          obtain ⟨a1, a2⟩ := mom_cell M ht8
          have hfz : ∀ o, wr.frozen? ⟨eb + 1, o, none⟩ = false := fun o => free_of_block M
          have hS0 : wr.cell? ⟨eb, 0, none⟩ = some (.int .i64 tn) ∧ wr.cell? ⟨eb + 1, 1, none⟩ = some (.int .i64 q) := ⟨f0, n1⟩
          have HEnd := Lib.hid hend
          have HM0 := Lib.hid M
          have HX := Lib.hid hX
          have HXS := Lib.hid hXS
          clear hend hX hXS M
          go_wp2_with fail
          refine wp_plan2_draw 12 [0, 1, 2, 3, 4, 5, 6, 7, 8, 9, 11] [10] (fun w' => w'.cell? ⟨eb, 0, none⟩ = some (.int .i64 tn) ∧ w'.cell? ⟨eb + 1, 1, none⟩ = some (.int .i64 q)) mixed (by kernel_rfl) (fun c a d v w h => by cases d <;> exact h) hS0 ?_
          simp only [picks, List.map_cons, List.map_nil, List.getD_cons_zero, List.getD_cons_succ]
          repeat ((apply ReadRun.go rfl); (intro w1 hS; go_simp; first | done | exact rfl); (simp only [Act.put, List.setIfInBounds_toArray, List.set_cons_zero, List.set_cons_succ]))
          refine ReadRun.done ?_
          refine MakeRun.go rfl (fun K hK => ?_)
          go_wp2_with fail
          have s1 : (wr.setCell ⟨eb + 1, 2 + tn, none⟩ (.int .i64 q)).cell? ⟨eb, 0, none⟩ = some (.int .i64 tn) := (World.cell?_setCell_other _ _ _ _ (by simp)).trans f0
          have s2 : (wr.setCell ⟨eb + 1, 2 + tn, none⟩ (.int .i64 q)).cell? ⟨eb + 1, 1, none⟩ = some (.int .i64 q) := (World.cell?_setCell_other _ _ _ _ (by simp)).trans n1
          refine ⟨⟨s1, s2⟩, ?_⟩
          try simp only [Act.put, List.setIfInBounds_toArray, List.set_cons_zero, List.set_cons_succ]
          refine MakeRun.done ?_
          have N8 : (wr.setCell ⟨eb + 1, 2 + tn, none⟩ (.int .i64 q)).drew.heap[eb + 1]? = some (.cells ((momA e.t q X XS ah).setIfInBounds (2 + tn) (.int .i64 q)) 82 (0, 0)) := set_block HM0.out _
          have c8 : (wr.setCell ⟨eb + 1, 2 + tn, none⟩ (.int .i64 q)).cell? ⟨eb + 1, 10 + tn, none⟩ = some (.int .i64 (XS.getD tn 0)) := (World.cell?_setCell_other _ _ _ _ (by simp)).trans a2
          have c8 : (wr.setCell ⟨eb + 1, 2 + tn, none⟩ (.int .i64 q)).drew.cell? ⟨eb + 1, 10 + tn, none⟩ = some (.int .i64 (XS.getD tn 0)) := c8
          have W8 : Wrote (fun x => x = eb + 1) wr (wr.setCell ⟨eb + 1, 2 + tn, none⟩ (.int .i64 q)).drew := (Wrote.setCell (R := fun x => x = eb + 1) _ _ rfl).trans (Wrote.drew _) (fun _ h => .inl h)
          revert N8 c8 W8
          generalize (wr.setCell ⟨eb + 1, 2 + tn, none⟩ (.int .i64 q)).drew = w8
          intro N8 c8 W8
          have hf8 : ∀ o, w8.frozen? ⟨eb + 1, o, none⟩ = false := fun o => free_of_block N8
          have HN8 := Lib.hid N8
          have HA := Lib.hid (thr_arr (t := e.t) (q := q) (ah := ah) HX.out HXS.out ht8 q)
          clear N8 s1 s2 f0 n1 a1 a2 hfz hS0
          go_wp2_with fail
          have N9 := set_block (i := 10 + tn) HN8.out (.int .i64 q)
          rw [HA.out] at N9
          have W9 : Wrote (fun x => x = eb + 1) wr (w8.setCell ⟨eb + 1, 10 + tn, none⟩ (.int .i64 q)) := W8.trans (Wrote.setCell (R := fun x => x = eb + 1) _ _ rfl) (fun _ h => .inl h)
          revert N9 W9
          generalize w8.setCell ⟨eb + 1, 10 + tn, none⟩ (.int .i64 q) = w9
          intro N9 W9
          clear hf8 c8 W8 HA HN8
          have hfill := fill_mom 19 rfl e.t q (X.set tn q) (XS.set tn q) ah
          have hone := mom_one e.t q (X.set tn q) (XS.set tn q) ah
          have hsz : (momA e.t q (X.set tn q) (XS.set tn q) ah).size = 19 := rfl
          have hend := HEnd.out
          revert N9 hfill hone hsz hend
          generalize momA e.t q (X.set tn q) (XS.set tn q) ah = mo
          intro N9 hfill hone hsz hend
          have hmb := HM.size
          have hmw := HM.below
          have O9 : OrdAt w9 w.heap.size b (.slice ao k co) l k := by
            have hsz9 := W9.size
            refine ⟨(W9.block b (by omega) (by omega)).trans ((hmw.block b hbl).trans H.out.1.blk), ownsRow_at H.out.1.own (fun g hg => ?_), H.out.1.ne⟩
            have hg2 := (H.out.1.own.lt g hg).2
            rw [← Heb.out] at hg2
            exact (W9.block g (by omega) (by omega)).trans (hmw.block g hg2)
          have hgx : ∀ g, (Value.slice ao k co).ownBlock = some g → g ≠ eb + 1 := fun g hg => by
            have hg1 := (H.out.1.own.lt g hg).2
            rw [← Heb.out] at hg1
            omega
          have B9 : Below w.heap.size w w9 := Wrote.below hB5 W9 (by omega) (fun x hx => by omega)
          have L9 := (Array.getElem?_eq_some_iff.1 N9).1
          have cb9 : w9.cell? ⟨b, 0, none⟩ = some (.slice ao k co) := cell_of_block O9.blk
          have Hhd := Lib.hid hend
          have Hfill := Lib.hid hfill
          have Hsz := Lib.hid hsz
          have Hone := Lib.hid hone
          have HO9 := Lib.hid O9
          have HB9 := Lib.hid B9
          have HN9 := Lib.hid N9
          have Hgx := Lib.hid hgx
          obtain ⟨i0, hi0, hz0, hs0, hy0⟩ := mom_info
          have Hi0 := Lib.hid hi0
          have Hz0 := Lib.hid hz0
          have Hs0 := Lib.hid hs0
          have Hy0 := Lib.hid hy0
          have hS9 : w9.cell? ⟨b, 0, none⟩ = some (.slice ao k co) ∧ w9.heap[eb + 1]? = some (.cells mo 82 (0, 0)) := ⟨cb9, N9⟩
          clear hend hfill hsz hone O9 B9 N9 hgx hi0 hz0 hs0 hy0 W9 hmw HM cb9
          refine wp_plan2_draw 8 [0, 1, 2, 3, 4, 5] [6, 7] (fun w' => w'.cell? ⟨b, 0, none⟩ = some (.slice ao k co) ∧ w'.heap[eb + 1]? = some (.cells mo 82 (0, 0))) mixed (by kernel_rfl) (fun c a d v w h => by cases d <;> exact h) hS9 ?_
          clear hS9
          simp only [picks, List.map_cons, List.map_nil, List.getD_cons_zero, List.getD_cons_succ]
          repeat ((apply ReadRun.go rfl); (intro w1 hS; go_simp; first | done | exact rfl); (simp only [Act.put, List.setIfInBounds_toArray, List.set_cons_zero, List.set_cons_succ]))
          refine ReadRun.go rfl (fun w1 hS => exec_load_row 82 (.tmp 10) rfl (eb + 1) rfl 82 mo (0, 0) _ hS.2 Try.underlying82 rfl (by rw [Hsz.out]; exact sizeMom)) ?_
          simp only [Act.put, List.setIfInBounds_toArray, List.set_cons_zero, List.set_cons_succ]
          refine ReadRun.done ?_
          refine MakeRun.go rfl (fun K hK => ?_)
          refine wp_buildSlice 77 82 1 #[(0, .tmp 105)] rfl mo i0 (.agg #[.int .i64 0, .int .i64 0, .int .i64 0, .int .i64 0, .int .i64 0, .int .i64 0, .int .i64 0, .int .i64 0, .int .i64 0, .int .i64 0, .int .i64 0, .int .i64 0, .int .i64 0, .int .i64 0, .int .i64 0, .int .i64 0, .int .i64 0, .int .i64 0, .int .i64 0]) Try.underlying77 Hi0.out Hz0.out (by rw [Hs0.out]; decide) (by rw [Hs0.out]; decide) (by rw [Hs0.out]; simp only [List.map_toArray, List.map_cons, List.map_nil]; exact Hfill.out) ?_
          have hA : Below w9.heap.size w9 (({ heap := w9.heap, tape := w9.tape, drawn := w9.drawn + 1, os := w9.os, output := w9.output } : World).alloc (.cells mo 82)) := ((Below.refl _ w9).drew).alloc (Nat.le_refl _) _
          have hN : ∀ j u, mo.toList[j]? = some u → (({ heap := w9.heap, tape := w9.tape, drawn := w9.drawn + 1, os := w9.os, output := w9.output } : World).alloc (.cells mo 82)).cell? ((⟨w9.heap.size, 0, none⟩ : Addr).add j) = some u := fun j u hj => cells_new w9.drew mo.toList _ j u hj
          refine hK _ _ ⟨⟨keep hA (cell_of_block HO9.out.blk), (hA.block _ L9).trans HN9.out⟩, ?_⟩
          clear hK
          revert hA hN
          generalize (({ heap := w9.heap, tape := w9.tape, drawn := w9.drawn + 1, os := w9.os, output := w9.output } : World).alloc (.cells mo 82)) = wa
          intro hA hN
          try simp only [Act.put, List.setIfInBounds_toArray, List.set_cons_zero, List.set_cons_succ]
          refine MakeRun.go rfl (fun K hK => ?_)
          have OA := HO9.out.below hA
          have BA := HB9.out.trans (hA.mono HB9.out.size)
          have NA := (hA.block _ L9).trans HN9.out
          refine wp_append_at _ (.tmp 104) (.tmp 106) 77 rfl w.heap.size 82 i0 (.agg #[.int .i64 0, .int .i64 0, .int .i64 0, .int .i64 0, .int .i64 0, .int .i64 0, .int .i64 0, .int .i64 0, .int .i64 0, .int .i64 0, .int .i64 0, .int .i64 0, .int .i64 0, .int .i64 0, .int .i64 0, .int .i64 0, .int .i64 0, .int .i64 0, .int .i64 0]) 19 152 Try.underlying77 Hi0.out Hz0.out Hs0.out Hy0.out rfl (by decide) _ k (momRow l k) rfl OA.own ⟨w9.heap.size, 0, none⟩ 1 1 mo.toList rfl (by rw [Array.length_toList, Hsz.out]) hN Hone.out (by unfold maxLen; omega) (by omega) BA.size ?_
          intro v' wc hown hg hnl hv
          clear hnl
          obtain ⟨gl, cl, rfl⟩ := own_slice hown (Nat.succ_pos _)
          rw [Hhd.out] at hown
          have WC : Wrote (fun x => (Value.slice ao k co).ownBlock = some x) wa wc := Wrote.of_grown (R := fun x => (Value.slice ao k co).ownBlock = some x) hg (fun x hx => hx)
          have hbO := WC.block b OA.lt (fun hx => OA.ne b hx rfl)
          have NC := (WC.block (eb + 1) (Array.getElem?_eq_some_iff.1 NA).1 (fun hx => Hgx.out _ hx rfl)).trans NA
          have BC : Below w.heap.size w wc := Wrote.below BA WC BA.size (fun x hx => (OA.own.lt x hx).1)
          have hvb : ∀ x, (Value.slice (some ⟨gl, 0, none⟩) (k + 1) cl).ownBlock = some x → x ≠ b := fun x hx => by
            rcases hv x hx with h1 | h1
            · exact OA.ne x h1
            · have := OA.lt; omega
          have OC : OrdAt (wc.setCell ⟨b, 0, none⟩ (.slice (some ⟨gl, 0, none⟩) (k + 1) cl)) w.heap.size b (.slice (some ⟨gl, 0, none⟩) (k + 1) cl) l (k + 1) := OA.push hbO hown hvb rfl
          have BD : Below w.heap.size w (wc.setCell ⟨b, 0, none⟩ (.slice (some ⟨gl, 0, none⟩) (k + 1) cl)) := BC.setCell (p := ⟨b, 0, none⟩) hbs _
          have hcw : wc.cell? ⟨b, 0, none⟩ = some (.slice ao k co) := cell_of_block (hbO.trans OA.blk)
          have hfw : ∀ o, wc.frozen? ⟨b, o, none⟩ = false := fun o => free_of_block (hbO.trans OA.blk)
          refine hK _ _ ⟨⟨hcw, NC⟩, ?_⟩
          clear hK hN
          try simp only [Act.put, List.setIfInBounds_toArray, List.set_cons_zero, List.set_cons_succ]
          refine MakeRun.done ?_
          have HOC := Lib.hid (And.intro OC BD)
          clear OC BD BC hvb hbO WC hown hg hv NA BA OA NC hA HO9 HB9 HN9 Hgx H
          go_wp2
          go_roundw
          case rel => exact ⟨k + 1, _, Hk.out, by go_num, HOC⟩
          case measure => have hk' := Hk.out; simp [intOf]; omega
    · have hke : k = n := by omega
      subst hke
      go_wp2
      go_ret2
      exact Hp.out _ _ _ H.out.1 H.out.2
end Go.Proofs.Ytadngicebbnnlaa
