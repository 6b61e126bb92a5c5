/-
  OrderGoes: Before is an order that goes with the places; it has all that depends, and all that happens before by synchronisation.
-/
import Derived.Test.YthooddkoldfebaaOrderOf
set_option linter.unusedSimpArgs false
set_option linter.unusedVariables false
namespace Go.Proofs.Ythooddkoldfebaa
open Go.ChangeShapes Go.WideShapes Go.ChangeAt Go.RowKit Go.Deep

theorem befB_iff {n : Nat} {r : Nat → Nat → Bool} {i j : Int} : befB n r i j = true ↔ ∃ ki kj : Nat, i = (ki : Int) ∧ j = (kj : Int) ∧ ki < n ∧ kj < n ∧ HB r ki kj := by
  constructor
  · intro h
    unfold befB at h
    simp only [Bool.and_eq_true] at h
    obtain ⟨h1, h2, h3⟩ := h
    obtain ⟨a0, a1⟩ := inN_iff.1 h1
    obtain ⟨b0, b1⟩ := inN_iff.1 h2
    exact ⟨i.toNat, j.toNat, by omega, by omega, by omega, by omega, hbB_iff.1 h3⟩
  · rintro ⟨ki, kj, rfl, rfl, h1, h2, h3⟩
    rw [befB_nat h1 h2, hbB_iff]; exact h3
theorem bef_trans {n : Nat} {r : Nat → Nat → Bool} {i k j : Int} (h1 : befB n r i k = true) (h2 : befB n r k j = true) : befB n r i j = true := by
  obtain ⟨ki, kk, rfl, rfl, a1, a2, a3⟩ := befB_iff.1 h1
  obtain ⟨kk', kj, hq, rfl, b1, b2, b3⟩ := befB_iff.1 h2
  obtain rfl : kk = kk' := by omega
  exact befB_iff.2 ⟨ki, kj, rfl, rfl, a1, b2, a3.trans b3⟩
theorem bef_lt {n : Nat} {r : Nat → Nat → Bool} {i j : Int} (h : befB n r i j = true) : i < j := by
  obtain ⟨ki, kj, rfl, rfl, _, _, h3⟩ := befB_iff.1 h
  have := h3.lt
  omega
theorem step_dep {t k o b t' k' o' b' : Int} (h : stepB t k o b t' k' o' b' = true) : dependsB t k o t' k' o' = true := by
  rw [depends_is]
  unfold stepB at h
  unfold rdepB
  by_cases ht : t = t'
  · simp [ht]
  have hb : (t == t') = false := by simpa using ht
  rw [hb] at h ⊢
  by_cases h0 : b = 0
  · subst h0
    by_cases k5 : k = 5
    · subst k5; simp at h; obtain ⟨rfl, rfl⟩ := h; simp [accB, mutB]
    by_cases k3 : k = 3
    · subst k3; simp at h; obtain ⟨rfl, rfl⟩ := h; simp [accB]
    by_cases k6 : k = 6
    · subst k6; simp at h; subst h; simp [accB, mutB, halfB]
    by_cases k9 : k = 9
    · subst k9; simp at h; obtain ⟨rfl, rfl, rfl⟩ := h; simp [accB, mutB, halfB]
    simp [k5, k3, k6, k9] at h
  · have : (b != 0) = true := by simpa using h0
    rw [this] at h
    simp at h
theorem bef_sync {n : Nat} {l : List Ev} {i j : Int} (h : befB n (rS l) i j = true) : befB n (rD l) i j = true := by
  obtain ⟨ki, kj, rfl, rfl, h1, h2, h3⟩ := befB_iff.1 h
  exact befB_iff.2 ⟨ki, kj, rfl, rfl, h1, h2, h3.mono fun a b _ _ hs => step_dep hs⟩

set_option maxRecDepth 20000 in
set_option maxHeartbeats 16000000 in
theorem orderGoes_law {w : World} {a0 : Option Addr} {n c : Nat} {l : List Ev} (h : IsEvs w a0 n c l) (i j : Int) :
    Calls Try.prog 3 #[.slice a0 n c, .int .i64 i, .int .i64 j] w fun e w' => e = .returned (.bool true) ∧ Below w.heap.size w w' := by
  have hnm : n ≤ 9223372036854775807 := by have := h.le; have := h.cap; unfold maxLen at *; omega
  have Hev := Lib.hid h
  clear h
  go_enter Try.func3, Try.ntmps3
  go_wp2_with fail
  refine (oawake_calls _).mono ?_
  rintro e w1 ⟨rfl, hb1⟩
  have Hc := Lib.hid (both_calls (Hev.out.below hb1))
  have HB1 := Lib.hid hb1
  clear hb1
  go_wp2_with fail
  refine Hc.out.mono ?_
  rintro e w2 ⟨hb2, ⟨_, rfl⟩ | ⟨_, hg, b, v, v1, v2, B, rfl, hO, hM1, hM2⟩⟩
  · have HB2 := Lib.hid (HB1.out.trans (hb2.mono HB1.out.size))
    clear hb2
    go_wp2
    go_ret
    exact ⟨rfl, HB2.out.alloc HB2.out.size _⟩
  obtain ⟨sa, sp, sq, rfl⟩ := hM1.slice
  obtain ⟨ta, tp, tq, rfl⟩ := hM2.slice
  have hB2 := HB1.out.trans (hb2.mono HB1.out.size)
  have hal : Below w2.heap.size w2 (w2.alloc (.cells #[.slice a0 n c, .slice sa sp sq, .slice ta tp tq] 27)) := (Below.refl _ w2).alloc (Nat.le_refl _) _
  have hR3 : ROrdAt (w2.alloc (.cells #[.slice a0 n c, .slice sa sp sq, .slice ta tp tq] 27)) w2.heap.size a0 n c (.slice sa sp sq) (.slice ta tp tq) l :=
    ⟨(MapKept.heap_alloc w2 _).1, ⟨B, hM1.below hal⟩, ⟨B, hM2.below hal⟩, (Hev.out.below hB2).below hal⟩
  have hB3 := hB2.trans (hal.mono hB2.size)
  have HX := Lib.hid (And.intro (hO.below hal) (And.intro hR3 hB3))
  have HG := Lib.hid hg
  clear hb2 hB2 hal hR3 hB3 hO hM1 hM2 Hc hg
  go_wp2_with fail
  revert HX
  generalize w2.alloc (.cells #[.slice a0 n c, .slice sa sp sq, .slice ta tp tq] 27) = w3
  intro HX
  have HO := Lib.hid HX.out.1
  have HR := Lib.hid HX.out.2.1
  have HB3 := Lib.hid HX.out.2.2
  clear HX
  refine (before_calls HO.out HG.out i j).mono ?_
  rintro e w4 ⟨rfl, hb⟩
  have HB4 := Lib.hid hb
  clear hb
  go_wp2_with fail
  refine (before_calls (HO.out.below HB4.out) HG.out j i).mono ?_
  rintro e w5 ⟨rfl, hb⟩
  have HB5 := Lib.hid (HB4.out.trans (hb.mono HB4.out.size))
  clear hb HB4
  go_wp2_with fail
  refine (sync_calls (HO.out.below HB5.out) HG.out i j).mono ?_
  rintro e w6 ⟨rfl, hb⟩
  have HB6 := Lib.hid (HB5.out.trans (hb.mono HB5.out.size))
  clear hb HB5
  have Htr : Hid (∀ x : Int, befB n (rD l) i x = true → befB n (rD l) x j = true → befB n (rD l) i j = true) := fun x => bef_trans
  have Hts : Hid (∀ x : Int, befB n (rS l) i x = true → befB n (rS l) x j = true → befB n (rS l) i j = true) := fun x => bef_trans
  have H1 : Hid (befB n (rD l) i j = true → i < j) := bef_lt
  have H2 : Hid (befB n (rD l) j i = true → j < i) := bef_lt
  have H3 : Hid (befB n (rS l) i j = true → befB n (rD l) i j = true) := bef_sync
  have HD : Hid (∀ ki kj : Nat, i = (ki : Int) → j = (kj : Int) → ki < kj → kj < n → rD l ki kj = true → befB n (rD l) i j = true) := by
    rintro ki kj rfl rfl hlt hj hd
    rw [befB_nat (by omega) hj, hbB_iff]
    exact .one hlt hd
  revert Htr Hts H1 H2 H3 HD
  generalize befB n (rD l) i j = A
  generalize befB n (rD l) j i = C
  generalize befB n (rS l) i j = S
  intro Htr Hts H1 H2 H3 HD
  have hcase : (A = false ∧ S = false) ∨ (A = true ∧ C = false ∧ decide (j ≤ i) = false) := by
    cases A
    · cases S
      · exact .inl ⟨rfl, rfl⟩
      · exact absurd (H3.out rfl) (by decide)
    · refine .inr ⟨rfl, ?_, ?_⟩
      · cases C
        · rfl
        · have h1 := H1.out rfl
          have h2 := H2.out rfl
          omega
      · have h1 := H1.out rfl
        simp only [decide_eq_false_iff_not]
        omega
  rcases hcase with ⟨rfl, rfl⟩ | ⟨rfl, rfl, hij⟩
  · go_wp2_with fail
    go_loopw [15] (fun v wr => ∃ k : Nat, k ≤ n ∧ v = .int .i64 k ∧ Hid (Below w3.heap.size w3 wr)) (fun v _ => n - (intOf v).toNat)
    case atStart => exact ⟨0, Nat.zero_le _, rfl, HB6⟩
    case round =>
      obtain ⟨k, hk, rfl, HB⟩ := hrel
      clear HB6
      by_cases hkn : k < n
      · go_wp2_with fail
        refine (before_calls (HO.out.below HB.out) HG.out i k).mono ?_
        rintro e w7 ⟨rfl, hb⟩
        have HB7 := Lib.hid (HB.out.trans (hb.mono HB.out.size))
        clear hb HB
        go_wp2_with fail
        refine (before_calls (HO.out.below HB7.out) HG.out k j).mono ?_
        rintro e w8 ⟨rfl, hb⟩
        have HB8 := Lib.hid (HB7.out.trans (hb.mono HB7.out.size))
        clear hb HB7
        go_wp2_with fail
        refine (sync_calls (HO.out.below HB8.out) HG.out i k).mono ?_
        rintro e w9 ⟨rfl, hb⟩
        have HB9 := Lib.hid (HB8.out.trans (hb.mono HB8.out.size))
        clear hb HB8
        go_wp2_with fail
        refine (sync_calls (HO.out.below HB9.out) HG.out k j).mono ?_
        rintro e w10 ⟨rfl, hb⟩
        have HB10 := Lib.hid (HB9.out.trans (hb.mono HB9.out.size))
        clear hb HB9
        have T1 := Lib.hid (Htr.out k)
        have T2 := Lib.hid (Hts.out k)
        revert T1 T2
        generalize befB n (rD l) i (k : Int) = x1
        generalize befB n (rD l) (k : Int) j = x2
        generalize befB n (rS l) i (k : Int) = x3
        generalize befB n (rS l) (k : Int) j = x4
        intro T1 T2
        cases x1 <;> cases x2 <;> cases x3 <;> cases x4
        all_goals first
          | (exfalso; exact Bool.noConfusion (T1.out rfl rfl))
          | (exfalso; exact Bool.noConfusion (T2.out rfl rfl))
          | skip
        all_goals
          clear T1 T2
          go_wp2
          go_roundw
          case rel => exact ⟨k + 1, by omega, by go_num, HB10⟩
          case measure => simp [intOf]; omega
      · by_cases hi0 : i < 0
        · have hd0 : decide (i < 0) = true := decide_eq_true hi0
          go_wp2
          go_ret
          exact ⟨rfl, HB3.out.trans (HB.out.mono HB3.out.size)⟩
        · have hd0 : decide (i < 0) = false := decide_eq_false hi0
          by_cases hj0 : (n : Int) ≤ j
          · have hd1 : decide ((n : Int) ≤ j) = true := decide_eq_true hj0
            go_wp2
            go_ret
            exact ⟨rfl, HB3.out.trans (HB.out.mono HB3.out.size)⟩
          · have hd1 : decide ((n : Int) ≤ j) = false := decide_eq_false hj0
            by_cases hij : j ≤ i
            · have hd2 : decide (j ≤ i) = true := decide_eq_true hij
              go_wp2
              go_ret
              exact ⟨rfl, HB3.out.trans (HB.out.mono HB3.out.size)⟩
            · have hd2 : decide (j ≤ i) = false := decide_eq_false hij
              obtain ⟨ki, rfl⟩ := Int.eq_ofNat_of_zero_le (show 0 ≤ i by omega)
              obtain ⟨kj, rfl⟩ := Int.eq_ofNat_of_zero_le (show 0 ≤ j by omega)
              have hkin : ki < n := by omega
              have hkjn : kj < n := by omega
              have hti : 0 ≤ (ki : Int) ∧ (ki : Int) < (n : Int) := by omega
              have htj : 0 ≤ (kj : Int) ∧ (kj : Int) < (n : Int) := by omega
              obtain ⟨bl, off, ei, rfl, hei, _, d0, d1, d2, d3, d4⟩ := Hev.out.at hkin
              obtain ⟨_, _, ej, hq, hej, _, f0, f1, f2, f3, f4⟩ := Hev.out.at hkjn
              cases hq
              have hBr : Below w.heap.size w wr := HB3.out.trans (HB.out.mono HB3.out.size)
              have d0 := keep hBr d0
              have d1 := keep hBr d1
              have d2 := keep hBr d2
              have d3 := keep hBr d3
              have d4 := keep hBr d4
              have f0 := keep hBr f0
              have f1 := keep hBr f1
              have f2 := keep hBr f2
              have f3 := keep hBr f3
              have f4 := keep hBr f4
              have Hst : ∀ W, Calls Try.prog 20 #[.agg #[.int .i64 ei.t, .int .i64 ei.k, .int .i64 ei.o, .int .i64 ei.v, .int .i64 ei.b], .agg #[.int .i64 ej.t, .int .i64 ej.k, .int .i64 ej.o, .int .i64 ej.v, .int .i64 ej.b]] W fun x w' => x = .returned (.bool (rD l ki kj)) ∧ Below W.heap.size W w' := fun W => by
                rw [rD_of hei hej, depends_is]; exact rdep_calls _ _ _ _ _ _ _ _ _ _ _
              have HDD := Lib.hid (HD.out ki kj rfl rfl)
              have HBr := Lib.hid hBr
              have Hei := Lib.hid hei
              have Hej := Lib.hid hej
              clear hei hej hBr
              revert HDD Hst
              generalize rD l ki kj = dp
              intro Hst HDD
              go_wp2_with fail
              refine wp_ext_draw 9 mixed (by kernel_rfl) ?_
              simp only [List.take_succ_cons, List.take_zero, List.drop_succ_cons, List.drop_zero]
              repeat ((first | ((apply TextRun.go rfl rfl rfl); (intro w1 hS K hK; have hc := bcell hS; have hs := blt hS; have d0 := keep hS d0; have d1 := keep hS d1; have d2 := keep hS d2; have d3 := keep hS d3; have d4 := keep hS d4; have f0 := keep hS f0; have f1 := keep hS f1; have f2 := keep hS f2; have f3 := keep hS f3; have f4 := keep hS f4; go_wp2_with ((with_reducible refine (Hst _).mono ?_); rintro x' w4 ⟨rfl, hb⟩); first | exact hS | exact hS.trans (hb.mono hS.size))) | (refine TextRun.skip rfl ?_) | ((refine TextRun.wantedT rfl rfl rfl ?_); (apply Exists.intro); (apply And.intro); (intro w1 hS K hK; have hc := bcell hS; have hs := blt hS; have d0 := keep hS d0; have d1 := keep hS d1; have d2 := keep hS d2; have d3 := keep hS d3; have d4 := keep hS d4; have f0 := keep hS f0; have f1 := keep hS f1; have f2 := keep hS f2; have f3 := keep hS f3; have f4 := keep hS f4; go_wp2_with ((with_reducible refine (Hst _).mono ?_); rintro x' w4 ⟨rfl, hb⟩); first | exact hS | exact hS.trans (hb.mono hS.size)))); (simp only [Act.put, List.setIfInBounds_toArray, List.set_cons_zero, List.set_cons_succ]))
              refine TextRun.done ?_
              intro w11 hb11
              have HB11 := Lib.hid (HBr.out.trans (hb11.mono HBr.out.size))
              clear hb11 d0 d1 d2 d3 d4 f0 f1 f2 f3 f4
              cases dp
              all_goals first
                | (exfalso; exact Bool.noConfusion (HDD.out (by omega) hkjn rfl))
                | skip
              all_goals
                go_wp2
                go_ret
                exact ⟨rfl, HB11.out⟩
  · cases S
    · go_wp2_with fail
      go_loopw [15] (fun v wr => ∃ k : Nat, k ≤ n ∧ v = .int .i64 k ∧ Hid (Below w3.heap.size w3 wr)) (fun v _ => n - (intOf v).toNat)
      case atStart => exact ⟨0, Nat.zero_le _, rfl, HB6⟩
      case round =>
        obtain ⟨k, hk, rfl, HB⟩ := hrel
        clear HB6
        by_cases hkn : k < n
        · go_wp2_with fail
          refine (before_calls (HO.out.below HB.out) HG.out i k).mono ?_
          rintro e w7 ⟨rfl, hb⟩
          have HB7 := Lib.hid (HB.out.trans (hb.mono HB.out.size))
          clear hb HB
          go_wp2_with fail
          refine (before_calls (HO.out.below HB7.out) HG.out k j).mono ?_
          rintro e w8 ⟨rfl, hb⟩
          have HB8 := Lib.hid (HB7.out.trans (hb.mono HB7.out.size))
          clear hb HB7
          go_wp2_with fail
          refine (sync_calls (HO.out.below HB8.out) HG.out i k).mono ?_
          rintro e w9 ⟨rfl, hb⟩
          have HB9 := Lib.hid (HB8.out.trans (hb.mono HB8.out.size))
          clear hb HB8
          go_wp2_with fail
          refine (sync_calls (HO.out.below HB9.out) HG.out k j).mono ?_
          rintro e w10 ⟨rfl, hb⟩
          have HB10 := Lib.hid (HB9.out.trans (hb.mono HB9.out.size))
          clear hb HB9
          have T1 := Lib.hid (Htr.out k)
          have T2 := Lib.hid (Hts.out k)
          revert T1 T2
          generalize befB n (rD l) i (k : Int) = x1
          generalize befB n (rD l) (k : Int) j = x2
          generalize befB n (rS l) i (k : Int) = x3
          generalize befB n (rS l) (k : Int) j = x4
          intro T1 T2
          cases x1 <;> cases x2 <;> cases x3 <;> cases x4
          all_goals first
            | (exfalso; exact Bool.noConfusion (T1.out rfl rfl))
            | (exfalso; exact Bool.noConfusion (T2.out rfl rfl))
            | skip
          all_goals
            clear T1 T2
            go_wp2
            go_roundw
            case rel => exact ⟨k + 1, by omega, by go_num, HB10⟩
            case measure => simp [intOf]; omega
        · by_cases hi0 : i < 0
          · have hd0 : decide (i < 0) = true := decide_eq_true hi0
            go_wp2
            go_ret
            exact ⟨rfl, HB3.out.trans (HB.out.mono HB3.out.size)⟩
          · have hd0 : decide (i < 0) = false := decide_eq_false hi0
            by_cases hj0 : (n : Int) ≤ j
            · have hd1 : decide ((n : Int) ≤ j) = true := decide_eq_true hj0
              go_wp2
              go_ret
              exact ⟨rfl, HB3.out.trans (HB.out.mono HB3.out.size)⟩
            · have hd1 : decide ((n : Int) ≤ j) = false := decide_eq_false hj0
              have hijn : ¬ j ≤ i := of_decide_eq_false hij
              obtain ⟨ki, rfl⟩ := Int.eq_ofNat_of_zero_le (show 0 ≤ i by omega)
              obtain ⟨kj, rfl⟩ := Int.eq_ofNat_of_zero_le (show 0 ≤ j by omega)
              have hkin : ki < n := by omega
              have hkjn : kj < n := by omega
              have hti : 0 ≤ (ki : Int) ∧ (ki : Int) < (n : Int) := by omega
              have htj : 0 ≤ (kj : Int) ∧ (kj : Int) < (n : Int) := by omega
              obtain ⟨bl, off, ei, rfl, hei, _, d0, d1, d2, d3, d4⟩ := Hev.out.at hkin
              obtain ⟨_, _, ej, hq, hej, _, f0, f1, f2, f3, f4⟩ := Hev.out.at hkjn
              cases hq
              have hBr : Below w.heap.size w wr := HB3.out.trans (HB.out.mono HB3.out.size)
              have d0 := keep hBr d0
              have d1 := keep hBr d1
              have d2 := keep hBr d2
              have d3 := keep hBr d3
              have d4 := keep hBr d4
              have f0 := keep hBr f0
              have f1 := keep hBr f1
              have f2 := keep hBr f2
              have f3 := keep hBr f3
              have f4 := keep hBr f4
              have Hst : ∀ W, Calls Try.prog 20 #[.agg #[.int .i64 ei.t, .int .i64 ei.k, .int .i64 ei.o, .int .i64 ei.v, .int .i64 ei.b], .agg #[.int .i64 ej.t, .int .i64 ej.k, .int .i64 ej.o, .int .i64 ej.v, .int .i64 ej.b]] W fun x w' => x = .returned (.bool (rD l ki kj)) ∧ Below W.heap.size W w' := fun W => by
                rw [rD_of hei hej, depends_is]; exact rdep_calls _ _ _ _ _ _ _ _ _ _ _
              have HDD := Lib.hid (HD.out ki kj rfl rfl)
              have HBr := Lib.hid hBr
              have Hei := Lib.hid hei
              have Hej := Lib.hid hej
              clear hei hej hBr
              revert HDD Hst
              generalize rD l ki kj = dp
              intro Hst HDD
              go_wp2_with fail
              refine wp_ext_draw 9 mixed (by kernel_rfl) ?_
              simp only [List.take_succ_cons, List.take_zero, List.drop_succ_cons, List.drop_zero]
              repeat ((first | ((apply TextRun.go rfl rfl rfl); (intro w1 hS K hK; have hc := bcell hS; have hs := blt hS; have d0 := keep hS d0; have d1 := keep hS d1; have d2 := keep hS d2; have d3 := keep hS d3; have d4 := keep hS d4; have f0 := keep hS f0; have f1 := keep hS f1; have f2 := keep hS f2; have f3 := keep hS f3; have f4 := keep hS f4; go_wp2_with ((with_reducible refine (Hst _).mono ?_); rintro x' w4 ⟨rfl, hb⟩); first | exact hS | exact hS.trans (hb.mono hS.size))) | (refine TextRun.skip rfl ?_) | ((refine TextRun.wantedT rfl rfl rfl ?_); (apply Exists.intro); (apply And.intro); (intro w1 hS K hK; have hc := bcell hS; have hs := blt hS; have d0 := keep hS d0; have d1 := keep hS d1; have d2 := keep hS d2; have d3 := keep hS d3; have d4 := keep hS d4; have f0 := keep hS f0; have f1 := keep hS f1; have f2 := keep hS f2; have f3 := keep hS f3; have f4 := keep hS f4; go_wp2_with ((with_reducible refine (Hst _).mono ?_); rintro x' w4 ⟨rfl, hb⟩); first | exact hS | exact hS.trans (hb.mono hS.size)))); (simp only [Act.put, List.setIfInBounds_toArray, List.set_cons_zero, List.set_cons_succ]))
              refine TextRun.done ?_
              intro w11 hb11
              have HB11 := Lib.hid (HBr.out.trans (hb11.mono HBr.out.size))
              clear hb11 d0 d1 d2 d3 d4 f0 f1 f2 f3 f4
              cases dp
              all_goals first
                | (exfalso; exact Bool.noConfusion (HDD.out (by omega) hkjn rfl))
                | skip
              all_goals
                go_wp2
                go_ret
                exact ⟨rfl, HB11.out⟩
    · go_wp2_with fail
      go_loopw [15] (fun v wr => ∃ k : Nat, k ≤ n ∧ v = .int .i64 k ∧ Hid (Below w3.heap.size w3 wr)) (fun v _ => n - (intOf v).toNat)
      case atStart => exact ⟨0, Nat.zero_le _, rfl, HB6⟩
      case round =>
        obtain ⟨k, hk, rfl, HB⟩ := hrel
        clear HB6
        by_cases hkn : k < n
        · go_wp2_with fail
          refine (before_calls (HO.out.below HB.out) HG.out i k).mono ?_
          rintro e w7 ⟨rfl, hb⟩
          have HB7 := Lib.hid (HB.out.trans (hb.mono HB.out.size))
          clear hb HB
          go_wp2_with fail
          refine (before_calls (HO.out.below HB7.out) HG.out k j).mono ?_
          rintro e w8 ⟨rfl, hb⟩
          have HB8 := Lib.hid (HB7.out.trans (hb.mono HB7.out.size))
          clear hb HB7
          go_wp2_with fail
          refine (sync_calls (HO.out.below HB8.out) HG.out i k).mono ?_
          rintro e w9 ⟨rfl, hb⟩
          have HB9 := Lib.hid (HB8.out.trans (hb.mono HB8.out.size))
          clear hb HB8
          go_wp2_with fail
          refine (sync_calls (HO.out.below HB9.out) HG.out k j).mono ?_
          rintro e w10 ⟨rfl, hb⟩
          have HB10 := Lib.hid (HB9.out.trans (hb.mono HB9.out.size))
          clear hb HB9
          have T1 := Lib.hid (Htr.out k)
          have T2 := Lib.hid (Hts.out k)
          revert T1 T2
          generalize befB n (rD l) i (k : Int) = x1
          generalize befB n (rD l) (k : Int) j = x2
          generalize befB n (rS l) i (k : Int) = x3
          generalize befB n (rS l) (k : Int) j = x4
          intro T1 T2
          cases x1 <;> cases x2 <;> cases x3 <;> cases x4
          all_goals first
            | (exfalso; exact Bool.noConfusion (T1.out rfl rfl))
            | (exfalso; exact Bool.noConfusion (T2.out rfl rfl))
            | skip
          all_goals
            clear T1 T2
            go_wp2
            go_roundw
            case rel => exact ⟨k + 1, by omega, by go_num, HB10⟩
            case measure => simp [intOf]; omega
        · by_cases hi0 : i < 0
          · have hd0 : decide (i < 0) = true := decide_eq_true hi0
            go_wp2
            go_ret
            exact ⟨rfl, HB3.out.trans (HB.out.mono HB3.out.size)⟩
          · have hd0 : decide (i < 0) = false := decide_eq_false hi0
            by_cases hj0 : (n : Int) ≤ j
            · have hd1 : decide ((n : Int) ≤ j) = true := decide_eq_true hj0
              go_wp2
              go_ret
              exact ⟨rfl, HB3.out.trans (HB.out.mono HB3.out.size)⟩
            · have hd1 : decide ((n : Int) ≤ j) = false := decide_eq_false hj0
              have hijn : ¬ j ≤ i := of_decide_eq_false hij
              obtain ⟨ki, rfl⟩ := Int.eq_ofNat_of_zero_le (show 0 ≤ i by omega)
              obtain ⟨kj, rfl⟩ := Int.eq_ofNat_of_zero_le (show 0 ≤ j by omega)
              have hkin : ki < n := by omega
              have hkjn : kj < n := by omega
              have hti : 0 ≤ (ki : Int) ∧ (ki : Int) < (n : Int) := by omega
              have htj : 0 ≤ (kj : Int) ∧ (kj : Int) < (n : Int) := by omega
              obtain ⟨bl, off, ei, rfl, hei, _, d0, d1, d2, d3, d4⟩ := Hev.out.at hkin
              obtain ⟨_, _, ej, hq, hej, _, f0, f1, f2, f3, f4⟩ := Hev.out.at hkjn
              cases hq
              have hBr : Below w.heap.size w wr := HB3.out.trans (HB.out.mono HB3.out.size)
              have d0 := keep hBr d0
              have d1 := keep hBr d1
              have d2 := keep hBr d2
              have d3 := keep hBr d3
              have d4 := keep hBr d4
              have f0 := keep hBr f0
              have f1 := keep hBr f1
              have f2 := keep hBr f2
              have f3 := keep hBr f3
              have f4 := keep hBr f4
              have Hst : ∀ W, Calls Try.prog 20 #[.agg #[.int .i64 ei.t, .int .i64 ei.k, .int .i64 ei.o, .int .i64 ei.v, .int .i64 ei.b], .agg #[.int .i64 ej.t, .int .i64 ej.k, .int .i64 ej.o, .int .i64 ej.v, .int .i64 ej.b]] W fun x w' => x = .returned (.bool (rD l ki kj)) ∧ Below W.heap.size W w' := fun W => by
                rw [rD_of hei hej, depends_is]; exact rdep_calls _ _ _ _ _ _ _ _ _ _ _
              have HDD := Lib.hid (HD.out ki kj rfl rfl)
              have HBr := Lib.hid hBr
              have Hei := Lib.hid hei
              have Hej := Lib.hid hej
              clear hei hej hBr
              revert HDD Hst
              generalize rD l ki kj = dp
              intro Hst HDD
              go_wp2_with fail
              refine wp_ext_draw 9 mixed (by kernel_rfl) ?_
              simp only [List.take_succ_cons, List.take_zero, List.drop_succ_cons, List.drop_zero]
              repeat ((first | ((apply TextRun.go rfl rfl rfl); (intro w1 hS K hK; have hc := bcell hS; have hs := blt hS; have d0 := keep hS d0; have d1 := keep hS d1; have d2 := keep hS d2; have d3 := keep hS d3; have d4 := keep hS d4; have f0 := keep hS f0; have f1 := keep hS f1; have f2 := keep hS f2; have f3 := keep hS f3; have f4 := keep hS f4; go_wp2_with ((with_reducible refine (Hst _).mono ?_); rintro x' w4 ⟨rfl, hb⟩); first | exact hS | exact hS.trans (hb.mono hS.size))) | (refine TextRun.skip rfl ?_) | ((refine TextRun.wantedT rfl rfl rfl ?_); (apply Exists.intro); (apply And.intro); (intro w1 hS K hK; have hc := bcell hS; have hs := blt hS; have d0 := keep hS d0; have d1 := keep hS d1; have d2 := keep hS d2; have d3 := keep hS d3; have d4 := keep hS d4; have f0 := keep hS f0; have f1 := keep hS f1; have f2 := keep hS f2; have f3 := keep hS f3; have f4 := keep hS f4; go_wp2_with ((with_reducible refine (Hst _).mono ?_); rintro x' w4 ⟨rfl, hb⟩); first | exact hS | exact hS.trans (hb.mono hS.size)))); (simp only [Act.put, List.setIfInBounds_toArray, List.set_cons_zero, List.set_cons_succ]))
              refine TextRun.done ?_
              intro w11 hb11
              have HB11 := Lib.hid (HBr.out.trans (hb11.mono HBr.out.size))
              clear hb11 d0 d1 d2 d3 d4 f0 f1 f2 f3 f4
              cases dp
              all_goals first
                | (exfalso; exact Bool.noConfusion (HDD.out (by omega) hkjn rfl))
                | skip
              all_goals
                go_wp2
                go_ret
                exact ⟨rfl, HB11.out⟩
end Go.Proofs.Ythooddkoldfebaa
