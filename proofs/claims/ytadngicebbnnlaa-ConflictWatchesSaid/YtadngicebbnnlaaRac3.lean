/-
  ConflictRaces, ConflictStands, ConflictStays.
-/
import Derived.Test.YtadngicebbnnlaaRac2
import Derived.BigRegion
set_option linter.unusedSimpArgs false
set_option linter.unusedVariables false
namespace Go.Proofs.Ytadngicebbnnlaa
open Go.ChangeShapes Go.WideShapes Go.ChangeAt Go.RowKit Go.Deep

def pr3 : List Ev := [⟨0, 6, 1, 0, 0⟩, ⟨1, 2, 0, 0, 0⟩, ⟨0, 1, 0, 0, 0⟩]
theorem pr3_wrong : wrongS 3 pr3 = 0 := by decide
theorem pr3_races : docC pr3 3 = [(1, 2)] := by
  have h01 : raceC pr3 0 1 = false := by
    have : clE (pr3.getD 0 ev00) (pr3.getD 1 ev00) = false := by decide
    unfold raceC; rw [this]; rfl
  have h02 : raceC pr3 0 2 = false := by
    have : clE (pr3.getD 0 ev00) (pr3.getD 2 ev00) = false := by decide
    unfold raceC; rw [this]; rfl
  have h12 : raceC pr3 1 2 = true := by
    have h1 : clE (pr3.getD 1 ev00) (pr3.getD 2 ev00) = true := by decide
    have h2 : hbB (rS pr3) 1 2 = false := by
      cases hb : hbB (rS pr3) 1 2
      · rfl
      · obtain ⟨k, hk, hr, h⟩ := HB.iff.1 (hbB_iff.1 hb)
        rcases (show k = 0 ∨ k = 1 by omega) with rfl | rfl
        · rcases h with h | h
          · omega
          · have := h.lt; omega
        · have h3 : rS pr3 1 2 = false := by decide
          rw [h3] at hr; cases hr
    unfold raceC; rw [h1, h2]; rfl
  simp [docC, List.range_succ, h01, h02, h12]
theorem pr3_evs (w : World) : IsEvs (w.alloc (.cells #[.int .i64 0, .int .i64 6, .int .i64 1, .int .i64 0, .int .i64 0, .int .i64 1, .int .i64 2, .int .i64 0, .int .i64 0, .int .i64 0, .int .i64 0, .int .i64 1, .int .i64 0, .int .i64 0, .int .i64 0] 38)) (some ⟨w.heap.size, 0, none⟩) 3 3 pr3 := by
  refine ⟨⟨rfl, fun _ => ⟨w.heap.size, 0, rfl, fun j u hj => ?_⟩⟩, rfl, Nat.le_refl _, by unfold maxLen; omega, fun e he => ?_⟩
  · rw [Nat.zero_add]; exact cell_new (by rw [← Array.getElem?_toList]; exact hj)
  · simp only [pr3, List.mem_cons, List.not_mem_nil, or_false] at he
    rcases he with rfl | rfl | rfl <;> exact ⟨Fit.of (by decide) (by decide), Fit.of (by decide) (by decide), Fit.of (by decide) (by decide), Fit.of (by decide) (by decide), Fit.of (by decide) (by decide)⟩
set_option maxHeartbeats 4000000 in
theorem cawake_calls (w : World) : Calls Try.prog 10 #[] w fun e w' => e = .returned (.bool true) ∧ Below w.heap.size w w' := by
  have HE := Lib.hid (pr3_evs w)
  have HbE : Hid (Below w.heap.size w (w.alloc (.cells #[.int .i64 0, .int .i64 6, .int .i64 1, .int .i64 0, .int .i64 0, .int .i64 1, .int .i64 2, .int .i64 0, .int .i64 0, .int .i64 0, .int .i64 0, .int .i64 1, .int .i64 0, .int .i64 0, .int .i64 0] 38))) := (Below.refl _ w).alloc (Nat.le_refl _) _
  go_enter Try.func10, Try.ntmps10
  go_wp2_with fail
  refine (pair_calls w).mono ?_
  rintro e w' ⟨rfl, rfl⟩
  go_wp2_with fail
  refine (cfraces_calls HE.out).mono ?_
  rintro e w1 ⟨v, rfl, hs, hb⟩
  rw [confRes_good pr3_wrong, pr3_races] at hs ⊢
  simp only at hs ⊢
  have HB1 := Lib.hid (HbE.out.trans (hb.mono HbE.out.size))
  obtain ⟨a, c, hv, _, _, hat⟩ := hs.ex
  subst hv
  obtain ⟨g, rfl, c0, c1⟩ := hat 0 (1, 2) rfl
  simp only [Nat.zero_mul, Nat.zero_add] at c0 c1
  have hl : (natsP [(1, 2)]).length = 1 := rfl
  rw [hl]
  clear hs hat hb HE HbE hl
  go_wp2
  go_ret
  exact ⟨rfl, HB1.out⟩

set_option maxRecDepth 20000 in
set_option maxHeartbeats 4000000 in
theorem conflictRaces_law {w : World} {a0 : Option Addr} {n c : Nat} {l : List Ev} (h : IsEvs w a0 n c l) :
    Calls Try.prog 3 #[.slice a0 n c] w fun e w' => e = .returned (.bool true) ∧ Below w.heap.size w w' := by
  have Hev := Lib.hid h
  clear h
  go_enter Try.func3, Try.ntmps3
  go_wp2_with fail
  refine (cawake_calls _).mono ?_
  rintro e w1 ⟨rfl, hb⟩
  have HB1 := Lib.hid hb
  clear hb
  go_wp2_with fail
  refine (cfraces_calls (Hev.out.below HB1.out)).mono ?_
  rintro e w2 ⟨v, rfl, hs, hb⟩
  have HS2 := Lib.hid hs
  have HB2 := Lib.hid (HB1.out.trans (hb.mono HB1.out.size))
  clear hs hb
  go_wp2_with fail
  refine (rcfraces_calls (Hev.out.below HB2.out)).mono ?_
  rintro e w3 ⟨u, rfl, hs, hb⟩
  have HS2 := Lib.hid (HS2.out.below hb)
  have HS3 := Lib.hid hs
  have HB3 := Lib.hid (HB2.out.trans (hb.mono HB2.out.size))
  clear hs hb
  revert HS2 HS3
  generalize confRes n l = r
  obtain ⟨xs, z⟩ := r
  intro HS2 HS3
  obtain ⟨a1, c1, rfl, _⟩ := HS2.out.ex
  obtain ⟨a2, c2, rfl, _⟩ := HS3.out.ex
  go_wp2_with fail
  refine (psame_calls HS2.out HS3.out).mono ?_
  rintro e w4 ⟨rfl, hb⟩
  have HB4 := Lib.hid (HB3.out.trans (hb.mono HB3.out.size))
  clear hb
  have hzz : (z == z) = true := by simp
  go_wp2
  go_ret
  exact ⟨rfl, HB4.out⟩

theorem SeesP.nat_at {w : World} {n c : Nat} {a : Option Addr} {R : List (Nat × Nat)} (h : SeesP w (.slice a n c) (natsP R)) {i : Nat} {p : Nat × Nat} (hq : R[i]? = some p) : ∃ g, a = some ⟨g, 0, none⟩ ∧ w.cell? ⟨g, i * 2, none⟩ = some (.int .i64 (p.1 : Int)) ∧ w.cell? ⟨g, i * 2 + 1, none⟩ = some (.int .i64 (p.2 : Int)) := by
  obtain ⟨a', c', he, _, _, hat⟩ := h.ex
  cases he
  exact hat i _ (natsP_get hq)
theorem SeesP.nats {w : World} {v : Value} {R : List (Nat × Nat)} (h : SeesP w v (natsP R)) : ∃ a c, v = .slice a R.length c ∧ R.length ≤ c := by
  obtain ⟨a', c', he, hl, _, _⟩ := h.ex
  rw [natsP_len] at he hl
  exact ⟨a', c', he, hl⟩
theorem mem_takeP {R : List (Nat × Nat)} {m : Nat} {q s : Nat × Nat} (h : R[m]? = some q) : decide (s ∈ R.take (m + 1)) = (decide (s ∈ R.take m) || decide (q = s)) := by
  rw [Bool.eq_iff_iff, List.take_add_one, h]
  simp only [Option.toList, List.mem_append, List.mem_singleton, Bool.or_eq_true, decide_eq_true_iff]
  constructor
  · rintro (h | h)
    · exact .inl h
    · exact .inr h.symm
  · rintro (h | h)
    · exact .inl h
    · exact .inr h.symm

set_option maxRecDepth 20000 in
set_option maxHeartbeats 8000000 in
theorem conflictStands_law {w : World} {a0 : Option Addr} {n c : Nat} {l : List Ev} (h : IsEvs w a0 n c l) (i j : Int) :
    Calls Try.prog 4 #[.slice a0 n c, .int .i64 i, .int .i64 j] w fun e w' => e = .returned (.bool true) ∧ Below w.heap.size w w' := by
  have hnm : n ≤ 9223372036854775807 := by have := h.le; have := h.cap; unfold maxLen at *; omega
  have Hev := Lib.hid h
  clear h
  go_enter Try.func4, Try.ntmps4
  go_wp2_with fail
  refine (cawake_calls _).mono ?_
  rintro e w1 ⟨rfl, hb⟩
  have HB1 := Lib.hid hb
  clear hb
  go_wp2_with fail
  refine (rwrong_calls (Hev.out.below HB1.out)).mono ?_
  rintro e w2 ⟨rfl, hb⟩
  have HB2 := Lib.hid (HB1.out.trans (hb.mono HB1.out.size))
  clear hb HB1
  by_cases hz : wrongS n l = 0
  case neg =>
    have hz' : (wrongS n l != 0) = true := by simpa [bne] using hz
    clear hz
    generalize wrongS n l = z at *
    go_wp2
    go_ret
    exact ⟨rfl, HB2.out⟩
  have hn100 : n ≤ 100 := wrong_leC hz
  have Hz := Lib.hid hz
  rw [hz]
  clear hz
  by_cases hi0 : i < 0
  · have hd0 : decide (i < 0) = true := decide_eq_true hi0
    clear hi0
    go_wp2
    go_ret
    exact ⟨rfl, HB2.out⟩
  have hd0 : decide (i < 0) = false := decide_eq_false hi0
  by_cases hjn : (n : Int) ≤ j
  · have hd2 : decide ((n : Int) ≤ j) = true := decide_eq_true hjn
    clear hi0 hjn
    go_wp2
    go_ret
    exact ⟨rfl, HB2.out⟩
  have hd2 : decide ((n : Int) ≤ j) = false := decide_eq_false hjn
  by_cases hij : j ≤ i
  · have hd3 : decide (j ≤ i) = true := decide_eq_true hij
    clear hi0 hjn hij
    go_wp2
    go_ret
    exact ⟨rfl, HB2.out⟩
  have hd3 : decide (j ≤ i) = false := decide_eq_false hij
  obtain ⟨ki, rfl⟩ := Int.eq_ofNat_of_zero_le (show 0 ≤ i by omega)
  obtain ⟨kj, rfl⟩ := Int.eq_ofNat_of_zero_le (show 0 ≤ j by omega)
  have hkj : kj < n := by omega
  have hkij : ki < kj := by omega
  have hki : ki < n := by omega
  have Ho := Lib.hid (order_calls (Hev.out.below HB2.out))
  clear hi0 hjn hij
  go_wp2_with fail
  refine Ho.out.mono ?_
  rintro e w3 ⟨hb1, ⟨hz, rfl⟩ | ⟨hz, hg, b, v, rfl, hO⟩⟩
  · exact absurd Hz.out hz
  have HB3 := Lib.hid (HB2.out.trans (hb1.mono HB2.out.size))
  have HO := Lib.hid hO
  have HG := Lib.hid hg
  clear hb1 hz hg hO Ho hd0 hd2 hd3
  go_wp2_with fail
  refine (cfraces_calls (Hev.out.below HB3.out)).mono ?_
  rintro e w4 ⟨v', rfl, hs, hb⟩
  rw [confRes_good Hz.out] at hs ⊢
  simp only at hs ⊢
  have HB4 := Lib.hid (HB3.out.trans (hb.mono HB3.out.size))
  have HO4 := Lib.hid (HO.out.below hb)
  have HS := Lib.hid hs
  obtain ⟨ra, rc, rfl, hrc⟩ := hs.nats
  have Hmem : Hid (decide ((ki, kj) ∈ docC l n) = raceC l ki kj) := by
    rw [Hid, Bool.eq_iff_iff, decide_eq_true_iff, docC_mem]
    exact ⟨fun h => h.2.2, fun h => ⟨hkj, hkij, h⟩⟩
  have hRl : (docC l n).length ≤ 10000 := by have := docC_len l n hn100; have : n * 100 ≤ 100 * 100 := Nat.mul_le_mul_right _ hn100; omega
  clear hs hb HO
  revert HS Hmem hRl hrc
  generalize docC l n = R
  intro hrc HS Hmem hRl
  have hRw : R.length ≤ 9223372036854775807 := by omega
  clear hRl hrc
  go_wp2_with fail
  go_loopw [13, 14] (fun u x wr => ∃ m : Nat, m ≤ R.length ∧ x = .int .i64 m ∧ u = .bool (decide ((ki, kj) ∈ R.take m)) ∧ Hid (Below w4.heap.size w4 wr)) (fun _ x _ => R.length - (intOf x).toNat)
  case atStart => exact ⟨0, Nat.zero_le _, by go_num, by simp, Below.refl ..⟩
  case round =>
    obtain ⟨m, hm, rfl, rfl, HB⟩ := hrel
    by_cases hmR : m < R.length
    · obtain ⟨⟨p1, p2⟩, hp⟩ : ∃ p, R[m]? = some p := ⟨_, List.getElem?_eq_getElem hmR⟩
      obtain ⟨g, rfl, e0, e1⟩ := HS.out.nat_at hp
      simp only at e0 e1
      have e0 := keep HB.out e0
      have e1 := keep HB.out e1
      have Hm := Lib.hid (mem_takeP (s := (ki, kj)) hp)
      clear hp
      by_cases h1 : p1 = ki
      · have hb1 : ((p1 : Int) == (ki : Int)) = true := by simp; omega
        by_cases h2 : p2 = kj
        · have hb2 : ((p2 : Int) == (kj : Int)) = true := by simp; omega
          have Hm' : Hid (decide ((ki, kj) ∈ R.take (m + 1)) = true) := by rw [Hid, Hm.out, h1, h2]; simp
          clear h1 h2 Hm
          go_wp2
          go_roundw
          case rel => exact ⟨m + 1, hmR, by go_num, by rw [Hm'.out], HB⟩
          case measure => exact measC hmR
        · have hb2 : ((p2 : Int) == (kj : Int)) = false := by simp; omega
          have Hm' : Hid (decide ((ki, kj) ∈ R.take (m + 1)) = decide ((ki, kj) ∈ R.take m)) := by rw [Hid, Hm.out]; simp [h2]
          clear h1 h2 Hm
          go_wp2
          go_roundw
          case rel => exact ⟨m + 1, hmR, by go_num, by rw [Hm'.out], HB⟩
          case measure => exact measC hmR
      · have hb1 : ((p1 : Int) == (ki : Int)) = false := by simp; omega
        have Hm' : Hid (decide ((ki, kj) ∈ R.take (m + 1)) = decide ((ki, kj) ∈ R.take m)) := by rw [Hid, Hm.out]; simp [h1]
        clear h1 Hm
        go_wp2
        go_roundw
        case rel => exact ⟨m + 1, hmR, by go_num, by rw [Hm'.out], HB⟩
        case measure => exact measC hmR
    · have hmR : m = R.length := Nat.le_antisymm hm (Nat.le_of_not_lt hmR)
      rw [hmR, List.take_length, Hmem.out]
      have HB5 := Lib.hid (HB4.out.trans (HB.out.mono HB4.out.size))
      obtain ⟨b0, off, x, rfl, hx, _, c0, c1, c2, c3, c4⟩ := (Hev.out.below HB5.out).at hki
      obtain ⟨b0', off', y, he, hy, _, d0, d1, d2, d3, d4⟩ := (Hev.out.below HB5.out).at hkj
      cases he
      have Hcl : Hid (raceC l ki kj = (clE x y && !hbB (rS l) ki kj)) := by unfold raceC; rw [getD_of hx, getD_of hy]; rfl
      have HOr := Lib.hid (HO4.out.below HB.out)
      obtain ⟨xt, xk, xo, xv, xb⟩ := x
      obtain ⟨yt, yk, yo, yv, yb⟩ := y
      simp only at c0 c1 c2 c3 c4 d0 d1 d2 d3 d4
      have HCl : Hid (∀ W, Calls Try.prog 16 #[.agg #[.int .i64 xt, .int .i64 xk, .int .i64 xo, .int .i64 xv, .int .i64 xb], .agg #[.int .i64 yt, .int .i64 yk, .int .i64 yo, .int .i64 yv, .int .i64 yb]] W fun e w' => e = .returned (.bool (clE ⟨xt, xk, xo, xv, xb⟩ ⟨yt, yk, yo, yv, yb⟩)) ∧ Below W.heap.size W w') := fun W => clash_calls _ _ _ _ _ _ _ _ _ _ _
      rw [Hcl.out]
      clear hx hy hmR Hmem HB HO4 Hcl
      revert HCl
      generalize clE ⟨xt, xk, xo, xv, xb⟩ ⟨yt, yk, yo, yv, yb⟩ = cl
      intro HCl
      go_wp2_with fail
      refine wp_ext_draw 10 mixed (by kernel_rfl) ?_
      simp only [List.take_succ_cons, List.take_zero, List.drop_succ_cons, List.drop_zero]
      repeat ((first | ((apply TextRun.go rfl rfl rfl); (focus (intro w1 hS K hK; have hc := bcell hS; have hs := blt hS; have c0 := keep hS c0; have c1 := keep hS c1; have c2 := keep hS c2; have c3 := keep hS c3; have c4 := keep hS c4; have d0 := keep hS d0; have d1 := keep hS d1; have d2 := keep hS d2; have d3 := keep hS d3; have d4 := keep hS d4; go_wp2_with ((with_reducible refine (HCl.out _).mono ?_); rintro e w' ⟨rfl, hb⟩); first | done | exact hS | exact hS.trans (hb.mono hS.size)))) | (refine TextRun.skip rfl ?_) | ((refine TextRun.wantedT rfl rfl rfl ?_); (apply Exists.intro); (apply And.intro); (focus (intro w1 hS K hK; have hc := bcell hS; have hs := blt hS; have c0 := keep hS c0; have c1 := keep hS c1; have c2 := keep hS c2; have c3 := keep hS c3; have c4 := keep hS c4; have d0 := keep hS d0; have d1 := keep hS d1; have d2 := keep hS d2; have d3 := keep hS d3; have d4 := keep hS d4; go_wp2_with ((with_reducible refine (HCl.out _).mono ?_); rintro e w' ⟨rfl, hb⟩); first | done | exact hS | exact hS.trans (hb.mono hS.size))))); (simp only [Act.put, List.setIfInBounds_toArray, List.set_cons_zero, List.set_cons_succ]))
      refine TextRun.done ?_
      intro y2 hb
      have HB6 := Lib.hid (HB5.out.trans (hb.mono HB5.out.size))
      have HSy := sync_calls (HOr.out.below hb) HG.out (ki : Int) (kj : Int)
      rw [befB_nat hki hkj] at HSy
      have HSy2 := Lib.hid HSy
      clear hb HSy HOr HCl c0 c1 c2 c3 c4 d0 d1 d2 d3 d4
      go_wp2_with fail
      refine HSy2.out.mono ?_
      rintro e y3 ⟨rfl, hb⟩
      have HB7 := Lib.hid (HB6.out.trans (hb.mono HB6.out.size))
      clear hb HSy2
      generalize hbB (rS l) ki kj = sy
      cases cl <;> cases sy <;> (go_wp2; go_ret; exact ⟨rfl, HB7.out⟩)
end Go.Proofs.Ytadngicebbnnlaa
