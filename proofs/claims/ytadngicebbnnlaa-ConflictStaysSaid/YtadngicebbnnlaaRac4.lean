/-
  ConflictStays: if two events beside one another that do not depend are exchanged, the same events race.
-/
import Derived.Test.YtadngicebbnnlaaRac3
import Derived.BigRegion
set_option linter.unusedSimpArgs false
set_option linter.unusedVariables false
namespace Go.Proofs.Ytadngicebbnnlaa
open Go.ChangeShapes Go.WideShapes Go.ChangeAt Go.RowKit Go.Deep

set_option maxHeartbeats 2000000 in
theorem moved15_calls (w : World) (a k : Nat) (ha : a ≤ 1000) (hk : k ≤ 1000) :
    Calls Try.prog 19 #[.int .i64 (a : Int), .int .i64 (k : Int)] w fun e w' => e = .returned (.int .i64 (sw k a : Int)) ∧ w = w' := by
  by_cases h1 : a = k
  · have Hv : Hid ((sw k a : Int) = (k : Int) + 1) := by unfold Hid sw; rw [if_pos h1]; omega
    have ht : ((a : Int) == (k : Int)) = true := by simp; omega
    rw [Hv.out]
    clear h1
    go_enter Try.func19, Try.ntmps19
    go_wp2
    go_ret
    exact ⟨by go_num, rfl⟩
  · have ht : ((a : Int) == (k : Int)) = false := by simp; omega
    have hw : RowKit.wrap64 ((k : Int) + 1) = (k : Int) + 1 := wrap64_fit (by omega) (by omega)
    by_cases h2 : a = k + 1
    · have Hv : Hid ((sw k a : Int) = (k : Int)) := by unfold Hid sw; rw [if_neg h1, if_pos h2]
      have ht2 : ((a : Int) == (k : Int) + 1) = true := by simp; omega
      rw [Hv.out]
      clear h1 h2
      go_enter Try.func19, Try.ntmps19
      go_wp2
      go_ret
      exact ⟨rfl, rfl⟩
    · have Hv : Hid ((sw k a : Int) = (a : Int)) := by unfold Hid sw; rw [if_neg h1, if_neg h2]
      have ht2 : ((a : Int) == (k : Int) + 1) = false := by simp; omega
      rw [Hv.out]
      clear h1 h2
      go_enter Try.func19, Try.ntmps19
      go_wp2
      go_ret
      exact ⟨rfl, rfl⟩

set_option maxRecDepth 20000 in
set_option maxHeartbeats 16000000 in
theorem conflictStays_law {w : World} {a0 : Option Addr} {n c : Nat} {l : List Ev} (h : IsEvs w a0 n c l) (i : Int) :
    Calls Try.prog 5 #[.slice a0 n c, .int .i64 i] w fun e w' => e = .returned (.bool true) ∧ Below w.heap.size w w' := by
  have hnm : n ≤ 9223372036854775807 := by have := h.le; have := h.cap; unfold maxLen at *; omega
  have Hev := Lib.hid h
  clear h
  go_enter Try.func5, Try.ntmps5
  go_wp2_with fail
  refine (cawake_calls _).mono ?_
  rintro e w1 ⟨rfl, hb⟩
  have HB1 := Lib.hid hb
  clear hb
  go_wp2_with fail
  refine (rwrong_calls (Hev.out.below HB1.out)).mono ?_
  rintro e w2 ⟨rfl, hb⟩
  have HB2 := Lib.hid (HB1.out.trans (hb.mono HB1.out.size))
  clear hb HB1
  by_cases hz : wrongS n l = 0
  case neg =>
    have hz' : (wrongS n l != 0) = true := by simpa [bne] using hz
    clear hz
    generalize wrongS n l = z at *
    go_wp2
    go_ret
    exact ⟨rfl, HB2.out⟩
  obtain ⟨S0, hS0⟩ := wrong_ofC hz
  have hn100 : n ≤ 100 := wrong_leC hz
  have Hw0 := Lib.hid hz
  have HS0 := Lib.hid hS0
  rw [hz]
  clear hz hS0
  have hwn : RowKit.wrap64 ((n : Int) - 1) = (n : Int) - 1 := wrap64_fit (by omega) (by omega)
  by_cases hi0 : i < 0
  · have hd0 : decide (i < 0) = true := decide_eq_true hi0
    clear hi0
    go_wp2
    go_ret
    exact ⟨rfl, HB2.out⟩
  have hd0 : decide (i < 0) = false := decide_eq_false hi0
  by_cases hin : (n : Int) - 1 ≤ i
  · have hd2 : decide ((n : Int) - 1 ≤ i) = true := decide_eq_true hin
    clear hi0 hin
    go_wp2
    go_ret
    exact ⟨rfl, HB2.out⟩
  have hd2 : decide ((n : Int) - 1 ≤ i) = false := decide_eq_false hin
  obtain ⟨k, rfl⟩ := Int.eq_ofNat_of_zero_le (show 0 ≤ i by omega)
  have hk : k + 1 < n := by omega
  have hwk : RowKit.wrap64 ((k : Int) + 1) = (k : Int) + 1 := wrap64_fit (by omega) (by omega)
  clear hi0 hin
  have hnc : n ≤ c := Hev.out.le
  have Hl := Lib.hid Hev.out.len
  have Hwf := Lib.hid Hev.out.wf
  go_wp2_with fail
  obtain ⟨b0, off, x, rfl, hx, _, c0, c1, c2, c3, c4⟩ := (Hev.out.below HB2.out).at (show k < n by omega)
  obtain ⟨b0', off', y, he, hy, _, d0, d1, d2, d3, d4⟩ := (Hev.out.below HB2.out).at hk
  cases he
  have Hxy := Lib.hid (And.intro hx hy)
  obtain ⟨xt, xk, xo, xv, xb⟩ := x
  obtain ⟨yt, yk, yo, yv, yb⟩ := y
  simp only at c0 c1 c2 c3 c4 d0 d1 d2 d3 d4
  have Hst : ∀ W, Calls Try.prog 18 #[.agg #[.int .i64 xt, .int .i64 xk, .int .i64 xo, .int .i64 xv, .int .i64 xb], .agg #[.int .i64 yt, .int .i64 yk, .int .i64 yo, .int .i64 yv, .int .i64 yb]] W fun x w' => x = .returned (.bool (dependsB xt xk xo yt yk yo)) ∧ Below W.heap.size W w' := fun W => by
    rw [depends_is]; exact rdep_calls _ _ _ _ _ _ _ _ _ _ _
  have HD : Hid (dependsB xt xk xo yt yk yo = dependsB xt xk xo yt yk yo) := rfl
  clear hx hy
  revert Hst HD
  generalize hdd : dependsB xt xk xo yt yk yo = dd
  intro Hst HD
  have Hdd := Lib.hid hdd
  clear hdd HD
  refine wp_ext_draw 11 mixed (by kernel_rfl) ?_
  simp only [List.take_succ_cons, List.take_zero, List.drop_succ_cons, List.drop_zero]
  repeat ((first | ((apply TextRun.go rfl rfl rfl); (focus (intro w1 hS K hK; have hc := bcell hS; have hs := blt hS; have c0 := keep hS c0; have c1 := keep hS c1; have c2 := keep hS c2; have c3 := keep hS c3; have c4 := keep hS c4; have d0 := keep hS d0; have d1 := keep hS d1; have d2 := keep hS d2; have d3 := keep hS d3; have d4 := keep hS d4; go_wp2_with ((with_reducible refine (Hst _).mono ?_); rintro x' w4 ⟨rfl, hb⟩); first | done | exact hS | exact hS.trans (hb.mono hS.size)))) | (refine TextRun.skip rfl ?_) | ((refine TextRun.wantedT rfl rfl rfl ?_); (apply Exists.intro); (apply And.intro); (focus (intro w1 hS K hK; have hc := bcell hS; have hs := blt hS; have c0 := keep hS c0; have c1 := keep hS c1; have c2 := keep hS c2; have c3 := keep hS c3; have c4 := keep hS c4; have d0 := keep hS d0; have d1 := keep hS d1; have d2 := keep hS d2; have d3 := keep hS d3; have d4 := keep hS d4; go_wp2_with ((with_reducible refine (Hst _).mono ?_); rintro x' w4 ⟨rfl, hb⟩); first | done | exact hS | exact hS.trans (hb.mono hS.size))))); (simp only [Act.put, List.setIfInBounds_toArray, List.set_cons_zero, List.set_cons_succ]))
  refine TextRun.done ?_
  intro w5 hb
  have HB5 := Lib.hid (HB2.out.trans (hb.mono HB2.out.size))
  clear hb c0 c1 c2 c3 c4 d0 d1 d2 d3 d4 Hst
  cases dd
  case true =>
    go_wp2
    go_ret
    exact ⟨rfl, HB5.out⟩
  obtain ⟨i0, hi, hz0, hz1, hz2⟩ := info_at infoEv
  have Hi := Lib.hid hi
  have Hz0 := Lib.hid hz0
  have Hz1 := Lib.hid hz1
  have Hz2 := Lib.hid hz2
  have Hn := Lib.hid (evs_cells (t := 38) (Hev.out.below HB5.out) (by omega))
  clear hi hz0 hz1 hz2
  go_wp2_with (at_builtin; go_loud (refine wpList_append_own _ rfl (.tmp 47) (.tmp 48) 22 rfl w5.heap.size 38 i0 (.agg #[.int .i64 0, .int .i64 0, .int .i64 0, .int .i64 0, .int .i64 0]) 5 40 Try.underlying22 Hi.out Hz0.out Hz1.out Hz2.out rfl (by decide) _ 0 [] rfl (World.ownsRow_made w5 #[] 0 (Nat.le_refl _) (Nat.zero_le _) rfl) ⟨b0, off, none⟩ n c (evCells l) rfl (by rw [evCells, flat_len Ev.vals 5 (fun _ => rfl), Hl.out]) Hn.out (cells_one l) (by unfold maxLen; omega) (by omega) (by simp) ?_); intro v' w6 hown hg hnl; clear hnl)
  obtain ⟨g, cap, rfl⟩ := own_slice hown (by omega)
  have hown' : w6.ownsRow w5.heap.size 38 5 (.slice (some ⟨g, 0, none⟩) n cap) n (evCells l) := by simpa using hown
  have hb6 : Below w5.heap.size w5 w6 := ((Below.refl _ _).alloc (Nat.le_refl _) _).grown hg (by simp) (fun k hk => by cases hk; exact Nat.le_refl _)
  have HB6 := Lib.hid (HB5.out.trans (hb6.mono HB5.out.size))
  have hgb : w5.heap.size ≤ g := (hown'.lt g rfl).1
  have hfr := own_free hown'
  obtain ⟨c0, c1, c2, c3, c4⟩ := own_ev hown' Hxy.out.1
  obtain ⟨d0, d1, d2, d3, d4⟩ := own_ev hown' Hxy.out.2
  simp only at c0 c1 c2 c3 c4 d0 d1 d2 d3 d4
  have HOw := Lib.hid hown'
  have Hgb := Lib.hid hgb
  clear hown hown' hg hb6 hgb
  go_wp2_with fail
  go_region
  have hO3 := own_swap HOw.out k (by have := Hl.out; omega) xt xk xo xv xb yt yk yo yv yb
  have hW7 := wrote_swap w6 g (k * 5) ((k + 1) * 5) (.int .i64 yt) (.int .i64 yk) (.int .i64 yo) (.int .i64 yv) (.int .i64 yb) (.int .i64 xt) (.int .i64 xk) (.int .i64 xo) (.int .i64 xv) (.int .i64 xb)
  clear HOw c0 c1 c2 c3 c4 d0 d1 d2 d3 d4 hfr
  revert hO3 hW7
  generalize ((((((((((w6.setCell ⟨g, k * 5, none⟩ (.int .i64 yt)).setCell ⟨g, k * 5 + 1, none⟩ (.int .i64 yk)).setCell ⟨g, k * 5 + 2, none⟩ (.int .i64 yo)).setCell ⟨g, k * 5 + 3, none⟩ (.int .i64 yv)).setCell ⟨g, k * 5 + 4, none⟩ (.int .i64 yb)).setCell ⟨g, (k + 1) * 5, none⟩ (.int .i64 xt)).setCell ⟨g, (k + 1) * 5 + 1, none⟩ (.int .i64 xk)).setCell ⟨g, (k + 1) * 5 + 2, none⟩ (.int .i64 xo)).setCell ⟨g, (k + 1) * 5 + 3, none⟩ (.int .i64 xv)).setCell ⟨g, (k + 1) * 5 + 4, none⟩ (.int .i64 xb)).drew = w7
  intro hO3 hW7
  have hwf2 : ∀ e ∈ swapAt l k ⟨xt, xk, xo, xv, xb⟩ ⟨yt, yk, yo, yv, yb⟩, e.wf := fun e he => by
    unfold swapAt at he
    rcases List.mem_or_eq_of_mem_set he with he | rfl
    · rcases List.mem_or_eq_of_mem_set he with he | rfl
      · exact Hwf.out e he
      · exact Hwf.out _ (List.mem_of_getElem? Hxy.out.2)
    · exact Hwf.out _ (List.mem_of_getElem? Hxy.out.1)
  have hI7 := evs_of_own hO3 hwf2
  have HI7 := Lib.hid hI7
  have hb7 := Wrote.below HB6.out hW7 HB6.out.size (fun q hq => by have := HB5.out.size; have := Hgb.out; omega)
  have HB7 := Lib.hid hb7
  have Hw7 := Lib.hid (wrong_swap Hw0.out Hxy.out.1 Hxy.out.2 Hdd.out)
  have HSw := Lib.hid (Swp.of HS0.out Hxy.out.1 Hxy.out.2 Hdd.out)
  clear hO3 hW7 hwf2 hI7 hb7 Hn Hi Hz0 Hz1 Hz2
  go_wp2_with fail
  refine (cfraces_calls (Hev.out.below HB7.out)).mono ?_
  rintro e w8 ⟨v, rfl, hs, hb⟩
  have HB8 := Lib.hid (HB7.out.trans (hb.mono HB7.out.size))
  have HI8 := Lib.hid (HI7.out.below hb)
  rw [confRes_good Hw0.out] at hs ⊢
  have HS8 := Lib.hid hs
  clear hb hs HI7
  go_wp2_with fail
  refine (cfraces_calls HI8.out).mono ?_
  rintro e w9 ⟨u, rfl, hs, hb⟩
  have HB9 := Lib.hid (HB8.out.trans (hb.mono HB8.out.size))
  rw [confRes_good Hw7.out] at hs ⊢
  have HS8 := Lib.hid (HS8.out.below hb)
  have HS9 := Lib.hid hs
  clear hb hs HI8
  have hlen : (docC (swapAt l k ⟨xt, xk, xo, xv, xb⟩ ⟨yt, yk, yo, yv, yb⟩) n).length = (docC l n).length := HSw.out.race_len Hl.out.symm
  have Hmem : Hid (∀ p ∈ docC l n, swP k p ∈ docC (swapAt l k ⟨xt, xk, xo, xv, xb⟩ ⟨yt, yk, yo, yv, yb⟩) n) := fun p hp => HSw.out.race_up Hl.out.symm hp
  have Hlt : Hid (∀ p ∈ docC l n, p.1 ≤ 1000 ∧ p.2 ≤ 1000) := fun p hp => by
    have h1 := docC_mem.1 hp
    omega
  have hRl : (docC l n).length ≤ 10000 := by have := docC_len l n hn100; have : n * 100 ≤ 100 * 100 := Nat.mul_le_mul_right _ hn100; omega
  revert HS8 HS9 hlen Hmem Hlt hRl
  simp only
  generalize docC l n = R
  generalize docC (swapAt l k ⟨xt, xk, xo, xv, xb⟩ ⟨yt, yk, yo, yv, yb⟩) n = Q
  intro HS8 HS9 hlen Hmem Hlt hRl
  obtain ⟨a1, c1, rfl, hc1⟩ := HS8.out.nats
  obtain ⟨a2, c2, rfl, hc2⟩ := HS9.out.nats
  rw [hlen] at HS9 hc2 ⊢
  have hRw : R.length ≤ 9223372036854775807 := by omega
  have hRR : ((R.length : Int) != (R.length : Int)) = false := by simp
  go_wp2_with fail
  clear hRR
  go_loopw [13, 14, 15, 16, 17] (fun x _ _ _ _ wr => ∃ m : Nat, m ≤ R.length ∧ x = .int .i64 m ∧ Hid (Below w9.heap.size w9 wr)) (fun x _ _ _ _ _ => R.length - (intOf x).toNat)
  case atStart => exact ⟨0, Nat.zero_le _, by go_num, Below.refl ..⟩
  case round =>
    obtain ⟨m, hm, rfl, HB⟩ := hrel
    by_cases hmR : m < R.length
    · obtain ⟨⟨p1, p2⟩, hp⟩ : ∃ p, R[m]? = some p := ⟨_, List.getElem?_eq_getElem hmR⟩
      obtain ⟨g, rfl, e0, e1⟩ := HS8.out.nat_at hp
      simp only at e0 e1
      have e0 := keep HB.out e0
      have e1 := keep HB.out e1
      have Hp := Lib.hid hp
      obtain ⟨hp1, hp2⟩ := Hlt.out _ (List.mem_of_getElem? hp)
      simp only at hp1 hp2
      clear hp
      go_wp2_with fail
      refine (moved15_calls _ p1 k hp1 (by omega)).mono ?_
      rintro e z1 ⟨rfl, rfl⟩
      go_wp2_with fail
      refine (moved15_calls _ p2 k hp2 (by omega)).mono ?_
      rintro e z1 ⟨rfl, rfl⟩
      clear e0 e1
      have Hin := Lib.hid (Hmem.out _ (List.mem_of_getElem? Hp.out))
      have HSp : Hid (∃ sp : Nat × Nat, (sp.1 : Int) = (sw k p1 : Int) ∧ (sp.2 : Int) = (sw k p2 : Int) ∧ sp ∈ Q) := ⟨_, rfl, rfl, Hin.out⟩
      clear Hin
      go_wp2_with fail
      revert HSp
      generalize (sw k p1 : Int) = A
      generalize (sw k p2 : Int) = B
      intro HSp
      obtain ⟨sp, hs1, hs2, hin⟩ := HSp.out
      have Hsp := Lib.hid (And.intro hs1 hs2)
      have Hin := Lib.hid hin
      clear HSp hs1 hs2 hin
      have Hlen := Lib.hid hlen
      have hRs : R.length ≤ 10000 := hRl
      clear hwn hwk hd0 hd2 hnc hlen hRl hc1 hc2 hn100 hnm
      go_loopw [16, 17] (fun x y wq => ∃ (m2 : Nat) (b : Bool), m2 ≤ R.length ∧ y = .int .i64 m2 ∧ x = .bool b ∧ Hid ((sp ∈ Q.take m2 → b = true) ∧ Below w9.heap.size w9 wq)) (fun _ y _ => R.length - (intOf y).toNat)
      case atStart => exact ⟨0, false, Nat.zero_le _, by go_num, rfl, ⟨fun h => by simp at h, HB.out⟩⟩
      case round =>
        clear HB
        obtain ⟨m2, b, hm2, rfl, rfl, HI⟩ := hrel
        by_cases hm2R : m2 < R.length
        · obtain ⟨⟨q1, q2⟩, hq⟩ : ∃ q, Q[m2]? = some q := ⟨_, List.getElem?_eq_getElem (by rw [Hlen.out]; exact hm2R)⟩
          obtain ⟨g', rfl, c0, c1⟩ := HS9.out.nat_at hq
          simp only at c0 c1
          have c0 := keep HI.out.2 c0
          have c1 := keep HI.out.2 c1
          have Hq := Lib.hid hq
          clear hq
          obtain ⟨x1, hx1⟩ : ∃ x : Int, x = (q1 : Int) := ⟨_, rfl⟩
          obtain ⟨x2, hx2⟩ : ∃ x : Int, x = (q2 : Int) := ⟨_, rfl⟩
          rw [← hx1] at c0
          rw [← hx2] at c1
          have Hx := Lib.hid (And.intro hx1 hx2)
          clear hx1 hx2
          by_cases h1 : x1 = A
          · have hb1 : (x1 == A) = true := by simpa using h1
            by_cases h2 : x2 = B
            · have hb2 : (x2 == B) = true := by simpa using h2
              have HI2 : Hid ((sp ∈ Q.take (m2 + 1) → true = true) ∧ Below w9.heap.size w9 wr) := ⟨fun _ => rfl, HI.out.2⟩
              clear h1 h2 HI
              go_wp2
              go_roundw
              case rel => exact ⟨m2 + 1, true, hm2R, by go_num, rfl, HI2.out⟩
              case measure => exact measC hm2R
            · have hb2 : (x2 == B) = false := by simpa using h2
              have HI2 : Hid ((sp ∈ Q.take (m2 + 1) → b = true) ∧ Below w9.heap.size w9 wr) := ⟨fun h => by
                rw [List.take_add_one, Hq.out] at h
                rcases List.mem_append.1 h with h | h
                · exact HI.out.1 h
                · have h' : sp = (q1, q2) := List.mem_singleton.1 h
                  rw [h'] at Hsp
                  exact absurd (Hx.out.2.trans Hsp.out.2) h2, HI.out.2⟩
              clear h1 h2 HI
              go_wp2
              go_roundw
              case rel => exact ⟨m2 + 1, b, hm2R, by go_num, rfl, HI2.out⟩
              case measure => exact measC hm2R
          · have hb1 : (x1 == A) = false := by simpa using h1
            have HI2 : Hid ((sp ∈ Q.take (m2 + 1) → b = true) ∧ Below w9.heap.size w9 wr) := ⟨fun h => by
              rw [List.take_add_one, Hq.out] at h
              rcases List.mem_append.1 h with h | h
              · exact HI.out.1 h
              · have h' : sp = (q1, q2) := List.mem_singleton.1 h
                rw [h'] at Hsp
                exact absurd (Hx.out.1.trans Hsp.out.1) h1, HI.out.2⟩
            clear h1 HI
            go_wp2
            go_roundw
            case rel => exact ⟨m2 + 1, b, hm2R, by go_num, rfl, HI2.out⟩
            case measure => exact measC hm2R
        · have hm2R : m2 = R.length := Nat.le_antisymm hm2 (Nat.le_of_not_lt hm2R)
          have hbt : b = true := HI.out.1 (by rw [hm2R, ← Hlen.out, List.take_length]; exact Hin.out)
          have HB3 := Lib.hid HI.out.2
          subst hbt
          clear HI
          go_wp2
          go_roundw
          case rel => exact ⟨m + 1, hmR, by go_num, HB3.out⟩
          case measure => exact measC hmR
    · go_wp2
      go_ret
      exact ⟨rfl, HB9.out.trans (HB.out.mono HB9.out.size)⟩
end Go.Proofs.Ytadngicebbnnlaa
