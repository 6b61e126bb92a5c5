/-
  RaceTurns: a race can be turned round.
-/
import Derived.Test.YthooddkoldfebaaRaceRev
set_option linter.unusedSimpArgs false
set_option linter.unusedVariables false
namespace Go.Proofs.Ythooddkoldfebaa
open Go.ChangeShapes Go.WideShapes Go.ChangeAt Go.RowKit Go.Deep

def eltEv : Elt Ev where
  T := 22
  e := 33
  z := .agg #[.int .i64 0, .int .i64 0, .int .i64 0, .int .i64 0, .int .i64 0]
  size := 5
  bytes := 40
  f := Ev.vals
  ht := Try.underlying22
  hi := infoEv
  hz := rfl
  hs := by decide
  hb := by decide
  hf := fun _ => rfl
  h1 := fun x u hu => by
    unfold Ev.vals at hu
    simp only [List.mem_cons, List.map_cons, List.map_nil, List.not_mem_nil, or_false] at hu
    rcases hu with rfl | rfl | rfl | rfl | rfl <;> rfl
theorem OwnL.evs {w : World} {B : Nat} {v : Value} {xs : List Ev} (h : OwnL eltEv w B v xs) (hw : ∀ x ∈ xs, x.wf) : ∃ a c, v = .slice a xs.length c ∧ IsEvs w a xs.length c xs := by
  obtain ⟨a, c, rfl, h1, h2, h3, h4⟩ := h.slice
  refine ⟨a, c, rfl, ⟨⟨flat_len Ev.vals 5 (fun _ => rfl) xs, fun hn => ?_⟩, rfl, h1, h2, hw⟩⟩
  cases a with
  | none => have := h3 rfl; subst this; simp at hn
  | some ad =>
    obtain ⟨g, o, s⟩ := ad
    obtain ⟨rfl, rfl, _, _, hc⟩ := h4 g o s rfl
    exact ⟨g, 0, rfl, fun j u hu => by rw [Nat.zero_add]; exact hc j u hu⟩
theorem turnP_take {l : List Ev} {k i : Nat} : (turnP l k i).take ((turnP l k i).length - 1) = List.range k ++ restP (rD l) k i := by
  rw [turnP_len]
  unfold turnP
  rw [List.take_append_of_le_length (by simp), List.take_of_length_le (by simp)]
/-- What is told of a race, without its last place. -/
theorem turn_places {l : List Ev} {k i : Nat} (hk : k ≤ l.length) : evsAt l ((turnP l k i).take ((turnP l k i).length - 1)) = l.take k ++ evsAt l (restP (rD l) k i) := by
  rw [turnP_take, evsAt_app, evsAt_range hk]
theorem IsInts.nat {w : World} {a : Option Addr} {n c : Nat} {P : List Nat} (h : IsInts w a n c (natsI P)) {j q : Nat} (hq : P[j]? = some q) : ∃ b off, a = some ⟨b, off, none⟩ ∧ w.cell? ⟨b, off + j, none⟩ = some (.int .i64 (q : Int)) := by
  have hn : j < n := by rw [← h.len, natsI_len]; exact (List.getElem?_eq_some_iff.1 hq).1
  obtain ⟨b, off, x, ha, hx, _, hc⟩ := h.at hn
  rw [natsI_get hq] at hx
  cases hx
  exact ⟨b, off, ha, hc⟩
/-- What the walk needs to know of a race that is turned round. -/
structure Turned (l : List Ev) (n f i : Nat) (P : List Nat) (M : Nat) : Prop where
  fi : f < i
  inn : i < n
  len : P.length = M + 1
  last : P[M]? = some i
  lt : ∀ (j q : Nat), P[j]? = some q → q < n
  ne : ∀ (j q : Nat), P[j]? = some q → q ≠ f
  up : ∀ (j a b : Nat), P[j]? = some a → P[j + 1]? = some b → a < b
  th : (l.getD f ev00).t ≠ (l.getD i ev00).t
  ok : ofS (evsAt l (P.take M)) = (takes log0 (evsAt l (P.take M)), 0, 0)
  can : canB (takes log0 (evsAt l (P.take M))) (l.getD i ev00).t (l.getD i ev00).k (l.getD i ev00).o = true
  le : M ≤ 1000
theorem Turned.of {l : List Ev} {n f i : Nat} {S : LogS} (hR : ofS l = (S, 0, 0)) (hn : n = l.length) (hn100 : n ≤ 100) (hi : i < n) (h : f ∈ racesAt l i) : ∃ M, Turned l n f i (turnP l f i) M := by
  obtain ⟨h1, h2, h3⟩ := cand_of h
  have hM : (turnP l f i).length = ((turnP l f i).length - 1) + 1 := by rw [turnP_len]; omega
  refine ⟨(turnP l f i).length - 1, ⟨h1, hi, hM, turnP_last, fun j q hq => ?_, fun j q hq => ?_, fun j a b => turnP_next h1, h2, ?_, ?_, ?_⟩⟩
  · have := turnP_lt h1 (List.mem_of_getElem? hq); omega
  · exact turnP_ne h1 (List.mem_of_getElem? hq)
  · rw [turn_places (by omega)]; exact turn_of hR h1 (by omega)
  · rw [turn_places (by omega)]; exact h3
  · have := turnP_len_le (l := l) h1; omega

theorem meas {M j : Nat} (h : j < M) : M - (intOf (.int .i64 ((j : Int) + 1))).toNat < M - (intOf (.int .i64 (j : Int))).toNat := by
  simp only [intOf]; omega
theorem Turned.step {l : List Ev} {n f i : Nat} {P : List Nat} {M : Nat} (h : Turned l n f i P M) {j : Nat} (hj : j < M) : ∃ q, P[j]? = some q ∧ q < n ∧ decide (n ≤ q) = false ∧ (q == f) = false ∧ ((q : Int) == (f : Int)) = false ∧ j < M + 1 ∧ decide (j < M) = true ∧
    (evsAt l (P.take j)).length < 1000000 ∧ j + 1 ≤ M ∧ True := by
  obtain ⟨q, hq⟩ : ∃ q, P[j]? = some q := ⟨_, List.getElem?_eq_getElem (by rw [h.len]; omega)⟩
  have h1 := h.lt _ _ hq
  have h2 := h.ne _ _ hq
  have h3 := h.le
  refine ⟨q, hq, h1, decide_eq_false (by omega), by simpa using h2, by simp; omega, by omega, decide_eq_true hj, by rw [evsAt_len, List.length_take]; omega, hj, trivial⟩
theorem Turned.step2 {l : List Ev} {n f i : Nat} {P : List Nat} {M : Nat} (h : Turned l n f i P M) {j q : Nat} (hj : j + 1 < M) (hq : P[j + 1]? = some q) : ∃ q0, P[j]? = some q0 ∧ decide (q ≤ q0) = false ∧ decide (0 < (j : Int) + 1) = true ∧ j < M ∧ j < M + 1 := by
  obtain ⟨q0, hq0⟩ : ∃ q, P[j]? = some q := ⟨_, List.getElem?_eq_getElem (by rw [h.len]; omega)⟩
  have h1 := h.up j _ _ hq0 hq
  have h3 := h.le
  exact ⟨q0, hq0, decide_eq_false (by omega), decide_eq_true (by omega), by omega, by omega⟩

set_option maxRecDepth 20000 in
set_option maxHeartbeats 16000000 in
theorem raceTurns_law {w : World} {a0 : Option Addr} {n c : Nat} {l : List Ev} (h : IsEvs w a0 n c l) :
    Calls Try.prog 15 #[.slice a0 n c] w fun e w' => e = .returned (.bool true) ∧ Below w.heap.size w w' := by
  have hnm : n ≤ 9223372036854775807 := by have := h.le; have := h.cap; unfold maxLen at *; omega
  have Hev := Lib.hid h
  clear h
  go_enter Try.func15, Try.ntmps15
  go_wp2_with fail
  refine (rawake_calls _).mono ?_
  rintro e w1 ⟨rfl, hb⟩
  have HB1 := Lib.hid hb
  clear hb
  go_wp2_with fail
  refine (rwrong_calls (Hev.out.below HB1.out)).mono ?_
  rintro e w2 ⟨rfl, hb⟩
  have HB2 := Lib.hid (HB1.out.trans (hb.mono HB1.out.size))
  clear hb HB1
  by_cases hz : wrongS n l = 0
  case neg =>
    have hz' : (wrongS n l != 0) = true := by simpa [bne] using hz
    clear hz
    generalize wrongS n l = z at *
    go_wp2
    go_ret
    exact ⟨rfl, HB2.out⟩
  obtain ⟨S0, hS0⟩ := wrong_ofS hz
  have hn100 : n ≤ 100 := wrong_le hz
  have Hz := Lib.hid hz
  have HS0 := Lib.hid hS0
  rw [hz]
  clear hz hS0
  have Hl := Lib.hid Hev.out.len
  have Hwf := Lib.hid Hev.out.wf
  go_wp2_with fail
  refine (raceAll_calls (Hev.out.below HB2.out)).mono ?_
  rintro e w3 ⟨v, rfl, hs, hb⟩
  have HB3 := Lib.hid (HB2.out.trans (hb.mono HB2.out.size))
  rw [allRes_good Hz.out] at hs ⊢
  have HS3 := Lib.hid hs
  have Hrace : Hid (∀ p ∈ allN l n, p.2 < n ∧ p.1 ∈ racesAt l p.2 ∧ hasP (allN l n) (p.1 : Int) (p.2 : Int) = true) := fun p hp => ⟨(allN_mem.1 hp).1, (allN_mem.1 hp).2, hasP_iff.2 ⟨p, hp, rfl, rfl⟩⟩
  have hRl := allN_len l n hn100
  clear hb hs HB2
  revert HS3 Hrace hRl
  simp only
  generalize hR : allN l n = R
  intro HS3 Hrace hRl
  have HR := Lib.hid hR
  clear hR
  obtain ⟨a1, c1, rfl, hc1⟩ := HS3.out.nats
  have hRs : R.length ≤ 10000 := by omega
  clear hnm hRl
  go_wp2_with fail
  go_loopw [7, 12, 13] (fun x _ _ wr => ∃ m : Nat, m ≤ R.length ∧ x = .int .i64 m ∧ Hid (Below w3.heap.size w3 wr)) (fun x _ _ _ => R.length - (intOf x).toNat)
  case atStart => exact ⟨0, Nat.zero_le _, by go_num, Below.refl ..⟩
  case round =>
    obtain ⟨m, hm, rfl, HB⟩ := hrel
    by_cases hmR : m < R.length
    · obtain ⟨⟨f, i⟩, hp⟩ : ∃ p, R[m]? = some p := ⟨_, List.getElem?_eq_getElem hmR⟩
      obtain ⟨g, rfl, e0, e1⟩ := HS3.out.nat_at hp
      simp only at e0 e1
      have e0 := keep HB.out e0
      have e1 := keep HB.out e1
      obtain ⟨hin, hrace, hhas⟩ := Hrace.out _ (List.mem_of_getElem? hp)
      simp only at hin hrace hhas
      have Hr : Hid (revRes n l (f : Int) (i : Int) = (turnP l f i, 0)) := revRes_yes Hz.out (by rw [HR.out]; exact hhas)
      obtain ⟨M, hT⟩ := Turned.of HS0.out Hl.out.symm hn100 hin hrace
      have HT := Lib.hid hT
      clear hp hrace hhas hT
      go_wp2_with fail
      have hN := one_newR wr #[.int .i64 (f : Int), .int .i64 (i : Int)] 62
      revert hN
      generalize wr.alloc (.cells #[.int .i64 (f : Int), .int .i64 (i : Int)] 62) = y1
      rintro ⟨hA, hb⟩
      obtain ⟨g1, hg1⟩ : ∃ g1, g1 = wr.heap.size := ⟨_, rfl⟩
      rw [← hg1] at hA ⊢
      have t0 : y1.cell? ⟨g1, 0, none⟩ = some (.int .i64 (f : Int)) := cell_of_block hA
      have t1 : y1.cell? ⟨g1, 1, none⟩ = some (.int .i64 (i : Int)) := cell_of_block hA
      have HY1 := Lib.hid (HB.out.trans (hb.mono HB.out.size))
      clear hA hb hg1 e0 e1
      refine (raceRev_calls (Hev.out.below (HB3.out.trans (HY1.out.mono HB3.out.size))) f i).mono ?_
      rintro e y2 ⟨pa, pc, rfl, hI, hb⟩
      rw [Hr.out] at hI ⊢
      simp only at hI ⊢
      have HY2 := Lib.hid (HY1.out.trans (hb.mono HY1.out.size))
      have t0 := keep hb t0
      have t1 := keep hb t1
      clear hb Hr HY1
      revert HT hI
      generalize turnP l f i = P
      intro HT hI
      rw [HT.out.len] at hI ⊢
      have HI := Lib.hid hI
      clear hI
      obtain ⟨pb, po, rfl, p0⟩ := HI.out.nat HT.out.last
      obtain ⟨bl, off, x, rfl, hx, _, c0, c1, c2, c3, c4⟩ := (Hev.out.below (HB3.out.trans (HY2.out.mono HB3.out.size))).at (show f < n from Nat.lt_trans HT.out.fi HT.out.inn)
      obtain ⟨bl', off', y, he, hy, _, d0, d1, d2, d3, d4⟩ := (Hev.out.below (HB3.out.trans (HY2.out.mono HB3.out.size))).at HT.out.inn
      cases he
      have hxy : (x.t == y.t) = false := by have := HT.out.th; rw [getD_of hx, getD_of hy] at this; simpa using this
      have Hy := Lib.hid hy
      clear hx hy c1 c2 c3 c4
      obtain ⟨xt, xk, xo, xv, xb⟩ := x
      obtain ⟨yt, yk, yo, yv, yb⟩ := y
      simp only at c0 d0 d1 d2 d3 d4 hxy
      have hfn : f < n := Nat.lt_trans HT.out.fi HT.out.inn
      have hfi : decide (i ≤ f) = false := decide_eq_false (by have := HT.out.fi; omega)
      have hni : decide (n ≤ i) = false := decide_eq_false (by have := HT.out.inn; omega)
      have hM0 : ((M : Int) + 1 == 0) = false := by simp; omega
      have hMle : M ≤ 1000 := HT.out.le
      have HC := Lib.hid (And.intro t0 (And.intro t1 (And.intro d0 (And.intro d1 (And.intro d2 (And.intro d3 d4))))))
      clear d1 d2 d3 d4
      go_wp2_with fail
      refine wp_ext_draw 50 mixed (by kernel_rfl) ?_
      simp only [List.take_succ_cons, List.take_zero, List.drop_succ_cons, List.drop_zero]
      repeat ((first | ((apply TextRun.go rfl rfl rfl); (focus (intro w1 hS K hK; have hc := bcell hS; have hs := blt hS; have t0 := keep hS t0; have t1 := keep hS t1; have p0 := keep hS p0; have c0 := keep hS c0; have d0 := keep hS d0; go_wp2_with (fail); first | done | exact hS | exact hS.trans (hb.mono hS.size)))) | (refine TextRun.skip rfl ?_) | ((refine TextRun.wantedT rfl rfl rfl ?_); (apply Exists.intro); (apply And.intro); (focus (intro w1 hS K hK; have hc := bcell hS; have hs := blt hS; have t0 := keep hS t0; have t1 := keep hS t1; have p0 := keep hS p0; have c0 := keep hS c0; have d0 := keep hS d0; go_wp2_with (fail); first | done | exact hS | exact hS.trans (hb.mono hS.size))))); (simp only [Act.put, List.setIfInBounds_toArray, List.set_cons_zero, List.set_cons_succ]))
      refine TextRun.done ?_
      intro y3 hb
      have HY3 := Lib.hid (HY2.out.trans (hb.mono HY2.out.size))
      have HI3 := Lib.hid (HI.out.below hb)
      have HC3 := Lib.hid (And.intro (keep hb HC.out.1) (And.intro (keep hb HC.out.2.1) (And.intro (keep hb HC.out.2.2.1) (And.intro (keep hb HC.out.2.2.2.1) (And.intro (keep hb HC.out.2.2.2.2.1) (And.intro (keep hb HC.out.2.2.2.2.2.1) (keep hb HC.out.2.2.2.2.2.2)))))))
      clear hb t0 t1 p0 c0 d0 HI HC HY2 hfi hni hM0 hxy hfn hn100
      go_wp2_with fail
      go_loopw [12, 13] (fun u x wq => ∃ j : Nat, j ≤ M ∧ x = .int .i64 j ∧ Hid (OwnL eltEv wq y3.heap.size u (evsAt l (P.take j)) ∧ Below y3.heap.size y3 wq)) (fun _ x _ => M - (intOf x).toNat)
      case atStart => exact ⟨0, Nat.zero_le _, by go_num, by rw [List.take_zero]; exact OwnL.nil .., Below.refl ..⟩
      case round =>
        obtain ⟨j, hj, rfl, HL⟩ := hrel
        have t0 := keep HL.out.2 HC3.out.1
        have HIq := Lib.hid (HI3.out.below HL.out.2)
        have HEq := Lib.hid (Hev.out.below (HB3.out.trans ((HY3.out.trans (HL.out.2.mono HY3.out.size)).mono HB3.out.size)))
        by_cases hjM2 : j < M
        · cases j with
          | zero =>
            obtain ⟨q, hq, hqn, hnq, hqf, hqf', hjM, hjd, hlen, hm1, _⟩ := HT.out.step hjM2
            have Hlen := Lib.hid hlen
            have Hm := Lib.hid hm1
            clear hlen hm1
            obtain ⟨pb', po', hpe, p0⟩ := HIq.out.nat hq
            cases hpe
            rw [Nat.add_zero] at p0
            have hpos : decide ((0 : Int) < 0) = false := by decide
            obtain ⟨bl', off', x, he, hx, _, c0, c1, c2, c3, c4⟩ := HEq.out.at hqn
            cases he
            have Hstep : Hid (evsAt l (P.take (0 + 1)) = evsAt l (P.take (0)) ++ [x]) := evs_one hq hx
            obtain ⟨xt, xk, xo, xv, xb⟩ := x
            simp only at c0 c1 c2 c3 c4
            clear hq hx HIq HEq
            go_wp2_with fail
            refine wp_ext_draw 39 mixed (by kernel_rfl) ?_
            simp only [List.take_succ_cons, List.take_zero, List.drop_succ_cons, List.drop_zero]
            repeat ((first | ((apply TextRun.go rfl rfl rfl); (focus (intro w1 hS K hK; have hc := bcell hS; have hs := blt hS; have t0 := keep hS t0; have p0 := keep hS p0; go_wp2_with (fail); first | done | exact hS | exact hS.trans (hb.mono hS.size)))) | (refine TextRun.skip rfl ?_) | ((refine TextRun.wantedT rfl rfl rfl ?_); (apply Exists.intro); (apply And.intro); (focus (intro w1 hS K hK; have hc := bcell hS; have hs := blt hS; have t0 := keep hS t0; have p0 := keep hS p0; go_wp2_with (fail); first | done | exact hS | exact hS.trans (hb.mono hS.size))))); (simp only [Act.put, List.setIfInBounds_toArray, List.set_cons_zero, List.set_cons_succ]))
            refine TextRun.done ?_
            intro y5 hb
            have p0 := keep hb p0
            have c0 := keep hb c0
            have c1 := keep hb c1
            have c2 := keep hb c2
            have c3 := keep hb c3
            have c4 := keep hb c4
            have HL5 := Lib.hid (And.intro (HL.out.1.below hb) (HL.out.2.trans (hb.mono HL.out.2.size)))
            clear hb HL
            go_wp2_with (at_builtin; go_loud (refine wpList_push eltEv rfl (.tmp 145) (.tmp 153) rfl ⟨xt, xk, xo, xv, xb⟩ rfl rfl rfl HL5.out.1 HL5.out.2.size Hlen.out ?_); intro v' wv hown hw hv; (have HL' := Lib.hid (And.intro (show OwnL eltEv wv y3.heap.size v' (evsAt l (P.take (0 + 1))) by rw [Hstep.out]; exact hown) (Wrote.below HL5.out.2 hw HL5.out.2.size (fun q hq => (HL5.out.1.lt hq).1)))); clear hown hw hv)
            go_roundw
            case rel => exact ⟨0 + 1, Hm.out, by go_num, HL'.out⟩
            case measure => exact meas (j := 0) hjM2
          | succ j =>
            obtain ⟨q, hq, hqn, hnq, hqf, hqf', hjM, hjd, hlen, hm1, _⟩ := HT.out.step hjM2
            have Hlen := Lib.hid hlen
            have Hm := Lib.hid hm1
            clear hlen hm1
            obtain ⟨pb', po', hpe, p0⟩ := HIq.out.nat hq
            cases hpe
            obtain ⟨q0, hq0, hqq, hpos, hjM0, hjM1⟩ := HT.out.step2 hjM2 hq
            obtain ⟨pb'', po'', hpe, p1⟩ := HIq.out.nat hq0
            cases hpe
            obtain ⟨bl', off', x, he, hx, _, c0, c1, c2, c3, c4⟩ := HEq.out.at hqn
            cases he
            have Hstep : Hid (evsAt l (P.take (j + 1 + 1)) = evsAt l (P.take (j + 1)) ++ [x]) := evs_one hq hx
            obtain ⟨xt, xk, xo, xv, xb⟩ := x
            simp only at c0 c1 c2 c3 c4
            clear hq hx HIq HEq hq0
            go_wp2_with fail
            refine wp_ext_draw 39 mixed (by kernel_rfl) ?_
            simp only [List.take_succ_cons, List.take_zero, List.drop_succ_cons, List.drop_zero]
            repeat ((first | ((apply TextRun.go rfl rfl rfl); (focus (intro w1 hS K hK; have hc := bcell hS; have hs := blt hS; have t0 := keep hS t0; have p0 := keep hS p0; have p1 := keep hS p1; go_wp2_with (fail); first | done | exact hS | exact hS.trans (hb.mono hS.size)))) | (refine TextRun.skip rfl ?_) | ((refine TextRun.wantedT rfl rfl rfl ?_); (apply Exists.intro); (apply And.intro); (focus (intro w1 hS K hK; have hc := bcell hS; have hs := blt hS; have t0 := keep hS t0; have p0 := keep hS p0; have p1 := keep hS p1; go_wp2_with (fail); first | done | exact hS | exact hS.trans (hb.mono hS.size))))); (simp only [Act.put, List.setIfInBounds_toArray, List.set_cons_zero, List.set_cons_succ]))
            refine TextRun.done ?_
            intro y5 hb
            have p0 := keep hb p0
            have c0 := keep hb c0
            have c1 := keep hb c1
            have c2 := keep hb c2
            have c3 := keep hb c3
            have c4 := keep hb c4
            have HL5 := Lib.hid (And.intro (HL.out.1.below hb) (HL.out.2.trans (hb.mono HL.out.2.size)))
            clear hb HL
            go_wp2_with (at_builtin; go_loud (refine wpList_push eltEv rfl (.tmp 145) (.tmp 153) rfl ⟨xt, xk, xo, xv, xb⟩ rfl rfl rfl HL5.out.1 HL5.out.2.size Hlen.out ?_); intro v' wv hown hw hv; (have HL' := Lib.hid (And.intro (show OwnL eltEv wv y3.heap.size v' (evsAt l (P.take (j + 1 + 1))) by rw [Hstep.out]; exact hown) (Wrote.below HL5.out.2 hw HL5.out.2.size (fun q hq => (HL5.out.1.lt hq).1)))); clear hown hw hv)
            go_roundw
            case rel => exact ⟨j + 1 + 1, Hm.out, by go_num, HL'.out⟩
            case measure => exact meas (j := j + 1) hjM2
        · have hjM : M = j := Nat.le_antisymm (Nat.le_of_not_lt hjM2) hj
          subst hjM
          have hwf2 : ∀ x ∈ evsAt l (P.take M), x.wf := evsAt_wf Hwf.out (fun q hq => by
            obtain ⟨j', hj'⟩ := List.getElem?_of_mem (List.mem_of_mem_take hq)
            rw [Hl.out]; exact HT.out.lt _ _ hj')
          have hEl : (evsAt l (P.take M)).length ≤ 1000 := by rw [evsAt_len, List.length_take]; omega
          have HCan : Hid (canB (takes log0 (evsAt l (P.take M))) yt yk yo = true) := by have := HT.out.can; rw [getD_of Hy.out] at this; exact this
          have HOk := Lib.hid HT.out.ok
          obtain ⟨xa, xc, rfl, hE⟩ := HL.out.1.evs hwf2
          have HE := Lib.hid hE
          have HZ := Lib.hid HL.out.2
          have t1 := keep HZ.out HC3.out.2.1
          have d0 := keep HZ.out HC3.out.2.2.1
          have d1 := keep HZ.out HC3.out.2.2.2.1
          have d2 := keep HZ.out HC3.out.2.2.2.2.1
          have d3 := keep HZ.out HC3.out.2.2.2.2.2.1
          have d4 := keep HZ.out HC3.out.2.2.2.2.2.2
          clear hwf2 hE HL HIq HEq t0 hj hjM2
          revert HCan HOk HE hEl
          generalize evsAt l (P.take M) = X
          intro hEl HCan HOk HE
          go_wp2_with fail
          clear hMle
          refine (lof_ok HE.out (by omega) HOk.out).mono ?_
          rintro e y6 ⟨lb, vl, va, rfl, hL, hb⟩
          have HL6 := Lib.hid hL
          have HZ6 := Lib.hid (HZ.out.trans (hb.mono HZ.out.size))
          have t1 := keep hb t1
          have d0 := keep hb d0
          have d1 := keep hb d1
          have d2 := keep hb d2
          have d3 := keep hb d3
          have d4 := keep hb d4
          clear hb hL HE HOk HZ
          go_wp2_with fail
          have hN := one_newR y6 #[.int .i64 yt, .int .i64 yk, .int .i64 yo, .int .i64 yv, .int .i64 yb] 33
          revert hN
          generalize y6.alloc (.cells #[.int .i64 yt, .int .i64 yk, .int .i64 yo, .int .i64 yv, .int .i64 yb] 33) = y7
          rintro ⟨_, hb⟩
          have HL7 := Lib.hid (HL6.out.below hb)
          have HZ7 := Lib.hid (HZ6.out.trans (hb.mono HZ6.out.size))
          clear hb HL6 HZ6 t1 d0 d1 d2 d3 d4
          refine (can_calls HL7.out yt yk yo).mono ?_
          rintro e y8 ⟨rfl, hb⟩
          rw [HCan.out]
          have HZ8 := Lib.hid (HY3.out.trans ((HZ7.out.trans (hb.mono HZ7.out.size)).mono HY3.out.size))
          clear hb HL7 HZ7
          go_wp2
          go_roundw
          case rel => exact ⟨m + 1, hmR, by go_num, HZ8.out⟩
          case measure => exact meas hmR
    · have HB4 := Lib.hid (HB3.out.trans (HB.out.mono HB3.out.size))
      go_wp2
      go_ret
      exact ⟨rfl, HB4.out⟩
end Go.Proofs.Ythooddkoldfebaa
