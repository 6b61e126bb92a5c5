/-
  The document's Add.
-/
import Derived.Test.YtadngicebbnnlaaState
import Derived.Test.YtadngicebbnnlaaLogYes
set_option linter.unusedSimpArgs false
set_option linter.unusedVariables false
namespace Go.Proofs.Ytadngicebbnnlaa
open Go.ChangeShapes Go.WideShapes Go.ChangeAt Go.RowKit Go.Deep

theorem addS_good {S : LogS} (hg : Good S) (e : Ev) : Good (addS S e) := by
  intro i hi
  unfold addS
  split
  · simp only [turnS]
    have := hg i hi
    split
    · unfold upd; split <;> omega
    · split
      · unfold upd; split <;> omega
      · split
        · unfold upd; split <;> omega
        · exact this
  · exact hg i hi
theorem good0 : Good log0 := by intro i hi; unfold log0; simp only; split <;> omega

/-- What the document's Add leaves. -/
def SPost (bs : Nat) (S : LogS) (e : Ev) (w : World) (x : Ending) (w' : World) : Prop :=
  x = .returned (.int .i64 (addE S e)) ∧ StateAt w' bs (addS S e) ∧ w.grownBy w' (some bs)
theorem SPost.no {bs : Nat} {S : LogS} {e : Ev} {w w' : World} {z : Int} (h : StateAt w bs S) (hb : Below w.heap.size w w') (hz : addE S e = z) (hs : addS S e = S) : SPost bs S e w (.returned (.int .i64 z)) w' :=
  ⟨by rw [hz], by rw [hs]; exact h.below hb, mod_of_below _ hb⟩

set_option maxHeartbeats 2000000 in
theorem sadd_form {w : World} {b : Nat} {S : LogS} (h : StateAt w b S) (e : Ev) (hr : rB e = false) :
    Calls Try.prog 23 #[.pointer (some ⟨b, 0, none⟩), .agg #[.int .i64 e.t, .int .i64 e.k, .int .i64 e.o, .int .i64 e.v, .int .i64 e.b]] w (SPost b S e w) := by
  have hp := fun w' hb => SPost.no (w' := w') (e := e) (z := 120) h hb (by simp [addE, hr]) (by simp [addS, hr])
  have Hp := Lib.hid hp
  clear hp h
  unfold rB at hr
  obtain ⟨t, k, o, v, x⟩ := e
  simp only at hr
  go_enter Try.func23, Try.ntmps23
  go_wp2_with fail
  refine (rright_calls _ _ _ _ _ _).mono ?_
  rintro e y1 ⟨rfl, hb⟩
  have hc_y1 := bcell hb
  have hB_y1 : Below w.heap.size w y1 := Below.trans (by go_grown) (hb.mono (by first | omega | (simp <;> omega)))
  have hS_y1 := hb.size
  try simp at hS_y1
  have hA_y1_0 : ∀ x, x < w.heap.size + 1 → x < y1.heap.size := (fun x hx => by omega)
  have hL_y1 : ∀ x, x < w.heap.size → x < y1.heap.size := (fun x hx => by omega)
  clear hb
  rw [hr]
  go_wp2
  go_ret
  exact Hp.out _ hB_y1

theorem right_act {t k o v x : Int} (hr : rightB t k o v x = true) : rightB t k o (if k == 8 then 1 else 0) 0 = true := by
  unfold rightB at hr ⊢
  simp only [Bool.and_eq_true] at hr ⊢
  refine ⟨hr.1, ?_⟩
  have h2 := hr.2
  by_cases h1 : k = 1
  · subst h1; simp [bodyB] at h2 ⊢; simp [h2]
  by_cases h2' : k = 2
  · subst h2'; simp [bodyB] at h2 ⊢; simp [h2]
  by_cases h3 : k = 3
  · subst h3; simp [bodyB] at h2 ⊢; simp [h2]
  by_cases h4 : k = 4
  · subst h4; simp [bodyB] at h2 ⊢; simp [h2]
  by_cases h5 : k = 5
  · subst h5; simp [bodyB] at h2 ⊢; simp [h2]
  by_cases h6 : k = 6
  · subst h6; simp [bodyB] at h2 ⊢; simp [h2]
  by_cases h7 : k = 7
  · subst h7; simp [bodyB] at h2 ⊢; simp [h2]
  by_cases h8 : k = 8
  · subst h8; simp [bodyB] at h2 ⊢; simp [h2]
  by_cases h9 : k = 9
  · subst h9; simp [bodyB] at h2 ⊢; simp [h2]
  · simp [bodyB, h1, h2', h3, h4, h5, h6, h7, h8, h9] at h2
theorem canB_of {S : LogS} {e : Ev} (hr : rB e = true) : canB S e.t e.k e.o = (S.st e.t.toNat == 2 && !(waitB S e.k e.o)) := by
  unfold canB; rw [right_act hr, Bool.true_and]

set_option maxRecDepth 20000 in
set_option maxHeartbeats 8000000 in
theorem sadd_right {w : World} {b : Nat} {S : LogS} (h : StateAt w b S) (hg : Good S) (e : Ev) (hr : rB e = true) :
    Calls Try.prog 23 #[.pointer (some ⟨b, 0, none⟩), .agg #[.int .i64 e.t, .int .i64 e.k, .int .i64 e.o, .int .i64 e.v, .int .i64 e.b]] w (SPost b S e w) := by
  have hcan := canB_of (S := S) hr
  obtain ⟨t0, t8⟩ := inB_iff.1 (right_in hr)
  have hro := fun (hq : (e.k == 4 || e.k == 5 || e.k == 6 || e.k == 7) = true) => right_obj hr hq
  have ho1 : (e.k == 4 || e.k == 7) = true → inB e.o = true := fun hk => hro (by revert hk; simp only [Bool.or_eq_true]; rintro (h | h) <;> simp [h])
  have ho2 : (e.k == 5 || e.k == 6 || e.k == 7) = true → inB e.o = true := fun hk => hro (by revert hk; simp only [Bool.or_eq_true]; rintro ((h | h) | h) <;> simp [h])
  have hW := fun w' (hb : Below w.heap.size w w') => waits_calls (h.below hb) e.k e.o ho1
  rw [waitR_eq hg e.k e.o ho1] at hW
  have HW := Lib.hid hW
  have hD := fun w' (hb : Below w.heap.size w w') => sbad_calls (h.below hb) e.t e.k e.o ho2
  have HD := Lib.hid hD
  have Hro := Lib.hid hro
  have Hr := Lib.hid hr
  have H := Lib.hid h
  have hno := fun w' hb (hz : addE S e = 121) => SPost.no (w' := w') (e := e) h hb hz (by
    unfold addE at hz; rw [if_pos hr] at hz
    unfold addS; rw [hr, Bool.true_and]
    split at hz
    · cases hz
    · rename_i hk; rw [if_neg hk])
  have Hno := Lib.hid hno
  clear hW hD hro ho1 ho2 hno
  unfold rB at hr
  obtain ⟨t, k, o, v, x⟩ := e
  simp only at hr t0 t8 hcan HW HD Hno Hro
  obtain ⟨i, rfl⟩ := Int.eq_ofNat_of_zero_le t0
  have hi8 : i < 8 := by omega
  have c1 := h.cst hi8
  rw [Int.toNat_natCast] at hcan
  have hblt := h.lt
  clear t0 t8 h hg
  cases hs : (S.st i == 2)
  · have hs' : (S.st i != 2) = true := by rw [bne, hs]; rfl
    have hz : addE S ⟨i, k, o, v, x⟩ = 121 := by
      unfold addE; rw [Hr.out, if_pos rfl]; unfold okB; simp only; rw [hcan, hs]; rfl
    have Hz := Lib.hid hz
    clear hz hcan hs
    go_enter Try.func23, Try.ntmps23
    go_wp2_with fail
    refine (rright_calls _ _ _ _ _ _).mono ?_
    rintro e y1 ⟨rfl, hb⟩
    have hc_y1 := bcell hb
    have hB_y1 : Below w.heap.size w y1 := Below.trans (by go_grown) (hb.mono (by first | omega | (simp <;> omega)))
    have hS_y1 := hb.size
    try simp at hS_y1
    have hA_y1_0 : ∀ x, x < w.heap.size + 1 → x < y1.heap.size := (fun x hx => by omega)
    have hL_y1 : ∀ x, x < w.heap.size → x < y1.heap.size := (fun x hx => by omega)
    clear hb
    have c1_y1 := keep hB_y1 c1
    rw [hr]
    have e0 : y1.cell? ⟨w.heap.size, 0, none⟩ = some (.int .i64 i) := (hc_y1.1 _ _ (by simp)).trans (cell_new rfl)
    have e1 : y1.cell? ⟨w.heap.size, 1, none⟩ = some (.int .i64 k) := (hc_y1.1 _ _ (by simp)).trans (cell_new rfl)
    have e2 : y1.cell? ⟨w.heap.size, 2, none⟩ = some (.int .i64 o) := (hc_y1.1 _ _ (by simp)).trans (cell_new rfl)
    have e3 : y1.cell? ⟨w.heap.size, 3, none⟩ = some (.int .i64 v) := (hc_y1.1 _ _ (by simp)).trans (cell_new rfl)
    have e4 : y1.cell? ⟨w.heap.size, 4, none⟩ = some (.int .i64 x) := (hc_y1.1 _ _ (by simp)).trans (cell_new rfl)
    have hE1 : EvBox y1 w.heap.size i k o v x := ⟨e0, e1, e2, e3, e4⟩
    go_wp2_with fail
    refine wp_ext_draw 8 mixed (by kernel_rfl) ?_
    simp only [List.take_succ_cons, List.take_zero, List.drop_succ_cons, List.drop_zero]
    repeat ((first | ((apply TextRun.go rfl rfl rfl); (focus (intro w1 hS K hK; have hc := bcell hS; have hs := blt hS; have e0 := keep (Below.trans (show Below y1.heap.size y1 _ by go_grown) (hS.mono (by first | omega | (simp <;> omega)))) e0; have c1_y1 := keep (Below.trans (show Below y1.heap.size y1 _ by go_grown) (hS.mono (by first | omega | (simp <;> omega)))) c1_y1; go_wp2_with (fail); first | done | exact hS | exact hS.trans (hb.mono hS.size)))) | (refine TextRun.skip rfl ?_) | ((refine TextRun.wantedT rfl rfl rfl ?_); (apply Exists.intro); (apply And.intro); (focus (intro w1 hS K hK; have hc := bcell hS; have hs := blt hS; have e0 := keep (Below.trans (show Below y1.heap.size y1 _ by go_grown) (hS.mono (by first | omega | (simp <;> omega)))) e0; have c1_y1 := keep (Below.trans (show Below y1.heap.size y1 _ by go_grown) (hS.mono (by first | omega | (simp <;> omega)))) c1_y1; go_wp2_with (fail); first | done | exact hS | exact hS.trans (hb.mono hS.size))))); (simp only [Act.put, List.setIfInBounds_toArray, List.set_cons_zero, List.set_cons_succ]))
    refine TextRun.done ?_
    intro y2 hb
    have hB2 := hB_y1.trans (hb.mono hB_y1.size)
    have hE2 := hE1.below hb
    clear hb e0 e1 e2 e3 e4 hE1 hc_y1 hS_y1 hA_y1_0 hL_y1 c1_y1 hB_y1
    go_wp2
    go_ret
    exact Hno.out _ hB2 Hz.out
  · have hs' : (S.st i != 2) = false := by rw [bne, hs]; rfl
    rw [hs, Bool.true_and] at hcan
    clear hs
    generalize hwv : waitB S k o = wv at hcan HW
    generalize hbd : badB S i k o = bd at HD
    cases wv
    · simp only [Bool.not_false] at hcan
      have hbad2 : ((k != 8) = true ∧ (x != bd) = true) ∨ (k != 8) = false ∨ ((k != 8) = true ∧ (x != bd) = false) := by
        cases (k != 8) <;> cases (x != bd) <;> simp
      rcases hbad2 with ⟨h8', hx'⟩ | hok
      · have hk : okB S ⟨i, k, o, v, x⟩ = false := by unfold okB; simp only; rw [hcan, hbd]; simp [bne] at h8' hx'; simp [h8', hx']
        have hz : addE S ⟨i, k, o, v, x⟩ = 121 := by unfold addE; rw [Hr.out, if_pos rfl, hk]; rfl
        have Hz := Lib.hid hz
        clear hz hk hcan hwv hbd
        go_enter Try.func23, Try.ntmps23
        go_wp2_with fail
        refine (rright_calls _ _ _ _ _ _).mono ?_
        rintro e y1 ⟨rfl, hb⟩
        have hc_y1 := bcell hb
        have hB_y1 : Below w.heap.size w y1 := Below.trans (by go_grown) (hb.mono (by first | omega | (simp <;> omega)))
        have hS_y1 := hb.size
        try simp at hS_y1
        have hA_y1_0 : ∀ x, x < w.heap.size + 1 → x < y1.heap.size := (fun x hx => by omega)
        have hL_y1 : ∀ x, x < w.heap.size → x < y1.heap.size := (fun x hx => by omega)
        clear hb
        have c1_y1 := keep hB_y1 c1
        rw [hr]
        have e0 : y1.cell? ⟨w.heap.size, 0, none⟩ = some (.int .i64 i) := (hc_y1.1 _ _ (by simp)).trans (cell_new rfl)
        have e1 : y1.cell? ⟨w.heap.size, 1, none⟩ = some (.int .i64 k) := (hc_y1.1 _ _ (by simp)).trans (cell_new rfl)
        have e2 : y1.cell? ⟨w.heap.size, 2, none⟩ = some (.int .i64 o) := (hc_y1.1 _ _ (by simp)).trans (cell_new rfl)
        have e3 : y1.cell? ⟨w.heap.size, 3, none⟩ = some (.int .i64 v) := (hc_y1.1 _ _ (by simp)).trans (cell_new rfl)
        have e4 : y1.cell? ⟨w.heap.size, 4, none⟩ = some (.int .i64 x) := (hc_y1.1 _ _ (by simp)).trans (cell_new rfl)
        have hE1 : EvBox y1 w.heap.size i k o v x := ⟨e0, e1, e2, e3, e4⟩
        go_wp2_with fail
        refine wp_ext_draw 8 mixed (by kernel_rfl) ?_
        simp only [List.take_succ_cons, List.take_zero, List.drop_succ_cons, List.drop_zero]
        repeat ((first | ((apply TextRun.go rfl rfl rfl); (focus (intro w1 hS K hK; have hc := bcell hS; have hs := blt hS; have e0 := keep (Below.trans (show Below y1.heap.size y1 _ by go_grown) (hS.mono (by first | omega | (simp <;> omega)))) e0; have c1_y1 := keep (Below.trans (show Below y1.heap.size y1 _ by go_grown) (hS.mono (by first | omega | (simp <;> omega)))) c1_y1; go_wp2_with (fail); first | done | exact hS | exact hS.trans (hb.mono hS.size)))) | (refine TextRun.skip rfl ?_) | ((refine TextRun.wantedT rfl rfl rfl ?_); (apply Exists.intro); (apply And.intro); (focus (intro w1 hS K hK; have hc := bcell hS; have hs := blt hS; have e0 := keep (Below.trans (show Below y1.heap.size y1 _ by go_grown) (hS.mono (by first | omega | (simp <;> omega)))) e0; have c1_y1 := keep (Below.trans (show Below y1.heap.size y1 _ by go_grown) (hS.mono (by first | omega | (simp <;> omega)))) c1_y1; go_wp2_with (fail); first | done | exact hS | exact hS.trans (hb.mono hS.size))))); (simp only [Act.put, List.setIfInBounds_toArray, List.set_cons_zero, List.set_cons_succ]))
        refine TextRun.done ?_
        intro y2 hb
        have hB2 := hB_y1.trans (hb.mono hB_y1.size)
        have hE2 := hE1.below hb
        clear hb e0 e1 e2 e3 e4 hE1 hc_y1 hS_y1 hA_y1_0 hL_y1 c1_y1 hB_y1
        obtain ⟨f0, f1, f2, f3, f4⟩ := hE2.all
        go_wp2_with fail
        (with_reducible refine (HW.out _ hB2).mono ?_)
        rintro e y3 ⟨rfl, hb⟩
        have hB3 := hB2.trans (hb.mono hB2.size)
        have hE3 := hE2.below hb
        clear hb f0 f1 f2 f3 f4 hE2 hB2
        obtain ⟨f0, f1, f2, f3, f4⟩ := hE3.all
        go_wp2_with fail
        (with_reducible refine (HD.out _ hB3).mono ?_)
        rintro e y4 ⟨rfl, hb⟩
        have hB4 := hB3.trans (hb.mono hB3.size)
        have hE4 := hE3.below hb
        clear hb f0 f1 f2 f3 f4 hE3 hB3
        obtain ⟨f0, f1, f2, f3, f4⟩ := hE4.all
        go_wp2
        go_ret
        exact Hno.out _ hB4 Hz.out
      · have hk : okB S ⟨i, k, o, v, x⟩ = true := by
          unfold okB; simp only; rw [hcan, hbd]
          rcases hok with h8' | ⟨h8', hx'⟩
          · simp [bne] at h8'; simp [h8']
          · simp [bne] at hx'; simp [hx']
        have hz : addE S ⟨i, k, o, v, x⟩ = 0 := by unfold addE; rw [Hr.out, if_pos rfl, hk]; rfl
        have hq : addS S ⟨i, k, o, v, x⟩ = turnS S ⟨i, k, o, v, x⟩ := by unfold addS; rw [Hr.out, hk]; rfl
        have Hz := Lib.hid hz
        have Hs := Lib.hid hq
        clear hz hq hk hcan hwv hbd Hno Hr
        rcases hok with h8' | ⟨h8', hx'⟩
        all_goals
          go_enter Try.func23, Try.ntmps23
          go_wp2_with fail
          refine (rright_calls _ _ _ _ _ _).mono ?_
          rintro e y1 ⟨rfl, hb⟩
          have hc_y1 := bcell hb
          have hB_y1 : Below w.heap.size w y1 := Below.trans (by go_grown) (hb.mono (by first | omega | (simp <;> omega)))
          have hS_y1 := hb.size
          try simp at hS_y1
          have hA_y1_0 : ∀ x, x < w.heap.size + 1 → x < y1.heap.size := (fun x hx => by omega)
          have hL_y1 : ∀ x, x < w.heap.size → x < y1.heap.size := (fun x hx => by omega)
          clear hb
          have c1_y1 := keep hB_y1 c1
          rw [hr]
          have e0 : y1.cell? ⟨w.heap.size, 0, none⟩ = some (.int .i64 i) := (hc_y1.1 _ _ (by simp)).trans (cell_new rfl)
          have e1 : y1.cell? ⟨w.heap.size, 1, none⟩ = some (.int .i64 k) := (hc_y1.1 _ _ (by simp)).trans (cell_new rfl)
          have e2 : y1.cell? ⟨w.heap.size, 2, none⟩ = some (.int .i64 o) := (hc_y1.1 _ _ (by simp)).trans (cell_new rfl)
          have e3 : y1.cell? ⟨w.heap.size, 3, none⟩ = some (.int .i64 v) := (hc_y1.1 _ _ (by simp)).trans (cell_new rfl)
          have e4 : y1.cell? ⟨w.heap.size, 4, none⟩ = some (.int .i64 x) := (hc_y1.1 _ _ (by simp)).trans (cell_new rfl)
          have hE1 : EvBox y1 w.heap.size i k o v x := ⟨e0, e1, e2, e3, e4⟩
          go_wp2_with fail
          refine wp_ext_draw 8 mixed (by kernel_rfl) ?_
          simp only [List.take_succ_cons, List.take_zero, List.drop_succ_cons, List.drop_zero]
          repeat ((first | ((apply TextRun.go rfl rfl rfl); (focus (intro w1 hS K hK; have hc := bcell hS; have hs := blt hS; have e0 := keep (Below.trans (show Below y1.heap.size y1 _ by go_grown) (hS.mono (by first | omega | (simp <;> omega)))) e0; have c1_y1 := keep (Below.trans (show Below y1.heap.size y1 _ by go_grown) (hS.mono (by first | omega | (simp <;> omega)))) c1_y1; go_wp2_with (fail); first | done | exact hS | exact hS.trans (hb.mono hS.size)))) | (refine TextRun.skip rfl ?_) | ((refine TextRun.wantedT rfl rfl rfl ?_); (apply Exists.intro); (apply And.intro); (focus (intro w1 hS K hK; have hc := bcell hS; have hs := blt hS; have e0 := keep (Below.trans (show Below y1.heap.size y1 _ by go_grown) (hS.mono (by first | omega | (simp <;> omega)))) e0; have c1_y1 := keep (Below.trans (show Below y1.heap.size y1 _ by go_grown) (hS.mono (by first | omega | (simp <;> omega)))) c1_y1; go_wp2_with (fail); first | done | exact hS | exact hS.trans (hb.mono hS.size))))); (simp only [Act.put, List.setIfInBounds_toArray, List.set_cons_zero, List.set_cons_succ]))
          refine TextRun.done ?_
          intro y2 hb
          have hB2 := hB_y1.trans (hb.mono hB_y1.size)
          have hE2 := hE1.below hb
          clear hb e0 e1 e2 e3 e4 hE1 hc_y1 hS_y1 hA_y1_0 hL_y1 c1_y1 hB_y1
          obtain ⟨f0, f1, f2, f3, f4⟩ := hE2.all
          go_wp2_with fail
          (with_reducible refine (HW.out _ hB2).mono ?_)
          rintro e y3 ⟨rfl, hb⟩
          have hB3 := hB2.trans (hb.mono hB2.size)
          have hE3 := hE2.below hb
          clear hb f0 f1 f2 f3 f4 hE2 hB2
          obtain ⟨f0, f1, f2, f3, f4⟩ := hE3.all
          go_wp2_with fail
          (with_reducible refine (HD.out _ hB3).mono ?_)
          rintro e y4 ⟨rfl, hb⟩
          have hB4 := hB3.trans (hb.mono hB3.size)
          have hE4 := hE3.below hb
          clear hb f0 f1 f2 f3 f4 hE3 hB3
          obtain ⟨f0, f1, f2, f3, f4⟩ := hE4.all
          have hT4 := H.out.below hB4
          have hM4 := mod_of_below (some b) hB4
          have HT := Lib.hid hT4
          have HM := Lib.hid hM4
          clear hT4 hM4 hB4 H hE4 HW HD
          cases hx0 : (x != 0)
          · cases h4 : (k == 4)
            · cases h5 : (k == 5)
              · cases h6 : (k == 6)
                · cases h9 : (k == 9)
                  · go_wp2
                    go_ret
                    exact ⟨by rw [Hz.out]; rfl, by rw [Hs.out]; exact HT.out.turn (by simp [turnS, hx0, h6, h9]) (by simp [turnS, hx0, h4, h5]), HM.out⟩
                  · skip
                    go_wp2_with fail
                    refine wp_ext_draw 6 mixed (by kernel_rfl) ?_
                    simp only [List.take_succ_cons, List.take_zero, List.drop_succ_cons, List.drop_zero]
                    repeat ((first | ((apply TextRun.go rfl rfl rfl); (focus (intro w1 hS K hK; have hc := bcell hS; have hs := blt hS; have f0 := keep (Below.trans (show Below y4.heap.size y4 _ by go_grown) (hS.mono (by first | omega | (simp <;> omega)))) f0; have f2 := keep (Below.trans (show Below y4.heap.size y4 _ by go_grown) (hS.mono (by first | omega | (simp <;> omega)))) f2; go_wp2_with (fail); first | done | exact hS | exact hS.trans (hb.mono hS.size)))) | (refine TextRun.skip rfl ?_) | ((refine TextRun.wantedT rfl rfl rfl ?_); (apply Exists.intro); (apply And.intro); (focus (intro w1 hS K hK; have hc := bcell hS; have hs := blt hS; have f0 := keep (Below.trans (show Below y4.heap.size y4 _ by go_grown) (hS.mono (by first | omega | (simp <;> omega)))) f0; have f2 := keep (Below.trans (show Below y4.heap.size y4 _ by go_grown) (hS.mono (by first | omega | (simp <;> omega)))) f2; go_wp2_with (fail); first | done | exact hS | exact hS.trans (hb.mono hS.size))))); (simp only [Act.put, List.setIfInBounds_toArray, List.set_cons_zero, List.set_cons_succ]))
                    refine TextRun.done ?_
                    intro y5 hb
                    have hT4 := HT.out.below hb
                    have hg4 := mod_below HM.out hb
                    have hc4 := hT4.cst hi8
                    have hf4 := hT4.free (i)
                    have hT5 := hT4.setSt hi8 (3) (T := turnS S ⟨i, k, o, v, x⟩) (by simp [turnS, hx0, h4, h5, h6, h9]) (by simp [turnS, hx0, h4, h5, h6, h9])
                    have hM5 := mod_set hg4 (i) (.int .i64 (3))
                    have HT5 := Lib.hid hT5
                    have HM5 := Lib.hid hM5
                    clear hT4 hg4 hT5 hM5 HT HM hb f0 f1 f2 f3 f4
                    go_wp2
                    go_ret
                    exact ⟨by rw [Hz.out]; rfl, by rw [Hs.out]; exact HT5.out, HM5.out⟩
                · have ho := Hro.out (by simp [h6])
                  obtain ⟨j, rfl⟩ := Int.eq_ofNat_of_zero_le (inB_iff.1 ho).1
                  have hj8 : j < 8 := by have := (inB_iff.1 ho).2; omega
                  clear ho
                  go_wp2_with fail
                  refine wp_ext_draw 6 mixed (by kernel_rfl) ?_
                  simp only [List.take_succ_cons, List.take_zero, List.drop_succ_cons, List.drop_zero]
                  repeat ((first | ((apply TextRun.go rfl rfl rfl); (focus (intro w1 hS K hK; have hc := bcell hS; have hs := blt hS; have f0 := keep (Below.trans (show Below y4.heap.size y4 _ by go_grown) (hS.mono (by first | omega | (simp <;> omega)))) f0; have f2 := keep (Below.trans (show Below y4.heap.size y4 _ by go_grown) (hS.mono (by first | omega | (simp <;> omega)))) f2; go_wp2_with (fail); first | done | exact hS | exact hS.trans (hb.mono hS.size)))) | (refine TextRun.skip rfl ?_) | ((refine TextRun.wantedT rfl rfl rfl ?_); (apply Exists.intro); (apply And.intro); (focus (intro w1 hS K hK; have hc := bcell hS; have hs := blt hS; have f0 := keep (Below.trans (show Below y4.heap.size y4 _ by go_grown) (hS.mono (by first | omega | (simp <;> omega)))) f0; have f2 := keep (Below.trans (show Below y4.heap.size y4 _ by go_grown) (hS.mono (by first | omega | (simp <;> omega)))) f2; go_wp2_with (fail); first | done | exact hS | exact hS.trans (hb.mono hS.size))))); (simp only [Act.put, List.setIfInBounds_toArray, List.set_cons_zero, List.set_cons_succ]))
                  refine TextRun.done ?_
                  intro y5 hb
                  have hT4 := HT.out.below hb
                  have hg4 := mod_below HM.out hb
                  have hc4 := hT4.cst hj8
                  have hf4 := hT4.free (j)
                  have hT5 := hT4.setSt hj8 (2) (T := turnS S ⟨i, k, j, v, x⟩) (by simp [turnS, hx0, h4, h5, h6]) (by simp [turnS, hx0, h4, h5, h6])
                  have hM5 := mod_set hg4 (j) (.int .i64 (2))
                  have HT5 := Lib.hid hT5
                  have HM5 := Lib.hid hM5
                  clear hT4 hg4 hT5 hM5 HT HM hb f0 f1 f2 f3 f4
                  go_wp2
                  go_ret
                  exact ⟨by rw [Hz.out]; rfl, by rw [Hs.out]; exact HT5.out, HM5.out⟩
              · have ho := Hro.out (by simp [h5])
                obtain ⟨j, rfl⟩ := Int.eq_ofNat_of_zero_le (inB_iff.1 ho).1
                have hj8 : j < 8 := by have := (inB_iff.1 ho).2; omega
                clear ho
                have h6 : (k == 6) = false := by simp at h5 ⊢; omega
                have h9 : (k == 9) = false := by simp at h5 ⊢; omega
                go_wp2_with fail
                refine wp_ext_draw 6 mixed (by kernel_rfl) ?_
                simp only [List.take_succ_cons, List.take_zero, List.drop_succ_cons, List.drop_zero]
                repeat ((first | ((apply TextRun.go rfl rfl rfl); (focus (intro w1 hS K hK; have hc := bcell hS; have hs := blt hS; have f0 := keep (Below.trans (show Below y4.heap.size y4 _ by go_grown) (hS.mono (by first | omega | (simp <;> omega)))) f0; have f2 := keep (Below.trans (show Below y4.heap.size y4 _ by go_grown) (hS.mono (by first | omega | (simp <;> omega)))) f2; go_wp2_with (fail); first | done | exact hS | exact hS.trans (hb.mono hS.size)))) | (refine TextRun.skip rfl ?_) | ((refine TextRun.wantedT rfl rfl rfl ?_); (apply Exists.intro); (apply And.intro); (focus (intro w1 hS K hK; have hc := bcell hS; have hs := blt hS; have f0 := keep (Below.trans (show Below y4.heap.size y4 _ by go_grown) (hS.mono (by first | omega | (simp <;> omega)))) f0; have f2 := keep (Below.trans (show Below y4.heap.size y4 _ by go_grown) (hS.mono (by first | omega | (simp <;> omega)))) f2; go_wp2_with (fail); first | done | exact hS | exact hS.trans (hb.mono hS.size))))); (simp only [Act.put, List.setIfInBounds_toArray, List.set_cons_zero, List.set_cons_succ]))
                refine TextRun.done ?_
                intro y5 hb
                have hT4 := HT.out.below hb
                have hg4 := mod_below HM.out hb
                have hc4 := hT4.cow hj8
                have hf4 := hT4.free (8 + j)
                have hT5 := hT4.setOw hj8 (-1) (T := turnS S ⟨i, k, j, v, x⟩) (by simp [turnS, hx0, h4, h5, h6, h9]) (by simp [turnS, hx0, h4, h5, h6, h9])
                have hM5 := mod_set hg4 (8 + j) (.int .i64 (-1))
                have HT5 := Lib.hid hT5
                have HM5 := Lib.hid hM5
                clear hT4 hg4 hT5 hM5 HT HM hb f0 f1 f2 f3 f4
                go_wp2
                go_ret
                exact ⟨by rw [Hz.out]; rfl, by rw [Hs.out]; exact HT5.out, HM5.out⟩
            · have ho := Hro.out (by simp [h4])
              obtain ⟨j, rfl⟩ := Int.eq_ofNat_of_zero_le (inB_iff.1 ho).1
              have hj8 : j < 8 := by have := (inB_iff.1 ho).2; omega
              clear ho
              have h6 : (k == 6) = false := by simp at h4 ⊢; omega
              have h9 : (k == 9) = false := by simp at h4 ⊢; omega
              go_wp2_with fail
              refine wp_ext_draw 8 mixed (by kernel_rfl) ?_
              simp only [List.take_succ_cons, List.take_zero, List.drop_succ_cons, List.drop_zero]
              repeat ((first | ((apply TextRun.go rfl rfl rfl); (focus (intro w1 hS K hK; have hc := bcell hS; have hs := blt hS; have f0 := keep (Below.trans (show Below y4.heap.size y4 _ by go_grown) (hS.mono (by first | omega | (simp <;> omega)))) f0; have f2 := keep (Below.trans (show Below y4.heap.size y4 _ by go_grown) (hS.mono (by first | omega | (simp <;> omega)))) f2; go_wp2_with (fail); first | done | exact hS | exact hS.trans (hb.mono hS.size)))) | (refine TextRun.skip rfl ?_) | ((refine TextRun.wantedT rfl rfl rfl ?_); (apply Exists.intro); (apply And.intro); (focus (intro w1 hS K hK; have hc := bcell hS; have hs := blt hS; have f0 := keep (Below.trans (show Below y4.heap.size y4 _ by go_grown) (hS.mono (by first | omega | (simp <;> omega)))) f0; have f2 := keep (Below.trans (show Below y4.heap.size y4 _ by go_grown) (hS.mono (by first | omega | (simp <;> omega)))) f2; go_wp2_with (fail); first | done | exact hS | exact hS.trans (hb.mono hS.size))))); (simp only [Act.put, List.setIfInBounds_toArray, List.set_cons_zero, List.set_cons_succ]))
              refine TextRun.done ?_
              intro y5 hb
              have hT4 := HT.out.below hb
              have hg4 := mod_below HM.out hb
              have hc4 := hT4.cow hj8
              have hf4 := hT4.free (8 + j)
              have hT5 := hT4.setOw hj8 (i) (T := turnS S ⟨i, k, j, v, x⟩) (by simp [turnS, hx0, h4, h6, h9]) (by simp [turnS, hx0, h4, h6, h9])
              have hM5 := mod_set hg4 (8 + j) (.int .i64 (i))
              have HT5 := Lib.hid hT5
              have HM5 := Lib.hid hM5
              clear hT4 hg4 hT5 hM5 HT HM hb f0 f1 f2 f3 f4
              go_wp2
              go_ret
              exact ⟨by rw [Hz.out]; rfl, by rw [Hs.out]; exact HT5.out, HM5.out⟩
          · skip
            go_wp2_with fail
            refine wp_ext_draw 6 mixed (by kernel_rfl) ?_
            simp only [List.take_succ_cons, List.take_zero, List.drop_succ_cons, List.drop_zero]
            repeat ((first | ((apply TextRun.go rfl rfl rfl); (focus (intro w1 hS K hK; have hc := bcell hS; have hs := blt hS; have f0 := keep (Below.trans (show Below y4.heap.size y4 _ by go_grown) (hS.mono (by first | omega | (simp <;> omega)))) f0; have f2 := keep (Below.trans (show Below y4.heap.size y4 _ by go_grown) (hS.mono (by first | omega | (simp <;> omega)))) f2; go_wp2_with (fail); first | done | exact hS | exact hS.trans (hb.mono hS.size)))) | (refine TextRun.skip rfl ?_) | ((refine TextRun.wantedT rfl rfl rfl ?_); (apply Exists.intro); (apply And.intro); (focus (intro w1 hS K hK; have hc := bcell hS; have hs := blt hS; have f0 := keep (Below.trans (show Below y4.heap.size y4 _ by go_grown) (hS.mono (by first | omega | (simp <;> omega)))) f0; have f2 := keep (Below.trans (show Below y4.heap.size y4 _ by go_grown) (hS.mono (by first | omega | (simp <;> omega)))) f2; go_wp2_with (fail); first | done | exact hS | exact hS.trans (hb.mono hS.size))))); (simp only [Act.put, List.setIfInBounds_toArray, List.set_cons_zero, List.set_cons_succ]))
            refine TextRun.done ?_
            intro y5 hb
            have hT4 := HT.out.below hb
            have hg4 := mod_below HM.out hb
            have hc4 := hT4.cst hi8
            have hf4 := hT4.free (i)
            have hT5 := hT4.setSt hi8 (4) (T := turnS S ⟨i, k, o, v, x⟩) (by simp [turnS, hx0]) (by simp [turnS, hx0])
            have hM5 := mod_set hg4 (i) (.int .i64 (4))
            have HT5 := Lib.hid hT5
            have HM5 := Lib.hid hM5
            clear hT4 hg4 hT5 hM5 HT HM hb f0 f1 f2 f3 f4
            go_wp2
            go_ret
            exact ⟨by rw [Hz.out]; rfl, by rw [Hs.out]; exact HT5.out, HM5.out⟩
    · simp only [Bool.not_true] at hcan
      have hz : addE S ⟨i, k, o, v, x⟩ = 121 := by
        unfold addE; rw [Hr.out, if_pos rfl]; unfold okB; simp only; rw [hcan]; rfl
      have Hz := Lib.hid hz
      clear hz hcan hwv hbd
      go_enter Try.func23, Try.ntmps23
      go_wp2_with fail
      refine (rright_calls _ _ _ _ _ _).mono ?_
      rintro e y1 ⟨rfl, hb⟩
      have hc_y1 := bcell hb
      have hB_y1 : Below w.heap.size w y1 := Below.trans (by go_grown) (hb.mono (by first | omega | (simp <;> omega)))
      have hS_y1 := hb.size
      try simp at hS_y1
      have hA_y1_0 : ∀ x, x < w.heap.size + 1 → x < y1.heap.size := (fun x hx => by omega)
      have hL_y1 : ∀ x, x < w.heap.size → x < y1.heap.size := (fun x hx => by omega)
      clear hb
      have c1_y1 := keep hB_y1 c1
      rw [hr]
      have e0 : y1.cell? ⟨w.heap.size, 0, none⟩ = some (.int .i64 i) := (hc_y1.1 _ _ (by simp)).trans (cell_new rfl)
      have e1 : y1.cell? ⟨w.heap.size, 1, none⟩ = some (.int .i64 k) := (hc_y1.1 _ _ (by simp)).trans (cell_new rfl)
      have e2 : y1.cell? ⟨w.heap.size, 2, none⟩ = some (.int .i64 o) := (hc_y1.1 _ _ (by simp)).trans (cell_new rfl)
      have e3 : y1.cell? ⟨w.heap.size, 3, none⟩ = some (.int .i64 v) := (hc_y1.1 _ _ (by simp)).trans (cell_new rfl)
      have e4 : y1.cell? ⟨w.heap.size, 4, none⟩ = some (.int .i64 x) := (hc_y1.1 _ _ (by simp)).trans (cell_new rfl)
      have hE1 : EvBox y1 w.heap.size i k o v x := ⟨e0, e1, e2, e3, e4⟩
      go_wp2_with fail
      refine wp_ext_draw 8 mixed (by kernel_rfl) ?_
      simp only [List.take_succ_cons, List.take_zero, List.drop_succ_cons, List.drop_zero]
      repeat ((first | ((apply TextRun.go rfl rfl rfl); (focus (intro w1 hS K hK; have hc := bcell hS; have hs := blt hS; have e0 := keep (Below.trans (show Below y1.heap.size y1 _ by go_grown) (hS.mono (by first | omega | (simp <;> omega)))) e0; have c1_y1 := keep (Below.trans (show Below y1.heap.size y1 _ by go_grown) (hS.mono (by first | omega | (simp <;> omega)))) c1_y1; go_wp2_with (fail); first | done | exact hS | exact hS.trans (hb.mono hS.size)))) | (refine TextRun.skip rfl ?_) | ((refine TextRun.wantedT rfl rfl rfl ?_); (apply Exists.intro); (apply And.intro); (focus (intro w1 hS K hK; have hc := bcell hS; have hs := blt hS; have e0 := keep (Below.trans (show Below y1.heap.size y1 _ by go_grown) (hS.mono (by first | omega | (simp <;> omega)))) e0; have c1_y1 := keep (Below.trans (show Below y1.heap.size y1 _ by go_grown) (hS.mono (by first | omega | (simp <;> omega)))) c1_y1; go_wp2_with (fail); first | done | exact hS | exact hS.trans (hb.mono hS.size))))); (simp only [Act.put, List.setIfInBounds_toArray, List.set_cons_zero, List.set_cons_succ]))
      refine TextRun.done ?_
      intro y2 hb
      have hB2 := hB_y1.trans (hb.mono hB_y1.size)
      have hE2 := hE1.below hb
      clear hb e0 e1 e2 e3 e4 hE1 hc_y1 hS_y1 hA_y1_0 hL_y1 c1_y1 hB_y1
      obtain ⟨f0, f1, f2, f3, f4⟩ := hE2.all
      go_wp2_with fail
      (with_reducible refine (HW.out _ hB2).mono ?_)
      rintro e y3 ⟨rfl, hb⟩
      have hB3 := hB2.trans (hb.mono hB2.size)
      have hE3 := hE2.below hb
      clear hb f0 f1 f2 f3 f4 hE2 hB2
      obtain ⟨f0, f1, f2, f3, f4⟩ := hE3.all
      go_wp2_with fail
      (with_reducible refine (HD.out _ hB3).mono ?_)
      rintro e y4 ⟨rfl, hb⟩
      have hB4 := hB3.trans (hb.mono hB3.size)
      have hE4 := hE3.below hb
      clear hb f0 f1 f2 f3 f4 hE3 hB3
      obtain ⟨f0, f1, f2, f3, f4⟩ := hE4.all
      go_wp2
      go_ret
      exact Hno.out _ hB4 Hz.out

theorem sadd_calls {w : World} {b : Nat} {S : LogS} (h : StateAt w b S) (hg : Good S) (e : Ev) :
    Calls Try.prog 23 #[.pointer (some ⟨b, 0, none⟩), .agg #[.int .i64 e.t, .int .i64 e.k, .int .i64 e.o, .int .i64 e.v, .int .i64 e.b]] w (SPost b S e w) := by
  cases hr : rB e
  · exact sadd_form h e hr
  · exact sadd_right h hg e hr
end Go.Proofs.Ytadngicebbnnlaa
