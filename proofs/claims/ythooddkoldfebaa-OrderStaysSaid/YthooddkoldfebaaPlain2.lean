/-
  What independent events do not change: plain law, no program in sight.
-/
import Derived.Test.YthooddkoldfebaaOf
import Derived.Test.YthooddkoldfebaaDep2
set_option linter.unusedSimpArgs false
set_option linter.unusedVariables false
namespace Go.Proofs.Ythooddkoldfebaa
open Go.ChangeShapes Go.WideShapes Go.ChangeAt Go.RowKit Go.Deep

theorem toNat_ne {a b : Int} (ha : inB a = true) (hb : inB b = true) (h : a ≠ b) : b.toNat ≠ a.toNat := by
  have := inB_iff.1 ha; have := inB_iff.1 hb; omega
theorem upd_ne {f : Nat → Int} {i j : Nat} {v : Int} (h : j ≠ i) : upd f i v j = f j := by unfold upd; rw [if_neg h]
theorem upd_comm {f : Nat → Int} {i j : Nat} {v u : Int} (h : i ≠ j) : upd (upd f i v) j u = upd (upd f j u) i v := by
  funext x
  unfold upd
  split <;> split <;> first | rfl | omega

theorem addE_ok {S : LogS} {e : Ev} (h : addE S e = 0) : rB e = true ∧ okB S e = true := by
  unfold addE at h
  cases hr : rB e
  · rw [hr] at h; simp at h
  · cases hk : okB S e
    · rw [hr, hk] at h; simp at h
    · exact ⟨rfl, rfl⟩
theorem addE_of {S : LogS} {e : Ev} (hr : rB e = true) (hk : okB S e = true) : addE S e = 0 := by unfold addE; rw [hr, hk]; rfl
theorem okB_run {S : LogS} {e : Ev} (hk : okB S e = true) : S.st e.t.toNat = 2 := by
  unfold okB canB at hk
  simp only [Bool.and_eq_true, beq_iff_eq] at hk
  exact hk.1.1.2

/-- That two events do not depend on one another, taken apart. -/
structure Indep (e w : Ev) : Prop where
  tt : e.t ≠ w.t
  s1 : e.k = 6 → e.o ≠ w.t
  s2 : w.k = 6 → w.o ≠ e.t
  mm : (e.k = 4 ∨ e.k = 5) → (w.k = 4 ∨ w.k = 5) → e.o ≠ w.o
  bb : e.k = 6 → w.k = 6 → e.o ≠ w.o
  bw : e.k = 6 → w.k = 7 → e.o ≠ w.o
  wb : e.k = 7 → w.k = 6 → e.o ≠ w.o
  ew : e.k = 9 → w.k = 7 → e.t ≠ w.o
  we : e.k = 7 → w.k = 9 → e.o ≠ w.t
theorem Indep.of {e w : Ev} (h : dependsB e.t e.k e.o w.t w.k w.o = false) : Indep e w := by
  obtain ⟨t, k, o, v, x⟩ := e
  obtain ⟨t', k', o', v', x'⟩ := w
  unfold dependsB depAb at h
  simp only [Bool.or_eq_false_iff] at h
  obtain ⟨⟨⟨h1, h2⟩, h3⟩, h4⟩ := h
  refine ⟨by simpa using h1, ?_, ?_, ?_, ?_, ?_, ?_, ?_, ?_⟩
  · rintro rfl; simpa [abOf, Ab.starts] using h3
  · rintro rfl; simpa [abOf, Ab.starts] using h4
  · rintro (rfl | rfl) (rfl | rfl) <;> simpa [abOf, Ab.dep] using h2
  · rintro rfl rfl; simpa [abOf, Ab.dep] using h2
  · rintro rfl rfl; simpa [abOf, Ab.dep] using h2
  · rintro rfl rfl; simpa [abOf, Ab.dep] using h2
  · rintro rfl rfl; simpa [abOf, Ab.dep] using h2
  · rintro rfl rfl; simpa [abOf, Ab.dep] using h2
theorem Indep.symm {e w : Ev} (h : Indep e w) : Indep w e :=
  ⟨fun q => h.tt q.symm, h.s2, h.s1, fun a b q => h.mm b a q.symm, fun a b q => h.bb b a q.symm, fun a b q => h.wb b a q.symm, fun a b q => h.bw b a q.symm, fun a b q => h.we b a q.symm, fun a b q => h.ew b a q.symm⟩

theorem st_off {S : LogS} {e : Ev} {j : Int} (hr : rB e = true) (hj : inB j = true) (h1 : (e.b ≠ 0 ∨ e.k = 9) → e.t ≠ j) (h2 : e.k = 6 → e.o ≠ j) : (turnS S e).st j.toNat = S.st j.toNat := by
  simp only [turnS]
  split
  · rename_i hb
    exact upd_ne (toNat_ne (right_in hr) hj (h1 (.inl (by simpa using hb))))
  · split
    · rename_i hk
      exact upd_ne (toNat_ne (right_obj hr (by simp at hk ⊢; simp [hk])) hj (h2 (by simpa using hk)))
    · split
      · rename_i hk
        exact upd_ne (toNat_ne (right_in hr) hj (h1 (.inr (by simpa using hk))))
      · rfl
theorem ow_off {S : LogS} {e : Ev} {j : Int} (hr : rB e = true) (hj : inB j = true) (h1 : (e.k = 4 ∨ e.k = 5) → e.o ≠ j) : (turnS S e).ow j.toNat = S.ow j.toNat := by
  simp only [turnS]
  split
  · rfl
  · split
    · rename_i hk
      exact upd_ne (toNat_ne (right_obj hr (by simp at hk ⊢; simp [hk])) hj (h1 (.inl (by simpa using hk))))
    · split
      · rename_i hk
        exact upd_ne (toNat_ne (right_obj hr (by simp at hk ⊢; simp [hk])) hj (h1 (.inr (by simpa using hk))))
      · rfl
/-- The state of the thread that did a bad event, as a waiting one sees it. -/
theorem st_bad {S : LogS} {e : Ev} (hb : e.b ≠ 0) : (turnS S e).st e.t.toNat = 4 := by
  simp only [turnS]
  rw [if_pos (by simpa using hb)]
  unfold upd; rw [if_pos rfl]

theorem waitB_off {S : LogS} {e w : Ev} (hr : rB e = true) (hk : okB S e = true) (hi : Indep e w) (ho : (w.k == 4 || w.k == 7) = true → inB w.o = true) : waitB (turnS S e) w.k w.o = waitB S w.k w.o := by
  unfold waitB
  by_cases h4 : w.k = 4
  · have hj := ho (by simp [h4])
    rw [ow_off hr hj (fun hq => hi.mm hq (.inl h4))]
    simp [h4]
  · by_cases h7 : w.k = 7
    · have hj := ho (by simp [h7])
      by_cases hb : e.b ≠ 0 ∧ e.t = w.o
      · rw [← hb.2, st_bad hb.1, okB_run hk]; simp [h7]
      · rw [st_off hr hj (fun hq => by
          rcases hq with hq | hq
          · exact fun h => hb ⟨hq, h⟩
          · exact hi.ew hq h7) (fun hq => hi.bw hq h7)]
        simp [h7]
    · simp [h4, h7]
theorem badB_off {S : LogS} {e w : Ev} (hr : rB e = true) (hk : okB S e = true) (hi : Indep e w) (ho : (w.k == 5 || w.k == 6 || w.k == 7) = true → inB w.o = true) : badB (turnS S e) w.t w.k w.o = badB S w.t w.k w.o := by
  by_cases h5 : w.k = 5
  · have hj := ho (by simp [h5])
    unfold badB
    rw [ow_off hr hj (fun hq => hi.mm hq (.inr h5))]
    simp [h5]
  · by_cases h6 : w.k = 6
    · have hj := ho (by simp [h6])
      unfold badB
      rw [st_off hr hj (fun _ h => hi.s2 h6 h.symm) (fun hq => hi.bb hq h6)]
      simp [h6]
    · by_cases h7 : w.k = 7
      · have hj := ho (by simp [h7])
        have : ((turnS S e).st w.o.toNat == 1) = (S.st w.o.toNat == 1) := by
          by_cases hb : e.b ≠ 0 ∧ e.t = w.o
          · rw [← hb.2, st_bad hb.1, okB_run hk]; rfl
          · rw [st_off hr hj (fun hq => by
              rcases hq with hq | hq
              · exact fun h => hb ⟨hq, h⟩
              · exact hi.ew hq h7) (fun hq => hi.bw hq h7)]
        unfold badB
        rw [this]
        simp [h7]
      · unfold badB
        simp [h5, h6, h7]
theorem canB_off {S : LogS} {e w : Ev} (hr : rB e = true) (hk : okB S e = true) (hi : Indep e w) : canB (turnS S e) w.t w.k w.o = canB S w.t w.k w.o := by
  unfold canB
  cases hw : rightB w.t w.k w.o (if w.k == 8 then 1 else 0) 0
  · rfl
  · rw [waitB_off hr hk hi (fun hq => right_obj hw (by revert hq; simp only [Bool.or_eq_true]; rintro (h | h) <;> simp [h])),
      st_off hr (right_in hw) (fun _ => hi.tt) hi.s1]

theorem leaves_plain {S : LogS} {e w : Ev} (h0 : addE S e = 0) (hd : dependsB e.t e.k e.o w.t w.k w.o = false) : canB (addS S e) w.t w.k w.o = canB S w.t w.k w.o := by
  obtain ⟨hr, hk⟩ := addE_ok h0
  rw [addE_zero h0]
  exact canB_off hr hk (Indep.of hd)

/-! Exchanges. -/
theorem okB_off {S : LogS} {e w : Ev} (hr : rB e = true) (hk : okB S e = true) (hi : Indep e w) (hw : rB w = true) : okB (turnS S e) w = okB S w := by
  unfold okB
  rw [canB_off hr hk hi, badB_off hr hk hi (fun hq => right_obj hw (by revert hq; simp only [Bool.or_eq_true]; rintro ((h | h) | h) <;> simp [h]))]
/-- Two states that agree in what decides. -/
def Like (S T : LogS) : Prop := S.st = T.st ∧ S.ow = T.ow
theorem Like.addE {S T : LogS} (h : Like S T) (e : Ev) : addE S e = addE T e := by
  unfold Go.Proofs.Ythooddkoldfebaa.addE okB canB waitB badB; rw [h.1, h.2]
theorem Like.addS {S T : LogS} (h : Like S T) (e : Ev) : Like (addS S e) (addS T e) := by
  have hk : okB S e = okB T e := by unfold okB canB waitB badB; rw [h.1, h.2]
  unfold Go.Proofs.Ythooddkoldfebaa.addS
  rw [hk]
  split
  · exact ⟨by simp only [turnS]; rw [h.1], by simp only [turnS]; rw [h.2]⟩
  · exact h
theorem turn_comm {S : LogS} {a b : Ev} (ha : rB a = true) (hb : rB b = true) (hi : Indep a b) : Like (turnS (turnS S a) b) (turnS (turnS S b) a) := by
  have ia := right_in ha
  have ib := right_in hb
  have oa := fun h => right_obj ha h
  have ob := fun h => right_obj hb h
  have tn := toNat_ne ia ib hi.tt
  have tn' := toNat_ne ib ia (fun h => hi.tt h.symm)
  constructor
  · simp only [turnS]
    by_cases xa : (a.b != 0) = true
    · rw [if_pos xa, if_pos xa]
      by_cases xb : (b.b != 0) = true
      · rw [if_pos xb, if_pos xb]; exact upd_comm tn'
      · rw [if_neg xb, if_neg xb]
        by_cases b6 : (b.k == 6) = true
        · rw [if_pos b6, if_pos b6]; exact upd_comm (fun h => toNat_ne ia (ob (by simp at b6 ⊢; simp [b6])) (fun q => hi.s2 (by simpa using b6) q.symm) h.symm)
        · rw [if_neg b6, if_neg b6]
          by_cases b9 : (b.k == 9) = true
          · rw [if_pos b9, if_pos b9]; exact upd_comm tn'
          · rw [if_neg b9, if_neg b9]
    · rw [if_neg xa, if_neg xa]
      by_cases a6 : (a.k == 6) = true
      · have oa6 := oa (by simp at a6 ⊢; simp [a6])
        have ha6 : a.k = 6 := by simpa using a6
        rw [if_pos a6, if_pos a6]
        by_cases xb : (b.b != 0) = true
        · rw [if_pos xb, if_pos xb]; exact upd_comm (fun h => toNat_ne oa6 ib (hi.s1 ha6) h.symm)
        · rw [if_neg xb, if_neg xb]
          by_cases b6 : (b.k == 6) = true
          · rw [if_pos b6, if_pos b6]; exact upd_comm (fun h => toNat_ne oa6 (ob (by simp at b6 ⊢; simp [b6])) (hi.bb ha6 (by simpa using b6)) h.symm)
          · rw [if_neg b6, if_neg b6]
            by_cases b9 : (b.k == 9) = true
            · rw [if_pos b9, if_pos b9]; exact upd_comm (fun h => toNat_ne oa6 ib (hi.s1 ha6) h.symm)
            · rw [if_neg b9, if_neg b9]
      · rw [if_neg a6, if_neg a6]
        by_cases a9 : (a.k == 9) = true
        · rw [if_pos a9, if_pos a9]
          by_cases xb : (b.b != 0) = true
          · rw [if_pos xb, if_pos xb]; exact upd_comm tn'
          · rw [if_neg xb, if_neg xb]
            by_cases b6 : (b.k == 6) = true
            · rw [if_pos b6, if_pos b6]; exact upd_comm (fun h => toNat_ne ia (ob (by simp at b6 ⊢; simp [b6])) (fun q => hi.s2 (by simpa using b6) q.symm) h.symm)
            · rw [if_neg b6, if_neg b6]
              by_cases b9 : (b.k == 9) = true
              · rw [if_pos b9, if_pos b9]; exact upd_comm tn'
              · rw [if_neg b9, if_neg b9]
        · rw [if_neg a9, if_neg a9]
  · simp only [turnS]
    have key : (a.k = 4 ∨ a.k = 5) → (b.k = 4 ∨ b.k = 5) → a.o.toNat ≠ b.o.toNat := fun p q h =>
      toNat_ne (oa (by rcases p with p | p <;> simp [p])) (ob (by rcases q with q | q <;> simp [q])) (hi.mm p q) h.symm
    by_cases xa : (a.b != 0) = true
    · rw [if_pos xa, if_pos xa]
    · rw [if_neg xa, if_neg xa]
      by_cases xb : (b.b != 0) = true
      · rw [if_pos xb, if_pos xb]
      · rw [if_neg xb, if_neg xb]
        by_cases a4 : (a.k == 4) = true
        · rw [if_pos a4, if_pos a4]
          by_cases b4 : (b.k == 4) = true
          · rw [if_pos b4, if_pos b4]; exact upd_comm (key (.inl (by simpa using a4)) (.inl (by simpa using b4)))
          · rw [if_neg b4, if_neg b4]
            by_cases b5 : (b.k == 5) = true
            · rw [if_pos b5, if_pos b5]; exact upd_comm (key (.inl (by simpa using a4)) (.inr (by simpa using b5)))
            · rw [if_neg b5, if_neg b5]
        · rw [if_neg a4, if_neg a4]
          by_cases a5 : (a.k == 5) = true
          · rw [if_pos a5, if_pos a5]
            by_cases b4 : (b.k == 4) = true
            · rw [if_pos b4, if_pos b4]; exact upd_comm (key (.inr (by simpa using a5)) (.inl (by simpa using b4)))
            · rw [if_neg b4, if_neg b4]
              by_cases b5 : (b.k == 5) = true
              · rw [if_pos b5, if_pos b5]; exact upd_comm (key (.inr (by simpa using a5)) (.inr (by simpa using b5)))
              · rw [if_neg b5, if_neg b5]
          · rw [if_neg a5, if_neg a5]
end Go.Proofs.Ythooddkoldfebaa
