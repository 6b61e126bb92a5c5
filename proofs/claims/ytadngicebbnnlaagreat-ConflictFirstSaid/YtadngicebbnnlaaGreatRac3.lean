/-
  ConflictRaces, ConflictStands, ConflictStays.
-/
import Derived.Test.YtadngicebbnnlaaGreatRac2
import Derived.BigRegion
set_option linter.unusedSimpArgs false
set_option linter.unusedVariables false
namespace Go.Proofs.YtadngicebbnnlaaGreat
open Go.ChangeShapes Go.WideShapes Go.ChangeAt Go.RowKit Go.Deep

def pr3 : List Ev := [⟨0, 6, 1, 0, 0⟩, ⟨1, 2, 0, 0, 0⟩, ⟨0, 1, 0, 0, 0⟩]
theorem pr3_wrong : wrongS 3 pr3 = 0 := by decide
theorem pr3_races : docC pr3 3 = [(1, 2)] := by
  have h01 : raceC pr3 0 1 = false := by
    have : clE (pr3.getD 0 ev00) (pr3.getD 1 ev00) = false := by decide
    unfold raceC; rw [this]; rfl
  have h02 : raceC pr3 0 2 = false := by
    have : clE (pr3.getD 0 ev00) (pr3.getD 2 ev00) = false := by decide
    unfold raceC; rw [this]; rfl
  have h12 : raceC pr3 1 2 = true := by
    have h1 : clE (pr3.getD 1 ev00) (pr3.getD 2 ev00) = true := by decide
    have h2 : hbB (rS pr3) 1 2 = false := by
      cases hb : hbB (rS pr3) 1 2
      · rfl
      · obtain ⟨k, hk, hr, h⟩ := HB.iff.1 (hbB_iff.1 hb)
        rcases (show k = 0 ∨ k = 1 by omega) with rfl | rfl
        · rcases h with h | h
          · omega
          · have := h.lt; omega
        · have h3 : rS pr3 1 2 = false := by decide
          rw [h3] at hr; cases hr
    unfold raceC; rw [h1, h2]; rfl
  simp [docC, List.range_succ, h01, h02, h12]
theorem pr3_evs (w : World) : IsEvs (w.alloc (.cells #[.int .i64 0, .int .i64 6, .int .i64 1, .int .i64 0, .int .i64 0, .int .i64 1, .int .i64 2, .int .i64 0, .int .i64 0, .int .i64 0, .int .i64 0, .int .i64 1, .int .i64 0, .int .i64 0, .int .i64 0] 46)) (some ⟨w.heap.size, 0, none⟩) 3 3 pr3 := by
  refine ⟨⟨rfl, fun _ => ⟨w.heap.size, 0, rfl, fun j u hj => ?_⟩⟩, rfl, Nat.le_refl _, by unfold maxLen; omega, fun e he => ?_⟩
  · rw [Nat.zero_add]; exact cell_new (by rw [← Array.getElem?_toList]; exact hj)
  · simp only [pr3, List.mem_cons, List.not_mem_nil, or_false] at he
    rcases he with rfl | rfl | rfl <;> exact ⟨Fit.of (by decide) (by decide), Fit.of (by decide) (by decide), Fit.of (by decide) (by decide), Fit.of (by decide) (by decide), Fit.of (by decide) (by decide)⟩
set_option maxHeartbeats 4000000 in
theorem cawake_calls (w : World) : Calls Tryz.prog 6 #[] w fun e w' => e = .returned (.bool true) ∧ Below w.heap.size w w' := by
  have HE := Lib.hid (pr3_evs w)
  have HbE : Hid (Below w.heap.size w (w.alloc (.cells #[.int .i64 0, .int .i64 6, .int .i64 1, .int .i64 0, .int .i64 0, .int .i64 1, .int .i64 2, .int .i64 0, .int .i64 0, .int .i64 0, .int .i64 0, .int .i64 1, .int .i64 0, .int .i64 0, .int .i64 0] 46))) := (Below.refl _ w).alloc (Nat.le_refl _) _
  go_enter Tryz.func6, Tryz.ntmps6
  go_wp2_with fail
  refine (pair_calls w).mono ?_
  rintro e w' ⟨rfl, rfl⟩
  go_wp2_with fail
  refine (cfraces_calls HE.out).mono ?_
  rintro e w1 ⟨v, rfl, hs, hb⟩
  rw [confRes_good pr3_wrong, pr3_races] at hs ⊢
  simp only at hs ⊢
  have HB1 := Lib.hid (HbE.out.trans (hb.mono HbE.out.size))
  obtain ⟨a, c, hv, _, _, hat⟩ := hs.ex
  subst hv
  obtain ⟨g, rfl, c0, c1⟩ := hat 0 (1, 2) rfl
  simp only [Nat.zero_mul, Nat.zero_add] at c0 c1
  have hl : (natsP [(1, 2)]).length = 1 := rfl
  rw [hl]
  clear hs hat hb HE HbE hl
  go_wp2
  go_ret
  exact ⟨rfl, HB1.out⟩

theorem SeesP.nat_at {w : World} {n c : Nat} {a : Option Addr} {R : List (Nat × Nat)} (h : SeesP w (.slice a n c) (natsP R)) {i : Nat} {p : Nat × Nat} (hq : R[i]? = some p) : ∃ g, a = some ⟨g, 0, none⟩ ∧ w.cell? ⟨g, i * 2, none⟩ = some (.int .i64 (p.1 : Int)) ∧ w.cell? ⟨g, i * 2 + 1, none⟩ = some (.int .i64 (p.2 : Int)) := by
  obtain ⟨a', c', he, _, _, hat⟩ := h.ex
  cases he
  exact hat i _ (natsP_get hq)
theorem SeesP.nats {w : World} {v : Value} {R : List (Nat × Nat)} (h : SeesP w v (natsP R)) : ∃ a c, v = .slice a R.length c ∧ R.length ≤ c := by
  obtain ⟨a', c', he, hl, _, _⟩ := h.ex
  rw [natsP_len] at he hl
  exact ⟨a', c', he, hl⟩
theorem mem_takeP {R : List (Nat × Nat)} {m : Nat} {q s : Nat × Nat} (h : R[m]? = some q) : decide (s ∈ R.take (m + 1)) = (decide (s ∈ R.take m) || decide (q = s)) := by
  rw [Bool.eq_iff_iff, List.take_add_one, h]
  simp only [Option.toList, List.mem_append, List.mem_singleton, Bool.or_eq_true, decide_eq_true_iff]
  constructor
  · rintro (h | h)
    · exact .inl h
    · exact .inr h.symm
  · rintro (h | h)
    · exact .inl h
    · exact .inr h.symm

end Go.Proofs.YtadngicebbnnlaaGreat
