/-
  The document's Depends.
-/
import Derived.Test.YtobhandimolmhaaDoorDep2
set_option linter.unusedSimpArgs false
set_option linter.unusedVariables false
namespace Go.Proofs.YtobhandimolmhaaDoor
open Go.ChangeShapes Go.WideShapes Go.ChangeAt Go.RowKit Go.Deep

def accB (k : Int) : Bool := k == 1 || k == 2 || k == 3
def mutB (k : Int) : Bool := k == 4 || k == 5
def halfB (t k o t' k' o' : Int) : Bool := if k == 6 then ((k' == 6 || k' == 7) && o' == o) || t' == o else k == 9 && k' == 7 && o' == t
def rdepB (t k o t' k' o' : Int) : Bool :=
  if t == t' then true else if accB k && accB k' then o == o' && (k != 1 || k' != 1) else if mutB k && mutB k' then o == o' else halfB t k o t' k' o' || halfB t' k' o' t k o

theorem kinds (k : Int) : k = 1 ∨ k = 2 ∨ k = 3 ∨ k = 4 ∨ k = 5 ∨ k = 6 ∨ k = 7 ∨ k = 9 ∨ ((k == 1) = false ∧ (k == 2) = false ∧ (k == 3) = false ∧ (k == 4) = false ∧ (k == 5) = false ∧ (k == 6) = false ∧ (k == 7) = false ∧ (k == 9) = false) := by
  simp only [beq_eq_false_iff_ne]; omega

theorem abOf_cases (t k o : Int) : (k = 1 ∧ abOf t k o = .rd o) ∨ (k = 2 ∧ abOf t k o = .wr o) ∨ (k = 3 ∧ abOf t k o = .at o) ∨ ((k == 4 || k == 5) = true ∧ abOf t k o = .mu o) ∨
    (k = 6 ∧ abOf t k o = .bg o) ∨ (k = 7 ∧ abOf t k o = .wt o) ∨ (k = 9 ∧ abOf t k o = .en t) ∨
    (((k == 1) = false ∧ (k == 2) = false ∧ (k == 3) = false ∧ (k == 4) = false ∧ (k == 5) = false ∧ (k == 6) = false ∧ (k == 7) = false ∧ (k == 9) = false) ∧ abOf t k o = .no) := by
  rcases kinds k with rfl | rfl | rfl | rfl | rfl | rfl | rfl | rfl | h
  all_goals simp [abOf]
  simp_all

theorem ieq_comm (a b : Int) : (a == b) = (b == a) := by rw [Bool.eq_iff_iff]; simp only [beq_iff_eq]; exact eq_comm

theorem depends_is (t k o t' k' o' : Int) : dependsB t k o t' k' o' = rdepB t k o t' k' o' := by
  unfold dependsB depAb rdepB
  by_cases h : t = t'
  · simp [h]
  have hb : (t == t') = false := by simpa using h
  rw [hb, if_neg (by decide)]
  rcases kinds k with rfl | rfl | rfl | rfl | rfl | rfl | rfl | rfl | ⟨h1, h2, h3, h4, h5, h6, h7, h9⟩ <;>
    rcases kinds k' with rfl | rfl | rfl | rfl | rfl | rfl | rfl | rfl | ⟨g1, g2, g3, g4, g5, g6, g7, g9⟩ <;>
    first
      | (simp [abOf, Ab.dep, Ab.starts, accB, mutB, halfB, *]; done)
      | (rw [Bool.eq_iff_iff]; simp [abOf, Ab.dep, Ab.starts, accB, mutB, halfB, *]; omega)
theorem rdep_symm (t k o t' k' o' : Int) : rdepB t k o t' k' o' = rdepB t' k' o' t k o := by
  unfold rdepB
  rw [ieq_comm t t', ieq_comm o o', Bool.and_comm (accB k), Bool.and_comm (mutB k), Bool.or_comm (k != 1), Bool.or_comm (halfB t k o t' k' o')]
set_option maxHeartbeats 4000000 in
theorem access_calls (k : Int) (w : World) : Calls Tryd.prog 25 #[.int .i64 k] w fun e w' => e = .returned (.bool (accB k)) ∧ w = w' := by
  go_enter Tryd.func25, Tryd.ntmps25
  go_wp2
  all_goals (go_ret; exact ⟨by go_tidy; first | (simp_all [accB]; done) | (simp_all [accB]; omega) | (simp_all [accB]; intros; subst_vars; simp_all; done) | (simp [accB, *]; done) | (simp [accB, *]; omega), rfl⟩)
theorem mutex_calls (k : Int) (w : World) : Calls Tryd.prog 26 #[.int .i64 k] w fun e w' => e = .returned (.bool (mutB k)) ∧ w = w' := by
  go_enter Tryd.func26, Tryd.ntmps26
  go_wp2
  all_goals (go_ret; exact ⟨by go_tidy; first | (simp_all [mutB]; done) | (simp_all [mutB]; omega) | (simp_all [mutB]; intros; subst_vars; simp_all; done) | (simp [mutB, *]; done) | (simp [mutB, *]; omega), rfl⟩)
set_option maxHeartbeats 4000000 in
theorem half_calls (t k o v b t' k' o' v' b' : Int) (w : World) :
    Calls Tryd.prog 27 #[.agg #[.int .i64 t, .int .i64 k, .int .i64 o, .int .i64 v, .int .i64 b], .agg #[.int .i64 t', .int .i64 k', .int .i64 o', .int .i64 v', .int .i64 b']] w fun e w' =>
    e = .returned (.bool (halfB t k o t' k' o')) ∧ Below w.heap.size w w' := by
  go_enter Tryd.func27, Tryd.ntmps27
  go_wp2
  all_goals (go_ret; exact ⟨by go_tidy; first | (simp_all [halfB]; done) | (simp_all [halfB]; omega) | (simp_all [halfB]; intros; subst_vars; simp_all; done) | (simp [halfB, *]; done) | (simp [halfB, *]; omega), by go_grown⟩)
set_option maxHeartbeats 4000000 in
theorem rdep_calls (t k o v b t' k' o' v' b' : Int) (w : World) :
    Calls Tryd.prog 17 #[.agg #[.int .i64 t, .int .i64 k, .int .i64 o, .int .i64 v, .int .i64 b], .agg #[.int .i64 t', .int .i64 k', .int .i64 o', .int .i64 v', .int .i64 b']] w fun e w' =>
    e = .returned (.bool (rdepB t k o t' k' o')) ∧ Below w.heap.size w w' := by
  go_enter Tryd.func17, Tryd.ntmps17
  go_wp2_with (first | (go_at_call 25; refine (access_calls _ _).mono ?_; rintro e w' ⟨rfl, rfl⟩) | (go_at_call 26; refine (mutex_calls _ _).mono ?_; rintro e w' ⟨rfl, rfl⟩) | (go_at_call 27; refine (half_calls _ _ _ _ _ _ _ _ _ _ _).mono ?_; rintro e w' ⟨rfl, hb⟩; (have hc_w' := bcell hb); (have hB_w' : Below w.heap.size w w' := Below.trans (by go_grown) (hb.mono (by first | omega | (simp <;> omega)))); (have hS_w' := hb.size); (try simp at hS_w'); (have hA_w'_0 : ∀ x, x < w.heap.size + 2 → x < w'.heap.size := (fun x hx => by omega)); (have hL_w' : ∀ x, x < w.heap.size → x < w'.heap.size := (fun x hx => by omega)); (clear hb)))
  all_goals (go_ret; exact ⟨by go_tidy; first | (simp_all [rdepB]; done) | (simp_all [rdepB]; omega) | (simp_all [rdepB]; intros; subst_vars; simp_all; done) | (simp [rdepB, *]; done) | (simp [rdepB, *]; omega), by first | assumption | go_grown⟩)
end Go.Proofs.YtobhandimolmhaaDoor
