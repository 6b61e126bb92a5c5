/-
  Add of a log: what is refused.
-/
import Derived.Test.YtadngicebbnnlaaLogRaw
import Derived.Test.YtadngicebbnnlaaLogBad
set_option linter.unusedSimpArgs false
set_option linter.unusedVariables false
namespace Go.Proofs.Ytadngicebbnnlaa
open Go.ChangeShapes Go.WideShapes Go.ChangeAt Go.RowKit Go.Deep

/-- What Add leaves. -/
def AddPost (B b : Nat) (vl va : Value) (S : LogS) (e : Ev) (w : World) (x : Ending) (w' : World) : Prop :=
  ∃ vl' va', x = .returned (.int .i64 (addE S e)) ∧ LogAt w' B b vl' va' (addS S e) ∧ Wrote (logR b vl va) w w' ∧ (∀ k, logR b vl' va' k → logR b vl va k ∨ w.heap.size ≤ k)

theorem AddPost.no {B b : Nat} {vl va : Value} {S : LogS} {e : Ev} {w w' : World} {z : Int} (h : LogAt w B b vl va S) (hb : Below w.heap.size w w') (hz : addE S e = z) (hs : addS S e = S) : AddPost B b vl va S e w (.returned (.int .i64 z)) w' :=
  ⟨vl, va, by rw [hz], by rw [hs]; exact h.below hb, .of_below hb, fun k hk => .inl hk⟩

set_option maxRecDepth 4000 in
set_option maxHeartbeats 2000000 in
theorem add_form {w : World} {B b : Nat} {vl va : Value} {S : LogS} (h : LogAt w B b vl va S) (e : Ev) (hr : rB e = false) :
    Calls Try.prog 70 #[.pointer (some ⟨b, 0, none⟩), .agg #[.int .i64 e.t, .int .i64 e.k, .int .i64 e.o, .int .i64 e.v, .int .i64 e.b]] w (AddPost B b vl va S e w) := by
  have hp := fun w' hb => AddPost.no (w' := w') (e := e) (z := 120) h hb (by simp [addE, hr]) (by simp [addS, hr])
  have Hp := Lib.hid hp
  clear hp h
  unfold rB at hr
  obtain ⟨t, k, o, v, x⟩ := e
  simp only at hr
  go_enter Try.func70, Try.ntmps70
  go_wp2_with fail
  refine (right_calls _ _ _ _ _ _).mono ?_
  rintro e y1 ⟨rfl, hb⟩
  have hc_y1 := bcell hb
  have hB_y1 : Below w.heap.size w y1 := Below.trans (by go_grown) (hb.mono (by first | omega | (simp <;> omega)))
  have hS_y1 := hb.size
  try simp at hS_y1
  have hA_y1_0 : ∀ x, x < w.heap.size + 1 → x < y1.heap.size := (fun x hx => by omega)
  have hL_y1 : ∀ x, x < w.heap.size → x < y1.heap.size := (fun x hx => by omega)
  clear hb
  rw [hr]
  go_wp2
  go_ret
  exact Hp.out _ hB_y1

set_option maxRecDepth 4000 in
set_option maxHeartbeats 2000000 in
theorem add_can {w : World} {B b : Nat} {vl va : Value} {S : LogS} (h : LogAt w B b vl va S) (e : Ev) (hr : rB e = true) (hn : canB S e.t e.k e.o = false) :
    Calls Try.prog 70 #[.pointer (some ⟨b, 0, none⟩), .agg #[.int .i64 e.t, .int .i64 e.k, .int .i64 e.o, .int .i64 e.v, .int .i64 e.b]] w (AddPost B b vl va S e w) := by
  have hp := fun w' hb => AddPost.no (w' := w') (e := e) (z := 121) h hb (by simp [addE, hr, okB, hn]) (by simp [addS, okB, hn])
  have Hp := Lib.hid hp
  have hC := fun w' (hb : Below w.heap.size w w') => can_calls (h.below hb) e.t e.k e.o
  rw [hn] at hC
  have HC := Lib.hid hC
  clear hp h hn hC
  unfold rB at hr
  obtain ⟨t, k, o, v, x⟩ := e
  simp only at hr
  go_enter Try.func70, Try.ntmps70
  go_wp2_with fail
  refine (right_calls _ _ _ _ _ _).mono ?_
  rintro e y1 ⟨rfl, hb⟩
  have hc_y1 := bcell hb
  have hB_y1 : Below w.heap.size w y1 := Below.trans (by go_grown) (hb.mono (by first | omega | (simp <;> omega)))
  have hS_y1 := hb.size
  try simp at hS_y1
  have hA_y1_0 : ∀ x, x < w.heap.size + 1 → x < y1.heap.size := (fun x hx => by omega)
  have hL_y1 : ∀ x, x < w.heap.size → x < y1.heap.size := (fun x hx => by omega)
  clear hb
  rw [hr]
  have e0 : y1.cell? ⟨w.heap.size, 0, none⟩ = some (.int .i64 t) := (hc_y1.1 _ _ (by simp)).trans (cell_new rfl)
  have e1 : y1.cell? ⟨w.heap.size, 1, none⟩ = some (.int .i64 k) := (hc_y1.1 _ _ (by simp)).trans (cell_new rfl)
  have e2 : y1.cell? ⟨w.heap.size, 2, none⟩ = some (.int .i64 o) := (hc_y1.1 _ _ (by simp)).trans (cell_new rfl)
  have e3 : y1.cell? ⟨w.heap.size, 3, none⟩ = some (.int .i64 v) := (hc_y1.1 _ _ (by simp)).trans (cell_new rfl)
  have e4 : y1.cell? ⟨w.heap.size, 4, none⟩ = some (.int .i64 x) := (hc_y1.1 _ _ (by simp)).trans (cell_new rfl)
  go_wp2_with fail
  refine wp_ext_draw 21 mixed (by kernel_rfl) ?_
  simp only [List.take_succ_cons, List.take_zero, List.drop_succ_cons, List.drop_zero]
  repeat ((first | ((apply TextRun.go rfl rfl rfl); (focus (intro w1 hS K hK; have hc := bcell hS; have hs := blt hS; have e0 := keep (Below.trans (show Below y1.heap.size y1 _ by go_grown) (hS.mono (by first | omega | (simp <;> omega)))) e0; have e1 := keep (Below.trans (show Below y1.heap.size y1 _ by go_grown) (hS.mono (by first | omega | (simp <;> omega)))) e1; have e2 := keep (Below.trans (show Below y1.heap.size y1 _ by go_grown) (hS.mono (by first | omega | (simp <;> omega)))) e2; have e3 := keep (Below.trans (show Below y1.heap.size y1 _ by go_grown) (hS.mono (by first | omega | (simp <;> omega)))) e3; have e4 := keep (Below.trans (show Below y1.heap.size y1 _ by go_grown) (hS.mono (by first | omega | (simp <;> omega)))) e4; go_wp2_with ((go_at_call 94; (with_reducible refine (HC.out _ (hB_y1.trans (Below.mono (Below.trans (show Below y1.heap.size y1 _ by go_grown) (hS.mono (by first | omega | (simp <;> omega)))) hB_y1.size))).mono ?_); rintro e w' ⟨rfl, hb⟩)); first | done | exact hS | exact hS.trans (hb.mono hS.size)))) | (refine TextRun.skip rfl ?_) | ((refine TextRun.wantedT rfl rfl rfl ?_); (apply Exists.intro); (apply And.intro); (focus (intro w1 hS K hK; have hc := bcell hS; have hs := blt hS; have e0 := keep (Below.trans (show Below y1.heap.size y1 _ by go_grown) (hS.mono (by first | omega | (simp <;> omega)))) e0; have e1 := keep (Below.trans (show Below y1.heap.size y1 _ by go_grown) (hS.mono (by first | omega | (simp <;> omega)))) e1; have e2 := keep (Below.trans (show Below y1.heap.size y1 _ by go_grown) (hS.mono (by first | omega | (simp <;> omega)))) e2; have e3 := keep (Below.trans (show Below y1.heap.size y1 _ by go_grown) (hS.mono (by first | omega | (simp <;> omega)))) e3; have e4 := keep (Below.trans (show Below y1.heap.size y1 _ by go_grown) (hS.mono (by first | omega | (simp <;> omega)))) e4; go_wp2_with ((go_at_call 94; (with_reducible refine (HC.out _ (hB_y1.trans (Below.mono (Below.trans (show Below y1.heap.size y1 _ by go_grown) (hS.mono (by first | omega | (simp <;> omega)))) hB_y1.size))).mono ?_); rintro e w' ⟨rfl, hb⟩)); first | done | exact hS | exact hS.trans (hb.mono hS.size))))); (simp only [Act.put, List.setIfInBounds_toArray, List.set_cons_zero, List.set_cons_succ]))
  refine TextRun.done ?_
  intro y2 hb
  have hc_y2 := bcell hb
  have hB_y2 : Below w.heap.size w y2 := Below.trans (by go_grown) (hb.mono (by first | omega | (simp <;> omega)))
  have hS_y2 := hb.size
  try simp at hS_y2
  have hA_y2_0 : ∀ x, x < w.heap.size + 1 → x < y2.heap.size := (fun x hx => by omega)
  have hL_y2 : ∀ x, x < w.heap.size → x < y2.heap.size := (fun x hx => by omega)
  clear hb
  go_wp2
  go_ret
  exact Hp.out _ hB_y2

set_option maxRecDepth 4000 in
set_option maxHeartbeats 4000000 in
theorem add_bad {w : World} {B b : Nat} {vl va : Value} {S : LogS} (h : LogAt w B b vl va S) (e : Ev) (hr : rB e = true) (hn : canB S e.t e.k e.o = true) (h8 : (e.k == 8) = false) (hx : (e.b != badB S e.t e.k e.o) = true) :
    Calls Try.prog 70 #[.pointer (some ⟨b, 0, none⟩), .agg #[.int .i64 e.t, .int .i64 e.k, .int .i64 e.o, .int .i64 e.v, .int .i64 e.b]] w (AddPost B b vl va S e w) := by
  have hxb : (e.b == badB S e.t e.k e.o) = false := by simpa [bne] using hx
  have hp := fun w' hb => AddPost.no (w' := w') (e := e) (z := 121) h hb (by simp only [addE, hr, okB, hn, h8, hxb]; rfl) (by simp only [addS, hr, okB, hn, h8, hxb]; rfl)
  have Hp := Lib.hid hp
  have hC := fun w' (hb : Below w.heap.size w w') => can_calls (h.below hb) e.t e.k e.o
  rw [hn] at hC
  have HC := Lib.hid hC
  have hD := fun w' (hb : Below w.heap.size w w') => bad_calls (h.below hb) e.t e.k e.o (fun hk => right_obj (v := e.v) (b := e.b) hr (by revert hk; simp only [Bool.or_eq_true]; rintro ((h | h) | h) <;> simp [h]))
  have HD := Lib.hid hD
  clear hp h hn hC hD hxb
  unfold rB at hr
  have h8' : (e.k != 8) = true := by rw [bne, h8]; rfl
  clear h8
  obtain ⟨t, k, o, v, x⟩ := e
  simp only at hr hx h8' HD
  generalize badB S t k o = bd at hx HD
  go_enter Try.func70, Try.ntmps70
  go_wp2_with fail
  refine (right_calls _ _ _ _ _ _).mono ?_
  rintro e y1 ⟨rfl, hb⟩
  have hc_y1 := bcell hb
  have hB_y1 : Below w.heap.size w y1 := Below.trans (by go_grown) (hb.mono (by first | omega | (simp <;> omega)))
  have hS_y1 := hb.size
  try simp at hS_y1
  have hA_y1_0 : ∀ x, x < w.heap.size + 1 → x < y1.heap.size := (fun x hx => by omega)
  have hL_y1 : ∀ x, x < w.heap.size → x < y1.heap.size := (fun x hx => by omega)
  clear hb
  rw [hr]
  have e0 : y1.cell? ⟨w.heap.size, 0, none⟩ = some (.int .i64 t) := (hc_y1.1 _ _ (by simp)).trans (cell_new rfl)
  have e1 : y1.cell? ⟨w.heap.size, 1, none⟩ = some (.int .i64 k) := (hc_y1.1 _ _ (by simp)).trans (cell_new rfl)
  have e2 : y1.cell? ⟨w.heap.size, 2, none⟩ = some (.int .i64 o) := (hc_y1.1 _ _ (by simp)).trans (cell_new rfl)
  have e3 : y1.cell? ⟨w.heap.size, 3, none⟩ = some (.int .i64 v) := (hc_y1.1 _ _ (by simp)).trans (cell_new rfl)
  have e4 : y1.cell? ⟨w.heap.size, 4, none⟩ = some (.int .i64 x) := (hc_y1.1 _ _ (by simp)).trans (cell_new rfl)
  go_wp2_with fail
  refine wp_ext_draw 21 mixed (by kernel_rfl) ?_
  simp only [List.take_succ_cons, List.take_zero, List.drop_succ_cons, List.drop_zero]
  repeat ((first | ((apply TextRun.go rfl rfl rfl); (focus (intro w1 hS K hK; have hc := bcell hS; have hs := blt hS; have e0 := keep (Below.trans (show Below y1.heap.size y1 _ by go_grown) (hS.mono (by first | omega | (simp <;> omega)))) e0; have e1 := keep (Below.trans (show Below y1.heap.size y1 _ by go_grown) (hS.mono (by first | omega | (simp <;> omega)))) e1; have e2 := keep (Below.trans (show Below y1.heap.size y1 _ by go_grown) (hS.mono (by first | omega | (simp <;> omega)))) e2; have e3 := keep (Below.trans (show Below y1.heap.size y1 _ by go_grown) (hS.mono (by first | omega | (simp <;> omega)))) e3; have e4 := keep (Below.trans (show Below y1.heap.size y1 _ by go_grown) (hS.mono (by first | omega | (simp <;> omega)))) e4; go_wp2_with (first | (go_at_call 94; (with_reducible refine (HC.out _ (hB_y1.trans (Below.mono (Below.trans (show Below y1.heap.size y1 _ by go_grown) (hS.mono (by first | omega | (simp <;> omega)))) hB_y1.size))).mono ?_); rintro e w' ⟨rfl, hb⟩) | (go_at_call 95; (with_reducible refine (HD.out _ (hB_y1.trans (Below.mono (Below.trans (show Below y1.heap.size y1 _ by go_grown) (hS.mono (by first | omega | (simp <;> omega)))) hB_y1.size))).mono ?_); rintro e w' ⟨rfl, hb⟩)); first | done | exact hS | exact hS.trans (hb.mono hS.size)))) | (refine TextRun.skip rfl ?_) | ((refine TextRun.wantedT rfl rfl rfl ?_); (apply Exists.intro); (apply And.intro); (focus (intro w1 hS K hK; have hc := bcell hS; have hs := blt hS; have e0 := keep (Below.trans (show Below y1.heap.size y1 _ by go_grown) (hS.mono (by first | omega | (simp <;> omega)))) e0; have e1 := keep (Below.trans (show Below y1.heap.size y1 _ by go_grown) (hS.mono (by first | omega | (simp <;> omega)))) e1; have e2 := keep (Below.trans (show Below y1.heap.size y1 _ by go_grown) (hS.mono (by first | omega | (simp <;> omega)))) e2; have e3 := keep (Below.trans (show Below y1.heap.size y1 _ by go_grown) (hS.mono (by first | omega | (simp <;> omega)))) e3; have e4 := keep (Below.trans (show Below y1.heap.size y1 _ by go_grown) (hS.mono (by first | omega | (simp <;> omega)))) e4; go_wp2_with (first | (go_at_call 94; (with_reducible refine (HC.out _ (hB_y1.trans (Below.mono (Below.trans (show Below y1.heap.size y1 _ by go_grown) (hS.mono (by first | omega | (simp <;> omega)))) hB_y1.size))).mono ?_); rintro e w' ⟨rfl, hb⟩) | (go_at_call 95; (with_reducible refine (HD.out _ (hB_y1.trans (Below.mono (Below.trans (show Below y1.heap.size y1 _ by go_grown) (hS.mono (by first | omega | (simp <;> omega)))) hB_y1.size))).mono ?_); rintro e w' ⟨rfl, hb⟩)); first | done | exact hS | exact hS.trans (hb.mono hS.size))))); (simp only [Act.put, List.setIfInBounds_toArray, List.set_cons_zero, List.set_cons_succ]))
  refine TextRun.done ?_
  intro y2 hb
  have hc_y2 := bcell hb
  have hB_y2 : Below w.heap.size w y2 := Below.trans (by go_grown) (hb.mono (by first | omega | (simp <;> omega)))
  have hS_y2 := hb.size
  try simp at hS_y2
  have hA_y2_0 : ∀ x, x < w.heap.size + 1 → x < y2.heap.size := (fun x hx => by omega)
  have hL_y2 : ∀ x, x < w.heap.size → x < y2.heap.size := (fun x hx => by omega)
  clear hb
  go_wp2
  go_ret
  exact Hp.out _ hB_y2
end Go.Proofs.Ytadngicebbnnlaa
