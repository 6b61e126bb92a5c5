/-
  A log: what would be bad in an action.
-/
import Derived.Test.YtadngicebbnnlaaLog
set_option linter.unusedSimpArgs false
set_option linter.unusedVariables false
namespace Go.Proofs.Ytadngicebbnnlaa
open Go.ChangeShapes Go.WideShapes Go.ChangeAt Go.RowKit Go.Deep

set_option maxHeartbeats 2000000 in
theorem bad5 {w : World} {B b : Nat} {vl va : Value} {S : LogS} (h : LogAt w B b vl va S) (t : Int) (j : Nat) (hj8 : j < 8) (c : Bool) (hc : (S.ow j != t) = c) :
    Calls Try.prog 95 #[.pointer (some ⟨b, 0, none⟩), .int .i64 t, .agg #[.int .i64 5, .int .i64 j]] w fun e w' => e = .returned (.int .i64 (if c then 2 else 0)) ∧ Below w.heap.size w w' := by
  have c2 := h.cow hj8
  clear h
  cases c
  · skip
    go_enter Try.func95, Try.ntmps95
    go_wp2_with fail
    refine wp_ext_draw 15 mixed (by kernel_rfl) ?_
    simp only [List.take_succ_cons, List.take_zero, List.drop_succ_cons, List.drop_zero]
    repeat ((first | ((apply TextRun.go rfl rfl rfl); (focus (intro w1 hS K hK; have hc := bcell hS; have hs := blt hS; have c2 := keep (Below.trans (show Below w.heap.size w _ by go_grown) (hS.mono (by first | omega | (simp <;> omega)))) c2; go_wp2_with (fail); first | done | exact hS | exact hS.trans (hb.mono hS.size)))) | (refine TextRun.skip rfl ?_) | ((refine TextRun.wantedT rfl rfl rfl ?_); (apply Exists.intro); (apply And.intro); (focus (intro w1 hS K hK; have hc := bcell hS; have hs := blt hS; have c2 := keep (Below.trans (show Below w.heap.size w _ by go_grown) (hS.mono (by first | omega | (simp <;> omega)))) c2; go_wp2_with (fail); first | done | exact hS | exact hS.trans (hb.mono hS.size))))); (simp only [Act.put, List.setIfInBounds_toArray, List.set_cons_zero, List.set_cons_succ]))
    refine TextRun.done ?_
    intro w1 hb
    have hc_w1 := bcell hb
    have hB_w1 : Below w.heap.size w w1 := Below.trans (by go_grown) (hb.mono (by first | omega | (simp <;> omega)))
    have hS_w1 := hb.size
    try simp at hS_w1
    have hA_w1_0 : ∀ x, x < w.heap.size + 1 → x < w1.heap.size := (fun x hx => by omega)
    have hL_w1 : ∀ x, x < w.heap.size → x < w1.heap.size := (fun x hx => by omega)
    clear hb
    have c2_w1 := keep hB_w1 c2
    go_wp2_with fail
    refine wp_ext_draw 15 mixed (by kernel_rfl) ?_
    simp only [List.take_succ_cons, List.take_zero, List.drop_succ_cons, List.drop_zero]
    repeat ((first | ((apply TextRun.go rfl rfl rfl); (focus (intro w1 hS K hK; have hc := bcell hS; have hs := blt hS; go_wp2_with (fail); first | done | exact hS | exact hS.trans (hb.mono hS.size)))) | (refine TextRun.skip rfl ?_) | ((refine TextRun.wantedT rfl rfl rfl ?_); (apply Exists.intro); (apply And.intro); (focus (intro w1 hS K hK; have hc := bcell hS; have hs := blt hS; go_wp2_with (fail); first | done | exact hS | exact hS.trans (hb.mono hS.size))))); (simp only [Act.put, List.setIfInBounds_toArray, List.set_cons_zero, List.set_cons_succ]))
    refine TextRun.done ?_
    intro w2 hb
    have hc_w2 := bcell hb
    have hB_w2 : Below w.heap.size w w2 := Below.trans (by go_grown) (hb.mono (by first | omega | (simp <;> omega)))
    have hS_w2 := hb.size
    try simp at hS_w2
    have hA_w2_0 : ∀ x, x < w.heap.size + 1 → x < w2.heap.size := (fun x hx => by omega)
    have hL_w2 : ∀ x, x < w.heap.size → x < w2.heap.size := (fun x hx => by omega)
    clear hb
    have c2_w2 := keep hB_w2 c2
    go_wp2_with fail
    refine wp_ext_draw 15 mixed (by kernel_rfl) ?_
    simp only [List.take_succ_cons, List.take_zero, List.drop_succ_cons, List.drop_zero]
    repeat ((first | ((apply TextRun.go rfl rfl rfl); (focus (intro w1 hS K hK; have hc := bcell hS; have hs := blt hS; go_wp2_with (fail); first | done | exact hS | exact hS.trans (hb.mono hS.size)))) | (refine TextRun.skip rfl ?_) | ((refine TextRun.wantedT rfl rfl rfl ?_); (apply Exists.intro); (apply And.intro); (focus (intro w1 hS K hK; have hc := bcell hS; have hs := blt hS; go_wp2_with (fail); first | done | exact hS | exact hS.trans (hb.mono hS.size))))); (simp only [Act.put, List.setIfInBounds_toArray, List.set_cons_zero, List.set_cons_succ]))
    refine TextRun.done ?_
    intro w3 hb
    have hc_w3 := bcell hb
    have hB_w3 : Below w.heap.size w w3 := Below.trans (by go_grown) (hb.mono (by first | omega | (simp <;> omega)))
    have hS_w3 := hb.size
    try simp at hS_w3
    have hA_w3_0 : ∀ x, x < w.heap.size + 1 → x < w3.heap.size := (fun x hx => by omega)
    have hL_w3 : ∀ x, x < w.heap.size → x < w3.heap.size := (fun x hx => by omega)
    clear hb
    have c2_w3 := keep hB_w3 c2
    go_wp2
    go_ret
    exact ⟨rfl, hB_w3⟩
  · skip
    go_enter Try.func95, Try.ntmps95
    go_wp2_with fail
    refine wp_ext_draw 15 mixed (by kernel_rfl) ?_
    simp only [List.take_succ_cons, List.take_zero, List.drop_succ_cons, List.drop_zero]
    repeat ((first | ((apply TextRun.go rfl rfl rfl); (focus (intro w1 hS K hK; have hc := bcell hS; have hs := blt hS; have c2 := keep (Below.trans (show Below w.heap.size w _ by go_grown) (hS.mono (by first | omega | (simp <;> omega)))) c2; go_wp2_with (fail); first | done | exact hS | exact hS.trans (hb.mono hS.size)))) | (refine TextRun.skip rfl ?_) | ((refine TextRun.wantedT rfl rfl rfl ?_); (apply Exists.intro); (apply And.intro); (focus (intro w1 hS K hK; have hc := bcell hS; have hs := blt hS; have c2 := keep (Below.trans (show Below w.heap.size w _ by go_grown) (hS.mono (by first | omega | (simp <;> omega)))) c2; go_wp2_with (fail); first | done | exact hS | exact hS.trans (hb.mono hS.size))))); (simp only [Act.put, List.setIfInBounds_toArray, List.set_cons_zero, List.set_cons_succ]))
    refine TextRun.done ?_
    intro w1 hb
    have hc_w1 := bcell hb
    have hB_w1 : Below w.heap.size w w1 := Below.trans (by go_grown) (hb.mono (by first | omega | (simp <;> omega)))
    have hS_w1 := hb.size
    try simp at hS_w1
    have hA_w1_0 : ∀ x, x < w.heap.size + 1 → x < w1.heap.size := (fun x hx => by omega)
    have hL_w1 : ∀ x, x < w.heap.size → x < w1.heap.size := (fun x hx => by omega)
    clear hb
    have c2_w1 := keep hB_w1 c2
    go_wp2
    go_ret
    exact ⟨rfl, hB_w1⟩
set_option maxHeartbeats 2000000 in
theorem bad6 {w : World} {B b : Nat} {vl va : Value} {S : LogS} (h : LogAt w B b vl va S) (t : Int) (j : Nat) (hj8 : j < 8) (c : Bool) (hc : (S.st j != 1) = c) :
    Calls Try.prog 95 #[.pointer (some ⟨b, 0, none⟩), .int .i64 t, .agg #[.int .i64 6, .int .i64 j]] w fun e w' => e = .returned (.int .i64 (if c then 4 else 0)) ∧ Below w.heap.size w w' := by
  have c2 := h.cst hj8
  clear h
  cases c
  · skip
    go_enter Try.func95, Try.ntmps95
    go_wp2_with fail
    refine wp_ext_draw 15 mixed (by kernel_rfl) ?_
    simp only [List.take_succ_cons, List.take_zero, List.drop_succ_cons, List.drop_zero]
    repeat ((first | ((apply TextRun.go rfl rfl rfl); (focus (intro w1 hS K hK; have hc := bcell hS; have hs := blt hS; go_wp2_with (fail); first | done | exact hS | exact hS.trans (hb.mono hS.size)))) | (refine TextRun.skip rfl ?_) | ((refine TextRun.wantedT rfl rfl rfl ?_); (apply Exists.intro); (apply And.intro); (focus (intro w1 hS K hK; have hc := bcell hS; have hs := blt hS; go_wp2_with (fail); first | done | exact hS | exact hS.trans (hb.mono hS.size))))); (simp only [Act.put, List.setIfInBounds_toArray, List.set_cons_zero, List.set_cons_succ]))
    refine TextRun.done ?_
    intro w1 hb
    have hc_w1 := bcell hb
    have hB_w1 : Below w.heap.size w w1 := Below.trans (by go_grown) (hb.mono (by first | omega | (simp <;> omega)))
    have hS_w1 := hb.size
    try simp at hS_w1
    have hA_w1_0 : ∀ x, x < w.heap.size + 1 → x < w1.heap.size := (fun x hx => by omega)
    have hL_w1 : ∀ x, x < w.heap.size → x < w1.heap.size := (fun x hx => by omega)
    clear hb
    have c2_w1 := keep hB_w1 c2
    go_wp2_with fail
    refine wp_ext_draw 15 mixed (by kernel_rfl) ?_
    simp only [List.take_succ_cons, List.take_zero, List.drop_succ_cons, List.drop_zero]
    repeat ((first | ((apply TextRun.go rfl rfl rfl); (focus (intro w1 hS K hK; have hc := bcell hS; have hs := blt hS; have c2_w1 := keep hS c2_w1; go_wp2_with (fail); first | done | exact hS | exact hS.trans (hb.mono hS.size)))) | (refine TextRun.skip rfl ?_) | ((refine TextRun.wantedT rfl rfl rfl ?_); (apply Exists.intro); (apply And.intro); (focus (intro w1 hS K hK; have hc := bcell hS; have hs := blt hS; have c2_w1 := keep hS c2_w1; go_wp2_with (fail); first | done | exact hS | exact hS.trans (hb.mono hS.size))))); (simp only [Act.put, List.setIfInBounds_toArray, List.set_cons_zero, List.set_cons_succ]))
    refine TextRun.done ?_
    intro w2 hb
    have hc_w2 := bcell hb
    have hB_w2 : Below w.heap.size w w2 := Below.trans (by go_grown) (hb.mono (by first | omega | (simp <;> omega)))
    have hS_w2 := hb.size
    try simp at hS_w2
    have hA_w2_0 : ∀ x, x < w.heap.size + 1 → x < w2.heap.size := (fun x hx => by omega)
    have hL_w2 : ∀ x, x < w.heap.size → x < w2.heap.size := (fun x hx => by omega)
    clear hb
    have c2_w2 := keep hB_w2 c2
    go_wp2_with fail
    refine wp_ext_draw 15 mixed (by kernel_rfl) ?_
    simp only [List.take_succ_cons, List.take_zero, List.drop_succ_cons, List.drop_zero]
    repeat ((first | ((apply TextRun.go rfl rfl rfl); (focus (intro w1 hS K hK; have hc := bcell hS; have hs := blt hS; go_wp2_with (fail); first | done | exact hS | exact hS.trans (hb.mono hS.size)))) | (refine TextRun.skip rfl ?_) | ((refine TextRun.wantedT rfl rfl rfl ?_); (apply Exists.intro); (apply And.intro); (focus (intro w1 hS K hK; have hc := bcell hS; have hs := blt hS; go_wp2_with (fail); first | done | exact hS | exact hS.trans (hb.mono hS.size))))); (simp only [Act.put, List.setIfInBounds_toArray, List.set_cons_zero, List.set_cons_succ]))
    refine TextRun.done ?_
    intro w3 hb
    have hc_w3 := bcell hb
    have hB_w3 : Below w.heap.size w w3 := Below.trans (by go_grown) (hb.mono (by first | omega | (simp <;> omega)))
    have hS_w3 := hb.size
    try simp at hS_w3
    have hA_w3_0 : ∀ x, x < w.heap.size + 1 → x < w3.heap.size := (fun x hx => by omega)
    have hL_w3 : ∀ x, x < w.heap.size → x < w3.heap.size := (fun x hx => by omega)
    clear hb
    have c2_w3 := keep hB_w3 c2
    go_wp2
    go_ret
    exact ⟨rfl, hB_w3⟩
  · skip
    go_enter Try.func95, Try.ntmps95
    go_wp2_with fail
    refine wp_ext_draw 15 mixed (by kernel_rfl) ?_
    simp only [List.take_succ_cons, List.take_zero, List.drop_succ_cons, List.drop_zero]
    repeat ((first | ((apply TextRun.go rfl rfl rfl); (focus (intro w1 hS K hK; have hc := bcell hS; have hs := blt hS; go_wp2_with (fail); first | done | exact hS | exact hS.trans (hb.mono hS.size)))) | (refine TextRun.skip rfl ?_) | ((refine TextRun.wantedT rfl rfl rfl ?_); (apply Exists.intro); (apply And.intro); (focus (intro w1 hS K hK; have hc := bcell hS; have hs := blt hS; go_wp2_with (fail); first | done | exact hS | exact hS.trans (hb.mono hS.size))))); (simp only [Act.put, List.setIfInBounds_toArray, List.set_cons_zero, List.set_cons_succ]))
    refine TextRun.done ?_
    intro w1 hb
    have hc_w1 := bcell hb
    have hB_w1 : Below w.heap.size w w1 := Below.trans (by go_grown) (hb.mono (by first | omega | (simp <;> omega)))
    have hS_w1 := hb.size
    try simp at hS_w1
    have hA_w1_0 : ∀ x, x < w.heap.size + 1 → x < w1.heap.size := (fun x hx => by omega)
    have hL_w1 : ∀ x, x < w.heap.size → x < w1.heap.size := (fun x hx => by omega)
    clear hb
    have c2_w1 := keep hB_w1 c2
    go_wp2_with fail
    refine wp_ext_draw 15 mixed (by kernel_rfl) ?_
    simp only [List.take_succ_cons, List.take_zero, List.drop_succ_cons, List.drop_zero]
    repeat ((first | ((apply TextRun.go rfl rfl rfl); (focus (intro w1 hS K hK; have hc := bcell hS; have hs := blt hS; have c2_w1 := keep hS c2_w1; go_wp2_with (fail); first | done | exact hS | exact hS.trans (hb.mono hS.size)))) | (refine TextRun.skip rfl ?_) | ((refine TextRun.wantedT rfl rfl rfl ?_); (apply Exists.intro); (apply And.intro); (focus (intro w1 hS K hK; have hc := bcell hS; have hs := blt hS; have c2_w1 := keep hS c2_w1; go_wp2_with (fail); first | done | exact hS | exact hS.trans (hb.mono hS.size))))); (simp only [Act.put, List.setIfInBounds_toArray, List.set_cons_zero, List.set_cons_succ]))
    refine TextRun.done ?_
    intro w2 hb
    have hc_w2 := bcell hb
    have hB_w2 : Below w.heap.size w w2 := Below.trans (by go_grown) (hb.mono (by first | omega | (simp <;> omega)))
    have hS_w2 := hb.size
    try simp at hS_w2
    have hA_w2_0 : ∀ x, x < w.heap.size + 1 → x < w2.heap.size := (fun x hx => by omega)
    have hL_w2 : ∀ x, x < w.heap.size → x < w2.heap.size := (fun x hx => by omega)
    clear hb
    have c2_w2 := keep hB_w2 c2
    go_wp2
    go_ret
    exact ⟨rfl, hB_w2⟩
set_option maxHeartbeats 2000000 in
theorem bad7 {w : World} {B b : Nat} {vl va : Value} {S : LogS} (h : LogAt w B b vl va S) (t : Int) (j : Nat) (hj8 : j < 8) (c : Bool) (hc : (S.st j == 1) = c) :
    Calls Try.prog 95 #[.pointer (some ⟨b, 0, none⟩), .int .i64 t, .agg #[.int .i64 7, .int .i64 j]] w fun e w' => e = .returned (.int .i64 (if c then 3 else 0)) ∧ Below w.heap.size w w' := by
  have c2 := h.cst hj8
  clear h
  cases c
  · skip
    go_enter Try.func95, Try.ntmps95
    go_wp2_with fail
    refine wp_ext_draw 15 mixed (by kernel_rfl) ?_
    simp only [List.take_succ_cons, List.take_zero, List.drop_succ_cons, List.drop_zero]
    repeat ((first | ((apply TextRun.go rfl rfl rfl); (focus (intro w1 hS K hK; have hc := bcell hS; have hs := blt hS; go_wp2_with (fail); first | done | exact hS | exact hS.trans (hb.mono hS.size)))) | (refine TextRun.skip rfl ?_) | ((refine TextRun.wantedT rfl rfl rfl ?_); (apply Exists.intro); (apply And.intro); (focus (intro w1 hS K hK; have hc := bcell hS; have hs := blt hS; go_wp2_with (fail); first | done | exact hS | exact hS.trans (hb.mono hS.size))))); (simp only [Act.put, List.setIfInBounds_toArray, List.set_cons_zero, List.set_cons_succ]))
    refine TextRun.done ?_
    intro w1 hb
    have hc_w1 := bcell hb
    have hB_w1 : Below w.heap.size w w1 := Below.trans (by go_grown) (hb.mono (by first | omega | (simp <;> omega)))
    have hS_w1 := hb.size
    try simp at hS_w1
    have hA_w1_0 : ∀ x, x < w.heap.size + 1 → x < w1.heap.size := (fun x hx => by omega)
    have hL_w1 : ∀ x, x < w.heap.size → x < w1.heap.size := (fun x hx => by omega)
    clear hb
    have c2_w1 := keep hB_w1 c2
    go_wp2_with fail
    refine wp_ext_draw 15 mixed (by kernel_rfl) ?_
    simp only [List.take_succ_cons, List.take_zero, List.drop_succ_cons, List.drop_zero]
    repeat ((first | ((apply TextRun.go rfl rfl rfl); (focus (intro w1 hS K hK; have hc := bcell hS; have hs := blt hS; go_wp2_with (fail); first | done | exact hS | exact hS.trans (hb.mono hS.size)))) | (refine TextRun.skip rfl ?_) | ((refine TextRun.wantedT rfl rfl rfl ?_); (apply Exists.intro); (apply And.intro); (focus (intro w1 hS K hK; have hc := bcell hS; have hs := blt hS; go_wp2_with (fail); first | done | exact hS | exact hS.trans (hb.mono hS.size))))); (simp only [Act.put, List.setIfInBounds_toArray, List.set_cons_zero, List.set_cons_succ]))
    refine TextRun.done ?_
    intro w2 hb
    have hc_w2 := bcell hb
    have hB_w2 : Below w.heap.size w w2 := Below.trans (by go_grown) (hb.mono (by first | omega | (simp <;> omega)))
    have hS_w2 := hb.size
    try simp at hS_w2
    have hA_w2_0 : ∀ x, x < w.heap.size + 1 → x < w2.heap.size := (fun x hx => by omega)
    have hL_w2 : ∀ x, x < w.heap.size → x < w2.heap.size := (fun x hx => by omega)
    clear hb
    have c2_w2 := keep hB_w2 c2
    go_wp2_with fail
    refine wp_ext_draw 15 mixed (by kernel_rfl) ?_
    simp only [List.take_succ_cons, List.take_zero, List.drop_succ_cons, List.drop_zero]
    repeat ((first | ((apply TextRun.go rfl rfl rfl); (focus (intro w1 hS K hK; have hc := bcell hS; have hs := blt hS; have c2_w2 := keep hS c2_w2; go_wp2_with (fail); first | done | exact hS | exact hS.trans (hb.mono hS.size)))) | (refine TextRun.skip rfl ?_) | ((refine TextRun.wantedT rfl rfl rfl ?_); (apply Exists.intro); (apply And.intro); (focus (intro w1 hS K hK; have hc := bcell hS; have hs := blt hS; have c2_w2 := keep hS c2_w2; go_wp2_with (fail); first | done | exact hS | exact hS.trans (hb.mono hS.size))))); (simp only [Act.put, List.setIfInBounds_toArray, List.set_cons_zero, List.set_cons_succ]))
    refine TextRun.done ?_
    intro w3 hb
    have hc_w3 := bcell hb
    have hB_w3 : Below w.heap.size w w3 := Below.trans (by go_grown) (hb.mono (by first | omega | (simp <;> omega)))
    have hS_w3 := hb.size
    try simp at hS_w3
    have hA_w3_0 : ∀ x, x < w.heap.size + 1 → x < w3.heap.size := (fun x hx => by omega)
    have hL_w3 : ∀ x, x < w.heap.size → x < w3.heap.size := (fun x hx => by omega)
    clear hb
    have c2_w3 := keep hB_w3 c2
    go_wp2
    go_ret
    exact ⟨rfl, hB_w3⟩
  · skip
    go_enter Try.func95, Try.ntmps95
    go_wp2_with fail
    refine wp_ext_draw 15 mixed (by kernel_rfl) ?_
    simp only [List.take_succ_cons, List.take_zero, List.drop_succ_cons, List.drop_zero]
    repeat ((first | ((apply TextRun.go rfl rfl rfl); (focus (intro w1 hS K hK; have hc := bcell hS; have hs := blt hS; go_wp2_with (fail); first | done | exact hS | exact hS.trans (hb.mono hS.size)))) | (refine TextRun.skip rfl ?_) | ((refine TextRun.wantedT rfl rfl rfl ?_); (apply Exists.intro); (apply And.intro); (focus (intro w1 hS K hK; have hc := bcell hS; have hs := blt hS; go_wp2_with (fail); first | done | exact hS | exact hS.trans (hb.mono hS.size))))); (simp only [Act.put, List.setIfInBounds_toArray, List.set_cons_zero, List.set_cons_succ]))
    refine TextRun.done ?_
    intro w1 hb
    have hc_w1 := bcell hb
    have hB_w1 : Below w.heap.size w w1 := Below.trans (by go_grown) (hb.mono (by first | omega | (simp <;> omega)))
    have hS_w1 := hb.size
    try simp at hS_w1
    have hA_w1_0 : ∀ x, x < w.heap.size + 1 → x < w1.heap.size := (fun x hx => by omega)
    have hL_w1 : ∀ x, x < w.heap.size → x < w1.heap.size := (fun x hx => by omega)
    clear hb
    have c2_w1 := keep hB_w1 c2
    go_wp2_with fail
    refine wp_ext_draw 15 mixed (by kernel_rfl) ?_
    simp only [List.take_succ_cons, List.take_zero, List.drop_succ_cons, List.drop_zero]
    repeat ((first | ((apply TextRun.go rfl rfl rfl); (focus (intro w1 hS K hK; have hc := bcell hS; have hs := blt hS; go_wp2_with (fail); first | done | exact hS | exact hS.trans (hb.mono hS.size)))) | (refine TextRun.skip rfl ?_) | ((refine TextRun.wantedT rfl rfl rfl ?_); (apply Exists.intro); (apply And.intro); (focus (intro w1 hS K hK; have hc := bcell hS; have hs := blt hS; go_wp2_with (fail); first | done | exact hS | exact hS.trans (hb.mono hS.size))))); (simp only [Act.put, List.setIfInBounds_toArray, List.set_cons_zero, List.set_cons_succ]))
    refine TextRun.done ?_
    intro w2 hb
    have hc_w2 := bcell hb
    have hB_w2 : Below w.heap.size w w2 := Below.trans (by go_grown) (hb.mono (by first | omega | (simp <;> omega)))
    have hS_w2 := hb.size
    try simp at hS_w2
    have hA_w2_0 : ∀ x, x < w.heap.size + 1 → x < w2.heap.size := (fun x hx => by omega)
    have hL_w2 : ∀ x, x < w.heap.size → x < w2.heap.size := (fun x hx => by omega)
    clear hb
    have c2_w2 := keep hB_w2 c2
    go_wp2_with fail
    refine wp_ext_draw 15 mixed (by kernel_rfl) ?_
    simp only [List.take_succ_cons, List.take_zero, List.drop_succ_cons, List.drop_zero]
    repeat ((first | ((apply TextRun.go rfl rfl rfl); (focus (intro w1 hS K hK; have hc := bcell hS; have hs := blt hS; have c2_w2 := keep hS c2_w2; go_wp2_with (fail); first | done | exact hS | exact hS.trans (hb.mono hS.size)))) | (refine TextRun.skip rfl ?_) | ((refine TextRun.wantedT rfl rfl rfl ?_); (apply Exists.intro); (apply And.intro); (focus (intro w1 hS K hK; have hc := bcell hS; have hs := blt hS; have c2_w2 := keep hS c2_w2; go_wp2_with (fail); first | done | exact hS | exact hS.trans (hb.mono hS.size))))); (simp only [Act.put, List.setIfInBounds_toArray, List.set_cons_zero, List.set_cons_succ]))
    refine TextRun.done ?_
    intro w3 hb
    have hc_w3 := bcell hb
    have hB_w3 : Below w.heap.size w w3 := Below.trans (by go_grown) (hb.mono (by first | omega | (simp <;> omega)))
    have hS_w3 := hb.size
    try simp at hS_w3
    have hA_w3_0 : ∀ x, x < w.heap.size + 1 → x < w3.heap.size := (fun x hx => by omega)
    have hL_w3 : ∀ x, x < w.heap.size → x < w3.heap.size := (fun x hx => by omega)
    clear hb
    have c2_w3 := keep hB_w3 c2
    go_wp2
    go_ret
    exact ⟨rfl, hB_w3⟩
set_option maxHeartbeats 2000000 in
theorem bad_no {w : World} {b : Nat} (t k o : Int) (h5 : (k == 5) = false) (h6 : (k == 6) = false) (h7 : (k == 7) = false) :
    Calls Try.prog 95 #[.pointer (some ⟨b, 0, none⟩), .int .i64 t, .agg #[.int .i64 k, .int .i64 o]] w fun e w' => e = .returned (.int .i64 0) ∧ Below w.heap.size w w' := by
  go_enter Try.func95, Try.ntmps95
  go_wp2_with fail
  refine wp_ext_draw 15 mixed (by kernel_rfl) ?_
  simp only [List.take_succ_cons, List.take_zero, List.drop_succ_cons, List.drop_zero]
  repeat ((first | ((apply TextRun.go rfl rfl rfl); (focus (intro w1 hS K hK; have hc := bcell hS; have hs := blt hS; go_wp2_with (fail); first | done | exact hS | exact hS.trans (hb.mono hS.size)))) | (refine TextRun.skip rfl ?_) | ((refine TextRun.wantedT rfl rfl rfl ?_); (apply Exists.intro); (apply And.intro); (focus (intro w1 hS K hK; have hc := bcell hS; have hs := blt hS; go_wp2_with (fail); first | done | exact hS | exact hS.trans (hb.mono hS.size))))); (simp only [Act.put, List.setIfInBounds_toArray, List.set_cons_zero, List.set_cons_succ]))
  refine TextRun.done ?_
  intro w1 hb
  have hc_w1 := bcell hb
  have hB_w1 : Below w.heap.size w w1 := Below.trans (by go_grown) (hb.mono (by first | omega | (simp <;> omega)))
  have hS_w1 := hb.size
  try simp at hS_w1
  have hA_w1_0 : ∀ x, x < w.heap.size + 1 → x < w1.heap.size := (fun x hx => by omega)
  have hL_w1 : ∀ x, x < w.heap.size → x < w1.heap.size := (fun x hx => by omega)
  clear hb
  go_wp2_with fail
  refine wp_ext_draw 15 mixed (by kernel_rfl) ?_
  simp only [List.take_succ_cons, List.take_zero, List.drop_succ_cons, List.drop_zero]
  repeat ((first | ((apply TextRun.go rfl rfl rfl); (focus (intro w1 hS K hK; have hc := bcell hS; have hs := blt hS; go_wp2_with (fail); first | done | exact hS | exact hS.trans (hb.mono hS.size)))) | (refine TextRun.skip rfl ?_) | ((refine TextRun.wantedT rfl rfl rfl ?_); (apply Exists.intro); (apply And.intro); (focus (intro w1 hS K hK; have hc := bcell hS; have hs := blt hS; go_wp2_with (fail); first | done | exact hS | exact hS.trans (hb.mono hS.size))))); (simp only [Act.put, List.setIfInBounds_toArray, List.set_cons_zero, List.set_cons_succ]))
  refine TextRun.done ?_
  intro w2 hb
  have hc_w2 := bcell hb
  have hB_w2 : Below w.heap.size w w2 := Below.trans (by go_grown) (hb.mono (by first | omega | (simp <;> omega)))
  have hS_w2 := hb.size
  try simp at hS_w2
  have hA_w2_0 : ∀ x, x < w.heap.size + 1 → x < w2.heap.size := (fun x hx => by omega)
  have hL_w2 : ∀ x, x < w.heap.size → x < w2.heap.size := (fun x hx => by omega)
  clear hb
  go_wp2_with fail
  refine wp_ext_draw 15 mixed (by kernel_rfl) ?_
  simp only [List.take_succ_cons, List.take_zero, List.drop_succ_cons, List.drop_zero]
  repeat ((first | ((apply TextRun.go rfl rfl rfl); (focus (intro w1 hS K hK; have hc := bcell hS; have hs := blt hS; go_wp2_with (fail); first | done | exact hS | exact hS.trans (hb.mono hS.size)))) | (refine TextRun.skip rfl ?_) | ((refine TextRun.wantedT rfl rfl rfl ?_); (apply Exists.intro); (apply And.intro); (focus (intro w1 hS K hK; have hc := bcell hS; have hs := blt hS; go_wp2_with (fail); first | done | exact hS | exact hS.trans (hb.mono hS.size))))); (simp only [Act.put, List.setIfInBounds_toArray, List.set_cons_zero, List.set_cons_succ]))
  refine TextRun.done ?_
  intro w3 hb
  have hc_w3 := bcell hb
  have hB_w3 : Below w.heap.size w w3 := Below.trans (by go_grown) (hb.mono (by first | omega | (simp <;> omega)))
  have hS_w3 := hb.size
  try simp at hS_w3
  have hA_w3_0 : ∀ x, x < w.heap.size + 1 → x < w3.heap.size := (fun x hx => by omega)
  have hL_w3 : ∀ x, x < w.heap.size → x < w3.heap.size := (fun x hx => by omega)
  clear hb
  go_wp2
  go_ret
  exact ⟨rfl, hB_w3⟩
theorem bad_calls {w : World} {B b : Nat} {vl va : Value} {S : LogS} (h : LogAt w B b vl va S) (t k o : Int) (ho : (k == 5 || k == 6 || k == 7) = true → inB o = true) :
    Calls Try.prog 95 #[.pointer (some ⟨b, 0, none⟩), .int .i64 t, .agg #[.int .i64 k, .int .i64 o]] w fun e w' => e = .returned (.int .i64 (badB S t k o)) ∧ Below w.heap.size w w' := by
  by_cases hk : (k == 5 || k == 6 || k == 7) = true
  · obtain ⟨o0, o8⟩ := inB_iff.1 (ho hk)
    obtain ⟨j, rfl⟩ := Int.eq_ofNat_of_zero_le o0
    have hj8 : j < 8 := by omega
    simp only [Bool.or_eq_true, beq_iff_eq] at hk
    rcases hk with (rfl | rfl) | rfl
    · have := bad5 h t j hj8 _ rfl
      simpa [badB] using this
    · have := bad6 h t j hj8 _ rfl
      simpa [badB] using this
    · have := bad7 h t j hj8 _ rfl
      simpa [badB] using this
  · have h5 : (k == 5) = false := by cases h : (k == 5) <;> simp_all
    have h6 : (k == 6) = false := by cases h : (k == 6) <;> simp_all
    have h7 : (k == 7) = false := by cases h : (k == 7) <;> simp_all
    have := bad_no (w := w) (b := b) t k o h5 h6 h7
    simpa [badB, h5, h6, h7] using this
end Go.Proofs.Ytadngicebbnnlaa
