/-
  Depends: of any two events the program's answer, and the document's.
-/
import Derived.Test.YtobhandimolmhaaDoorAbout
set_option linter.unusedSimpArgs false
set_option linter.unusedVariables false
namespace Go.Proofs.YtobhandimolmhaaDoor
open Go.ChangeShapes Go.WideShapes Go.ChangeAt Go.RowKit Go.Deep

theorem call_dep (x y : Ab) (w : World) : (callFunc x.fn #[x.body, .iface y.ty y.body]).run Tryd.prog w = .ok (.enter x.fn #[x.body, .iface y.ty y.body]) w := by
  cases x <;> kernel_rfl
attribute [go_sem] call_dep
def nameOf (o : Option TypeDesc) : String := match o with
  | some (.interface ms) => ((ms[0]?).map (fun m => m.1)).getD ""
  | _ => ""
theorem depName_of : depName = nameOf (Tryd.prog.underlying 62) := by kernel_rfl
def depAb (x y : Ab) (t t' : Int) : Bool := t == t' || x.dep y || x.starts t' || y.starts t
def dependsB (t k o t' k' o' : Int) : Bool := depAb (abOf t k o) (abOf t' k' o') t t'

set_option maxRecDepth 100000 in
set_option maxHeartbeats 8000000 in
theorem depends_ab (t k o v b t' k' o' v' b' : Int) (x y : Ab) (hx0 : abOf t k o = x) (hy0 : abOf t' k' o' = y) (w : World) :
    Calls Tryd.prog 24 #[.agg #[.int .i64 t, .int .i64 k, .int .i64 o, .int .i64 v, .int .i64 b], .agg #[.int .i64 t', .int .i64 k', .int .i64 o', .int .i64 v', .int .i64 b']] w fun e w' =>
    e = .returned (.bool (depAb x y t t')) ∧ Below w.heap.size w w' := by
  have cx : ∀ w, Calls Tryd.prog 32 #[.agg #[.int .i64 t, .int .i64 k, .int .i64 o, .int .i64 v, .int .i64 b]] w fun e w' => e = .returned (.iface x.ty x.body) ∧ Below w.heap.size w w' := fun w => by rw [← hx0]; exact of_calls _ _ _ _ _ _
  have cy : ∀ w, Calls Tryd.prog 32 #[.agg #[.int .i64 t', .int .i64 k', .int .i64 o', .int .i64 v', .int .i64 b']] w fun e w' => e = .returned (.iface y.ty y.body) ∧ Below w.heap.size w w' := fun w => by rw [← hy0]; exact of_calls _ _ _ _ _ _
  have Cx := Lib.hid cx
  have Cy := Lib.hid cy
  clear cx cy hx0 hy0
  go_enter Tryd.func24, Tryd.ntmps24
  go_wp2_with fail
  refine wp_ext_draw 6 mixed (by kernel_rfl) ?_
  simp only [List.take_succ_cons, List.take_zero, List.drop_succ_cons, List.drop_zero]
  repeat ((first | ((apply TextRun.go rfl rfl rfl); (focus (intro w1 hS K hK; have hc := bcell hS; have hs := blt hS; go_wp2_with (first | (go_at_call 32; (with_reducible refine (Cx.out _).mono ?_); rintro e w' ⟨rfl, hb⟩) | (go_at_call 32; (with_reducible refine (Cy.out _).mono ?_); rintro e w' ⟨rfl, hb⟩)); first | done | exact hS | exact hS.trans (hb.mono hS.size)))) | (refine TextRun.skip rfl ?_) | ((refine TextRun.wantedT rfl rfl rfl ?_); (apply Exists.intro); (apply And.intro); (focus (intro w1 hS K hK; have hc := bcell hS; have hs := blt hS; go_wp2_with (first | (go_at_call 32; (with_reducible refine (Cx.out _).mono ?_); rintro e w' ⟨rfl, hb⟩) | (go_at_call 32; (with_reducible refine (Cy.out _).mono ?_); rintro e w' ⟨rfl, hb⟩)); first | done | exact hS | exact hS.trans (hb.mono hS.size))))); (simp only [Act.put, List.setIfInBounds_toArray, List.set_cons_zero, List.set_cons_succ]))
  refine TextRun.done ?_
  intro w1 hb
  have hc_w1 := bcell hb
  have hB_w1 : Below w.heap.size w w1 := Below.trans (by go_grown) (hb.mono (by first | omega | (simp <;> omega)))
  have hS_w1 := hb.size
  try simp at hS_w1
  have hA_w1_0 : ∀ x, x < w.heap.size + 2 → x < w1.heap.size := (fun x hx => by omega)
  have hL_w1 : ∀ x, x < w.heap.size → x < w1.heap.size := (fun x hx => by omega)
  clear hb
  clear Cx Cy
  have hm := method_dep x
  rw [depName_of, Tryd.underlying62] at hm
  simp [nameOf] at hm
  go_wp2_with (first | (go_at_call 33; refine (starts_calls _ _ _).mono ?_; rintro e w' ⟨rfl, hb⟩; (have hc_w' := bcell hb); (have hB_w' : Below w.heap.size w w' := Below.trans (by go_grown) (hb.mono (by first | omega | (simp <;> omega)))); (have hS_w' := hb.size); (try simp at hS_w'); (have hA_w'_0 : ∀ x, x < w.heap.size + 2 → x < w'.heap.size := (fun x hx => by omega)); (have hL_w' : ∀ x, x < w.heap.size → x < w'.heap.size := (fun x hx => by omega)); (clear hb)) | ((with_reducible refine (dep_any _ _ _).mono ?_); rintro e w' ⟨rfl, hb⟩; (have hc_w' := bcell hb); (have hB_w' : Below w.heap.size w w' := Below.trans (by go_grown) (hb.mono (by first | omega | (simp <;> omega)))); (have hS_w' := hb.size); (try simp at hS_w'); (have hA_w'_0 : ∀ x, x < w.heap.size + 2 → x < w'.heap.size := (fun x hx => by omega)); (have hL_w' : ∀ x, x < w.heap.size → x < w'.heap.size := (fun x hx => by omega)); (clear hb)))
  all_goals (go_ret; exact ⟨by go_tidy; first | (simp_all [depAb]; done) | (simp_all [depAb]; omega) | (simp_all [depAb]; intros; subst_vars; simp_all; done) | (simp [depAb, *]; done) | (simp [depAb, *]; omega), by assumption⟩)

theorem depends_calls (t k o v b t' k' o' v' b' : Int) (w : World) :
    Calls Tryd.prog 24 #[.agg #[.int .i64 t, .int .i64 k, .int .i64 o, .int .i64 v, .int .i64 b], .agg #[.int .i64 t', .int .i64 k', .int .i64 o', .int .i64 v', .int .i64 b']] w fun e w' =>
    e = .returned (.bool (dependsB t k o t' k' o')) ∧ Below w.heap.size w w' :=
  depends_ab t k o v b t' k' o' v' b' _ _ rfl rfl w
end Go.Proofs.YtobhandimolmhaaDoor
