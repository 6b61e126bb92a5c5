/-
  Clash: of any two events the program's answer is the document's, either way round; proved for every input, no condition.
-/
import Derived.Test.YtejcpjhepkhihaaData
import Derived.WalkKit
import Derived.WalkSpells
import Derived.WalkLawsBesides
import Derived.Handy
import Derived.Lib.Hide
namespace Go.Proofs.Ytejcpjhepkhihaa
open Go.ChangeShapes Go.WideShapes Go.ChangeAt Go.RowKit Go.Deep

def plainB (k : Int) : Bool := k == 1 || k == 2
def clashB (t k o t' k' o' : Int) : Bool := plainB k && plainB k' && (k == 2 || k' == 2) && o == o' && t != t'

theorem clashB_symm (t k o t' k' o' : Int) : clashB t k o t' k' o' = clashB t' k' o' t k o := by
  unfold clashB
  rw [Bool.eq_iff_iff]
  simp only [Bool.and_eq_true, Bool.or_eq_true, beq_iff_eq, bne_iff_ne]
  constructor
  · rintro ⟨⟨⟨⟨a, b⟩, c⟩, d⟩, e⟩; exact ⟨⟨⟨⟨b, a⟩, c.symm⟩, d.symm⟩, fun h => e h.symm⟩
  · rintro ⟨⟨⟨⟨a, b⟩, c⟩, d⟩, e⟩; exact ⟨⟨⟨⟨b, a⟩, c.symm⟩, d.symm⟩, fun h => e h.symm⟩

theorem plain_calls (k : Int) (w : World) : Calls Try.prog 42 #[.int .i64 k] w fun e w' => e = .returned (.bool (plainB k)) ∧ w = w' := by
  go_enter Try.func42, Try.ntmps42
  go_wp2
  all_goals (go_ret; exact ⟨by simp [plainB, *], rfl⟩)
theorem rplain_calls (k : Int) (w : World) : Calls Try.prog 43 #[.int .i64 k] w fun e w' => e = .returned (.bool (plainB k)) ∧ w = w' := by
  go_enter Try.func43, Try.ntmps43
  go_wp2
  all_goals (go_ret; exact ⟨by simp [plainB, *], rfl⟩)

set_option maxHeartbeats 4000000 in
theorem clash_calls (t k o v b t' k' o' v' b' : Int) (w : World) : Calls Try.prog 16 #[.agg #[.int .i64 t, .int .i64 k, .int .i64 o, .int .i64 v, .int .i64 b], .agg #[.int .i64 t', .int .i64 k', .int .i64 o', .int .i64 v', .int .i64 b']] w fun e w' =>
    e = .returned (.bool (clashB t k o t' k' o')) ∧ Below w.heap.size w w' := by
  go_enter Try.func16, Try.ntmps16
  go_wp2_with (go_at_call 42; refine (plain_calls _ _).mono ?_; rintro e w' ⟨rfl, rfl⟩)
  all_goals (go_ret; exact ⟨by first | (simp [clashB, *]; done) | (simp [clashB, *]; simp [plainB]), by go_grown⟩)
set_option maxHeartbeats 4000000 in
theorem rclash_calls (t k o v b t' k' o' v' b' : Int) (w : World) : Calls Try.prog 17 #[.agg #[.int .i64 t, .int .i64 k, .int .i64 o, .int .i64 v, .int .i64 b], .agg #[.int .i64 t', .int .i64 k', .int .i64 o', .int .i64 v', .int .i64 b']] w fun e w' =>
    e = .returned (.bool (clashB t k o t' k' o')) ∧ Below w.heap.size w w' := by
  go_enter Try.func17, Try.ntmps17
  go_wp2_with (go_at_call 43; refine (rplain_calls _ _).mono ?_; rintro e w' ⟨rfl, rfl⟩)
  all_goals (go_ret; exact ⟨by first | (simp [clashB, *]; done) | (simp [clashB, *]; simp [plainB]), by go_grown⟩)

theorem pair_calls (w : World) : Calls Try.prog 15 #[] w fun e w' => e = .returned (.slice (some ⟨w.heap.size, 0, none⟩) 3 3) ∧
    w.alloc (.cells #[.int .i64 0, .int .i64 6, .int .i64 1, .int .i64 0, .int .i64 0, .int .i64 1, .int .i64 2, .int .i64 0, .int .i64 0, .int .i64 0, .int .i64 0, .int .i64 1, .int .i64 0, .int .i64 0, .int .i64 0] 23) = w' := by
  go_enter Try.func15, Try.ntmps15
  go_wp2
  go_ret
  exact ⟨rfl, rfl⟩


set_option maxHeartbeats 4000000 in
theorem clash_law (t k o v b t' k' o' v' b' : Int) (w : World) : Calls Try.prog 3 #[.agg #[.int .i64 t, .int .i64 k, .int .i64 o, .int .i64 v, .int .i64 b], .agg #[.int .i64 t', .int .i64 k', .int .i64 o', .int .i64 v', .int .i64 b']] w fun e w' =>
    e = .returned (.bool true) ∧ Below w.heap.size w w' := by
  have hsym := clashB_symm t k o t' k' o'
  have H := Lib.hid hsym
  clear hsym
  go_enter Try.func3, Try.ntmps3
  go_wp2_with (go_at_call 15; refine (pair_calls _).mono ?_; rintro e w' ⟨rfl, rfl⟩)
  refine wp_ext_draw 8 mixed (by kernel_rfl) ?_
  simp only [List.take_succ_cons, List.take_zero, List.drop_succ_cons, List.drop_zero]
  repeat ((apply TextRun.go rfl rfl rfl); (intro w1 hS K hK; have hc := bcell hS; have hs := blt hS; go_wp2_with (go_at_call 16; refine (clash_calls _ _ _ _ _ _ _ _ _ _ _).mono ?_; rintro e w' ⟨rfl, hb⟩); first | exact hS | exact hS.trans (hb.mono hS.size)); (simp only [Act.put, List.setIfInBounds_toArray, List.set_cons_zero, List.set_cons_succ]))
  refine TextRun.done ?_
  intro w1 hb
  have hc_w1 := bcell hb
  have hB_w1 : Below w.heap.size w w1 := Below.trans (by go_grown) (hb.mono (by first | omega | (simp only [World.size_alloc, World.size_drew, World.size_setCell]; omega)))
  have hS_w1 := hb.size
  try simp only [World.size_alloc, World.size_drew, World.size_setCell] at hS_w1
  have hA_w1_0 : ∀ x, x < w.heap.size + 3 → x < w1.heap.size := (fun x hx => by omega)
  have hL_w1 : ∀ x, x < w.heap.size → x < w1.heap.size := (fun x hx => by omega)
  clear hb
  go_wp2_with fail
  refine (clash_calls _ _ _ _ _ _ _ _ _ _ _).mono ?_
  rintro e w2 ⟨rfl, hb⟩
  have hc_w2 := bcell hb
  have hB_w2 : Below w.heap.size w w2 := Below.trans (by go_grown) (hb.mono (by first | omega | (simp only [World.size_alloc, World.size_drew, World.size_setCell]; omega)))
  have hS_w2 := hb.size
  try simp only [World.size_alloc, World.size_drew, World.size_setCell] at hS_w2
  have hA_w2_0 : ∀ x, x < w.heap.size + 3 → x < w2.heap.size := (fun x hx => by omega)
  have hL_w2 : ∀ x, x < w.heap.size → x < w2.heap.size := (fun x hx => by omega)
  clear hb
  go_wp2_with fail
  refine (clash_calls _ _ _ _ _ _ _ _ _ _ _).mono ?_
  rintro e w3 ⟨rfl, hb⟩
  have hc_w3 := bcell hb
  have hB_w3 : Below w.heap.size w w3 := Below.trans (by go_grown) (hb.mono (by first | omega | (simp only [World.size_alloc, World.size_drew, World.size_setCell]; omega)))
  have hS_w3 := hb.size
  try simp only [World.size_alloc, World.size_drew, World.size_setCell] at hS_w3
  have hA_w3_0 : ∀ x, x < w.heap.size + 3 → x < w3.heap.size := (fun x hx => by omega)
  have hL_w3 : ∀ x, x < w.heap.size → x < w3.heap.size := (fun x hx => by omega)
  clear hb
  go_wp2_with fail
  refine (rclash_calls _ _ _ _ _ _ _ _ _ _ _).mono ?_
  rintro e w4 ⟨rfl, hb⟩
  have hc_w4 := bcell hb
  have hB_w4 : Below w.heap.size w w4 := Below.trans (by go_grown) (hb.mono (by first | omega | (simp only [World.size_alloc, World.size_drew, World.size_setCell]; omega)))
  have hS_w4 := hb.size
  try simp only [World.size_alloc, World.size_drew, World.size_setCell] at hS_w4
  have hA_w4_0 : ∀ x, x < w.heap.size + 3 → x < w4.heap.size := (fun x hx => by omega)
  have hL_w4 : ∀ x, x < w.heap.size → x < w4.heap.size := (fun x hx => by omega)
  clear hb
  go_wp2_with fail


  go_ret
  exact ⟨by simp [H.out], hB_w4⟩

theorem clash_law' (a c : Ev) (w : World) : Calls Try.prog 3 #[.agg #[.int .i64 a.t, .int .i64 a.k, .int .i64 a.o, .int .i64 a.v, .int .i64 a.b], .agg #[.int .i64 c.t, .int .i64 c.k, .int .i64 c.o, .int .i64 c.v, .int .i64 c.b]] w fun e w' =>
    e = .returned (.bool true) ∧ Below w.heap.size w w' := clash_law _ _ _ _ _ _ _ _ _ _ w

set_option maxRecDepth 100000 in
theorem conflictClash_lifted (os : Os) (started : os.Started) (H : Type) (enc : TypeId × Value → H) :
    ReturnsInHanded {} Try.checked os 3 .any (Rows.conflictClashSpec.pre6 enc Try.prog Try.f3 Rows.conflictClashRow.domain false) (Rows.conflictClashSpec.post enc Try.prog Try.f3 false true false false) := by
  refine returnsInHanded_of_change (C := Try.checked) own started (by kernel_rfl) Try.func3
    (ChangeSpec.witness6 (enc := enc) (C := Try.checked) false ⟨#[], #[.agg #[.int .i64 0, .int .i64 0, .int .i64 0, .int .i64 0, .int .i64 0], .agg #[.int .i64 0, .int .i64 0, .int .i64 0, .int .i64 0, .int .i64 0]], []⟩ 8 (by kernel_rfl) (by kernel_rfl) (by kernel_rfl) (by kernel_rfl)) ?_
  intro W base args ds gs before hval0 hW hcnd _
  have hval : ∀ (j : Nat) t v, Try.f3.params[j]? = some t → args[j]? = some v → Value.okWide Try.prog W .any base t v := hval0
  have hW' := hW
  obtain ⟨p, q, hA0, hV, rfl, hfz, hnd⟩ := hW
  have hA : DataW.TrodAll enc Try.prog W 0 (fun _ => true) true Try.f3.params.toList args.toList ds p := hA0
  have hA1 := hA
  rw [Try.params3] at hA hval
  obtain ⟨v0, vs0, d0, ds0, p0, q0, hargs, rfl, rfl, h0, r0⟩ := trodAll_cons hA
  obtain ⟨v1, vs1, d1, ds1, p1, q1, rfl, rfl, rfl, h1, r1⟩ := trodAll_cons r0
  obtain ⟨rfl, rfl, rfl⟩ := trodAll_nil r1
  obtain rfl : args = #[v0, v1] := by cases args; simp_all
  obtain ⟨rfl, rfl⟩ := trodVars_none hV
  obtain ⟨x0, rfl, wf0⟩ := open_ev (hval 0 23 v0 rfl rfl) h0
  obtain ⟨x1, rfl, wf1⟩ := open_ev (hval 1 23 v1 rfl rfl) h1
  clear hA0 hval0
  refine (clash_law' x0 x1 W).mono fun e W' ⟨he, bel⟩ => ?_
  subst he
  exact ⟨_, rfl, law_post (bt := 4) hW' hA1 (by kernel_rfl) rfl Try.underlying4 rfl rfl bel⟩

theorem conflictClash_holds : Rows.ConflictClashSaid :=
  OpenClaim.holds_of_wide 3 Try.f3 rfl rfl rfl rfl rfl rfl rfl ⟨rfl, rfl, rfl, rfl, rfl⟩ rfl rfl rfl rfl rfl (by kernel_rfl) Try.func3 (by kernel_rfl)
    (of_decide_eq_true (by kernel_rfl)) (by unfold Func.isWrapper; first | (rw [if_pos (by decide +kernel)]; kernel_rfl) | (rw [if_neg (by decide +kernel)]; exact ⟨rfl, rfl⟩))
    (fun os started H enc _ => conflictClash_lifted os started H enc)
#print axioms conflictClash_holds
end Go.Proofs.Ytejcpjhepkhihaa
