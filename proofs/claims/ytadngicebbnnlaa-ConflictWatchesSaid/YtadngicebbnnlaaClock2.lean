/-
  Clocks: the other functions.
-/
import Derived.Test.YtadngicebbnnlaaClock
import Derived.Deep.RegionHeld3
set_option linter.unusedSimpArgs false
set_option linter.unusedVariables false
namespace Go.Proofs.Ytadngicebbnnlaa
open Go.ChangeShapes Go.WideShapes Go.ChangeAt Go.RowKit Go.Deep

theorem run_make0 (w : World) (n : Nat) (h8 : n ≤ 8) : (Instr.makeSlice 54 (.int .i64 0) (.int .i64 (n : Int))).run Try.prog w = .ok (.slice (some ⟨w.heap.size, 0, none⟩) 0 n) (w.alloc (.cells (madeCells #[.int .i64 0] n) 3)) := by
  obtain ⟨i0, hi, hz0, hz1, hz2⟩ := info_parts infoInt
  have hr := run_make (P := Try.prog) w 54 3 i0 (.int .i64 0) Try.underlying54 hi hz0 .i64 .i64 0 n (Int.le_refl _) (by omega) (by rw [hz2]; omega) (by omega)
  simp only [Int.toNat_zero, Int.toNat_natCast, hz1, Nat.mul_one] at hr
  exact hr
set_option maxHeartbeats 1000000 in
theorem list_calls {w : World} {b g : Nat} {l : List Int} (h : ClockAt w b g l) :
    Calls Try.prog 75 #[.pointer (some ⟨b, 0, none⟩)] w fun e w' => ∃ v, e = .returned v ∧ w'.ownsRow w.heap.size 3 1 v l.length (l.map (Value.int .i64)) ∧ Below w.heap.size w w' := by
  obtain ⟨cap, c1, hle, hm⟩ := h.head
  have h8 := h.le
  have hmk : ∀ W, (Instr.makeSlice 54 (.int .i64 0) (.int .i64 (l.length : Int))).run Try.prog W = .ok (.slice (some ⟨W.heap.size, 0, none⟩) 0 l.length) (W.alloc (.cells (madeCells #[.int .i64 0] l.length) 3)) := fun W => run_make0 W l.length (by omega)
  obtain ⟨i0, hi, hz0, hz1, hz2⟩ := info_parts infoInt
  have Hi := Lib.hid hi
  have Hz0 := Lib.hid hz0
  have Hz1 := Lib.hid hz1
  have Hz2 := Lib.hid hz2
  have hnews : ∀ j u, (l.map (Value.int .i64))[j]? = some u → (w.drew.alloc (.cells (madeCells #[.int .i64 0] l.length) 3)).cell? ((⟨g, 0, none⟩ : Addr).add j) = some u := by
    intro j u hu
    rw [List.getElem?_map] at hu
    cases hj : l[j]? with
    | none => rw [hj] at hu; cases hu
    | some x =>
      rw [hj] at hu; cases hu
      have h3 := keep (W := w) ((Below.refl w.heap.size w).drew.alloc (Nat.le_refl _) (.cells (madeCells #[.int .i64 0] l.length) 3)) (h.at hj)
      unfold Addr.add
      split
      · rename_i h0; subst h0; exact h3
      · rw [Nat.zero_add]; exact h3
  have Hn := Lib.hid hnews
  clear hnews hi hz0 hz1 hz2 h
  go_enter Try.func75, Try.ntmps75
  go_wp2_with fail
  refine wp_plan_draw [0, 1, 2, 3, 4, 6, 7, 8, 9] [5, 10, 11] (fun w' => w'.cell? ⟨b, 0, none⟩ = some (.slice (some ⟨g, 0, none⟩) l.length cap)) mixed (by kernel_rfl) (fun c a d v w h => by cases d <;> exact h) c1 ?_
  simp only [picks, List.map_cons, List.map_nil, List.getD_cons_zero, List.getD_cons_succ]
  repeat ((apply ReadRun.go rfl); (intro w1 hS; go_simp; first | done | exact rfl); (simp only [Act.put, List.setIfInBounds_toArray, List.set_cons_zero, List.set_cons_succ]))
  refine ReadRun.done ?_
  refine TailRun.go rfl (fun K hK => ?_)
  go_wp2_with fail
  refine ⟨keep ((Below.refl w.heap.size w).alloc (Nat.le_refl _) _).drew c1, ?_⟩
  try simp only [Act.put, List.setIfInBounds_toArray, List.set_cons_zero, List.set_cons_succ]
  refine TailRun.go rfl (fun K hK => ?_)
  refine wp_append_own _ (.tmp 8) (.tmp 12) 54 rfl w.heap.size 3 i0 (.int .i64 0) 1 8 Try.underlying54 Hi.out Hz0.out Hz1.out Hz2.out rfl (by decide) _ 0 [] rfl (World.ownsRow_made w.drew _ l.length (Nat.le_refl _) (by unfold maxLen; omega) (by rw [size_madeCells]; omega)) ⟨g, 0, none⟩ l.length cap (l.map (Value.int .i64)) rfl (by simp) Hn.out (by simp [Value.oneCell']) (by unfold maxLen; omega) (by omega) (by simp) ?_
  intro v' w' hown hg _
  have hbel : Below w.heap.size w w' := ((Below.refl w.heap.size w).drew.alloc (Nat.le_refl _) _).grown hg (by simp) (fun k hk => by cases hk; exact Nat.le_refl _)
  refine hK _ _ ⟨keep hbel c1, ?_⟩
  try simp only [Act.put, List.setIfInBounds_toArray, List.set_cons_zero, List.set_cons_succ]
  refine TailRun.go rfl (fun K hK => ?_)
  go_wp2_with fail
  refine ⟨keep hbel c1, ?_⟩
  refine TailRun.done ?_
  go_wp2
  go_ret
  exact ⟨v', rfl, by simpa using hown, hbel⟩

/-! Leq. -/
def leqUpto (l o : List Int) (k : Nat) : Prop := ∀ j, j < k → l.getD j 0 ≤ o.getD j 0
instance (l o : List Int) (k : Nat) : Decidable (leqUpto l o k) := by unfold leqUpto; infer_instance
def leqB (l o : List Int) : Bool := decide (l.length = o.length) && decide (leqUpto l o l.length)
theorem leqUpto_succ {l o : List Int} {k : Nat} {x y : Int} (hx : l[k]? = some x) (hy : o[k]? = some y) (h : leqUpto l o k) (hxy : x ≤ y) : leqUpto l o (k + 1) := by
  intro j hj
  rcases Nat.lt_or_ge j k with h' | h'
  · exact h j h'
  · have : j = k := by omega
    subst this
    simp [List.getD, hx, hy, hxy]
theorem leq_false {l o : List Int} {k : Nat} {x y : Int} (hx : l[k]? = some x) (hy : o[k]? = some y) (hxy : y < x) : leqB l o = false := by
  unfold leqB
  have : ¬ leqUpto l o l.length := by
    intro h
    have h1 := h k (List.getElem?_eq_some_iff.1 hx).1
    simp [List.getD, hx, hy] at h1
    omega
  simp [this]
theorem leq_true {l o : List Int} {k : Nat} (hl : l.length = o.length) (hk : k = l.length) (h : leqUpto l o k) : leqB l o = true := by
  subst hk; simp [leqB, hl]; rw [← hl]; exact h
theorem leq_len {l o : List Int} (h : l.length ≠ o.length) : leqB l o = false := by simp [leqB, h]

/-! At, Covers. -/
def atS (l : List Int) (t : Int) : Int := if decide (0 ≤ t) && decide (t < l.length) then l.getD t.toNat 0 else 0
def coversS (l : List Int) (t n : Int) : Bool := decide (1 ≤ n) && decide (n ≤ atS l t)
end Go.Proofs.Ytadngicebbnnlaa
