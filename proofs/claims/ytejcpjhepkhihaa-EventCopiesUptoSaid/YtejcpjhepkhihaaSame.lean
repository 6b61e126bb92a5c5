/-
  What a log knows against the document: List, Same, Last.
-/
import Derived.Test.YtejcpjhepkhihaaCanLaw
import Derived.Test.YtejcpjhepkhihaaEvRow
import Derived.Deep.RegionHeld3
import Derived.Laws.OwnMore
set_option linter.unusedSimpArgs false
set_option linter.unusedVariables false
namespace Go.Proofs.Ytejcpjhepkhihaa
open Go.ChangeShapes Go.WideShapes Go.ChangeAt Go.RowKit Go.Deep

theorem wp_append_none {P : Program} {w : World} {o : Oper} {a : Act} {K : Act → World → Prop} {Q : Exit → Act → World → Prop} (s x : Operand) (t : TypeId)
    (ho : o.op = .call { callee := .builtin .append, args := #[s, x], argTypes := #[t, t] })
    (base : Nat) (e : TypeId) (i : TypeInfo) (size : Nat) (ht : P.underlying t = some (.slice e)) (hi : P.info? e = some i)
    (v : Value) (n : Nat) (xs : List Value) (hs : a.eval s = v) (hown : w.ownsRow base e size v n xs) (hx : a.eval x = .slice none 0 0)
    (h : K (a.put o.dst v) w) : o.wp P a w K Q := by
  have hrun := run_append_owned_none (P := P) (w := w) base t o.type e i size ht hi v n xs hown
  unfold Oper.wp execOp
  simp only [ho, resolve, invoke, builtin, Sem.run_bind, Sem.run_pure, Result.andThen_ok, List.map_toArray, List.map_cons, List.map_nil, hs, hx, hrun]
  exact h
theorem evs_own {w : World} {B n : Nat} {v : Value} {l : List Ev} (h : w.ownsRow B 23 5 v n (evCells l)) (hwf : ∀ e ∈ l, e.wf) : ∃ a c, v = .slice a n c ∧ IsEvs w a n c l := by
  rcases Nat.eq_zero_or_pos n with rfl | hn
  · have hl : l = [] := by
      have h1 := h.1
      rw [evCells, flat_len Ev.vals 5 (fun _ => rfl)] at h1
      exact List.eq_nil_of_length_eq_zero (by omega)
    subst hl
    rcases h.2 with ⟨rfl, _⟩ | ⟨g, cap, cur, rfl, _, _, hnc, hcm, _⟩
    · exact ⟨none, 0, rfl, ⟨Reads.nil, rfl, Nat.le_refl _, Nat.zero_le _, fun e he => by cases he⟩⟩
    · exact ⟨_, cap, rfl, ⟨Reads.nil, rfl, hnc, hcm, fun e he => by cases he⟩⟩
  · obtain ⟨g, cap, rfl⟩ := own_slice h hn
    exact ⟨_, cap, rfl, evs_of_own h hwf⟩

def z5 : Array Value := #[.int .i64 0, .int .i64 0, .int .i64 0, .int .i64 0, .int .i64 0]
theorem run_makeEv (w : World) (n : Nat) (h8 : n * 40 ≤ 140737488355328) : (Instr.makeSlice 24 (.int .i64 0) (.int .i64 (n : Int))).run Try.prog w = .ok (.slice (some ⟨w.heap.size, 0, none⟩) 0 n) (w.alloc (.cells (madeCells z5 (n * 5)) 23)) := by
  obtain ⟨i0, hi, hz0, hz1, hz2⟩ := info_parts infoEv
  have hr := run_make (P := Try.prog) w 24 23 i0 _ Try.underlying24 hi hz0 .i64 .i64 0 n (Int.le_refl _) (by omega) (by rw [hz2]; omega) (by omega)
  simp only [Int.toNat_zero, Int.toNat_natCast, hz1] at hr
  exact hr

set_option maxHeartbeats 1000000 in
theorem llist_calls {w : World} {B b : Nat} {vl va : Value} {S : LogS} (h : LogAt w B b vl va S) (hcap : S.l.length * 40 ≤ 140737488355328) :
    Calls Try.prog 55 #[.pointer (some ⟨b, 0, none⟩)] w fun e w' => ∃ v, e = .returned v ∧ w'.ownsRow w.heap.size 23 5 v S.l.length (evCells S.l) ∧ Below w.heap.size w w' := by
  have c1 := h.cl
  have hmk : ∀ W, (Instr.makeSlice 24 (.int .i64 0) (.int .i64 (S.l.length : Int))).run Try.prog W = .ok (.slice (some ⟨W.heap.size, 0, none⟩) 0 S.l.length) (W.alloc (.cells (madeCells z5 (S.l.length * 5)) 23)) := fun W => run_makeEv W _ hcap
  obtain ⟨i0, hi, hz0, hz1, hz2⟩ := info_parts infoEv
  have Hi := Lib.hid hi
  have Hz0 := Lib.hid hz0
  have Hz1 := Lib.hid hz1
  have Hz2 := Lib.hid hz2
  have hmd : ∀ W : World, (W.alloc (.cells (madeCells z5 (S.l.length * 5)) 23)).ownsRow W.heap.size 23 5 (.slice (some ⟨W.heap.size, 0, none⟩) 0 S.l.length) 0 [] := fun W => World.ownsRow_made W _ S.l.length (Nat.le_refl _) (by unfold maxLen; omega) (by rw [size_madeCells])
  have Hmd := Lib.hid hmd
  rcases h.ev.2 with ⟨rfl, h0⟩ | ⟨g, cap, cur, rfl, _⟩
  · have hl : S.l = [] := List.eq_nil_of_length_eq_zero h0
    have Hl := Lib.hid hl
    clear hi hz0 hz1 hz2 h hl hmd
    clear hmk
    have hmk : ∀ W, (Instr.makeSlice 24 (.int .i64 0) (.int .i64 0)).run Try.prog W = .ok (.slice (some ⟨W.heap.size, 0, none⟩) 0 0) (W.alloc (.cells (madeCells z5 0) 23)) := fun W => run_makeEv W 0 (by omega)
    rw [h0] at Hmd
    clear h0
    rw [Hl.out]
    go_enter Try.func55, Try.ntmps55
    go_wp2_with fail
    refine wp_plan_draw [0, 1, 2, 3, 4, 6, 7, 8, 9] [5, 10, 11] (fun w' => w'.cell? ⟨b, 0, none⟩ = some (.slice none 0 0)) mixed (by kernel_rfl) (fun c a d v w h => by cases d <;> exact h) c1 ?_
    simp only [picks, List.map_cons, List.map_nil, List.getD_cons_zero, List.getD_cons_succ]
    repeat ((apply ReadRun.go rfl); (intro w1 hS; go_simp; first | done | exact rfl); (simp only [Act.put, List.setIfInBounds_toArray, List.set_cons_zero, List.set_cons_succ]))
    refine ReadRun.done ?_
    refine TailRun.go rfl (fun K hK => ?_)
    go_wp2_with fail
    refine ⟨keep ((Below.refl w.heap.size w).alloc (Nat.le_refl _) _).drew c1, ?_⟩
    try simp only [Act.put, List.setIfInBounds_toArray, List.set_cons_zero, List.set_cons_succ]
    refine TailRun.go rfl (fun K hK => ?_)
    refine wp_append_none (.tmp 8) (.tmp 12) 24 rfl w.heap.size 23 i0 5 Try.underlying24 Hi.out _ 0 [] rfl (Hmd.out w.drew) rfl ?_
    refine hK _ _ ⟨keep ((Below.refl w.heap.size w).drew.alloc (Nat.le_refl _) _) c1, ?_⟩
    try simp only [Act.put, List.setIfInBounds_toArray, List.set_cons_zero, List.set_cons_succ]
    refine TailRun.go rfl (fun K hK => ?_)
    go_wp2_with fail
    refine ⟨keep ((Below.refl w.heap.size w).drew.alloc (Nat.le_refl _) _) c1, ?_⟩
    refine TailRun.done ?_
    go_wp2
    go_ret
    exact ⟨_, rfl, Hmd.out w.drew, (Below.refl w.heap.size w).drew.alloc (Nat.le_refl _) _⟩
  · have hcells := h.ev.cells (g := g) rfl
    have hnews : ∀ j u, (evCells S.l)[j]? = some u → (w.drew.alloc (.cells (madeCells z5 (S.l.length * 5)) 23)).cell? ((⟨g, 0, none⟩ : Addr).add j) = some u :=
      fun j u hu => keep (W := w) ((Below.refl w.heap.size w).drew.alloc (Nat.le_refl _) (.cells (madeCells z5 (S.l.length * 5)) 23)) (hcells j u hu)
    have Hn := Lib.hid hnews
    have hnl : (evCells S.l).length = S.l.length * 5 := by rw [evCells, flat_len Ev.vals 5 (fun _ => rfl)]
    have Hnl := Lib.hid hnl
    have hco : ∀ u ∈ evCells S.l, u.oneCell' = true := by
      intro u hu
      simp only [evCells, List.mem_flatMap] at hu
      obtain ⟨e, _, he⟩ := hu
      exact vals_one e u he
    have Hco := Lib.hid hco
    clear hi hz0 hz1 hz2 h hcells hnews hnl hco hmd
    go_enter Try.func55, Try.ntmps55
    go_wp2_with fail
    refine wp_plan_draw [0, 1, 2, 3, 4, 6, 7, 8, 9] [5, 10, 11] (fun w' => w'.cell? ⟨b, 0, none⟩ = some (.slice (some ⟨g, 0, none⟩) S.l.length cap)) mixed (by kernel_rfl) (fun c a d v w h => by cases d <;> exact h) c1 ?_
    simp only [picks, List.map_cons, List.map_nil, List.getD_cons_zero, List.getD_cons_succ]
    repeat ((apply ReadRun.go rfl); (intro w1 hS; go_simp; first | done | exact rfl); (simp only [Act.put, List.setIfInBounds_toArray, List.set_cons_zero, List.set_cons_succ]))
    refine ReadRun.done ?_
    refine TailRun.go rfl (fun K hK => ?_)
    go_wp2_with fail
    refine ⟨keep ((Below.refl w.heap.size w).alloc (Nat.le_refl _) _).drew c1, ?_⟩
    try simp only [Act.put, List.setIfInBounds_toArray, List.set_cons_zero, List.set_cons_succ]
    refine TailRun.go rfl (fun K hK => ?_)
    refine wp_append_own _ (.tmp 8) (.tmp 12) 24 rfl w.heap.size 23 i0 (.agg z5) 5 40 Try.underlying24 Hi.out Hz0.out Hz1.out Hz2.out rfl (by decide) _ 0 [] rfl (Hmd.out w.drew) ⟨g, 0, none⟩ S.l.length cap (evCells S.l) rfl Hnl.out Hn.out Hco.out (by unfold maxLen; omega) (by omega) (by simp) ?_
    intro v' w' hown hg _
    have hbel : Below w.heap.size w w' := ((Below.refl w.heap.size w).drew.alloc (Nat.le_refl _) _).grown hg (by simp) (fun k hk => by cases hk; exact Nat.le_refl _)
    refine hK _ _ ⟨keep hbel c1, ?_⟩
    try simp only [Act.put, List.setIfInBounds_toArray, List.set_cons_zero, List.set_cons_succ]
    refine TailRun.go rfl (fun K hK => ?_)
    go_wp2_with fail
    refine ⟨keep hbel c1, ?_⟩
    refine TailRun.done ?_
    go_wp2
    go_ret
    exact ⟨v', rfl, by simpa using hown, hbel⟩

set_option maxHeartbeats 2000000 in
theorem rsame_calls {w : World} {a0 b0 : Option Addr} {n c d : Nat} {l : List Ev} (h : IsEvs w a0 n c l) (h' : IsEvs w b0 n d l) :
    Calls Try.prog 56 #[.slice a0 n c, .slice b0 n d] w fun e w' => e = .returned (.bool true) ∧ Below w.heap.size w w' := by
  have hnm : n ≤ 9223372036854775807 := by have := h.le; have := h.cap; unfold maxLen at *; omega
  go_enter Try.func56, Try.ntmps56
  go_wp2
  go_loopw [5] (fun v wr => ∃ k : Nat, k ≤ n ∧ v = .int .i64 k ∧ Below w.heap.size w wr) (fun v _ => n - (intOf v).toNat)
  case atStart => exact ⟨0, Nat.zero_le _, rfl, Below.refl _ _⟩
  case round =>
    obtain ⟨k, hk, rfl, hB⟩ := hrel
    by_cases hlt : k < n
    · obtain ⟨b, off, x, rfl, hx, _, c0, c1, c2, c3, c4⟩ := h.at hlt
      obtain ⟨b', off', y, rfl, hy, _, d0, d1, d2, d3, d4⟩ := h'.at hlt
      have hxy : x = y := Option.some.inj (hx.symm.trans hy)
      subst hxy
      obtain ⟨xt, xk, xo, xv, xb⟩ := x
      have c0 := keep hB c0
      have c1 := keep hB c1
      have c2 := keep hB c2
      have c3 := keep hB c3
      have c4 := keep hB c4
      have d0 := keep hB d0
      have d1 := keep hB d1
      have d2 := keep hB d2
      have d3 := keep hB d3
      have d4 := keep hB d4
      go_wp2_with fail
      refine wp_ext_draw 9 mixed (by kernel_rfl) ?_
      simp only [List.take_succ_cons, List.take_zero, List.drop_succ_cons, List.drop_zero]
      repeat ((first | ((apply TextRun.go rfl rfl rfl); (intro w1 hS K hK; have hc := bcell hS; have hs := blt hS; have c0 := keep hS c0; have c1 := keep hS c1; have c2 := keep hS c2; have c3 := keep hS c3; have c4 := keep hS c4; have d0 := keep hS d0; have d1 := keep hS d1; have d2 := keep hS d2; have d3 := keep hS d3; have d4 := keep hS d4; go_wp2_with (fail); first | exact hS | exact hS.trans (hb.mono hS.size))) | (refine TextRun.skip rfl ?_) | ((refine TextRun.wantedT rfl rfl rfl ?_); (apply Exists.intro); (apply And.intro); (intro w1 hS K hK; have hc := bcell hS; have hs := blt hS; have c0 := keep hS c0; have c1 := keep hS c1; have c2 := keep hS c2; have c3 := keep hS c3; have c4 := keep hS c4; have d0 := keep hS d0; have d1 := keep hS d1; have d2 := keep hS d2; have d3 := keep hS d3; have d4 := keep hS d4; go_wp2_with (fail); first | exact hS | exact hS.trans (hb.mono hS.size)))); (simp only [Act.put, List.setIfInBounds_toArray, List.set_cons_zero, List.set_cons_succ]))
      refine TextRun.done ?_
      intro w2 hb
      have hB2 : Below w.heap.size w w2 := hB.trans (hb.mono hB.size)
      have HB2 := Lib.hid hB2
      clear hb hB hB2 c0 c1 c2 c3 c4 d0 d1 d2 d3 d4
      go_wp2
      go_roundw
      case rel => exact ⟨k + 1, by omega, by go_num, HB2.out⟩
      case measure => simp [intOf]; omega
    · have hkn : k = n := by omega
      go_wp2
      go_ret
      exact ⟨rfl, hB⟩
end Go.Proofs.Ytejcpjhepkhihaa
