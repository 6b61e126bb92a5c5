/-
  Initials: the threads whose first event depends on nothing ahead of it; what both texts compute.
-/
import Derived.Test.YtjhlehepnhbbaaaHas
import Derived.Test.YtjhlehepnhbbaaaRdep
set_option linter.unusedSimpArgs false
set_option linter.unusedVariables false
namespace Go.Proofs.Ytjhlehepnhbbaaa
open Go.ChangeShapes Go.WideShapes Go.ChangeAt Go.RowKit Go.Deep

def initStep (l : List Ev) (k : Nat) (e : Ev) (s : Nat × Nat) : Nat × Nat :=
  if in8 e.t && !(s.1.testBit e.t.toNat) then (s.1 ||| oneN e.t, if (l.take k).any (fun o => dependsB o.t o.k o.o e.t e.k e.o) then s.2 else s.2 ||| oneN e.t) else s
def initS (l : List Ev) : Nat → Nat × Nat
  | 0 => (0, 0)
  | k + 1 => match l[k]? with
    | some e => initStep l k e (initS l k)
    | none => initS l k
theorem initS_succ {l : List Ev} {k : Nat} {e : Ev} (h : l[k]? = some e) : initS l (k + 1) = initStep l k e (initS l k) := by simp [initS, h]
theorem initStep_lt {l : List Ev} {k : Nat} {e : Ev} {s : Nat × Nat} (h : s.1 < 256 ∧ s.2 < 256) : (initStep l k e s).1 < 256 ∧ (initStep l k e s).2 < 256 := by
  unfold initStep
  split
  · refine ⟨or_lt h.1 (oneN_lt _), ?_⟩
    show (if _ then _ else _) < 256
    split
    · exact h.2
    · exact or_lt h.2 (oneN_lt _)
  · exact h
theorem initS_lt (l : List Ev) : ∀ k, (initS l k).1 < 256 ∧ (initS l k).2 < 256
  | 0 => ⟨by simp [initS], by simp [initS]⟩
  | k + 1 => by
    unfold initS
    split
    · exact initStep_lt (initS_lt l k)
    · exact initS_lt l k


def anyDep (l : List Ev) (k : Nat) (e : Ev) : Bool := (l.take k).any (fun o => dependsB o.t o.k o.o e.t e.k e.o)
theorem any_succ {l : List Ev} {j : Nat} {o e : Ev} (h : l[j]? = some o) : anyDep l (j + 1) e = (anyDep l j e || dependsB o.t o.k o.o e.t e.k e.o) := by
  unfold anyDep; rw [List.take_add_one, h, List.any_append]; simp
theorem any_mono {l : List Ev} {e : Ev} : ∀ {j k : Nat}, j ≤ k → anyDep l j e = true → anyDep l k e = true := by
  intro j k hjk h
  unfold anyDep at *
  rw [List.any_eq_true] at *
  obtain ⟨x, hx, hp⟩ := h
  exact ⟨x, (List.take_subset_take_left l hjk) hx, hp⟩
theorem step_same {l : List Ev} {k : Nat} {e : Ev} {s : Nat × Nat} (h : in8 e.t = false ∨ hasB s.1 e.t = true) : initStep l k e s = s := by
  unfold initStep
  rw [if_neg]
  unfold hasB at h
  simp only [Bool.and_eq_true, Bool.not_eq_true'] at h ⊢
  rintro ⟨h1, h2⟩
  rcases h with h | h
  · rw [h] at h1; cases h1
  · rw [h.2] at h2; cases h2
theorem step_new {l : List Ev} {k : Nat} {e : Ev} {s : Nat × Nat} (h : in8 e.t = true) (h' : hasB s.1 e.t = false) : initStep l k e s = (s.1 ||| oneN e.t, if anyDep l k e then s.2 else s.2 ||| oneN e.t) := by
  unfold initStep
  rw [if_pos]
  · rfl
  · unfold hasB at h'
    rw [h] at h' ⊢
    simpa using h'

set_option maxRecDepth 100000 in
set_option maxHeartbeats 8000000 in
theorem init_calls {w : World} {a0 : Option Addr} {n c : Nat} {l : List Ev} (h : IsEvs w a0 n c l) :
    Calls Try.prog 63 #[.slice a0 n c] w fun e w' => e = .returned (.int .u64 ((initS l n).2 : Nat)) ∧ Below w.heap.size w w' := by
  have hn : n ≤ 9223372036854775807 := by have h1 := h.le; have h2 := h.cap; unfold maxLen at h2; omega
  have hl := h.len
  go_enter Try.func63, Try.ntmps63
  go_wp2
  go_step3
  go_wp2
  go_step3
  go_wp2
  go_loopg [3, 4, 11] n (fun g m o i wr => ∃ k : Nat, k + g = n ∧ m = .int .u64 ((initS l k).1 : Nat) ∧ o = .int .u64 ((initS l k).2 : Nat) ∧ i = .int .i64 k ∧ Below w.heap.size w wr)
  case atStart => exact ⟨0, by omega, rfl, rfl, rfl, Below.refl _ _⟩
  case round =>
    obtain ⟨k, hkg, rfl, rfl, rfl, hB⟩ := hrel
    cases gk with
    | zero =>
      obtain rfl : k = n := by omega
      go_wp2
      rw [Exit.noGoto_ret]
      go_ret
      exact ⟨rfl, hB⟩
    | succ g =>
      have hkn : k < n := by omega
      obtain ⟨b, off, e, rfl, he, hew, c0, c1, c2, c3, c4⟩ := h.at hkn
      have c0 := keep hB c0
      have c1 := keep hB c1
      have c2 := keep hB c2
      have c3 := keep hB c3
      have c4 := keep hB c4
      have Hs := Lib.hid (initS_succ he)
      have hm := (initS_lt l k).1
      have ho := (initS_lt l k).2
      cases hh : hasB (initS l k).1 e.t
      · cases hi : in8 e.t
        · have Hq : Hid (initS l (k + 1) = initS l k) := by unfold Hid; rw [Hs.out, step_same (.inl hi)]
          have ho8 : e.t < 0 ∨ 8 ≤ e.t := by
            unfold in8 at hi; simp only [Bool.and_eq_false_iff, decide_eq_false_iff_not] at hi; omega
          clear hi
          rcases ho8 with h0 | h0
          all_goals
            go_wp2_with (go_at_call 89; refine (has_calls _ hm _).mono ?_; rintro e w' ⟨rfl, rfl⟩; rw [hh])
            go_roundg g
            case measure => omega
            case rel => exact ⟨k + 1, by omega, by rw [Hq.out], by rw [Hq.out], rfl, by go_grown; exact hB.size⟩
        · have Hq : Hid (initS l (k + 1) = ((initS l k).1 ||| oneN e.t, if anyDep l k e then (initS l k).2 else (initS l k).2 ||| oneN e.t)) := by unfold Hid; rw [Hs.out, step_new hi hh]
          obtain ⟨t0, t8⟩ : 0 ≤ e.t ∧ e.t < 8 := by
            unfold in8 at hi; simpa using hi
          clear hi
          have hkc : k ≤ c := by have := h.le; omega
          have Hh := Lib.hid h
          clear h
          go_wp2_with (first | (go_at_call 89; refine (has_calls _ hm _).mono ?_; rintro e w' ⟨rfl, rfl⟩; rw [hh]) | (go_at_call 90; refine (put_calls _ hm _).mono ?_; rintro e w' ⟨rfl, rfl⟩))
          clear c0 c1 c2 c3 c4
          rename World => wo
          go_loopg [38] k (fun g2 s wy => ∃ j : Nat, j + g2 = k ∧ s = .int .i64 j ∧ Hid (anyDep l j e = false) ∧ Below (wo.heap.size + 1) (wo.alloc (.cells #[.int .i64 e.t, .int .i64 e.k, .int .i64 e.o, .int .i64 e.v, .int .i64 e.b] 36)) wy)
          case atStart => exact ⟨0, by omega, rfl, by unfold Hid anyDep; rfl, Below.refl _ _⟩
          case round =>
            obtain ⟨j, hjg, rfl, HA, hy⟩ := hrel
            have d0 := (hy.cell (p := ⟨wo.heap.size, 0, none⟩) (Nat.lt_succ_self _)).trans (cell_alloc ..)
            have d1 := (hy.cell (p := ⟨wo.heap.size, 1, none⟩) (Nat.lt_succ_self _)).trans (cell_alloc ..)
            have d2 := (hy.cell (p := ⟨wo.heap.size, 2, none⟩) (Nat.lt_succ_self _)).trans (cell_alloc ..)
            have d3 := (hy.cell (p := ⟨wo.heap.size, 3, none⟩) (Nat.lt_succ_self _)).trans (cell_alloc ..)
            have d4 := (hy.cell (p := ⟨wo.heap.size, 4, none⟩) (Nat.lt_succ_self _)).trans (cell_alloc ..)
            have hB2 : Below w.heap.size w wr := (hB.alloc hB.size _).trans (hy.mono (by have := hB.size; omega))
            have hws : wo.heap.size < wr.heap.size := by have := hy.size; simp at this; omega
            have Hy := Lib.hid hy
            clear hy
            cases gk with
            | zero =>
              obtain rfl : j = k := by omega
              have Hr : Hid (initS l (j + 1) = ((initS l j).1 ||| oneN e.t, (initS l j).2 ||| oneN e.t)) := by unfold Hid; rw [Hq.out, HA.out]; rfl
              go_wp2_with (go_at_call 90; refine (put_calls _ ho _).mono ?_; rintro e w' ⟨rfl, rfl⟩)
              go_roundg g
              case measure => omega
              case rel => exact ⟨j + 1, by omega, by rw [Hr.out], by rw [Hr.out], rfl, hB2⟩
            | succ gj =>
              have hjk : j < k := by omega
              obtain ⟨b', off', o, hb', hj, _, x0, x1, x2, x3, x4⟩ := Hh.out.at (show j < n by omega)
              cases hb'
              have x0 := keep hB2 x0
              have x1 := keep hB2 x1
              have x2 := keep hB2 x2
              have x3 := keep hB2 x3
              have x4 := keep hB2 x4
              have Hn := Lib.hid (any_succ (e := e) hj)
              cases hd : dependsB o.t o.k o.o e.t e.k e.o
              · have Hn2 : Hid (anyDep l (j + 1) e = false) := by unfold Hid; rw [Hn.out, HA.out, hd]; rfl
                go_wp2_with (go_at_call 45; refine (depends_calls _ _ _ _ _ _ _ _ _ _ _).mono ?_; rintro e' w3 ⟨rfl, hb⟩; rw [hd])
                go_roundg gj
                case measure => omega
                case rel => exact ⟨j + 1, by omega, by go_num, Hn2, (Hy.out.alloc (by omega) _).trans (hb.mono (by simp; omega))⟩
              · have Hn2 : Hid (anyDep l k e = true) := by unfold Hid; exact any_mono (show j + 1 ≤ k by omega) (by rw [Hn.out, hd]; simp)
                have Hr : Hid (initS l (k + 1) = ((initS l k).1 ||| oneN e.t, (initS l k).2)) := by unfold Hid; rw [Hq.out, Hn2.out]; rfl
                go_wp2_with (go_at_call 45; refine (depends_calls _ _ _ _ _ _ _ _ _ _ _).mono ?_; rintro e' w3 ⟨rfl, hb⟩; rw [hd])
                go_roundg g
                case measure => omega
                case rel => exact ⟨k + 1, by omega, by rw [Hr.out], by rw [Hr.out], rfl, (hB2.alloc hB2.size _).trans (hb.mono (by simp; have := hB2.size; omega))⟩
      · have Hq : Hid (initS l (k + 1) = initS l k) := by unfold Hid; rw [Hs.out, step_same (.inr hh)]
        go_wp2_with (go_at_call 89; refine (has_calls _ hm _).mono ?_; rintro e w' ⟨rfl, rfl⟩; rw [hh])
        go_roundg g
        case measure => omega
        case rel => exact ⟨k + 1, by omega, by rw [Hq.out], by rw [Hq.out], rfl, by go_grown; exact hB.size⟩


def ev1 : Ev := ⟨1, 1, 0, 0, 0⟩
theorem one_ev (w : World) : IsEvs (w.alloc (.cells #[.int .i64 1, .int .i64 1, .int .i64 0, .int .i64 0, .int .i64 0] 36)) (some ⟨w.heap.size, 0, none⟩) 1 1 [ev1] := by
  have h := (MapKept.heap_alloc w (.cells #[.int .i64 1, .int .i64 1, .int .i64 0, .int .i64 0, .int .i64 0] 36)).1
  refine ⟨⟨rfl, fun _ => ⟨w.heap.size, 0, rfl, fun j u hu => ?_⟩⟩, rfl, Nat.le_refl _, by unfold maxLen; omega, fun x hx => ?_⟩
  · rw [cell_blk h, Nat.zero_add]
    have hj : j < 5 := by
      have := (List.getElem?_eq_some_iff.1 hu).1
      exact this
    obtain rfl | rfl | rfl | rfl | rfl : j = 0 ∨ j = 1 ∨ j = 2 ∨ j = 3 ∨ j = 4 := by omega
    all_goals exact hu
  · simp only [List.mem_cons, List.not_mem_nil, or_false] at hx
    subst hx
    exact ⟨Fit.of (by decide) (by decide), Fit.of (by decide) (by decide), Fit.of (by decide) (by decide), Fit.of (by decide) (by decide), Fit.of (by decide) (by decide)⟩

set_option maxHeartbeats 1000000 in
theorem awake19_calls (w : World) : Calls Try.prog 32 #[] w fun e w' => e = .returned (.bool true) ∧ Below w.heap.size w w' := by
  have e1 : (initS [ev1] 1).2 = 2 := by decide
  have ht := Lib.hid (one_ev w)
  have H1 := Lib.hid e1
  clear e1
  go_enter Try.func32, Try.ntmps32
  go_wp2_with fail
  refine (init_calls ht.out).mono ?_
  rintro e w1 ⟨rfl, hb⟩
  rw [H1.out]
  have hB_w1 : Below w.heap.size w w1 := Below.trans ((Below.refl _ _).alloc (Nat.le_refl _) _) (hb.mono (by simp))
  clear hb
  go_wp2
  go_ret
  exact ⟨rfl, hB_w1⟩

end Go.Proofs.Ytjhlehepnhbbaaa
