/-
  The stack of sets: New, Len, Top, Pop, Sleep, Push.
-/
import Derived.Test.YtobhandimolmhaaDoorStkO
set_option linter.unusedSimpArgs false
set_option linter.unusedVariables false
namespace Go.Proofs.YtobhandimolmhaaDoor
open Go.ChangeShapes Go.WideShapes Go.ChangeAt Go.RowKit Go.Deep

theorem heap_pair (y : World) (A B : Obj) : ((y.alloc A).alloc B).heap[y.heap.size]? = some A ∧ ((y.alloc A).alloc B).heap[y.heap.size + 1]? = some B ∧ Below y.heap.size y ((y.alloc A).alloc B) := by
  have h1 := MapKept.heap_alloc y A
  have h2 := MapKept.heap_alloc (y.alloc A) B
  have hs : (y.alloc A).heap.size = y.heap.size + 1 := by simp
  have h3 : ((y.alloc A).alloc B).heap[y.heap.size]? = some A := (((Below.refl _ (y.alloc A)).alloc (Nat.le_refl _) B).block y.heap.size (by omega)).trans h1.1
  refine ⟨h3, ?_, ((Below.refl _ y).alloc (Nat.le_refl _) A).alloc (by omega) B⟩
  have := h2.1
  rw [hs] at this
  exact this
set_option maxHeartbeats 2000000 in
theorem stkNew_calls (w : World) {s : Nat} (hs : s < 18446744073709551616) : Calls Tryd.prog 5 #[.int .u64 s] w fun e w' =>
    ∃ k v, e = .returned (.pointer (some ⟨k, 0, none⟩)) ∧ StackAt w' w.heap.size k v [s % 256] ∧ Below w.heap.size w w' := by
  have Ha := Lib.hid (and255 hs)
  go_enter Tryd.func5, Tryd.ntmps5
  go_wp2
  go_ret
  rw [Ha.out]
  have hT := heap_pair w (.cells #[.int .u64 (s % 256 : Nat)] 27) (.cells #[.slice (some ⟨w.heap.size, 0, none⟩) 1 1] 46)
  exact ⟨_, _, rfl, ⟨by omega, hT.2.1, ⟨rfl, .inr ⟨_, 1, _, rfl, Nat.le_refl _, hT.1, Nat.le_refl _, by decide, rfl, rfl⟩⟩⟩, hT.2.2⟩

set_option maxHeartbeats 2000000 in
theorem stkLen_calls {w : World} {B k : Nat} {v : Value} {xs : List Nat} (h : StackAt w B k v xs) (hn : xs ≠ []) : Calls Tryd.prog 12 #[.pointer (some ⟨k, 0, none⟩)] w fun e w' =>
    e = .returned (.int .i64 (xs.length : Nat)) ∧ w = w' := by
  obtain ⟨g, c, rfl, hl, hm, _, _, _, _⟩ := h.own.rowAt hn
  have c0 := h.cell.1
  clear h
  generalize xs.length = n at *
  unfold maxLen at hm
  go_enter Tryd.func12, Tryd.ntmps12
  go_wp2
  go_ret
  exact ⟨rfl, rfl⟩

set_option maxHeartbeats 2000000 in
theorem stkTop_calls {w : World} {B k : Nat} {v : Value} {xs : List Nat} {x : Nat} (h : StackAt w B k v (xs ++ [x])) : Calls Tryd.prog 13 #[.pointer (some ⟨k, 0, none⟩)] w fun e w' =>
    e = .returned (.int .u64 (x : Nat)) ∧ Below w.heap.size w w' := by
  obtain ⟨g, c, rfl, hl, hm, _, _, hc, _⟩ := h.own.rowAt (by simp)
  have c0 := h.cell.1
  have c1 := hc xs.length 0 x (.int .u64 (x : Nat)) (by simp) rfl
  rw [show xs.length * eltU.size + 0 = xs.length by simp [eltU]] at c1
  rw [List.length_append, List.length_singleton] at hl c0
  clear h hc
  generalize xs.length = n at *
  unfold maxLen at hm
  go_enter Tryd.func13, Tryd.ntmps13
  go_wp2_with fail
  refine wp_ext_draw 12 mixed (by kernel_rfl) ?_
  simp only [List.take_succ_cons, List.take_zero, List.drop_succ_cons, List.drop_zero]
  repeat ((first | ((apply TextRun.go rfl rfl rfl); (focus (intro w1 hS K hK; have hc := bcell hS; have hs := blt hS; have c0 := keep hS c0; have c1 := keep hS c1; go_wp2_with (fail); first | done | exact hS | exact hS.trans (hb.mono hS.size)))) | (refine TextRun.skip rfl ?_) | ((refine TextRun.wantedT rfl rfl rfl ?_); (apply Exists.intro); (apply And.intro); (focus (intro w1 hS K hK; have hc := bcell hS; have hs := blt hS; have c0 := keep hS c0; have c1 := keep hS c1; go_wp2_with (fail); first | done | exact hS | exact hS.trans (hb.mono hS.size))))); (simp only [Act.put, List.setIfInBounds_toArray, List.set_cons_zero, List.set_cons_succ]))
  refine TextRun.done ?_
  intro y hb
  go_wp2
  go_ret
  exact ⟨rfl, hb⟩

set_option maxHeartbeats 2000000 in
theorem stkPop_calls {w : World} {B k : Nat} {v : Value} {xs : List Nat} {x : Nat} (h : StackAt w B k v (xs ++ [x])) : Calls Tryd.prog 10 #[.pointer (some ⟨k, 0, none⟩)] w fun e w' =>
    e = .returned (.bool (!(xs.isEmpty))) ∧ Wrote (fun q => q = k) w w' ∧ ∃ v', v'.ownBlock = v.ownBlock ∧ StackAt w' B k v' (if xs.isEmpty then [x] else xs) := by
  obtain ⟨g, c, rfl, hl, hm, _, _, _, _⟩ := h.own.rowAt (by simp)
  obtain ⟨c0, f0⟩ := h.cell
  have HS := Lib.hid h
  have hll : (xs ++ [x]).length = xs.length + 1 := by simp
  rw [hll] at c0 hl
  unfold maxLen at hm
  cases hx : xs.isEmpty
  · have hne : xs ≠ [] := by simpa using hx
    have hlen : 0 < xs.length := List.length_pos_iff.2 hne
    have hcut : Hid (∀ y : World, Below w.heap.size w y → StackAt (y.setCell ⟨k, 0, none⟩ (.slice (some ⟨g, 0, none⟩) xs.length c)) B k (.slice (some ⟨g, 0, none⟩) xs.length c) xs ∧ Wrote (fun q => q = k) w (y.setCell ⟨k, 0, none⟩ (.slice (some ⟨g, 0, none⟩) xs.length c))) := fun y hb => by
      have hy := h.below hb
      have ho := hy.own.cut (k := xs.length) (by simp)
      rw [List.take_left] at ho
      exact ⟨hy.turn (Wrote.refl (fun _ => False) y) (fun q hq => hq.elim) ho, (Wrote.of_below (R := fun q => q = k) hb).trans (Wrote.setCell (R := fun q => q = k) y _ rfl) (fun q hq => .inl hq)⟩
    clear h hx hne HS
    generalize xs.length = n at *
    have hn1 : ((n + 1 : Nat) : Int) - 1 = n := by omega
    go_enter Tryd.func10, Tryd.ntmps10
    go_wp2_with fail
    refine wp_ext_draw 12 mixed (by kernel_rfl) ?_
    simp only [List.take_succ_cons, List.take_zero, List.drop_succ_cons, List.drop_zero]
    repeat ((first | ((apply TextRun.go rfl rfl rfl); (focus (intro w1 hS K hK; have hc := bcell hS; have hs := blt hS; have c0 := keep hS c0; go_wp2_with (fail); first | done | exact hS | exact hS.trans (hb.mono hS.size)))) | (refine TextRun.skip rfl ?_) | ((refine TextRun.wantedT rfl rfl rfl ?_); (apply Exists.intro); (apply And.intro); (focus (intro w1 hS K hK; have hc := bcell hS; have hs := blt hS; have c0 := keep hS c0; go_wp2_with (fail); first | done | exact hS | exact hS.trans (hb.mono hS.size))))); (simp only [Act.put, List.setIfInBounds_toArray, List.set_cons_zero, List.set_cons_succ]))
    refine TextRun.done ?_
    intro y hb
    have c0' := keep hb c0
    have f0' := frozen_keep hb c0 f0
    have Hb := Lib.hid hb
    clear hb c0 f0
    go_wp2
    go_ret
    exact ⟨rfl, (hcut.out _ Hb.out).2, .slice (some ⟨g, 0, none⟩) n c, rfl, (hcut.out _ Hb.out).1⟩
  · have hne : xs = [] := by simpa using hx
    subst hne
    clear h
    go_enter Tryd.func10, Tryd.ntmps10
    go_wp2
    go_ret
    exact ⟨rfl, Wrote.refl _ _, _, rfl, HS.out⟩

def slpB (x : Nat) (t : Int) : Bool := in8 t && !x.testBit t.toNat
def slpN (x : Nat) (t : Int) : Nat := if slpB x t then x ||| oneN t else x
theorem one_zero (t : Int) : (((oneN t : Nat) : Int) == 0) = !in8 t := by
  unfold oneN
  cases in8 t
  · rfl
  · simp only [if_true, Bool.not_true]
    have h0 : 0 < 2 ^ t.toNat := Nat.pos_of_ne_zero (by simp)
    generalize 2 ^ t.toNat = q at *
    cases q with
    | zero => omega
    | succ n => simp; omega
theorem slp_set {w : World} {B k g c : Nat} {xs : List Nat} {x : Nat} (h : StackAt w B k (.slice (some ⟨g, 0, none⟩) (xs.length + 1) c) (xs ++ [x])) (y : Nat) :
    StackAt (w.setCell ⟨g, xs.length, none⟩ (.int .u64 (y : Nat))) B k (.slice (some ⟨g, 0, none⟩) (xs.length + 1) c) (xs ++ [y]) ∧ Wrote (fun q => q = g) w (w.setCell ⟨g, xs.length, none⟩ (.int .u64 (y : Nat))) := by
  have hne : k ≠ g := fun e => h.ne (by rw [e]; rfl)
  have ho := h.own
  rw [show xs.length + 1 = (xs ++ [x]).length by simp] at ho
  have h2 := ho.set (i := xs.length) (k := xs.length) y (.int .u64 (y : Nat)) (by
    rw [List.set_append_right _ _ (Nat.le_refl _), Nat.sub_self, List.flatMap_append, List.flatMap_append]
    have hl : (xs.flatMap eltU.f).length = xs.length := by rw [flat_len eltU.f 1 (fun _ => rfl)]; omega
    rw [List.set_append_right _ _ (by omega), hl, Nat.sub_self]
    rfl)
  rw [List.set_append_right _ _ (Nat.le_refl _), Nat.sub_self] at h2
  refine ⟨⟨h.low, (Below.heap_setCell _ _ _ _ hne).trans h.blk, ?_⟩, Wrote.setCell (R := fun q => q = g) w _ rfl⟩
  rw [show (xs ++ [x]).length = xs.length + 1 by simp] at h2
  exact h2
set_option maxHeartbeats 2000000 in
theorem stkSleep_calls {w : World} {B k : Nat} {v : Value} {xs : List Nat} {x : Nat} (h : StackAt w B k v (xs ++ [x])) (hx : x < 256) (t : Int) : Calls Tryd.prog 11 #[.pointer (some ⟨k, 0, none⟩), .int .i64 t] w fun e w' =>
    e = .returned (.bool (slpB x t)) ∧ Wrote (fun q => v.ownBlock = some q) w w' ∧ StackAt w' B k v (xs ++ [slpN x t]) := by
  obtain ⟨g, c, rfl, hl, hm, _, _, hc, hf⟩ := h.own.rowAt (by simp)
  have c0 := h.cell.1
  have c1 := hc xs.length 0 x (.int .u64 (x : Nat)) (by simp) rfl
  have f1 := hf xs.length
  rw [show xs.length * eltU.size + 0 = xs.length by simp [eltU]] at c1
  have hll : (xs ++ [x]).length = xs.length + 1 := by simp
  rw [hll] at h c0 hl ⊢
  unfold maxLen at hm
  have hset : Hid (∀ (y : World) (z : Nat), Below w.heap.size w y → StackAt (y.setCell ⟨g, xs.length, none⟩ (.int .u64 (z : Nat))) B k (.slice (some ⟨g, 0, none⟩) (xs.length + 1) c) (xs ++ [z]) ∧ Wrote (fun q => g = q) w (y.setCell ⟨g, xs.length, none⟩ (.int .u64 (z : Nat)))) := fun y z hb => by
    have h2 := slp_set (h.below hb) z
    exact ⟨h2.1, ((Wrote.of_below (R := fun q => q = g) hb).trans h2.2 (fun q hq => .inl hq)).mono (fun q hq => hq.symm)⟩
  have hsame : Hid (∀ y : World, Below w.heap.size w y → StackAt y B k (.slice (some ⟨g, 0, none⟩) (xs.length + 1) c) (xs ++ [x]) ∧ Wrote (fun q => g = q) w y) := fun y hb => ⟨h.below hb, Wrote.of_below hb⟩
  have hz := one_zero t
  have hov : Value.ownBlock (.slice (some ⟨g, 0, none⟩) (xs.length + 1) c) = some g := rfl
  clear h hc hf
  have hn1 : ((xs.length + 1 : Nat) : Int) - 1 = (xs.length : Nat) := by omega
  unfold slpN slpB
  simp only [hov, Option.some.injEq]
  generalize xs.length = n at *
  cases h8 : in8 t
  · have H8 : Hid ((((oneN t : Nat) : Int) == 0) = true) := by unfold Hid; rw [hz, h8]; rfl
    simp only [Bool.false_and, if_false]
    clear hz h8 hset
    go_enter Tryd.func11, Tryd.ntmps11
    go_wp2_with fail
    refine wp_ext_draw 10 mixed (by kernel_rfl) ?_
    simp only [List.take_succ_cons, List.take_zero, List.drop_succ_cons, List.drop_zero]
    repeat ((first | ((apply TextRun.go rfl rfl rfl); (focus (intro w1 hS K hK; have hc := bcell hS; have hs := blt hS; have c0 := keep hS c0; have c1 := keep hS c1; go_wp2_with (fail); first | done | exact hS | exact hS.trans (hb.mono hS.size)))) | (refine TextRun.skip rfl ?_) | ((refine TextRun.wantedT rfl rfl rfl ?_); (apply Exists.intro); (apply And.intro); (focus (intro w1 hS K hK; have hc := bcell hS; have hs := blt hS; have c0 := keep hS c0; have c1 := keep hS c1; go_wp2_with (fail); first | done | exact hS | exact hS.trans (hb.mono hS.size))))); (simp only [Act.put, List.setIfInBounds_toArray, List.set_cons_zero, List.set_cons_succ]))
    refine TextRun.done ?_
    intro y hb
    have HB := Lib.hid hb
    clear hb
    go_wp2_with fail
    refine (one_same _ t).mono ?_
    rintro e w' ⟨rfl, rfl⟩
    have h0 := H8.out
    go_wp2
    go_ret
    exact ⟨rfl, (hsame.out _ HB.out).2, (hsame.out _ HB.out).1⟩
  · have H8 : Hid ((((oneN t : Nat) : Int) == 0) = false) := by unfold Hid; rw [hz, h8]; rfl
    cases hbt : x.testBit t.toNat
    · have HH : Hid (hasB x t = false) := by unfold Hid hasB; rw [h8, hbt]; rfl
      simp only [Bool.true_and, Bool.not_false, if_true]
      clear hz h8 hbt hsame
      go_enter Tryd.func11, Tryd.ntmps11
      go_wp2_with fail
      refine wp_ext_draw 10 mixed (by kernel_rfl) ?_
      simp only [List.take_succ_cons, List.take_zero, List.drop_succ_cons, List.drop_zero]
      repeat ((first | ((apply TextRun.go rfl rfl rfl); (focus (intro w1 hS K hK; have hc := bcell hS; have hs := blt hS; have c0 := keep hS c0; have c1 := keep hS c1; go_wp2_with (fail); first | done | exact hS | exact hS.trans (hb.mono hS.size)))) | (refine TextRun.skip rfl ?_) | ((refine TextRun.wantedT rfl rfl rfl ?_); (apply Exists.intro); (apply And.intro); (focus (intro w1 hS K hK; have hc := bcell hS; have hs := blt hS; have c0 := keep hS c0; have c1 := keep hS c1; go_wp2_with (fail); first | done | exact hS | exact hS.trans (hb.mono hS.size))))); (simp only [Act.put, List.setIfInBounds_toArray, List.set_cons_zero, List.set_cons_succ]))
      refine TextRun.done ?_
      intro y hb
      have HB := Lib.hid hb
      have c1' := keep hb c1
      have f1' := frozen_keep hb c1 f1
      clear hb c0 c1 f1
      go_wp2_with fail
      refine (one_same _ t).mono ?_
      rintro e w' ⟨rfl, rfl⟩
      have h0 := H8.out
      go_wp2_with fail
      refine (has_calls _ hx t).mono ?_
      rintro e w' ⟨rfl, rfl⟩
      rw [HH.out]
      go_wp2_with fail
      refine (put_calls _ hx t).mono ?_
      rintro e w' ⟨rfl, rfl⟩
      go_wp2
      go_ret
      exact ⟨rfl, (hset.out _ _ HB.out).2, (hset.out _ _ HB.out).1⟩
    · have HH : Hid (hasB x t = true) := by unfold Hid hasB; rw [h8, hbt]; rfl
      simp only [Bool.true_and, Bool.not_true, if_false]
      clear hz h8 hbt hset
      go_enter Tryd.func11, Tryd.ntmps11
      go_wp2_with fail
      refine wp_ext_draw 10 mixed (by kernel_rfl) ?_
      simp only [List.take_succ_cons, List.take_zero, List.drop_succ_cons, List.drop_zero]
      repeat ((first | ((apply TextRun.go rfl rfl rfl); (focus (intro w1 hS K hK; have hc := bcell hS; have hs := blt hS; have c0 := keep hS c0; have c1 := keep hS c1; go_wp2_with (fail); first | done | exact hS | exact hS.trans (hb.mono hS.size)))) | (refine TextRun.skip rfl ?_) | ((refine TextRun.wantedT rfl rfl rfl ?_); (apply Exists.intro); (apply And.intro); (focus (intro w1 hS K hK; have hc := bcell hS; have hs := blt hS; have c0 := keep hS c0; have c1 := keep hS c1; go_wp2_with (fail); first | done | exact hS | exact hS.trans (hb.mono hS.size))))); (simp only [Act.put, List.setIfInBounds_toArray, List.set_cons_zero, List.set_cons_succ]))
      refine TextRun.done ?_
      intro y hb
      have HB := Lib.hid hb
      have c1' := keep hb c1
      have f1' := frozen_keep hb c1 f1
      clear hb c0 c1 f1
      go_wp2_with fail
      refine (one_same _ t).mono ?_
      rintro e w' ⟨rfl, rfl⟩
      have h0 := H8.out
      go_wp2_with fail
      refine (has_calls _ hx t).mono ?_
      rintro e w' ⟨rfl, rfl⟩
      rw [HH.out]
      go_wp2
      go_ret
      exact ⟨rfl, (hsame.out _ HB.out).2, (hsame.out _ HB.out).1⟩

theorem behN_256 (s : Nat) (next : List Ac) (e : Ev) : behN s next e < 256 := behN_lt s next e
set_option maxHeartbeats 4000000 in
theorem stkPush_calls {w : World} (hT : TabOk w) {B k : Nat} {v : Value} {xs : List Nat} {x : Nat} (h : StackAt w B k v (xs ++ [x])) (hB : B ≤ w.heap.size) (hx : x < 256) {a0 : Option Addr} {n c : Nat} {next : List Ac} (hn : IsAcs w a0 n c next) (e : Ev)
    (hcap : (xs.length + 2) * 8 ≤ 140737488355328) : Calls Tryd.prog 7 #[.pointer (some ⟨k, 0, none⟩), .slice a0 n c, .agg #[.int .i64 e.t, .int .i64 e.k, .int .i64 e.o, .int .i64 e.v, .int .i64 e.b]] w fun r w' =>
    r = .returned (.int .u64 (behN x next e : Nat)) ∧ Wrote (stkR k v) w w' ∧ ∃ v', StackAt w' B k v' (xs ++ [x] ++ [behN x next e]) ∧ (∀ q, v'.ownBlock = some q → v.ownBlock = some q ∨ w.heap.size ≤ q) := by
  have hBeh := fun W (hT : TabOk W) (hn : IsAcs W a0 n c next) => behind_calls hT (Nat.lt_trans hx (by decide)) hn e
  have HBeh := Lib.hid hBeh
  have HTop := Lib.hid (fun W (hb : Below w.heap.size w W) => stkTop_calls (h.below hb))
  have HTop2 := Lib.hid (fun W v' y (hs : StackAt W B k v' (xs ++ [x] ++ [y])) => stkTop_calls hs)
  clear hBeh
  generalize behN x next e = y at *
  obtain ⟨g, cp, hv, hl, hm, h1, h2, h3, h4⟩ := h.own.rowAt (by simp)
  clear h1 h2 h3 h4
  rw [show (xs ++ [x]).length = xs.length + 1 by simp] at hv hl
  have c0 := h.cell.1
  have hk := h.lt
  have HS := Lib.hid h
  have HT := Lib.hid hT
  have Hn := Lib.hid hn
  clear h hT hn
  subst hv
  go_enter Tryd.func7, Tryd.ntmps7
  go_wp2_with fail
  have hA : Below w.heap.size w (w.alloc (.cells #[.int .i64 e.t, .int .i64 e.k, .int .i64 e.o, .int .i64 e.v, .int .i64 e.b] 33)) := (Below.refl _ w).alloc (Nat.le_refl _) _
  have fe := fun o => (cell_nw w #[.int .i64 e.t, .int .i64 e.k, .int .i64 e.o, .int .i64 e.v, .int .i64 e.b] 33 o).1
  have hz : (w.alloc (.cells #[.int .i64 e.t, .int .i64 e.k, .int .i64 e.o, .int .i64 e.v, .int .i64 e.b] 33)).heap.size = w.heap.size + 1 := by simp
  have e0 := fe 0
  have e1 := fe 1
  have e2 := fe 2
  have e3 := fe 3
  have e4 := fe 4
  simp only [List.getElem?_toArray, List.getElem?_cons_zero, List.getElem?_cons_succ] at e0 e1 e2 e3 e4
  clear fe
  have c0' := keep hA c0
  generalize (w.alloc (.cells #[.int .i64 e.t, .int .i64 e.k, .int .i64 e.o, .int .i64 e.v, .int .i64 e.b] 33)) = w1 at *
  have HSt : Hid (∀ z, Below w1.heap.size w1 z → z.cell? ⟨k, 0, none⟩ = some (.slice (some ⟨g, 0, none⟩) (xs.length + 1) cp) ∧ z.cell? ⟨w.heap.size, 0, none⟩ = some (.int .i64 e.t) ∧ z.cell? ⟨w.heap.size, 1, none⟩ = some (.int .i64 e.k) ∧ z.cell? ⟨w.heap.size, 2, none⟩ = some (.int .i64 e.o) ∧ z.cell? ⟨w.heap.size, 3, none⟩ = some (.int .i64 e.v) ∧ z.cell? ⟨w.heap.size, 4, none⟩ = some (.int .i64 e.b)) := fun z hb => ⟨keep hb c0', keep hb e0, keep hb e1, keep hb e2, keep hb e3, keep hb e4⟩
  clear c0 c0' e0 e1 e2 e3 e4
  refine wp_plan2_draw 12 [0, 1, 2, 3, 4, 5, 7, 8] [6, 9, 10, 11] (fun z => z.cell? ⟨k, 0, none⟩ = some (.slice (some ⟨g, 0, none⟩) (xs.length + 1) cp) ∧ z.cell? ⟨w.heap.size, 0, none⟩ = some (.int .i64 e.t) ∧ z.cell? ⟨w.heap.size, 1, none⟩ = some (.int .i64 e.k) ∧ z.cell? ⟨w.heap.size, 2, none⟩ = some (.int .i64 e.o) ∧ z.cell? ⟨w.heap.size, 3, none⟩ = some (.int .i64 e.v) ∧ z.cell? ⟨w.heap.size, 4, none⟩ = some (.int .i64 e.b)) mixed (by kernel_rfl) (fun c a d v w h => by cases d <;> exact h) (HSt.out _ ((Below.refl _ w1).drew)) ?_
  simp only [picks, List.map_cons, List.map_nil, List.getD_cons_zero, List.getD_cons_succ]
  repeat ((apply ReadRun.go rfl); (intro z1 hS; (obtain ⟨s0, s1, s2, s3, s4, s5⟩ := hS); go_simp; first | done | exact rfl); (simp only [Act.put, List.setIfInBounds_toArray, List.set_cons_zero, List.set_cons_succ]))
  refine ReadRun.done ?_
  refine MakeRun.go rfl (fun K hK => ?_)
  have hD : Below w1.heap.size w1 w1.drew := (Below.refl _ w1).drew
  go_wp2_with (go_at_call 13; refine (HTop.out _ (hA.trans (hD.mono (by omega)))).mono ?_; rintro e' y2 ⟨rfl, hb⟩)
  have hb2 : Below w1.heap.size w1 y2 := hD.trans hb
  clear hb hD
  refine ⟨HSt.out _ hb2, ?_⟩
  try clear hK
  try simp only [Act.put, List.setIfInBounds_toArray, List.set_cons_zero, List.set_cons_succ]
  refine MakeRun.go rfl (fun K hK => ?_)
  have hb2w : Below w.heap.size w y2 := hA.trans (hb2.mono (by omega))
  go_wp2_with (go_at_call 16; refine (HBeh.out _ (HT.out.below hb2w) (Hn.out.below hb2w)).mono ?_; rintro e' y3 ⟨rfl, hb⟩)
  have hb3 : Below w1.heap.size w1 y3 := hb2.trans (hb.mono hb2.size)
  have hb3w : Below w.heap.size w y3 := hb2w.trans (hb.mono hb2w.size)
  clear hb hb2 hb2w
  refine ⟨HSt.out _ hb3, ?_⟩
  try clear hK
  try simp only [Act.put, List.setIfInBounds_toArray, List.set_cons_zero, List.set_cons_succ]
  refine MakeRun.go rfl (fun K hK => ?_)
  go_wp2_with fail
  have hal : Below w1.heap.size w1 (y3.alloc (.cells #[.int .u64 (y : Nat)] 27)) := hb3.alloc hb3.size _
  refine ⟨HSt.out _ hal, ?_⟩
  clear hal
  try clear hK
  try simp only [Act.put, List.setIfInBounds_toArray, List.set_cons_zero, List.set_cons_succ]
  refine MakeRun.go rfl (fun K hK => ?_)
  have hS3 := HS.out.below hb3w
  have hB3 : B ≤ y3.heap.size := Nat.le_trans hB hb3w.size
  have hll : (xs ++ [x]).length = xs.length + 1 := by simp
  have hne : g ≠ k := fun e => HS.out.ne (by rw [← e]; rfl)
  have hgw : g < w.heap.size := (HS.out.rlt (q := g) (.inr rfl)).2
  refine wp_pushB eltU (.tmp 11) (.tmp 17) rfl y rfl rfl rfl hS3.own hB3 (by rw [hll]; exact hcap) (by rw [hll]; unfold maxLen; omega) ?_
  intro v' y5 ho5 hw5 hv5
  obtain ⟨g5, cp5, hv', hl5, hm5, h1, h2, h3, h4⟩ := ho5.rowAt (by simp)
  clear h1 h2 h3 h4
  generalize (xs ++ [x] ++ [y]).length = n5 at hv' hl5
  subst hv'
  have hw5' := (Wrote.of_below (R := fun q => Value.ownBlock (.slice (some ⟨g, 0, none⟩) (xs.length + 1) cp) = some q) hb3w).trans hw5 (fun q hq => .inl hq)
  have hz3 : w.heap.size < y3.heap.size := by have := hb3.size; omega
  have hgz : ¬ (Value.ownBlock (.slice (some ⟨g, 0, none⟩) (xs.length + 1) cp) = some w.heap.size) := fun hq => by
    have h1 : g = w.heap.size := Option.some.inj hq
    omega
  have hin : ∀ o, y5.cell? ⟨w.heap.size, o, none⟩ = y3.cell? ⟨w.heap.size, o, none⟩ := fun o => hw5.cell (p := ⟨w.heap.size, o, none⟩) hz3 hgz
  have c5 : y5.cell? ⟨k, 0, none⟩ = some (.slice (some ⟨g, 0, none⟩) (xs.length + 1) cp) := (hw5.cell (p := ⟨k, 0, none⟩) hS3.lt (by intro hq; cases hq; exact hne rfl)).trans hS3.cell.1
  have f5 : y5.frozen? ⟨k, 0, none⟩ = false := (World.frozen?_of_block (a := ⟨k, 0, none⟩) (hw5.block k hS3.lt (by intro hq; cases hq; exact hne rfl))).trans hS3.cell.2
  obtain ⟨_, i0, i1, i2, i3, i4⟩ := HSt.out _ hb3
  refine hK _ _ ⟨⟨c5, (hin 0).trans i0, (hin 1).trans i1, (hin 2).trans i2, (hin 3).trans i3, (hin 4).trans i4⟩, ?_⟩
  clear hK hin i0 i1 i2 i3 i4
  try simp only [Act.put, List.setIfInBounds_toArray, List.set_cons_zero, List.set_cons_succ]
  refine MakeRun.done ?_
  have HS6 := Lib.hid (hS3.turn hw5 (fun q hq => hq) ho5)
  have HW6 := Lib.hid ((hw5'.mono (R' := stkR k (.slice (some ⟨g, 0, none⟩) (xs.length + 1) cp)) (fun q hq => .inr hq)).trans (Wrote.setCell (R := stkR k (.slice (some ⟨g, 0, none⟩) (xs.length + 1) cp)) y5 (p := ⟨k, 0, none⟩) (.slice (some ⟨g5, 0, none⟩) n5 cp5) (.inl rfl)) (fun q hq => .inl hq))
  have Hv5 := Lib.hid (fun q hq => (hv5 q hq).imp id (fun h => Nat.le_trans hb3w.size h))
  have HTop3 := Lib.hid (HTop2.out _ _ _ HS6.out)
  clear hS3 ho5 hw5 hw5' hv5 HTop2 HTop HBeh hb3 hb3w HSt hA
  go_wp2_with fail
  refine HTop3.out.mono ?_
  rintro e' y7 ⟨rfl, hb⟩
  have HF := Lib.hid (And.intro (HS6.out.below hb) (HW6.out.trans (Wrote.of_below (R := stkR k (.slice (some ⟨g, 0, none⟩) (xs.length + 1) cp)) hb) (fun q hq => .inl hq)))
  clear hb
  go_wp2
  go_ret
  exact ⟨rfl, HF.out.2, _, HF.out.1, Hv5.out⟩
end Go.Proofs.YtobhandimolmhaaDoor
