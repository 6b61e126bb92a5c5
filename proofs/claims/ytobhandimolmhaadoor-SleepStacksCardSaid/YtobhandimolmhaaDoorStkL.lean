/-
  SleepStacks: the walk.
-/
import Derived.Test.YtobhandimolmhaaDoorStkS
import Derived.Test.YtobhandimolmhaaDoorReg6
import Derived.Test.YtobhandimolmhaaDoorRow
import Derived.Deep.Cut
set_option linter.unusedSimpArgs false
set_option linter.unusedVariables false
namespace Go.Proofs.YtobhandimolmhaaDoor
open Go.ChangeShapes Go.WideShapes Go.ChangeAt Go.RowKit Go.Deep

theorem rbitsT (w : World) {s : Nat} (hs : s < 18446744073709551616) : Calls Tryd.prog 6 #[.int .u64 s] w fun e w' =>
    e = .returned (.agg #[.bool (tb (s % 256) 0), .bool (tb (s % 256) 1), .bool (tb (s % 256) 2), .bool (tb (s % 256) 3), .bool (tb (s % 256) 4), .bool (tb (s % 256) 5), .bool (tb (s % 256) 6), .bool (tb (s % 256) 7)]) ∧ Below w.heap.size w w' := rbits_calls w hs
theorem numberT (w : World) {m : Nat} (hm : m < 256) : Calls Tryd.prog 9 #[.agg #[.bool (tb m 0), .bool (tb m 1), .bool (tb m 2), .bool (tb m 3), .bool (tb m 4), .bool (tb m 5), .bool (tb m 6), .bool (tb m 7)]] w fun e w' =>
    e = .returned (.int .u64 m) ∧ Below w.heap.size w w' := number17_calls w hm
theorem rbehT {w : World} {m : Nat} (hm : m < 256) {a0 : Option Addr} {n c : Nat} {next : List Ac} (hn : IsAcs w a0 n c next) (e : Ev) : Calls Tryd.prog 8 #[.agg #[.bool (tb m 0), .bool (tb m 1), .bool (tb m 2), .bool (tb m 3), .bool (tb m 4), .bool (tb m 5), .bool (tb m 6), .bool (tb m 7)], .slice a0 n c, .agg #[.int .i64 e.t, .int .i64 e.k, .int .i64 e.o, .int .i64 e.v, .int .i64 e.b]] w fun x w' =>
      x = .returned (.agg #[.bool (tb (behN m next e) 0), .bool (tb (behN m next e) 1), .bool (tb (behN m next e) 2), .bool (tb (behN m next e) 3), .bool (tb (behN m next e) 4), .bool (tb (behN m next e) 5), .bool (tb (behN m next e) 6), .bool (tb (behN m next e) 7)]) ∧ Below w.heap.size w w' :=
  rbehind_calls hn e (behN_lt m next e) (fun j hj => by rw [behN_bit hj, Nat.mod_eq_of_lt hm])

theorem rowSize : (Tryd.prog.info? 28).map (·.size) = some 8 := by kernel_rfl
theorem rowOne (a b c d e f g h : Bool) : (#[.bool a, .bool b, .bool c, .bool d, .bool e, .bool f, .bool g, .bool h] : Array Value).all (·.oneCell') = true := by simp [Value.oneCell']
theorem row_made (w : World) (z cs : Array Value) (t : TypeId) : ((w.alloc (.cells z t)).setRow w.heap.size cs).heap[w.heap.size]? = some (.cells cs t (0, 0)) ∧ Below w.heap.size w ((w.alloc (.cells z t)).setRow w.heap.size cs) := by
  have h1 := (MapKept.heap_alloc w (.cells z t)).1
  have hW : Wrote (fun x => x = w.heap.size) (w.alloc (.cells z t)) ((w.alloc (.cells z t)).setRow w.heap.size cs) := Wrote.of_grown (setRow_wrote _ _ _) (fun k hk => (Option.some.inj hk).symm)
  exact ⟨setRow_heap _ _ _ _ _ _ h1, Wrote.below ((Below.refl _ w).alloc (Nat.le_refl _) _) hW (by simp) (fun x hx => by omega)⟩
theorem row_kept {y W : World} {g : Nat} {Z C : Array Value} {T : TypeId} (hb : Below y.heap.size y W) (hg : W.heap[g]? = some (.cells Z T (0, 0))) (hy : y.heap.size ≤ g) :
    (W.setRow g C).heap[g]? = some (.cells C T (0, 0)) ∧ Below y.heap.size y (W.setRow g C) := by
  have hW : Wrote (fun x => x = g) W (W.setRow g C) := Wrote.of_grown (setRow_wrote _ _ _) (fun k hk => (Option.some.inj hk).symm)
  exact ⟨setRow_heap _ _ _ _ _ _ hg, Wrote.below hb hW hb.size (fun x hx => by omega)⟩
theorem StackAt.apartD {α : Type} {E : Elt α} {w w' : World} {B B' k : Nat} {v u : Value} {xs : List Nat} {ys : List α} {R : Nat → Prop} (h : StackAt w B k v xs) (hd : OwnL E w B' u ys) (hw : Wrote R w w') (hR : ∀ q, R q → u.ownBlock = some q)
    (hE : E.e ≠ 46 := by decide) (hE' : E.e ≠ 27 := by decide) : StackAt w' B k v xs := by
  have key : ∀ (q : Nat) (cs : Array Value) (t : TypeId) (f : Nat × Nat), w.heap[q]? = some (.cells cs t f) → R q → t = E.e := fun q cs t f hq hr => by
    obtain ⟨cur, hc⟩ := hd.obj (hR q hr)
    rw [hc] at hq
    simp only [Option.some.injEq, Obj.cells.injEq] at hq
    exact hq.2.1.symm
  refine ⟨h.low, (hw.block k h.lt fun hr => hE (key k _ _ _ h.blk hr).symm).trans h.blk, h.own.wrote hw fun g hg hr => ?_⟩
  obtain ⟨cur, hc⟩ := h.own.obj hg
  exact hE' (key g _ _ _ hc hr).symm
/-- What stands between the rounds. -/
structure StkI (w : World) (k i : Nat) (u : Value) (wr : World) (v : Value) (xs : List Nat) (x : Nat) : Prop where
  stk : StackAt wr w.heap.size k v (xs ++ [x])
  doc : OwnL eltB wr w.heap.size u (xs ++ [x])
  fit : x < 256 ∧ ∀ y ∈ xs, y < 256
  len : xs.length ≤ i
  below : Below w.heap.size w wr
theorem StkI.go {w : World} {k i : Nat} {u : Value} {wr wy : World} {v : Value} {xs : List Nat} {x : Nat} (h : StkI w k i u wr v xs x) (hb : Below wr.heap.size wr wy) : StkI w k i u wy v xs x :=
  ⟨h.stk.below hb, h.doc.below hb, h.fit, h.len, h.below.trans (hb.mono h.below.size)⟩
theorem StkI.later {w : World} {k i i' : Nat} {u : Value} {wr : World} {v : Value} {xs : List Nat} {x : Nat} (h : StkI w k i u wr v xs x) (hi : i ≤ i') : StkI w k i' u wr v xs x :=
  ⟨h.stk, h.doc, h.fit, Nat.le_trans h.len hi, h.below⟩
theorem StkI.apartW {w : World} {k i : Nat} {u : Value} {wr wy : World} {v : Value} {xs : List Nat} {x : Nat} {R : Nat → Prop} (h : StkI w k i u wr v xs x) (hw : Wrote R wr wy) (hR : ∀ q, R q → stkR k v q) : OwnL eltB wy w.heap.size u (xs ++ [x]) ∧ Below w.heap.size w wy :=
  ⟨h.stk.apart (by decide) (by decide) h.doc hw hR, Wrote.below h.below hw h.below.size (fun q hq => (h.stk.rlt (hR q hq)).1)⟩
theorem StkI.popped0 {w : World} {k i : Nat} {u : Value} {wr wy : World} {v v' : Value} {x : Nat} (h : StkI w k i u wr v [] x) (hw : Wrote (fun q => q = k) wr wy) (hs : StackAt wy w.heap.size k v' (if ([] : List Nat).isEmpty then [x] else [])) : StkI w k (i + 1) u wy v' [] x := by
  have h2 := h.apartW hw (fun q hq => .inl hq)
  exact ⟨hs, h2.1, h.fit, Nat.zero_le _, h2.2⟩
theorem StkI.popped {w : World} {k i g c : Nat} {wr wy : World} {v v' : Value} {ys : List Nat} {z x : Nat} (h : StkI w k i (.slice (some ⟨g, 0, none⟩) ((ys ++ [z]).length + 1) c) wr v (ys ++ [z]) x) (hw : Wrote (fun q => q = k) wr wy)
    (hs : StackAt wy w.heap.size k v' (if (ys ++ [z]).isEmpty then [x] else (ys ++ [z]))) : StkI w k (i + 1) (.slice (some ⟨g, 0, none⟩) (ys ++ [z]).length c) wy v' ys z := by
  have h2 := h.apartW hw (fun q hq => .inl hq)
  rw [show (ys ++ [z]).isEmpty = false by simp] at hs
  have h3 := h2.1
  rw [show (ys ++ [z]).length + 1 = (ys ++ [z] ++ [x]).length by simp] at h3
  have h4 := h3.cut (k := (ys ++ [z]).length) (by simp)
  rw [List.take_left] at h4
  have hl := h.len
  rw [show (ys ++ [z]).length = ys.length + 1 by simp] at hl
  exact ⟨hs, h4, ⟨h.fit.2 z (by simp), fun y hy => h.fit.2 y (by simp [hy])⟩, by omega, h2.2⟩
/-- The uppermost row of the document's. -/
theorem doc_at {w : World} {B : Nat} {u : Value} {xs : List Nat} {x : Nat} (h : OwnL eltB w B u (xs ++ [x])) : ∃ g c, u = .slice (some ⟨g, 0, none⟩) (xs.length + 1) c ∧ xs.length + 1 ≤ c ∧ c ≤ maxLen ∧ B ≤ g ∧
    (∀ o, w.frozen? ⟨g, o, none⟩ = false) ∧ w.cell? ⟨g, xs.length * 8, none⟩ = some (.bool (tb x 0)) ∧ w.cell? ⟨g, xs.length * 8 + 1, none⟩ = some (.bool (tb x 1)) ∧ w.cell? ⟨g, xs.length * 8 + 2, none⟩ = some (.bool (tb x 2)) ∧
    w.cell? ⟨g, xs.length * 8 + 3, none⟩ = some (.bool (tb x 3)) ∧ w.cell? ⟨g, xs.length * 8 + 4, none⟩ = some (.bool (tb x 4)) ∧ w.cell? ⟨g, xs.length * 8 + 5, none⟩ = some (.bool (tb x 5)) ∧ w.cell? ⟨g, xs.length * 8 + 6, none⟩ = some (.bool (tb x 6)) ∧
    w.cell? ⟨g, xs.length * 8 + 7, none⟩ = some (.bool (tb x 7)) := by
  obtain ⟨g, c, hv, hl, hm, hB, _, hc, hf⟩ := h.rowAt (by simp)
  rw [show (xs ++ [x]).length = xs.length + 1 by simp] at hv hl
  have hx : (xs ++ [x])[xs.length]? = some x := by simp
  have q := fun j u hu => hc xs.length j x u hx hu
  exact ⟨g, c, hv, hl, hm, hB, hf, q 0 _ rfl, q 1 _ rfl, q 2 _ rfl, q 3 _ rfl, q 4 _ rfl, q 5 _ rfl, q 6 _ rfl, q 7 _ rfl⟩

theorem doc_cell {w : World} {B g c : Nat} {xs : List Nat} {x : Nat} (h : OwnL eltB w B (.slice (some ⟨g, 0, none⟩) (xs.length + 1) c) (xs ++ [x])) {j : Nat} (hj : j < 8) : w.cell? ⟨g, xs.length * 8 + j, none⟩ = some (.bool (tb x j)) := by
  obtain ⟨g', c', hv, _, _, _, _, t0, t1, t2, t3, t4, t5, t6, t7⟩ := doc_at h
  cases hv
  match j, hj with
  | 0, _ => exact t0
  | 1, _ => exact t1
  | 2, _ => exact t2
  | 3, _ => exact t3
  | 4, _ => exact t4
  | 5, _ => exact t5
  | 6, _ => exact t6
  | 7, _ => exact t7
theorem bits8_set (x : Nat) {j : Nat} (hj : j < 8) : bits8 (x ||| 2 ^ j) = (bits8 x).set j (.bool true) := by
  have hb : ∀ i, tb (x ||| 2 ^ j) i = (tb x i || decide (j = i)) := fun i => by unfold tb; rw [Nat.testBit_or, Nat.testBit_two_pow]
  unfold bits8
  simp only [hb]
  match j, hj with
  | 0, _ => simp
  | 1, _ => simp
  | 2, _ => simp
  | 3, _ => simp
  | 4, _ => simp
  | 5, _ => simp
  | 6, _ => simp
  | 7, _ => simp
theorem stk_put {w : World} {B k g c : Nat} {v : Value} {zs xs : List Nat} {x : Nat} (hs : StackAt w B k v zs) (hd : OwnL eltB w B (.slice (some ⟨g, 0, none⟩) (xs.length + 1) c) (xs ++ [x])) {j : Nat} (hj : j < 8) :
    StackAt (w.setCell ⟨g, xs.length * 8 + j, none⟩ (.bool true)) B k v zs ∧ OwnL eltB (w.setCell ⟨g, xs.length * 8 + j, none⟩ (.bool true)) B (.slice (some ⟨g, 0, none⟩) (xs.length + 1) c) (xs ++ [x ||| 2 ^ j]) := by
  obtain ⟨cur, hc⟩ := hd.obj (g := g) rfl
  have hk : k ≠ g := fun e => by
    subst e
    rw [hs.blk] at hc
    simp only [Option.some.injEq, Obj.cells.injEq] at hc
    exact absurd hc.2.1 (by decide)
  refine ⟨⟨hs.low, (Below.heap_setCell _ _ _ _ hk).trans hs.blk, hs.own.at fun q hq => Below.heap_setCell _ _ _ _ fun e => ?_⟩, ?_⟩
  · subst e
    obtain ⟨cur', hc'⟩ := hs.own.obj hq
    rw [hc'] at hc
    simp only [Option.some.injEq, Obj.cells.injEq] at hc
    exact absurd hc.2.1 (by decide)
  · rw [show xs.length + 1 = (xs ++ [x]).length by simp] at hd ⊢
    have h2 := hd.set (i := xs.length) (k := xs.length * 8 + j) (x ||| 2 ^ j) (.bool true) (by
      rw [List.set_append_right _ _ (Nat.le_refl _), Nat.sub_self, List.flatMap_append, List.flatMap_append]
      have hl : (xs.flatMap eltB.f).length = xs.length * 8 := flat_len eltB.f 8 (fun _ => rfl) xs
      rw [List.set_append_right _ _ (by omega), hl, Nat.add_sub_cancel_left]
      congr 1
      simp only [List.set_cons_zero, List.flatMap_cons, List.flatMap_nil, List.append_nil]
      exact bits8_set x hj)
    rw [List.set_append_right _ _ (Nat.le_refl _), Nat.sub_self] at h2
    exact h2
theorem StkI.step {w : World} {k i gs : Nat} {u : Value} {wr wy : World} {v : Value} {xs : List Nat} {x : Nat} {R : Nat → Prop} {cs : Array Value} (h : StkI w k i u wr v xs x) (hw : Wrote R wr wy) (hR : ∀ q, R q → stkR k v q) (hg : wr.heap[gs]? = some (.cells cs 35 (0, 0))) :
    wy.heap[gs]? = some (.cells cs 35 (0, 0)) := by
  refine (hw.block gs (Array.getElem?_eq_some_iff.1 hg).1 fun hr => ?_).trans hg
  rcases hR gs hr with rfl | hq
  · rw [h.stk.blk] at hg
    simp only [Option.some.injEq, Obj.cells.injEq] at hg
    exact absurd hg.2.1 (by decide)
  · obtain ⟨cur', hc'⟩ := h.stk.own.obj hq
    rw [hc'] at hg
    simp only [Option.some.injEq, Obj.cells.injEq] at hg
    exact absurd hg.2.1 (by decide)

set_option maxRecDepth 20000 in
set_option maxHeartbeats 8000000 in
theorem stacks_law {w : World} (hT : TabOk w) {s : Nat} (hs : s < 18446744073709551616) {a0 : Option Addr} {n c : Nat} {R : List Sk} (h : IsSks w a0 n c R) (hcap : n * 80 ≤ 140737488355328 - 4096) :
    Calls Tryd.prog 3 #[.int .u64 s, .slice a0 n c] w fun x w' => x = .returned (.bool true) ∧ Below w.heap.size w w' := by
  have hbd := h.bd
  have h256 : s % 256 < 256 := Nat.mod_lt _ (by decide)
  have Hs := Lib.hid hs
  have HT := Lib.hid hT
  have Hh := Lib.hid h
  clear hs hT h
  go_enter Tryd.func3, Tryd.ntmps3
  go_wp2_with fail
  refine (awake17_calls _).mono ?_
  rintro x w1 ⟨rfl, hb1⟩
  go_wp2_with fail
  refine (stkNew_calls w1 Hs.out).mono ?_
  rintro x w2 ⟨k, v, rfl, hS2, hb2⟩
  go_wp2_with fail
  refine (rbitsT w2 Hs.out).mono ?_
  rintro x w3 ⟨rfl, hb3⟩
  have hB3 : Below w.heap.size w w3 := hb1.trans ((hb2.trans (hb3.mono hb2.size)).mono hb1.size)
  have hS3 := (hS2.below hb3).lower hb1.size
  have HS3 := Lib.hid hS3
  have HB3 := Lib.hid hB3
  clear hb1 hb2 hb3 hS2 hS3 hB3
  generalize s % 256 = m at *
  go_upto_region 6 with (fail)
  have hA : Below w3.heap.size w3 (w3.alloc (.cells #[.bool (tb m 0), .bool (tb m 1), .bool (tb m 2), .bool (tb m 3), .bool (tb m 4), .bool (tb m 5), .bool (tb m 6), .bool (tb m 7)] 28)) := (Below.refl _ w3).alloc (Nat.le_refl _) _
  have fe := fun o => (cell_nw w3 #[.bool (tb m 0), .bool (tb m 1), .bool (tb m 2), .bool (tb m 3), .bool (tb m 4), .bool (tb m 5), .bool (tb m 6), .bool (tb m 7)] 28 o).1
  have e0 := fe 0
  have e1 := fe 1
  have e2 := fe 2
  have e3 := fe 3
  have e4 := fe 4
  have e5 := fe 5
  have e6 := fe 6
  have e7 := fe 7
  simp only [List.getElem?_toArray, List.getElem?_cons_zero, List.getElem?_cons_succ] at e0 e1 e2 e3 e4 e5 e6 e7
  clear fe
  have hS4 := Lib.hid (And.intro (HS3.out.below hA) (HB3.out.trans (hA.mono HB3.out.size)))
  clear hA HS3 HB3
  revert hS4 e0 e1 e2 e3 e4 e5 e6 e7
  generalize (w3.alloc (.cells #[.bool (tb m 0), .bool (tb m 1), .bool (tb m 2), .bool (tb m 3), .bool (tb m 4), .bool (tb m 5), .bool (tb m 6), .bool (tb m 7)] 28)) = y3
  generalize w3.heap.size = g3
  intro e0 e1 e2 e3 e4 e5 e6 e7 hS4
  go_wp2_with (at_builtin; go_loud (refine wpList_pushB eltB rfl (.tmp 28) (.tmp 30) rfl m rfl rfl rfl (OwnL.nil eltB _ w.heap.size) hS4.out.2.size (by decide) (by decide) ?_); intro v' w4 ho4 hw4 hv4; (have hb4 := hw4.same (fun x hx => by cases hx)); (have HI := Lib.hid (show StkI w k 0 v' w4 v [] m from ⟨hS4.out.1.below hb4, ho4, ⟨h256, fun y hy => by cases hy⟩, Nat.zero_le _, hS4.out.2.trans (hb4.mono hS4.out.2.size)⟩)); (clear hw4 hv4 hb4 ho4))
  go_loopw [8, 9] (fun u i wr => ∃ (q : Nat) (vv : Value) (xs : List Nat) (x : Nat), q ≤ n ∧ i = .int .i64 q ∧ Hid (StkI w k q u wr vv xs x)) (fun _ i _ => n - (intOf i).toNat)
  case atStart => exact ⟨0, v, [], m, Nat.zero_le _, rfl, HI.out⟩
  case round =>
    obtain ⟨q, vv, xs, x, hq, rfl, HL⟩ := hrel
    by_cases hlt : q < n
    · obtain ⟨b, off, r, rfl, hR, hwf, hacs, c0, c1, c2, c3, c4, c5, c6, c7⟩ := (Hh.out.below HL.out.below).at hlt
      obtain ⟨g, cd, rfl, hl, hm, hgB, hfz, r0, r1, r2, r3, r4, r5, r6, r7⟩ := doc_at HL.out.doc
      have hlen := HL.out.len
      unfold maxLen at hm
      have Hacs := Lib.hid (Hh.out.acs _ (List.mem_of_getElem? hR))
      clear hacs hR
      obtain ⟨d, j, a1, n1, c1', acs, ev⟩ := r
      simp only at c0 c1 c2 c3 c4 c5 c6 c7 Hacs
      go_upto_region 12 with (fail)
      obtain ⟨gs, hgs⟩ : ∃ gs, gs = wr.heap.size := ⟨_, rfl⟩
      have hA : Below wr.heap.size wr (wr.alloc (.cells #[.int .i64 d, .int .i64 j, .slice a1 n1 c1', .int .i64 ev.t, .int .i64 ev.k, .int .i64 ev.o, .int .i64 ev.v, .int .i64 ev.b] 35)) := (Below.refl _ wr).alloc (Nat.le_refl _) _
      have fe := fun o => (cell_nw wr #[.int .i64 d, .int .i64 j, .slice a1 n1 c1', .int .i64 ev.t, .int .i64 ev.k, .int .i64 ev.o, .int .i64 ev.v, .int .i64 ev.b] 35 o).1
      have s0 := fe 0
      have s1 := fe 1
      have s2 := fe 2
      have s3 := fe 3
      have s4 := fe 4
      have s5 := fe 5
      have s6 := fe 6
      have s7 := fe 7
      simp only [List.getElem?_toArray, List.getElem?_cons_zero, List.getElem?_cons_succ] at s0 s1 s2 s3 s4 s5 s6 s7
      have hgy : wr.heap.size < (wr.alloc (.cells #[.int .i64 d, .int .i64 j, .slice a1 n1 c1', .int .i64 ev.t, .int .i64 ev.k, .int .i64 ev.o, .int .i64 ev.v, .int .i64 ev.b] 35)).heap.size := by simp
      have r0 := keep hA r0
      have r1 := keep hA r1
      have r2 := keep hA r2
      have r3 := keep hA r3
      have r4 := keep hA r4
      have r5 := keep hA r5
      have r6 := keep hA r6
      have r7 := keep hA r7
      have hgb := Lib.hid ((MapKept.heap_alloc wr (.cells #[.int .i64 d, .int .i64 j, .slice a1 n1 c1', .int .i64 ev.t, .int .i64 ev.k, .int .i64 ev.o, .int .i64 ev.v, .int .i64 ev.b] 35)).1)
      rw [← hgs] at hgb
      have HL := Lib.hid (HL.out.go hA)
      clear fe c0 c1 c2 c3 c4 c5 c6 c7
      generalize (wr.alloc (.cells #[.int .i64 d, .int .i64 j, .slice a1 n1 c1', .int .i64 ev.t, .int .i64 ev.k, .int .i64 ev.o, .int .i64 ev.v, .int .i64 ev.b] 35)) = y1 at *
      rw [← hgs] at *
      clear hA hgs
      have hN : ((xs.length + 1 : Nat) : Int) - 1 = (xs.length : Nat) := by omega
      by_cases h0 : d = 0
      · subst h0
        have hcapx : (xs.length + 2) * 8 ≤ 140737488355328 := by omega
        go_wp2_with fail
        refine (stkPush_calls (HT.out.below HL.out.below) HL.out.stk HL.out.below.size HL.out.fit.1 (Hacs.out.below HL.out.below) ev hcapx).mono ?_
        rintro e z0 ⟨rfl, hwz, v2, hsz, hvz⟩
        have hd2 := HL.out.apartW hwz (fun q hq => hq)
        have hg2 := HL.out.step hwz (fun q hq => hq) hgb.out
        have hRB := fun W (hn : IsAcs W a1 n1 c1' acs) => rbehT HL.out.fit.1 hn ev
        have hy := behN_lt x acs ev
        generalize behN x acs ev = y at *
        have HRB := Lib.hid hRB
        have Hfit := Lib.hid (And.intro hy HL.out.fit)
        have Hlen := Lib.hid HL.out.len
        have HD2 := Lib.hid (And.intro hsz hd2)
        have Ha2 := Lib.hid (Hacs.out.below hd2.2)
        obtain ⟨g9, c9, hv9, _, _, _, _, r0, r1, r2, r3, r4, r5, r6, r7⟩ := doc_at hd2.1
        cases hv9
        have s2 : z0.cell? ⟨gs, 2, none⟩ = some (.slice a1 n1 c1') := cell_blk hg2
        have s3 : z0.cell? ⟨gs, 3, none⟩ = some (.int .i64 ev.t) := cell_blk hg2
        have s4 : z0.cell? ⟨gs, 4, none⟩ = some (.int .i64 ev.k) := cell_blk hg2
        have s5 : z0.cell? ⟨gs, 5, none⟩ = some (.int .i64 ev.o) := cell_blk hg2
        have s6 : z0.cell? ⟨gs, 6, none⟩ = some (.int .i64 ev.v) := cell_blk hg2
        have s7 : z0.cell? ⟨gs, 7, none⟩ = some (.int .i64 ev.b) := cell_blk hg2
        have HSt : Hid (∀ z, Below z0.heap.size z0 z → z.cell? ⟨gs, 2, none⟩ = some (.slice a1 n1 c1') ∧ z.cell? ⟨gs, 3, none⟩ = some (.int .i64 ev.t) ∧ z.cell? ⟨gs, 4, none⟩ = some (.int .i64 ev.k) ∧ z.cell? ⟨gs, 5, none⟩ = some (.int .i64 ev.o) ∧ z.cell? ⟨gs, 6, none⟩ = some (.int .i64 ev.v) ∧ z.cell? ⟨gs, 7, none⟩ = some (.int .i64 ev.b) ∧ z.cell? ⟨g, xs.length * 8, none⟩ = some (.bool (tb x 0)) ∧ z.cell? ⟨g, xs.length * 8 + 1, none⟩ = some (.bool (tb x 1)) ∧ z.cell? ⟨g, xs.length * 8 + 2, none⟩ = some (.bool (tb x 2)) ∧ z.cell? ⟨g, xs.length * 8 + 3, none⟩ = some (.bool (tb x 3)) ∧ z.cell? ⟨g, xs.length * 8 + 4, none⟩ = some (.bool (tb x 4)) ∧ z.cell? ⟨g, xs.length * 8 + 5, none⟩ = some (.bool (tb x 5)) ∧ z.cell? ⟨g, xs.length * 8 + 6, none⟩ = some (.bool (tb x 6)) ∧ z.cell? ⟨g, xs.length * 8 + 7, none⟩ = some (.bool (tb x 7))) := fun z hb => ⟨keep hb s2, keep hb s3, keep hb s4, keep hb s5, keep hb s6, keep hb s7, keep hb r0, keep hb r1, keep hb r2, keep hb r3, keep hb r4, keep hb r5, keep hb r6, keep hb r7⟩
        clear HL Hacs hRB hy hd2 hg2 hwz hsz hvz hgb s0 s1 s2 s3 s4 s5 s6 s7 r0 r1 r2 r3 r4 r5 r6 r7
        have hI : ((xs.length : Nat) : Int) < (xs.length : Int) + 1 := by omega
        have hI2 : xs.length < xs.length + 1 := by omega
        go_wp2_with fail
        refine wp_duo_draw 11 [0, 1, 2, 3, 4, 5, 6, 7] 8 9 10 (fun z => z.cell? ⟨gs, 2, none⟩ = some (.slice a1 n1 c1') ∧ z.cell? ⟨gs, 3, none⟩ = some (.int .i64 ev.t) ∧ z.cell? ⟨gs, 4, none⟩ = some (.int .i64 ev.k) ∧ z.cell? ⟨gs, 5, none⟩ = some (.int .i64 ev.o) ∧ z.cell? ⟨gs, 6, none⟩ = some (.int .i64 ev.v) ∧ z.cell? ⟨gs, 7, none⟩ = some (.int .i64 ev.b) ∧ z.cell? ⟨g, xs.length * 8, none⟩ = some (.bool (tb x 0)) ∧ z.cell? ⟨g, xs.length * 8 + 1, none⟩ = some (.bool (tb x 1)) ∧ z.cell? ⟨g, xs.length * 8 + 2, none⟩ = some (.bool (tb x 2)) ∧ z.cell? ⟨g, xs.length * 8 + 3, none⟩ = some (.bool (tb x 3)) ∧ z.cell? ⟨g, xs.length * 8 + 4, none⟩ = some (.bool (tb x 4)) ∧ z.cell? ⟨g, xs.length * 8 + 5, none⟩ = some (.bool (tb x 5)) ∧ z.cell? ⟨g, xs.length * 8 + 6, none⟩ = some (.bool (tb x 6)) ∧ z.cell? ⟨g, xs.length * 8 + 7, none⟩ = some (.bool (tb x 7))) mixed (by kernel_rfl) (fun c a d v w h => by cases d <;> exact h) (HSt.out _ ((Below.refl _ z0).drew)) ?_
        simp only [picks, List.map_cons, List.map_nil, List.getD_cons_zero, List.getD_cons_succ]
        repeat ((apply ReadRun.go rfl); (intro z1 hS; (obtain ⟨s2, s3, s4, s5, s6, s7, r0, r1, r2, r3, r4, r5, r6, r7⟩ := hS); go_simp; first | done | exact rfl); (simp only [Act.put, List.setIfInBounds_toArray, List.set_cons_zero, List.set_cons_succ]))
        refine ReadRun.done ?_
        refine DuoRun.cut (fun u v w' => u = .agg #[.bool (tb y 0), .bool (tb y 1), .bool (tb y 2), .bool (tb y 3), .bool (tb y 4), .bool (tb y 5), .bool (tb y 6), .bool (tb y 7)] ∧ ∃ gb, v = .pointer (some ⟨gb, 0, none⟩) ∧ w'.heap[gb]? = some (.cells #[.bool (tb y 0), .bool (tb y 1), .bool (tb y 2), .bool (tb y 3), .bool (tb y 4), .bool (tb y 5), .bool (tb y 6), .bool (tb y 7)] 28 (0, 0)) ∧ z0.heap.size ≤ gb ∧ Below z0.heap.size z0 w') ?_ ?_
        · have hD : Below z0.heap.size z0 z0.drew := (Below.refl _ z0).drew
          refine ⟨MStep.go rfl (fun K hK => ?_), MStep.go rfl (fun K hK => ?_)⟩
          · go_wp2_with (go_at_call 8; (with_reducible refine (HRB.out _ (Ha2.out.below hD)).mono ?_); rintro e' y2 ⟨rfl, hb⟩)
            have hb2 := hD.trans hb
            clear hb
            refine ⟨HSt.out _ hb2, MStep.go rfl (fun K hK => ?_)⟩
            go_wp2_with fail
            have hb3 := hb2.alloc hb2.size (.cells #[.bool false, .bool false, .bool false, .bool false, .bool false, .bool false, .bool false, .bool false] 28)
            refine ⟨HSt.out _ hb3, MStep.go rfl (fun K hK => ?_)⟩
            have hr := row_kept (C := #[.bool (tb y 0), .bool (tb y 1), .bool (tb y 2), .bool (tb y 3), .bool (tb y 4), .bool (tb y 5), .bool (tb y 6), .bool (tb y 7)]) hb3 (MapKept.heap_alloc y2 (.cells #[.bool false, .bool false, .bool false, .bool false, .bool false, .bool false, .bool false, .bool false] 28)).1 hb2.size
            refine wp_store_row 28 _ _ rfl y2.heap.size #[.bool (tb y 0), .bool (tb y 1), .bool (tb y 2), .bool (tb y 3), .bool (tb y 4), .bool (tb y 5), .bool (tb y 6), .bool (tb y 7)] rfl rfl 28 #[.bool false, .bool false, .bool false, .bool false, .bool false, .bool false, .bool false, .bool false] (MapKept.heap_alloc y2 (.cells #[.bool false, .bool false, .bool false, .bool false, .bool false, .bool false, .bool false, .bool false] 28)).1 rowSize rfl (rowOne ..) ?_
            exact hK _ _ ⟨HSt.out _ hr.2, _, _, rfl, rfl, y2.heap.size, rfl, hr.1, hb2.size, hr.2⟩
          · go_wp2_with fail
            have hb3 : Below z0.heap.size z0 (z0.alloc (.cells #[.bool false, .bool false, .bool false, .bool false, .bool false, .bool false, .bool false, .bool false] 28)) := (Below.refl _ z0).alloc (Nat.le_refl _) _
            refine ⟨HSt.out _ hb3, MStep.go rfl (fun K hK => ?_)⟩
            go_wp2_with (go_at_call 8; (with_reducible refine (HRB.out _ (Ha2.out.below (show Below z0.heap.size z0 _ by go_grown))).mono ?_); rintro e' y2 ⟨rfl, hb⟩)
            have hb2 : Below z0.heap.size z0 y2 := Below.trans (show Below z0.heap.size z0 _ by go_grown) (hb.mono (by simp))
            have hg : y2.heap[z0.heap.size]? = some (.cells #[.bool false, .bool false, .bool false, .bool false, .bool false, .bool false, .bool false, .bool false] 28 (0, 0)) := (hb.block z0.heap.size (by simp)).trans (MapKept.heap_alloc z0 (.cells #[.bool false, .bool false, .bool false, .bool false, .bool false, .bool false, .bool false, .bool false] 28)).1
            clear hb
            refine ⟨HSt.out _ hb2, MStep.go rfl (fun K hK => ?_)⟩
            have hr := row_kept (C := #[.bool (tb y 0), .bool (tb y 1), .bool (tb y 2), .bool (tb y 3), .bool (tb y 4), .bool (tb y 5), .bool (tb y 6), .bool (tb y 7)]) hb2 hg (Nat.le_refl _)
            refine wp_store_row 28 _ _ rfl z0.heap.size #[.bool (tb y 0), .bool (tb y 1), .bool (tb y 2), .bool (tb y 3), .bool (tb y 4), .bool (tb y 5), .bool (tb y 6), .bool (tb y 7)] rfl rfl 28 #[.bool false, .bool false, .bool false, .bool false, .bool false, .bool false, .bool false, .bool false] hg rowSize rfl (rowOne ..) ?_
            exact hK _ _ ⟨HSt.out _ hr.2, _, _, rfl, rfl, z0.heap.size, rfl, hr.1, Nat.le_refl _, hr.2⟩
        · rintro u v y4 ⟨rfl, gb, rfl, hgb, hgz, hb⟩
          simp only [Act.put, List.setIfInBounds_toArray, List.set_cons_zero, List.set_cons_succ]
          simp only [List.drop_succ_cons, List.drop_zero]
          have D4 := HD2.out.2.1.below hb
          have HD4 := Lib.hid (And.intro (HD2.out.1.below hb) (And.intro D4 (HD2.out.2.2.trans (hb.mono HD2.out.2.2.size))))
          have hgg : g ≠ gb := by
            have := (HD2.out.2.1.lt (x := g) rfl).2
            omega
          have HGB := Lib.hid hgb
          have e0 : y4.cell? ⟨gb, 0, none⟩ = some (.bool (tb y 0)) := cell_blk hgb
          have e1 : y4.cell? ⟨gb, 1, none⟩ = some (.bool (tb y 1)) := cell_blk hgb
          have e2 : y4.cell? ⟨gb, 2, none⟩ = some (.bool (tb y 2)) := cell_blk hgb
          have e3 : y4.cell? ⟨gb, 3, none⟩ = some (.bool (tb y 3)) := cell_blk hgb
          have e4 : y4.cell? ⟨gb, 4, none⟩ = some (.bool (tb y 4)) := cell_blk hgb
          have e5 : y4.cell? ⟨gb, 5, none⟩ = some (.bool (tb y 5)) := cell_blk hgb
          have e6 : y4.cell? ⟨gb, 6, none⟩ = some (.bool (tb y 6)) := cell_blk hgb
          have e7 : y4.cell? ⟨gb, 7, none⟩ = some (.bool (tb y 7)) := cell_blk hgb
          have hml : (xs ++ [x]).length + 1 ≤ maxLen := by simp; unfold maxLen; omega
          have hmb : ((xs ++ [x]).length + 1) * eltB.bytes ≤ 140737488355328 := by
            rw [show (xs ++ [x]).length = xs.length + 1 by simp]; exact hcapx
          rw [show xs.length + 1 = (xs ++ [x]).length by simp] at D4
          clear hgb hb HSt HD2 HRB Ha2
          go_wp2_with (at_builtin; go_loud (refine wpList_pushB eltB rfl (.tmp 64) (.tmp 66) rfl y rfl rfl rfl (by have h := D4; rw [show (xs ++ [x]).length = xs.length + 1 by simp] at h; exact h) HD4.out.2.2.size hmb hml ?_); intro v4 y5 ho5 hw5 hv5; (have hbl := block_of_cell0 e0); (have hne : ¬ (Value.ownBlock (.slice (some ⟨g, 0, none⟩) (xs.length + 1) cd) = some gb) := fun hq => hgg (Option.some.inj hq)); (have e0 := (hw5.cell (p := ⟨gb, 0, none⟩) hbl hne).trans e0); (have e1 := (hw5.cell (p := ⟨gb, 1, none⟩) hbl hne).trans e1); (have e2 := (hw5.cell (p := ⟨gb, 2, none⟩) hbl hne).trans e2); (have e3 := (hw5.cell (p := ⟨gb, 3, none⟩) hbl hne).trans e3); (have e4 := (hw5.cell (p := ⟨gb, 4, none⟩) hbl hne).trans e4); (have e5 := (hw5.cell (p := ⟨gb, 5, none⟩) hbl hne).trans e5); (have e6 := (hw5.cell (p := ⟨gb, 6, none⟩) hbl hne).trans e6); (have e7 := (hw5.cell (p := ⟨gb, 7, none⟩) hbl hne).trans e7); (have HK5 := Lib.hid (And.intro ho5 hw5)); clear ho5 hw5 hv5 hbl hne)
          obtain ⟨X, HT2⟩ : ∃ X, Hid (StkI w k (q + 1) v4 y5 v2 X y) := by
            refine ⟨xs ++ [x], HD4.out.1.apartD HD4.out.2.1 HK5.out.2 (fun q hq => hq), HK5.out.1, ⟨Hfit.out.1, fun z hz => ?_⟩, ?_, Wrote.below HD4.out.2.2 HK5.out.2 HD4.out.2.2.size (fun q hq => (HD4.out.2.1.lt hq).1)⟩
            · rcases List.mem_append.1 hz with hz | hz
              · exact Hfit.out.2.2 z hz
              · rw [List.mem_singleton.1 hz]; exact Hfit.out.2.1
            · have := Hlen.out; simp; omega
          clear HD4 HK5 D4 HGB hgg hmb hml
          go_wp2_with fail
          refine (numberT _ Hfit.out.1).mono ?_
          rintro e y6 ⟨rfl, hb⟩
          have HT2 := Lib.hid (HT2.out.go hb)
          clear hb e0 e1 e2 e3 e4 e5 e6 e7
          have hX := HT2.out.stk
          obtain ⟨gT, cT, hvT, hlT, hmT, hgT, hfT, t0, t1, t2, t3, t4, t5, t6, t7⟩ := doc_at HT2.out.doc
          have HfitT := HT2.out.fit.1
          unfold maxLen at hmT
          clear hgT hfT
          skip
          try subst hvT
          try (cases hvT)
          go_wp2_with fail
          refine (stkLen_calls hX (by simp)).mono ?_
          rintro e z1 ⟨rfl, rfl⟩
          rw [show (X ++ [y]).length = X.length + 1 by simp]
          skip
          go_wp2_with fail
          refine (stkTop_calls hX).mono ?_
          rintro e z1 ⟨rfl, hbz⟩
          have HT3 := Lib.hid (HT2.out.go hbz)
          have t0 := keep hbz t0
          have t1 := keep hbz t1
          have t2 := keep hbz t2
          have t3 := keep hbz t3
          have t4 := keep hbz t4
          have t5 := keep hbz t5
          have t6 := keep hbz t6
          have t7 := keep hbz t7
          clear hbz HT2 hX
          go_wp2_with fail
          refine (numberT _ HfitT).mono ?_
          rintro e z2 ⟨rfl, hbz⟩
          have HT4 := Lib.hid (HT3.out.go hbz)
          clear hbz HT3 t0 t1 t2 t3 t4 t5 t6 t7
          go_wp2
          go_roundw
          case rel => exact ⟨q + 1, _, X, y, hlt, by go_num, HT4.out⟩
          case measure => simp [intOf]; omega
      by_cases h1 : d = 1
      · subst h1
        clear h0
        rcases List.eq_nil_or_concat xs with hxs | ⟨ys, z, hxs⟩
        · subst hxs
          go_wp2_with fail
          refine (stkPop_calls HL.out.stk).mono ?_
          rintro e z0 ⟨rfl, hwz, v2, hvz, hsz⟩
          have HT2 := Lib.hid (HL.out.popped0 hwz hsz)
          clear HL r0 r1 r2 r3 r4 r5 r6 r7 s0 s1 s2 s3 s4 s5 s6 s7 Hacs hwz hvz hsz
          have hX := HT2.out.stk
          obtain ⟨gT, cT, hvT, hlT, hmT, hgT, hfT, t0, t1, t2, t3, t4, t5, t6, t7⟩ := doc_at HT2.out.doc
          have HfitT := HT2.out.fit.1
          unfold maxLen at hmT
          clear hgT hfT
          simp only [List.length_nil, Nat.zero_mul, Nat.zero_add] at t0 t1 t2 t3 t4 t5 t6 t7 hlT
          try subst hvT
          try (cases hvT)
          go_wp2_with fail
          refine (stkLen_calls hX (by simp)).mono ?_
          rintro e z1 ⟨rfl, rfl⟩
          rw [show (([] : List Nat) ++ [x]).length = ([] : List Nat).length + 1 by simp]
          simp only [List.length_nil, Nat.zero_add]
          go_wp2_with fail
          refine (stkTop_calls hX).mono ?_
          rintro e z1 ⟨rfl, hbz⟩
          have HT3 := Lib.hid (HT2.out.go hbz)
          have t0 := keep hbz t0
          have t1 := keep hbz t1
          have t2 := keep hbz t2
          have t3 := keep hbz t3
          have t4 := keep hbz t4
          have t5 := keep hbz t5
          have t6 := keep hbz t6
          have t7 := keep hbz t7
          clear hbz HT2 hX
          go_wp2_with fail
          refine (numberT _ HfitT).mono ?_
          rintro e z2 ⟨rfl, hbz⟩
          have HT4 := Lib.hid (HT3.out.go hbz)
          clear hbz HT3 t0 t1 t2 t3 t4 t5 t6 t7
          go_wp2
          go_roundw
          case rel => exact ⟨q + 1, _, ([] : List Nat), x, hlt, by go_num, HT4.out⟩
          case measure => simp [intOf]; omega
        · rw [List.concat_eq_append] at hxs
          subst hxs
          have hnl : (ys ++ [z]).length = ys.length + 1 := by simp
          go_wp2_with fail
          refine (stkPop_calls HL.out.stk).mono ?_
          rintro e z0 ⟨rfl, hwz, v2, hvz, hsz⟩
          have HT2 := Lib.hid (HL.out.popped hwz hsz)
          clear HL r0 r1 r2 r3 r4 r5 r6 r7 s0 s1 s2 s3 s4 s5 s6 s7 Hacs hwz hvz hsz
          rw [hnl] at hN HT2 hl ⊢
          rw [show (ys ++ [z]).isEmpty = false by simp, Bool.not_false]
          have hX := HT2.out.stk
          obtain ⟨gT, cT, hvT, hlT, hmT, hgT, hfT, t0, t1, t2, t3, t4, t5, t6, t7⟩ := doc_at HT2.out.doc
          have HfitT := HT2.out.fit.1
          unfold maxLen at hmT
          clear hgT hfT
          skip
          try subst hvT
          try (cases hvT)
          go_wp2_with fail
          refine (stkLen_calls hX (by simp)).mono ?_
          rintro e z1 ⟨rfl, rfl⟩
          rw [show (ys ++ [z]).length = ys.length + 1 by simp]
          skip
          go_wp2_with fail
          refine (stkTop_calls hX).mono ?_
          rintro e z1 ⟨rfl, hbz⟩
          have HT3 := Lib.hid (HT2.out.go hbz)
          have t0 := keep hbz t0
          have t1 := keep hbz t1
          have t2 := keep hbz t2
          have t3 := keep hbz t3
          have t4 := keep hbz t4
          have t5 := keep hbz t5
          have t6 := keep hbz t6
          have t7 := keep hbz t7
          clear hbz HT2 hX
          go_wp2_with fail
          refine (numberT _ HfitT).mono ?_
          rintro e z2 ⟨rfl, hbz⟩
          have HT4 := Lib.hid (HT3.out.go hbz)
          clear hbz HT3 t0 t1 t2 t3 t4 t5 t6 t7
          go_wp2
          go_roundw
          case rel => exact ⟨q + 1, _, ys, z, hlt, by go_num, HT4.out⟩
          case measure => simp [intOf]; omega
      by_cases h3 : d = 3
      · subst h3
        clear h0 h1
        go_wp2_with fail
        refine (stkSleep_calls HL.out.stk HL.out.fit.1 j).mono ?_
        rintro e z0 ⟨rfl, hwz, hsz⟩
        have hd2 := HL.out.apartW hwz (fun q hq => .inr hq)
        have hg2 := HL.out.step hwz (fun q hq => .inr hq) hgb.out
        have s1 : z0.cell? ⟨gs, 1, none⟩ = some (.int .i64 j) := cell_blk hg2
        have HD2 := Lib.hid hd2
        have Hfit := Lib.hid HL.out.fit
        have Hlen := Lib.hid HL.out.len
        have HSZ := Lib.hid hsz
        clear HL r0 r1 r2 r3 r4 r5 r6 r7 s0 s2 s3 s4 s5 s6 s7 Hacs hwz hd2 hg2 hsz hgb
        by_cases hj0 : j < 0
        · have hsl : slpB x j = false := by
            have : in8 j = false := by unfold in8; simp; omega
            unfold slpB; rw [this]; rfl
          have HT2 := Lib.hid (show StkI w k (q + 1) (.slice (some ⟨g, 0, none⟩) (xs.length + 1) cd) z0 vv xs x from ⟨by have h := HSZ.out; unfold slpN at h; rw [hsl] at h; exact h, HD2.out.1, Hfit.out, by have := Hlen.out; omega, HD2.out.2⟩)
          rw [hsl]
          clear hsl HD2 Hfit HSZ
          have hd0 : decide (0 ≤ j) = false := by simpa using hj0
          go_wp2_with fail
          refine wp_ext_draw 14 mixed (by kernel_rfl) ?_
          simp only [List.take_succ_cons, List.take_zero, List.drop_succ_cons, List.drop_zero]
          repeat ((first | ((apply TextRun.go rfl rfl rfl); (focus (intro w1 hS K hK; have hc := bcell hS; have hs := blt hS; have s1 := keep hS s1; go_wp2_with (fail); first | done | exact hS | exact hS.trans (hb.mono hS.size)))) | (refine TextRun.skip rfl ?_) | ((refine TextRun.wantedT rfl rfl rfl ?_); (apply Exists.intro); (apply And.intro); (focus (intro w1 hS K hK; have hc := bcell hS; have hs := blt hS; have s1 := keep hS s1; go_wp2_with (fail); first | done | exact hS | exact hS.trans (hb.mono hS.size))))); (simp only [Act.put, List.setIfInBounds_toArray, List.set_cons_zero, List.set_cons_succ]))
          refine TextRun.done ?_
          intro y2 hb
          have HT2 := Lib.hid (HT2.out.go hb)
          clear hb s1
          have hX := HT2.out.stk
          obtain ⟨gT, cT, hvT, hlT, hmT, hgT, hfT, t0, t1, t2, t3, t4, t5, t6, t7⟩ := doc_at HT2.out.doc
          have HfitT := HT2.out.fit.1
          unfold maxLen at hmT
          clear hgT hfT
          skip
          try subst hvT
          try (cases hvT)
          go_wp2_with fail
          refine (stkLen_calls hX (by simp)).mono ?_
          rintro e z1 ⟨rfl, rfl⟩
          rw [show (xs ++ [x]).length = xs.length + 1 by simp]
          skip
          go_wp2_with fail
          refine (stkTop_calls hX).mono ?_
          rintro e z1 ⟨rfl, hbz⟩
          have HT3 := Lib.hid (HT2.out.go hbz)
          have t0 := keep hbz t0
          have t1 := keep hbz t1
          have t2 := keep hbz t2
          have t3 := keep hbz t3
          have t4 := keep hbz t4
          have t5 := keep hbz t5
          have t6 := keep hbz t6
          have t7 := keep hbz t7
          clear hbz HT2 hX
          go_wp2_with fail
          refine (numberT _ HfitT).mono ?_
          rintro e z2 ⟨rfl, hbz⟩
          have HT4 := Lib.hid (HT3.out.go hbz)
          clear hbz HT3 t0 t1 t2 t3 t4 t5 t6 t7
          go_wp2
          go_roundw
          case rel => exact ⟨q + 1, _, xs, x, hlt, by go_num, HT4.out⟩
          case measure => simp [intOf]; omega
        by_cases hj8 : 8 ≤ j
        · have hsl : slpB x j = false := by
            have : in8 j = false := by unfold in8; simp; omega
            unfold slpB; rw [this]; rfl
          have HT2 := Lib.hid (show StkI w k (q + 1) (.slice (some ⟨g, 0, none⟩) (xs.length + 1) cd) z0 vv xs x from ⟨by have h := HSZ.out; unfold slpN at h; rw [hsl] at h; exact h, HD2.out.1, Hfit.out, by have := Hlen.out; omega, HD2.out.2⟩)
          rw [hsl]
          clear hsl HD2 Hfit HSZ
          have hd0 : decide (0 ≤ j) = true := by simpa using hj0
          have hd8 : decide (j < 8) = false := by simpa using hj8
          go_wp2_with fail
          refine wp_ext_draw 14 mixed (by kernel_rfl) ?_
          simp only [List.take_succ_cons, List.take_zero, List.drop_succ_cons, List.drop_zero]
          repeat ((first | ((apply TextRun.go rfl rfl rfl); (focus (intro w1 hS K hK; have hc := bcell hS; have hs := blt hS; have s1 := keep hS s1; go_wp2_with (fail); first | done | exact hS | exact hS.trans (hb.mono hS.size)))) | (refine TextRun.skip rfl ?_) | ((refine TextRun.wantedT rfl rfl rfl ?_); (apply Exists.intro); (apply And.intro); (focus (intro w1 hS K hK; have hc := bcell hS; have hs := blt hS; have s1 := keep hS s1; go_wp2_with (fail); first | done | exact hS | exact hS.trans (hb.mono hS.size))))); (simp only [Act.put, List.setIfInBounds_toArray, List.set_cons_zero, List.set_cons_succ]))
          refine TextRun.done ?_
          intro y2 hb
          have HT2 := Lib.hid (HT2.out.go hb)
          clear hb s1
          have hX := HT2.out.stk
          obtain ⟨gT, cT, hvT, hlT, hmT, hgT, hfT, t0, t1, t2, t3, t4, t5, t6, t7⟩ := doc_at HT2.out.doc
          have HfitT := HT2.out.fit.1
          unfold maxLen at hmT
          clear hgT hfT
          skip
          try subst hvT
          try (cases hvT)
          go_wp2_with fail
          refine (stkLen_calls hX (by simp)).mono ?_
          rintro e z1 ⟨rfl, rfl⟩
          rw [show (xs ++ [x]).length = xs.length + 1 by simp]
          skip
          go_wp2_with fail
          refine (stkTop_calls hX).mono ?_
          rintro e z1 ⟨rfl, hbz⟩
          have HT3 := Lib.hid (HT2.out.go hbz)
          have t0 := keep hbz t0
          have t1 := keep hbz t1
          have t2 := keep hbz t2
          have t3 := keep hbz t3
          have t4 := keep hbz t4
          have t5 := keep hbz t5
          have t6 := keep hbz t6
          have t7 := keep hbz t7
          clear hbz HT2 hX
          go_wp2_with fail
          refine (numberT _ HfitT).mono ?_
          rintro e z2 ⟨rfl, hbz⟩
          have HT4 := Lib.hid (HT3.out.go hbz)
          clear hbz HT3 t0 t1 t2 t3 t4 t5 t6 t7
          go_wp2
          go_roundw
          case rel => exact ⟨q + 1, _, xs, x, hlt, by go_num, HT4.out⟩
          case measure => simp [intOf]; omega
        obtain ⟨jn, rfl⟩ := Int.eq_ofNat_of_zero_le (show 0 ≤ j by omega)
        have hjn : jn < 8 := by omega
        have hd8 : decide ((jn : Int) < 8) = true := by simp; omega
        have h8 : in8 (jn : Int) = true := by unfold in8; simp; omega
        have rj := doc_cell HD2.out.1 hjn
        have hslv : slpB x (jn : Int) = !tb x jn := by unfold slpB tb; rw [h8]; rfl
        cases htb : tb x jn
        · have hsl : slpB x (jn : Int) = true := by rw [hslv, htb]; rfl
          have hone : oneN (jn : Int) = 2 ^ jn := by unfold oneN; rw [h8]; rfl
          have HS2 := Lib.hid (show StackAt z0 w.heap.size k vv (xs ++ [x ||| 2 ^ jn]) from by have h := HSZ.out; unfold slpN at h; rw [hsl, hone] at h; exact h)
          have hlt' : x ||| 2 ^ jn < 256 := by
            have h1 : 2 ^ jn < 2 ^ 8 := Nat.pow_lt_pow_right (by decide) hjn
            exact Nat.or_lt_two_pow (n := 8) Hfit.out.1 h1
          have Hlt' := Lib.hid hlt'
          rw [hsl]
          rw [htb] at rj
          clear hsl hslv HSZ h8 hone hlt'
          go_wp2_with fail
          refine wp_ext_draw 14 mixed (by kernel_rfl) ?_
          simp only [List.take_succ_cons, List.take_zero, List.drop_succ_cons, List.drop_zero]
          repeat ((first | ((apply TextRun.go rfl rfl rfl); (focus (intro w1 hS K hK; have hc := bcell hS; have hs := blt hS; have s1 := keep hS s1; have rj := keep hS rj; go_wp2_with (fail); first | done | exact hS | exact hS.trans (hb.mono hS.size)))) | (refine TextRun.skip rfl ?_) | ((refine TextRun.wantedT rfl rfl rfl ?_); (apply Exists.intro); (apply And.intro); (focus (intro w1 hS K hK; have hc := bcell hS; have hs := blt hS; have s1 := keep hS s1; have rj := keep hS rj; go_wp2_with (fail); first | done | exact hS | exact hS.trans (hb.mono hS.size))))); (simp only [Act.put, List.setIfInBounds_toArray, List.set_cons_zero, List.set_cons_succ]))
          refine TextRun.done ?_
          intro y2 hb
          have s1 := keep hb s1
          have rj := keep hb rj
          have HS3 := Lib.hid (And.intro (HS2.out.below hb) (And.intro (HD2.out.1.below hb) (HD2.out.2.trans (hb.mono HD2.out.2.size))))
          clear hb HS2 HD2
          go_wp2_with fail
          refine wp_ext_draw 5 mixed (by kernel_rfl) ?_
          simp only [List.take_succ_cons, List.take_zero, List.drop_succ_cons, List.drop_zero]
          repeat ((first | ((apply TextRun.go rfl rfl rfl); (focus (intro w1 hS K hK; have hc := bcell hS; have hs := blt hS; have s1 := keep hS s1; have rj := keep hS rj; go_wp2_with (fail); first | done | exact hS | exact hS.trans (hb.mono hS.size)))) | (refine TextRun.skip rfl ?_) | ((refine TextRun.wantedT rfl rfl rfl ?_); (apply Exists.intro); (apply And.intro); (focus (intro w1 hS K hK; have hc := bcell hS; have hs := blt hS; have s1 := keep hS s1; have rj := keep hS rj; go_wp2_with (fail); first | done | exact hS | exact hS.trans (hb.mono hS.size))))); (simp only [Act.put, List.setIfInBounds_toArray, List.set_cons_zero, List.set_cons_succ]))
          refine TextRun.done ?_
          intro y4 hb
          have rj := keep hb rj
          have s1 := keep hb s1
          obtain ⟨g9, c9, hv9, _, _, _, hfz9, _⟩ := doc_at (HS3.out.2.1.below hb)
          cases hv9
          have hf9 := hfz9 (xs.length * 8 + jn)
          have h9 := stk_put (HS3.out.1.below hb) (HS3.out.2.1.below hb) hjn
          have HT2 := Lib.hid (show StkI w k (q + 1) (.slice (some ⟨g, 0, none⟩) (xs.length + 1) cd) (y4.setCell ⟨g, xs.length * 8 + jn, none⟩ (.bool true)) vv xs (x ||| 2 ^ jn) from ⟨h9.1, h9.2, ⟨Hlt'.out, Hfit.out.2⟩, by have := Hlen.out; omega, (HS3.out.2.2.trans (hb.mono HS3.out.2.2.size)).setCell (p := ⟨g, xs.length * 8 + jn, none⟩) hgB _⟩)
          clear hfz9 h9 hb HS3
          go_upto_region 34 with (fail)
          clear rj s1 hf9
          generalize (y4.setCell ⟨g, xs.length * 8 + jn, none⟩ (.bool true)) = y5 at *
          generalize x ||| 2 ^ jn = x5 at *
          have hX := HT2.out.stk
          obtain ⟨gT, cT, hvT, hlT, hmT, hgT, hfT, t0, t1, t2, t3, t4, t5, t6, t7⟩ := doc_at HT2.out.doc
          have HfitT := HT2.out.fit.1
          unfold maxLen at hmT
          clear hgT hfT
          skip
          try subst hvT
          try (cases hvT)
          go_wp2_with fail
          refine (stkLen_calls hX (by simp)).mono ?_
          rintro e z1 ⟨rfl, rfl⟩
          rw [show (xs ++ [x5]).length = xs.length + 1 by simp]
          skip
          go_wp2_with fail
          refine (stkTop_calls hX).mono ?_
          rintro e z1 ⟨rfl, hbz⟩
          have HT3 := Lib.hid (HT2.out.go hbz)
          have t0 := keep hbz t0
          have t1 := keep hbz t1
          have t2 := keep hbz t2
          have t3 := keep hbz t3
          have t4 := keep hbz t4
          have t5 := keep hbz t5
          have t6 := keep hbz t6
          have t7 := keep hbz t7
          clear hbz HT2 hX
          go_wp2_with fail
          refine (numberT _ HfitT).mono ?_
          rintro e z2 ⟨rfl, hbz⟩
          have HT4 := Lib.hid (HT3.out.go hbz)
          clear hbz HT3 t0 t1 t2 t3 t4 t5 t6 t7
          go_wp2
          go_roundw
          case rel => exact ⟨q + 1, _, xs, x5, hlt, by go_num, HT4.out⟩
          case measure => simp [intOf]; omega
        · have hsl : slpB x (jn : Int) = false := by rw [hslv, htb]; rfl
          have HT2 := Lib.hid (show StkI w k (q + 1) (.slice (some ⟨g, 0, none⟩) (xs.length + 1) cd) z0 vv xs x from ⟨by have h := HSZ.out; unfold slpN at h; rw [hsl] at h; exact h, HD2.out.1, Hfit.out, by have := Hlen.out; omega, HD2.out.2⟩)
          rw [hsl]
          rw [htb] at rj
          clear hsl hslv HD2 Hfit HSZ h8
          go_wp2_with fail
          refine wp_ext_draw 14 mixed (by kernel_rfl) ?_
          simp only [List.take_succ_cons, List.take_zero, List.drop_succ_cons, List.drop_zero]
          repeat ((first | ((apply TextRun.go rfl rfl rfl); (focus (intro w1 hS K hK; have hc := bcell hS; have hs := blt hS; have s1 := keep hS s1; have rj := keep hS rj; go_wp2_with (fail); first | done | exact hS | exact hS.trans (hb.mono hS.size)))) | (refine TextRun.skip rfl ?_) | ((refine TextRun.wantedT rfl rfl rfl ?_); (apply Exists.intro); (apply And.intro); (focus (intro w1 hS K hK; have hc := bcell hS; have hs := blt hS; have s1 := keep hS s1; have rj := keep hS rj; go_wp2_with (fail); first | done | exact hS | exact hS.trans (hb.mono hS.size))))); (simp only [Act.put, List.setIfInBounds_toArray, List.set_cons_zero, List.set_cons_succ]))
          refine TextRun.done ?_
          intro y2 hb
          have HT2 := Lib.hid (HT2.out.go hb)
          have rj := keep hb rj
          clear hb s1
          have hX := HT2.out.stk
          obtain ⟨gT, cT, hvT, hlT, hmT, hgT, hfT, t0, t1, t2, t3, t4, t5, t6, t7⟩ := doc_at HT2.out.doc
          have HfitT := HT2.out.fit.1
          unfold maxLen at hmT
          clear hgT hfT
          skip
          try subst hvT
          try (cases hvT)
          go_wp2_with fail
          refine (stkLen_calls hX (by simp)).mono ?_
          rintro e z1 ⟨rfl, rfl⟩
          rw [show (xs ++ [x]).length = xs.length + 1 by simp]
          skip
          go_wp2_with fail
          refine (stkTop_calls hX).mono ?_
          rintro e z1 ⟨rfl, hbz⟩
          have HT3 := Lib.hid (HT2.out.go hbz)
          have t0 := keep hbz t0
          have t1 := keep hbz t1
          have t2 := keep hbz t2
          have t3 := keep hbz t3
          have t4 := keep hbz t4
          have t5 := keep hbz t5
          have t6 := keep hbz t6
          have t7 := keep hbz t7
          clear hbz HT2 hX
          go_wp2_with fail
          refine (numberT _ HfitT).mono ?_
          rintro e z2 ⟨rfl, hbz⟩
          have HT4 := Lib.hid (HT3.out.go hbz)
          clear hbz HT3 t0 t1 t2 t3 t4 t5 t6 t7
          go_wp2
          go_roundw
          case rel => exact ⟨q + 1, _, xs, x, hlt, by go_num, HT4.out⟩
          case measure => simp [intOf]; omega
      have HT2 := Lib.hid (HL.out.later (Nat.le_succ q))
      clear HL r0 r1 r2 r3 r4 r5 r6 r7 Hacs
      have hX := HT2.out.stk
      obtain ⟨gT, cT, hvT, hlT, hmT, hgT, hfT, t0, t1, t2, t3, t4, t5, t6, t7⟩ := doc_at HT2.out.doc
      have HfitT := HT2.out.fit.1
      unfold maxLen at hmT
      clear hgT hfT
      skip
      try subst hvT
      try (cases hvT)
      go_wp2_with fail
      refine (stkLen_calls hX (by simp)).mono ?_
      rintro e z1 ⟨rfl, rfl⟩
      rw [show (xs ++ [x]).length = xs.length + 1 by simp]
      skip
      go_wp2_with fail
      refine (stkTop_calls hX).mono ?_
      rintro e z1 ⟨rfl, hbz⟩
      have HT3 := Lib.hid (HT2.out.go hbz)
      have t0 := keep hbz t0
      have t1 := keep hbz t1
      have t2 := keep hbz t2
      have t3 := keep hbz t3
      have t4 := keep hbz t4
      have t5 := keep hbz t5
      have t6 := keep hbz t6
      have t7 := keep hbz t7
      clear hbz HT2 hX
      go_wp2_with fail
      refine (numberT _ HfitT).mono ?_
      rintro e z2 ⟨rfl, hbz⟩
      have HT4 := Lib.hid (HT3.out.go hbz)
      clear hbz HT3 t0 t1 t2 t3 t4 t5 t6 t7
      go_wp2
      go_roundw
      case rel => exact ⟨q + 1, _, xs, x, hlt, by go_num, HT4.out⟩
      case measure => simp [intOf]; omega
    · have hq' : q = n := by omega
      subst hq'
      have HF := HL.out.below
      clear HL
      go_wp2
      go_ret
      exact ⟨rfl, HF⟩
end Go.Proofs.YtobhandimolmhaaDoor
