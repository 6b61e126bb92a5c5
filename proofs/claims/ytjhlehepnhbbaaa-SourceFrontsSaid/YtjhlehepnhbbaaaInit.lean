/-
  Initials: the document's text.
-/
import Derived.Test.YtjhlehepnhbbaaaInitA
set_option linter.unusedSimpArgs false
set_option linter.unusedVariables false
namespace Go.Proofs.Ytjhlehepnhbbaaa
open Go.ChangeShapes Go.WideShapes Go.ChangeAt Go.RowKit Go.Deep

theorem step_sub {l : List Ev} {k : Nat} {e : Ev} {s : Nat × Nat} (h : ∀ j, s.2.testBit j = true → s.1.testBit j = true) : ∀ j, (initStep l k e s).2.testBit j = true → (initStep l k e s).1.testBit j = true := by
  intro j
  unfold initStep
  split
  · show (if _ then s.2 else s.2 ||| oneN e.t).testBit j = true → (s.1 ||| oneN e.t).testBit j = true
    rw [Nat.testBit_or]
    split
    · intro hj; rw [h j hj]; rfl
    · rw [Nat.testBit_or, Bool.or_eq_true, Bool.or_eq_true]
      rintro (hj | hj)
      · exact .inl (h j hj)
      · exact .inr hj
  · exact h j
theorem initS_sub (l : List Ev) : ∀ k j, (initS l k).2.testBit j = true → (initS l k).1.testBit j = true
  | 0 => by simp [initS]
  | k + 1 => by
    unfold initS
    split
    · exact step_sub (initS_sub l k)
    · exact initS_sub l k
theorem dep_eq (o e : Ev) : dependsB o.t o.k o.o e.t e.k e.o = rdepB o.t o.k o.o e.t e.k e.o := depends_is ..
theorem BitsAt.off {w : World} {b m : Nat} (h : BitsAt w b m) {i : Nat} (hi : i < 8) {m' : Nat} (hm : ∀ j, j < 8 → m'.testBit j = (m.testBit j && !decide (i = j))) : BitsAt (w.setCell ⟨b, i, none⟩ (.bool false)) b m' := by
  obtain ⟨cs, h1, h2, h3⟩ := h.blk
  refine ⟨⟨cs.setIfInBounds i (.bool false), by simp [World.setCell, Array.getElem?_modify, h1], by simpa using h2, fun j hj => ?_⟩⟩
  rw [hm j hj, Array.getElem?_setIfInBounds]
  by_cases hij : i = j
  · subst hij; simp [h2, hi]
  · simp [hij, h3 j hj]

theorem off_bits {s t : Nat} (h : s.testBit t = false) (c : Bool) (j : Nat) : s.testBit j = ((if c then s else s ||| 2 ^ t).testBit j && !decide (t = j)) := by
  by_cases ht : t = j
  · subst ht; rw [h]; simp
  · cases c
    · simp [ht, Nat.testBit_or, Nat.testBit_two_pow]
    · simp [ht]
set_option maxRecDepth 100000 in
set_option maxHeartbeats 8000000 in
theorem rinit_calls {w : World} {a0 : Option Addr} {n c : Nat} {l : List Ev} (h : IsEvs w a0 n c l) :
    Calls Try.prog 70 #[.slice a0 n c] w fun e w' => e = .returned (.int .u64 ((initS l n).2 : Nat)) ∧ Below w.heap.size w w' := by
  have hn : n ≤ 9223372036854775807 := by have h1 := h.le; have h2 := h.cap; unfold maxLen at h2; omega
  have hl := h.len
  have hz : ∀ (W : World), BitsAt (W.alloc (.cells #[.bool false, .bool false, .bool false, .bool false, .bool false, .bool false, .bool false, .bool false] 66)) W.heap.size 0 := fun W =>
    ⟨⟨_, (MapKept.heap_alloc W _).1, rfl, eight rfl rfl rfl rfl rfl rfl rfl rfl⟩⟩
  have Hz := Lib.hid hz
  clear hz
  go_enter Try.func70, Try.ntmps70
  go_wp2
  go_loopg [5] n (fun g i wr => ∃ k : Nat, k + g = n ∧ i = .int .i64 k ∧ BitsAt wr w.heap.size (initS l k).2 ∧ BitsAt wr (w.heap.size + 1) (initS l k).1 ∧ Below w.heap.size w wr)
  case atStart =>
    refine ⟨0, by omega, rfl, ?_, ?_, by go_grown⟩
    · exact (Hz.out w).below ((Below.refl _ _).alloc (by simp) _)
    · have := Hz.out (w.alloc (.cells #[.bool false, .bool false, .bool false, .bool false, .bool false, .bool false, .bool false, .bool false] 66))
      change BitsAt _ _ 0
      simpa using this
  case round =>
    obtain ⟨k, hkg, rfl, ho, hm, hB⟩ := hrel
    cases gk with
    | zero =>
      obtain rfl : k = n := by omega
      obtain ⟨f, hf⟩ : ∃ f, f = (initS l k).2.testBit := ⟨_, rfl⟩
      have hN : ∀ W, Calls Try.prog 94 #[.agg #[.bool (f 0), .bool (f 1), .bool (f 2), .bool (f 3), .bool (f 4), .bool (f 5), .bool (f 6), .bool (f 7)]] W fun e w' =>
          e = .returned (.int .u64 ((initS l k).2 : Nat)) ∧ Below W.heap.size W w' := fun W => by subst hf; exact number17_calls W (initS_lt l k).2
      have q0 := ho.at (i := 0) (by omega)
      have q1 := ho.at (i := 1) (by omega)
      have q2 := ho.at (i := 2) (by omega)
      have q3 := ho.at (i := 3) (by omega)
      have q4 := ho.at (i := 4) (by omega)
      have q5 := ho.at (i := 5) (by omega)
      have q6 := ho.at (i := 6) (by omega)
      have q7 := ho.at (i := 7) (by omega)
      rw [← hf] at q0 q1 q2 q3 q4 q5 q6 q7
      have HN := Lib.hid hN
      clear hN ho hm hf
      go_wp2_with fail
      refine (HN.out _).mono ?_
      rintro e' w4 ⟨rfl, hb⟩
      go_wp2
      go_ret
      exact ⟨rfl, hB.trans (hb.mono hB.size)⟩
    | succ g =>
      have hkn : k < n := by omega
      obtain ⟨b, off, e, rfl, he, hew, c0, c1, c2, c3, c4⟩ := h.at hkn
      have c0 := keep hB c0
      have c1 := keep hB c1
      have c2 := keep hB c2
      have c3 := keep hB c3
      have c4 := keep hB c4
      have Hs := Lib.hid (initS_succ he)
      have ml := (initS_lt l k).1
      have ol := (initS_lt l k).2
      cases hi : in8 e.t
      · have Hq : Hid (initS l (k + 1) = initS l k) := by unfold Hid; rw [Hs.out, step_same (.inl hi)]
        have ho8 : e.t < 0 ∨ 8 ≤ e.t := by
          unfold in8 at hi; simp only [Bool.and_eq_false_iff, decide_eq_false_iff_not] at hi; omega
        clear hi
        rcases ho8 with h0 | h0
        all_goals
          go_wp2
          go_roundg g
          case measure => omega
          case rel => exact ⟨k + 1, by omega, by go_num, by rw [Hq.out]; exact ho, by rw [Hq.out]; exact hm, hB⟩
      · obtain ⟨t0, t8⟩ : 0 ≤ e.t ∧ e.t < 8 := by
          unfold in8 at hi; simpa using hi
        obtain ⟨t, ht⟩ := Int.eq_ofNat_of_zero_le t0
        have ht8 : t < 8 := by omega
        have hbit : hasB (initS l k).1 e.t = (initS l k).1.testBit t := by unfold hasB; rw [hi, ht]; rfl
        rw [ht] at c0
        have q1 := hm.at ht8
        cases hh : (initS l k).1.testBit t
        · rw [hh] at q1 hbit
          have Hq : Hid (initS l (k + 1) = ((initS l k).1 ||| oneN e.t, if anyDep l k e then (initS l k).2 else (initS l k).2 ||| oneN e.t)) := by unfold Hid; rw [Hs.out, step_new hi hbit]
          have Ho : Hid (oneN e.t = 2 ^ t) := by unfold Hid oneN; rw [hi, ht]; rfl
          have Hh := Lib.hid h
          have f1 := hm.free t
          have f0 := ho.free t
          have q0 := ho.at ht8
          have Hm := Lib.hid hm
          have Hoo := Lib.hid ho
          have Ht := Lib.hid ht
          have Hhh := Lib.hid hh
          clear h hm ho hi t0 t8 ht hh hbit
          go_wp2
          clear c0 c1 c2 c3 c4 q0 q1 f0 f1
          rename World => wo
          go_loopg [7] k (fun g2 s wy => ∃ j : Nat, j + g2 = k ∧ s = .int .i64 j ∧ BitsAt wy (w.heap.size + 1) ((initS l k).1 ||| 2 ^ t) ∧ BitsAt wy w.heap.size (if anyDep l j e then (initS l k).2 else (initS l k).2 ||| 2 ^ t) ∧ Below w.heap.size w wy)
          case atStart =>
            refine ⟨0, by omega, rfl, (Hm.out.set ht8).frame (Below.heap_setCell _ _ _ _ (by simp)), ?_, Below.setCell (Below.setCell hB (by simp) _) (by simp) _⟩
            rw [show anyDep l 0 e = false from rfl]
            exact (Hoo.out.frame (w' := wo.setCell ⟨w.heap.size + 1, t, none⟩ (.bool true)) (Below.heap_setCell _ _ _ _ (by simp))).set ht8
          case round =>
            obtain ⟨j, hjg, rfl, hm2, ho2, hB2⟩ := hrel
            cases gk with
            | zero =>
              obtain rfl : j = k := by omega
              have Hm2 := Lib.hid hm2
              have Ho2 := Lib.hid ho2
              clear hm2 ho2
              go_wp2
              go_roundg g
              case measure => omega
              case rel => exact ⟨j + 1, by omega, by go_num, by rw [Hq.out, Ho.out]; exact Ho2.out, by rw [Hq.out, Ho.out]; exact Hm2.out, hB2⟩
            | succ gj =>
              have hjk : j < k := by omega
              obtain ⟨b', off', o, hb', hj, _, x0, x1, x2, x3, x4⟩ := Hh.out.at (show j < n by omega)
              cases hb'
              obtain ⟨b', off', e', hb', he', _, y0, y1, y2, y3, y4⟩ := Hh.out.at hkn
              cases hb'
              obtain rfl : e = e' := Option.some.inj (he.symm.trans he')
              have x0 := keep hB2 x0
              have x1 := keep hB2 x1
              have x2 := keep hB2 x2
              have x3 := keep hB2 x3
              have x4 := keep hB2 x4
              have y0 := keep hB2 y0
              have y1 := keep hB2 y1
              have y2 := keep hB2 y2
              have y3 := keep hB2 y3
              have y4 := keep hB2 y4
              have Hn := Lib.hid (any_succ (e := e) hj)
              have Hm2 := Lib.hid hm2
              have Ho2 := Lib.hid ho2
              clear hm2 ho2 he' he hj
              go_wp2_with fail
              refine wp_ext_draw 8 mixed (by kernel_rfl) ?_
              simp only [List.take_succ_cons, List.take_zero, List.drop_succ_cons, List.drop_zero]
              repeat ((first | ((apply TextRun.go rfl rfl rfl); (focus (intro w1 hS K hK; have hc := bcell hS; have hs := blt hS; have x0 := keep hS x0; have x1 := keep hS x1; have x2 := keep hS x2; have x3 := keep hS x3; have x4 := keep hS x4; have y0 := keep hS y0; have y1 := keep hS y1; have y2 := keep hS y2; have y3 := keep hS y3; have y4 := keep hS y4; go_wp2_with (fail); first | done | exact hS | exact hS.trans (hb.mono hS.size)))) | (refine TextRun.skip rfl ?_) | ((refine TextRun.wantedT rfl rfl rfl ?_); (apply Exists.intro); (apply And.intro); (focus (intro w1 hS K hK; have hc := bcell hS; have hs := blt hS; have x0 := keep hS x0; have x1 := keep hS x1; have x2 := keep hS x2; have x3 := keep hS x3; have x4 := keep hS x4; have y0 := keep hS y0; have y1 := keep hS y1; have y2 := keep hS y2; have y3 := keep hS y3; have y4 := keep hS y4; go_wp2_with (fail); first | done | exact hS | exact hS.trans (hb.mono hS.size))))); (simp only [Act.put, List.setIfInBounds_toArray, List.set_cons_zero, List.set_cons_succ]))
              refine TextRun.done ?_
              intro w2 hb
              have hB3 := hB2.trans (hb.mono hB2.size)
              have Hm3 := Lib.hid (Hm2.out.below hb)
              have Ho3 := Lib.hid (Ho2.out.below hb)
              clear hb x0 x1 x2 x3 x4 y0 y1 y2 y3 y4
              go_wp2_with fail
              refine (rdep_calls _ _ _ _ _ _ _ _ _ _ _).mono ?_
              rintro e' w4 ⟨rfl, hb4⟩
              have hB4 := hB3.trans (hb4.mono hB3.size)
              have Hm4 := Lib.hid (Hm3.out.below hb4)
              have ho4 := Ho3.out.below hb4
              rw [← dep_eq o e]
              cases hd : dependsB o.t o.k o.o e.t e.k e.o
              · have Hn2 : Hid (anyDep l (j + 1) e = anyDep l j e) := by unfold Hid; rw [Hn.out, hd, Bool.or_false]
                have Ho4 := Lib.hid ho4
                clear ho4 hb4
                go_wp2
                go_roundg gj
                case measure => omega
                case rel => exact ⟨j + 1, by omega, by go_num, Hm4.out, by rw [Hn2.out]; exact Ho4.out, hB4⟩
              · have Hn2 : Hid (anyDep l (j + 1) e = true) := by unfold Hid; rw [Hn.out, hd, Bool.or_true]
                have hs2 : (initS l k).2.testBit t = false := by
                  cases hx : (initS l k).2.testBit t
                  · rfl
                  · have := initS_sub l k t hx; rw [Hhh.out] at this; cases this
                have z0 := ho4.at ht8
                have z1 := ho4.free t
                have Hoff := Lib.hid (ho4.off ht8 (m' := (initS l k).2) (fun j' _ => off_bits hs2 _ j'))
                have Hmf := Lib.hid (Hm4.out.frame (w' := w4.setCell ⟨w.heap.size, t, none⟩ (.bool false)) (Below.heap_setCell _ _ _ _ (by simp)))
                clear ho4 hb4 hs2
                go_wp2
                go_roundg gj
                case measure => omega
                case rel => exact ⟨j + 1, by omega, by go_num, Hmf.out, by rw [Hn2.out]; exact Hoff.out, Below.setCell hB4 (by simp) _⟩
        · rw [hh] at q1 hbit
          have Hq : Hid (initS l (k + 1) = initS l k) := by unfold Hid; rw [Hs.out, step_same (.inr hbit)]
          have Ho := Lib.hid ho
          have Hm := Lib.hid hm
          clear ho hm hi t0 t8 ht hbit hh
          go_wp2
          go_roundg g
          case measure => omega
          case rel => exact ⟨k + 1, by omega, by go_num, by rw [Hq.out]; exact Ho.out, by rw [Hq.out]; exact Hm.out, hB⟩
end Go.Proofs.Ytjhlehepnhbbaaa
