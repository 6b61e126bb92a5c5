/-
  Clocks: Copy; the document's functions on lists; what the laws share.
-/
import Derived.Test.YtngmcbliihohcaaClock3
set_option linter.unusedSimpArgs false
set_option linter.unusedVariables false
namespace Go.Proofs.Ytngmcbliihohcaa
open Go.ChangeShapes Go.WideShapes Go.ChangeAt Go.RowKit Go.Deep

theorem ints_of_own {w : World} {base n : Nat} {v : Value} {xs : List Int} (h : w.ownsRow base 3 1 v n (xs.map (Value.int .i64))) (h1 : 1 ≤ n) (hf : ∀ x ∈ xs, Fit x) :
    ∃ g cap, v = .slice (some ⟨g, 0, none⟩) n cap ∧ IsInts w (some ⟨g, 0, none⟩) n cap xs ∧ base ≤ g ∧ g < w.heap.size := by
  rcases h.2 with ⟨_, h0⟩ | ⟨g, cap, cur, rfl, hb, hg, hnc, hcm, hcs, ht⟩
  · omega
  have hl : xs.length = n := by simpa using h.1
  refine ⟨g, cap, rfl, ⟨⟨by simp [hl], fun _ => ⟨g, 0, rfl, fun j u hu => ?_⟩⟩, hl, hnc, hcm, hf⟩, hb, (Array.getElem?_eq_some_iff.1 hg).1⟩
  rw [Nat.zero_add, cell_of_block hg]
  rw [← ht, Nat.mul_one, List.getElem?_take] at hu
  split at hu
  · rw [← Array.getElem?_toList]; exact hu
  · cases hu

set_option maxHeartbeats 1000000 in
theorem copy_calls {w : World} {b g : Nat} {l : List Int} (h : ClockAt w b g l) :
    Calls Try.prog 24 #[.pointer (some ⟨b, 0, none⟩)] w fun e w' => ∃ b' g', e = .returned (.pointer (some ⟨b', 0, none⟩)) ∧ ClockAt w' b' g' l ∧ w.heap.size ≤ b' ∧ w.heap.size ≤ g' ∧ Below w.heap.size w w' := by
  obtain ⟨cap, c1, hI⟩ := h.ints
  have h8 := h.le
  have h1 := h.pos
  have hc := clone_calls hI h1 (by omega)
  have hmk := fun (w1 : World) (v : Value) (hown : w1.ownsRow w.heap.size 3 1 v l.length (l.map (Value.int .i64))) => clock_of w w1 v l h1 h8 h.wf hown
  have Hc := Lib.hid hc
  have Hmk := Lib.hid hmk
  clear hc hmk hI h
  go_enter Try.func24, Try.ntmps24
  go_wp2_with fail
  refine Hc.out.mono ?_
  rintro e w1 ⟨v, rfl, hown, hb⟩
  obtain ⟨g0, cap0, rfl⟩ := own_form hown h1
  obtain ⟨g', hg, hcl⟩ := Hmk.out w1 _ hown
  have Hcl := Lib.hid hcl
  have Hbl := Lib.hid (hb.alloc hb.size (.cells #[.slice (some ⟨g0, 0, none⟩) l.length cap0] 64))
  have hs := hb.size
  clear Hc Hmk hown hcl hb
  go_wp2
  go_ret
  exact ⟨_, g', rfl, Hcl.out, hs, hg, Hbl.out⟩

/-! The document's. -/
set_option maxHeartbeats 1000000 in
theorem rnew_calls (n : Int) (w : World) (h1 : 1 ≤ n) (h8 : n ≤ 8) :
    Calls Try.prog 11 #[.int .i64 n] w fun e w' => e = .returned (.tuple #[.slice (some ⟨w.heap.size, 0, none⟩) n.toNat n.toNat, .int .i64 0]) ∧ IsInts w' (some ⟨w.heap.size, 0, none⟩) n.toNat n.toNat (List.replicate n.toNat 0) ∧ Below w.heap.size w w' := by
  obtain ⟨k, rfl⟩ := Int.eq_ofNat_of_zero_le (show 0 ≤ n by omega)
  have hmk := fun W => run_make_row' (P := Try.prog) 22 3 (.int .i64 0) 8 Try.underlying22 infoInt rfl .i64 .i64 k (by omega) (by omega) W
  have hI : IsInts (w.alloc (.cells (madeCells #[.int .i64 0] k) 3)) (some ⟨w.heap.size, 0, none⟩) k k (List.replicate k 0) := by
    refine ⟨⟨by simp, fun _ => ⟨_, 0, rfl, fun j u hu => ?_⟩⟩, by simp, Nat.le_refl _, by unfold maxLen; omega, fun x hx => ?_⟩
    · rw [Nat.zero_add, cell_of_block (MapKept.heap_alloc w _).1, ← Array.getElem?_toList, toList_madeCells_one]
      simpa using hu
    · rw [List.eq_of_mem_replicate hx]; exact Fit.of (by decide) (by decide)
  have HI := Lib.hid hI
  clear hI
  go_enter Try.func11, Try.ntmps11
  go_wp2
  go_ret2
  exact ⟨rfl, HI.out, by go_grown⟩
theorem rnew_bad (n : Int) (w : World) (h : n < 1 ∨ 8 < n) :
    Calls Try.prog 11 #[.int .i64 n] w fun e w' => e = .returned (.tuple #[.slice none 0 0, .int .i64 1]) ∧ w = w' := by
  by_cases h1 : n < 1
  all_goals
    go_enter Try.func11, Try.ntmps11
    go_wp2
    go_ret2
    exact ⟨rfl, rfl⟩

theorem rat_calls {w : World} {a0 : Option Addr} {n c : Nat} {xs : List Int} (h : IsInts w a0 n c xs) (t : Int) :
    Calls Try.prog 39 #[.slice a0 n c, .int .i64 t] w fun e w' => e = .returned (.int .i64 (atS xs t)) ∧ w = w' := by
  have hn := h.bd
  have hl := h.len
  by_cases ht0 : t < 0
  · have Hf : Hid (atS xs t = 0) := by unfold Hid atS; rw [if_neg]; simp; omega
    clear hl
    go_enter Try.func39, Try.ntmps39
    go_wp2
    go_ret
    exact ⟨by rw [Hf.out]; rfl, rfl⟩
  by_cases ht1 : (n : Int) ≤ t
  · have Hf : Hid (atS xs t = 0) := by unfold Hid atS; rw [if_neg]; simp; omega
    clear hl
    go_enter Try.func39, Try.ntmps39
    go_wp2
    go_ret
    exact ⟨by rw [Hf.out]; rfl, rfl⟩
  obtain ⟨k, rfl⟩ := Int.eq_ofNat_of_zero_le (show 0 ≤ t by omega)
  obtain ⟨b, off, x, rfl, hx, _, c1⟩ := h.at (show k < n by omega)
  have Hf : Hid (atS xs k = x) := by unfold Hid atS; rw [if_pos (by simp; omega)]; simp [List.getD, hx]
  clear hl hx
  go_enter Try.func39, Try.ntmps39
  go_wp2
  go_ret
  exact ⟨by rw [Hf.out]; rfl, rfl⟩
theorem rcovers_calls {w : World} {a0 : Option Addr} {n c : Nat} {xs : List Int} (h : IsInts w a0 n c xs) (t m : Int) :
    Calls Try.prog 41 #[.slice a0 n c, .int .i64 t, .int .i64 m] w fun e w' => e = .returned (.bool (coversS xs t m)) ∧ w = w' := by
  have H := Lib.hid h
  clear h
  go_enter Try.func41, Try.ntmps41
  go_wp2_with (go_at_call 39; refine (rat_calls H.out _).mono ?_; rintro e w' ⟨rfl, rfl⟩)
  all_goals (go_ret; exact ⟨by go_tidy; first | (simp_all [coversS]; done) | (simp_all [coversS]; omega) | (simp_all [coversS]; intros; subst_vars; simp_all; done) | (simp [coversS, *]; done) | (simp [coversS, *]; omega), rfl⟩)

set_option maxHeartbeats 1000000 in
theorem rleq_calls {w : World} {a0 b0 : Option Addr} {n c m d : Nat} {xs ys : List Int} (h : IsInts w a0 n c xs) (h' : IsInts w b0 m d ys) :
    Calls Try.prog 42 #[.slice a0 n c, .slice b0 m d] w fun e w' => e = .returned (.bool (leqB xs ys)) ∧ Below w.heap.size w w' := by
  have hn := h.bd
  have hm := h'.bd
  have hl := h.len
  have hl' := h'.len
  by_cases hnm : n = m
  case neg =>
    have ht : ((n : Int) != (m : Int)) = true := by rw [bne_iff_ne]; omega
    have Hf := Lib.hid (leq_len (l := xs) (o := ys) (by omega))
    clear hl hl'
    go_enter Try.func42, Try.ntmps42
    go_wp2
    go_ret
    exact ⟨by rw [Hf.out]; rfl, Below.refl _ _⟩
  case pos =>
    have ht : ((n : Int) != (m : Int)) = false := by rw [bne_eq_false_iff_eq]; omega
    have Hn := Lib.hid hnm
    have Hl := Lib.hid (show xs.length = ys.length by omega)
    have Hl1 := Lib.hid hl
    clear hnm hl hl'
    go_enter Try.func42, Try.ntmps42
    go_wp2
    go_loopw [5] (fun v wr => ∃ k : Nat, k ≤ n ∧ v = .int .i64 k ∧ leqUpto xs ys k ∧ Below w.heap.size w wr) (fun v _ => n - (intOf v).toNat)
    case atStart => exact ⟨0, Nat.zero_le _, rfl, (fun j hj => absurd hj (by omega)), Below.refl _ _⟩
    case round =>
      obtain ⟨k, hk, rfl, htk, hB⟩ := hrel
      have Htk := Lib.hid htk
      clear htk
      by_cases hlt : k < n
      · obtain ⟨b, off, x, rfl, hx, _, c1⟩ := h.at hlt
        have hlm : k < m := by rw [← Hn.out]; exact hlt
        obtain ⟨b', off', y, rfl, hy, _, c2⟩ := h'.at hlm
        have c1 := keep hB c1
        have c2 := keep hB c2
        have Hx := Lib.hid hx
        have Hy := Lib.hid hy
        clear hx hy
        go_wp2_with fail
        refine wp_ext_draw 9 mixed (by kernel_rfl) ?_
        simp only [List.take_succ_cons, List.take_zero, List.drop_succ_cons, List.drop_zero]
        repeat ((first | ((apply TextRun.go rfl rfl rfl); (intro w1 hS K hK; have hc := bcell hS; have hs := blt hS; have c1 := keep hS c1; have c2 := keep hS c2; go_wp2_with (fail); first | exact hS | exact hS.trans (hb.mono hS.size))) | (refine TextRun.skip rfl ?_) | ((refine TextRun.wantedT rfl rfl rfl ?_); (apply Exists.intro); (apply And.intro); (intro w1 hS K hK; have hc := bcell hS; have hs := blt hS; have c1 := keep hS c1; have c2 := keep hS c2; go_wp2_with (fail); first | exact hS | exact hS.trans (hb.mono hS.size)))); (simp only [Act.put, List.setIfInBounds_toArray, List.set_cons_zero, List.set_cons_succ]))
        refine TextRun.done ?_
        intro w2 hb
        have hB2 : Below w.heap.size w w2 := hB.trans (hb.mono hB.size)
        by_cases hxy : x ≤ y
        · go_wp2
          go_roundw
          case rel => exact ⟨k + 1, by omega, by go_num, leqUpto_succ Hx.out Hy.out Htk.out hxy, hB2⟩
          case measure => simp [intOf]; omega
        · have Hf := Lib.hid (leq_false Hx.out Hy.out (show y < x by omega))
          go_wp2
          go_ret
          exact ⟨by rw [Hf.out]; rfl, hB2⟩
      · have Hf := Lib.hid (leq_true Hl.out (show k = xs.length by have := Hl1.out; omega) Htk.out)
        go_wp2
        go_ret
        exact ⟨by rw [Hf.out]; rfl, hB⟩

set_option maxHeartbeats 1000000 in
theorem rcompare_calls {w : World} {a0 b0 : Option Addr} {n c m d : Nat} {xs ys : List Int} (h : IsInts w a0 n c xs) (h' : IsInts w b0 m d ys) :
    Calls Try.prog 43 #[.slice a0 n c, .slice b0 m d] w fun e w' => e = .returned (.tuple #[.int .i64 (cmpS xs ys).1, .int .i64 (cmpS xs ys).2]) ∧ Below w.heap.size w w' := by
  have hn := h.bd
  have hm := h'.bd
  have hl := h.len
  have hl' := h'.len
  by_cases hnm : n = m
  case neg =>
    have ht : ((n : Int) != (m : Int)) = true := by rw [bne_iff_ne]; omega
    have Hf : Hid (cmpS xs ys = (0, 130)) := by unfold Hid cmpS; rw [if_neg (by omega)]
    clear hl hl'
    go_enter Try.func43, Try.ntmps43
    go_wp2
    go_ret2
    rw [Hf.out]
    exact ⟨rfl, Below.refl _ _⟩
  case pos =>
    have ht : ((n : Int) != (m : Int)) = false := by rw [bne_eq_false_iff_eq]; omega
    have Hf : Hid (cmpS xs ys = ((if leqB xs ys && leqB ys xs then 3 else if leqB xs ys then 1 else if leqB ys xs then 2 else 4), 0)) := by unfold Hid cmpS; rw [if_pos (by omega)]
    have H := Lib.hid h
    have H' := Lib.hid h'
    clear hl hl' h h' hnm
    go_enter Try.func43, Try.ntmps43
    go_wp2_with fail
    refine (rleq_calls H.out H'.out).mono ?_
    rintro e w3 ⟨rfl, hb⟩
    go_wp2_with fail
    refine (rleq_calls (H'.out.below hb) (H.out.below hb)).mono ?_
    rintro e w4 ⟨rfl, hb4⟩
    have hb4 := hb.trans (hb4.mono hb.size)
    go_wp2
    all_goals
      go_ret2
      rw [Hf.out]
      exact ⟨by simp_all, hb4⟩
end Go.Proofs.Ytngmcbliihohcaa
