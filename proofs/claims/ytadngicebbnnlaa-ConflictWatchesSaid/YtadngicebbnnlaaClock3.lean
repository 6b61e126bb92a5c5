/-
  Clocks: what writes; the document's lists.
-/
import Derived.Test.YtadngicebbnnlaaClock2
set_option linter.unusedSimpArgs false
set_option linter.unusedVariables false
namespace Go.Proofs.Ytadngicebbnnlaa
open Go.ChangeShapes Go.WideShapes Go.ChangeAt Go.RowKit Go.Deep

def tickS (l : List Int) (t : Int) : List Int × Int :=
  if decide (0 ≤ t) && decide (t < l.length) then (if l.getD t.toNat 0 == 9223372036854775807 then (l, 1) else (l.set t.toNat (l.getD t.toNat 0 + 1), 0)) else (l, 2)

theorem tick_max : (9223372036854775807 : Int) = 9223372036854775807 := rfl

/-! Join. -/
def joinTo (l o : List Int) (k : Nat) : List Int := (List.zipWith max l o).take k ++ l.drop k
def joinS (l o : List Int) : List Int × Int := if l.length = o.length then (List.zipWith max l o, 0) else (l, 130)
theorem joinTo_zero (l o : List Int) : joinTo l o 0 = l := by simp [joinTo]
theorem joinTo_all {l o : List Int} (h : l.length = o.length) : joinTo l o l.length = List.zipWith max l o := by
  unfold joinTo; rw [List.take_of_length_le (by simp [h]), List.drop_length, List.append_nil]
theorem joinTo_len {l o : List Int} (h : l.length = o.length) {k : Nat} (hk : k ≤ l.length) : (joinTo l o k).length = l.length := by
  unfold joinTo; simp; omega
theorem joinTo_get {l o : List Int} (h : l.length = o.length) {k : Nat} {x : Int} (hx : l[k]? = some x) : (joinTo l o k)[k]? = some x := by
  have hk : k < l.length := (List.getElem?_eq_some_iff.1 hx).1
  unfold joinTo
  rw [List.getElem?_append_right (by simp; omega)]
  simp only [List.length_take, List.length_zipWith, List.getElem?_drop]
  rw [show k + (k - min k (min l.length o.length)) = k by omega]
  exact hx
theorem joinTo_succ {l o : List Int} (h : l.length = o.length) {k : Nat} {x y : Int} (hx : l[k]? = some x) (hy : o[k]? = some y) : joinTo l o (k + 1) = (joinTo l o k).set k (max x y) := by
  have hk : k < l.length := (List.getElem?_eq_some_iff.1 hx).1
  have hz : (List.zipWith max l o)[k]? = some (max x y) := by rw [List.getElem?_zipWith, hx, hy]
  have hlt : ((List.zipWith max l o).take k).length = k := by simp; omega
  unfold joinTo
  rw [List.set_append_right _ _ (by omega), hlt, Nat.sub_self, List.take_add_one, hz]
  have hd : l.drop k = x :: l.drop (k + 1) := by
    rw [List.drop_eq_getElem_cons hk]
    have := List.getElem?_eq_getElem hk
    rw [hx] at this
    rw [← Option.some.inj this]
  rw [hd]
  simp

theorem join1_calls (a c : Int) (w : World) : Calls Try.prog 99 #[.int .i64 a, .int .i64 c] w fun e w' => e = .returned (.int .i64 (max a c)) ∧ Below w.heap.size w w' := by
  go_enter Try.func99, Try.ntmps99
  go_wp2
  all_goals (go_ret; exact ⟨by go_tidy; first | (simp_all; done) | (simp_all; omega) | (simp_all; intros; subst_vars; simp_all; done) | (simp [*]; done) | (simp [*]; omega), Below.refl _ _⟩)
theorem max_fit {a c : Int} (ha : Fit a) (hc : Fit c) : Fit (max a c) := by
  rw [Int.max_def]; split <;> assumption
set_option maxHeartbeats 2000000 in
theorem become_calls {w : World} {b g b' g' : Nat} {l o : List Int} (h : ClockAt w b g l) (h' : ClockAt w b' g' o) (hl : l.length = o.length) (hbb : b' ≠ g) (hgg : g' ≠ g) :
    Calls Try.prog 98 #[.pointer (some ⟨b, 0, none⟩), .pointer (some ⟨b', 0, none⟩), .func (.func 99) #[] #[]] w fun e w' =>
      e = .returned (.tuple #[]) ∧ ClockAt w' b g (List.zipWith max l o) ∧ w.grownBy w' (some g) := by
  obtain ⟨cap', c2, hle', hm'⟩ := h'.head
  have h8' := h'.le
  have Hl := Lib.hid hl
  have H' := Lib.hid h'
  have H := Lib.hid h
  clear hl h h'
  go_enter Try.func98, Try.ntmps98
  go_wp2
  clear c2
  go_loopw [13] (fun v wr => ∃ k : Nat, k ≤ o.length ∧ v = .int .i64 k ∧ ClockAt wr b g (joinTo l o k) ∧ w.grownBy wr (some g)) (fun v _ => o.length - (intOf v).toNat)
  case atStart => exact ⟨0, Nat.zero_le _, rfl, by rw [joinTo_zero]; exact H.out, mod_refl _ _⟩
  case round =>
    obtain ⟨k, hk, rfl, hcl, hmod⟩ := hrel
    by_cases hlt : k < o.length
    · have hltl : k < l.length := by have := Hl.out; omega
      obtain ⟨x, hx⟩ : ∃ x, l[k]? = some x := ⟨_, List.getElem?_eq_getElem hltl⟩
      obtain ⟨y, hy⟩ : ∃ y, o[k]? = some y := ⟨_, List.getElem?_eq_getElem hlt⟩
      obtain ⟨cap, c1, hle, hm⟩ := hcl.head
      rw [joinTo_len Hl.out (by omega)] at c1 hle
      have h8 : l.length ≤ 8 := H.out.le
      have c3 := hcl.at (joinTo_get Hl.out hx)
      have c5 := hcl.free k
      have h'r : ClockAt wr b' g' o := H'.out.frame (hmod.block b' H'.out.lt.1 (by simpa using hbb)) (hmod.block g' H'.out.lt.2 (by simpa using hgg))
      have c4 := h'r.at hy
      have Hx := Lib.hid hx
      have Hy := Lib.hid hy
      have Hcl := Lib.hid hcl
      have Hmod := Lib.hid hmod
      clear hx hy hcl hmod h'r
      go_wp2_with fail
      refine wp_ext_draw 16 mixed (by kernel_rfl) ?_
      simp only [List.take_succ_cons, List.take_zero, List.drop_succ_cons, List.drop_zero]
      repeat ((first | ((apply TextRun.go rfl rfl rfl); (focus (intro w1 hS K hK; have hc := bcell hS; have hs := blt hS; have c1 := keep hS c1; have c3 := keep hS c3; have c4 := keep hS c4; go_wp2_with (go_at_call 99; refine (join1_calls _ _ _).mono ?_; rintro e w' ⟨rfl, hb⟩); first | done | exact hS | exact hS.trans (hb.mono hS.size)))) | (refine TextRun.skip rfl ?_) | ((refine TextRun.wantedT rfl rfl rfl ?_); (apply Exists.intro); (apply And.intro); (focus (intro w1 hS K hK; have hc := bcell hS; have hs := blt hS; have c1 := keep hS c1; have c3 := keep hS c3; have c4 := keep hS c4; go_wp2_with (go_at_call 99; refine (join1_calls _ _ _).mono ?_; rintro e w' ⟨rfl, hb⟩); first | done | exact hS | exact hS.trans (hb.mono hS.size))))); (simp only [Act.put, List.setIfInBounds_toArray, List.set_cons_zero, List.set_cons_succ]))
      refine TextRun.done ?_
      intro w2 hb
      have hcl2 := Hcl.out.below hb
      have c3 := keep hb c3
      have c5 := hcl2.free k
      have hmod2 := mod_below Hmod.out hb
      have hfit : Fit (max x y) := max_fit (H.out.wf x (List.mem_of_getElem? Hx.out)) (H'.out.wf y (List.mem_of_getElem? Hy.out))
      have hset := hcl2.set (i := k) (by rw [joinTo_len Hl.out (by omega)]; exact hltl) hfit
      rw [← joinTo_succ Hl.out Hx.out Hy.out] at hset
      have Hset := Lib.hid hset
      have Hm2 := Lib.hid (mod_set hmod2 k (.int .i64 (max x y)))
      clear hcl2 hmod2 hset Hcl
      go_wp2
      go_roundw
      case rel => exact ⟨k + 1, by omega, by go_num, Hset.out, Hm2.out⟩
      case measure => simp [intOf]; omega
    · have hkn : k = o.length := by omega
      have hcl' : ClockAt wr b g (List.zipWith max l o) := by rw [← joinTo_all Hl.out, Hl.out, ← hkn]; exact hcl
      have Hcl := Lib.hid hcl'
      clear hcl hcl' hkn
      go_wp2
      go_end0
      exact ⟨rfl, Hcl.out, hmod⟩
theorem set_self {l : List Int} {k : Nat} {x : Int} (hx : l[k]? = some x) : l.set k x = l := by
  have hlt : k < l.length := (List.getElem?_eq_some_iff.1 hx).1
  apply List.ext_getElem?
  intro i
  by_cases hik : k = i
  · subst hik; rw [List.getElem?_set_self hlt, hx]
  · rw [List.getElem?_set_ne hik]
theorem zipMax_self (l : List Int) : List.zipWith max l l = l := by
  induction l with
  | nil => rfl
  | cons x l ih => simp [ih, Int.max_def]
set_option maxHeartbeats 2000000 in
theorem become_self {w : World} {b g : Nat} {l : List Int} (h : ClockAt w b g l) :
    Calls Try.prog 98 #[.pointer (some ⟨b, 0, none⟩), .pointer (some ⟨b, 0, none⟩), .func (.func 99) #[] #[]] w fun e w' =>
      e = .returned (.tuple #[]) ∧ ClockAt w' b g l ∧ w.grownBy w' (some g) := by
  obtain ⟨cap', c2, hle', hm'⟩ := h.head
  have h8' := h.le
  have H := Lib.hid h
  clear h
  go_enter Try.func98, Try.ntmps98
  go_wp2
  clear c2
  go_loopw [13] (fun v wr => ∃ k : Nat, k ≤ l.length ∧ v = .int .i64 k ∧ ClockAt wr b g l ∧ w.grownBy wr (some g)) (fun v _ => l.length - (intOf v).toNat)
  case atStart => exact ⟨0, Nat.zero_le _, rfl, H.out, mod_refl _ _⟩
  case round =>
    obtain ⟨k, hk, rfl, hcl, hmod⟩ := hrel
    by_cases hlt : k < l.length
    · obtain ⟨x, hx⟩ : ∃ x, l[k]? = some x := ⟨_, List.getElem?_eq_getElem hlt⟩
      obtain ⟨cap, c1, hle, hm⟩ := hcl.head
      have c3 := hcl.at hx
      have c5 := hcl.free k
      have Hx := Lib.hid hx
      have Hcl := Lib.hid hcl
      have Hmod := Lib.hid hmod
      clear hx hcl hmod
      go_wp2_with fail
      refine wp_ext_draw 16 mixed (by kernel_rfl) ?_
      simp only [List.take_succ_cons, List.take_zero, List.drop_succ_cons, List.drop_zero]
      repeat ((first | ((apply TextRun.go rfl rfl rfl); (focus (intro w1 hS K hK; have hc := bcell hS; have hs := blt hS; have c1 := keep hS c1; have c3 := keep hS c3; go_wp2_with (go_at_call 99; refine (join1_calls _ _ _).mono ?_; rintro e w' ⟨rfl, hb⟩); first | done | exact hS | exact hS.trans (hb.mono hS.size)))) | (refine TextRun.skip rfl ?_) | ((refine TextRun.wantedT rfl rfl rfl ?_); (apply Exists.intro); (apply And.intro); (focus (intro w1 hS K hK; have hc := bcell hS; have hs := blt hS; have c1 := keep hS c1; have c3 := keep hS c3; go_wp2_with (go_at_call 99; refine (join1_calls _ _ _).mono ?_; rintro e w' ⟨rfl, hb⟩); first | done | exact hS | exact hS.trans (hb.mono hS.size))))); (simp only [Act.put, List.setIfInBounds_toArray, List.set_cons_zero, List.set_cons_succ]))
      refine TextRun.done ?_
      intro w2 hb
      have hcl2 := Hcl.out.below hb
      have c3 := keep hb c3
      have c5 := hcl2.free k
      have hmod2 := mod_below Hmod.out hb
      have hset := hcl2.set (i := k) (x := x) hlt (H.out.wf x (List.mem_of_getElem? Hx.out))
      have hself := set_self Hx.out
      rw [hself] at hset
      have Hset := Lib.hid hset
      have Hm2 := Lib.hid (mod_set hmod2 k (.int .i64 x))
      clear hcl2 hmod2 hset Hcl hself
      go_wp2
      go_roundw
      case rel => exact ⟨k + 1, by omega, by go_num, Hset.out, Hm2.out⟩
      case measure => simp [intOf]; omega
    · have Hcl := Lib.hid hcl
      clear hcl
      go_wp2
      go_end0
      exact ⟨rfl, Hcl.out, hmod⟩

set_option maxHeartbeats 1000000 in
theorem join_calls {w : World} {b g b' g' : Nat} {l o : List Int} (h : ClockAt w b g l) (h' : ClockAt w b' g' o) (hbb : b' ≠ g) (hgg : g' ≠ g) :
    Calls Try.prog 74 #[.pointer (some ⟨b, 0, none⟩), .pointer (some ⟨b', 0, none⟩)] w fun e w' =>
      e = .returned (.int .i64 (joinS l o).2) ∧ ClockAt w' b g (joinS l o).1 ∧ w.grownBy w' (some g) := by
  obtain ⟨cap, c1, hle, hm⟩ := h.head
  obtain ⟨cap', c2, hle', hm'⟩ := h'.head
  have h8 := h.le
  have h8' := h'.le
  by_cases hnm : l.length = o.length
  case neg =>
    have ht : ((l.length : Int) != (o.length : Int)) = true := by rw [bne_iff_ne]; omega
    have Hf : Hid (joinS l o = (l, 130)) := by unfold Hid joinS; rw [if_neg hnm]
    have H := Lib.hid h
    clear h h'
    go_enter Try.func74, Try.ntmps74
    go_wp2_with fail
    refine wp_ext_draw 11 mixed (by kernel_rfl) ?_
    simp only [List.take_succ_cons, List.take_zero, List.drop_succ_cons, List.drop_zero]
    repeat ((first | ((apply TextRun.go rfl rfl rfl); (focus (intro w1 hS K hK; have hc := bcell hS; have hs := blt hS; have c1 := keep hS c1; have c2 := keep hS c2; go_wp2_with (fail); first | done | exact hS | exact hS.trans (hb.mono hS.size)))) | (refine TextRun.skip rfl ?_) | ((refine TextRun.wantedT rfl rfl rfl ?_); (apply Exists.intro); (apply And.intro); (focus (intro w1 hS K hK; have hc := bcell hS; have hs := blt hS; have c1 := keep hS c1; have c2 := keep hS c2; go_wp2_with (fail); first | done | exact hS | exact hS.trans (hb.mono hS.size))))); (simp only [Act.put, List.setIfInBounds_toArray, List.set_cons_zero, List.set_cons_succ]))
    refine TextRun.done ?_
    intro w2 hb
    go_wp2
    go_ret
    rw [Hf.out]
    exact ⟨rfl, H.out.below hb, mod_of_below _ hb⟩
  case pos =>
    have ht : ((l.length : Int) != (o.length : Int)) = false := by rw [bne_eq_false_iff_eq]; omega
    have Hf : Hid (joinS l o = (List.zipWith max l o, 0)) := by unfold Hid joinS; rw [if_pos hnm]
    have Hnm := Lib.hid hnm
    have H := Lib.hid h
    have H' := Lib.hid h'
    clear hnm h h'
    go_enter Try.func74, Try.ntmps74
    go_wp2_with fail
    refine wp_ext_draw 11 mixed (by kernel_rfl) ?_
    simp only [List.take_succ_cons, List.take_zero, List.drop_succ_cons, List.drop_zero]
    repeat ((first | ((apply TextRun.go rfl rfl rfl); (focus (intro w1 hS K hK; have hc := bcell hS; have hs := blt hS; have c1 := keep hS c1; have c2 := keep hS c2; go_wp2_with (fail); first | done | exact hS | exact hS.trans (hb.mono hS.size)))) | (refine TextRun.skip rfl ?_) | ((refine TextRun.wantedT rfl rfl rfl ?_); (apply Exists.intro); (apply And.intro); (focus (intro w1 hS K hK; have hc := bcell hS; have hs := blt hS; have c1 := keep hS c1; have c2 := keep hS c2; go_wp2_with (fail); first | done | exact hS | exact hS.trans (hb.mono hS.size))))); (simp only [Act.put, List.setIfInBounds_toArray, List.set_cons_zero, List.set_cons_succ]))
    refine TextRun.done ?_
    intro w2 hb
    go_wp2_with fail
    refine (become_calls (H.out.below hb) (H'.out.below hb) Hnm.out hbb hgg).mono ?_
    rintro e w3 ⟨rfl, hcl, hmod⟩
    have Hcl := Lib.hid hcl
    have Hmod := Lib.hid (mod_trans (mod_of_below (some g) hb) hmod)
    clear hcl hmod c1 c2
    go_wp2
    go_ret
    rw [Hf.out]
    exact ⟨rfl, Hcl.out, Hmod.out⟩
set_option maxHeartbeats 1000000 in
theorem join_self {w : World} {b g : Nat} {l : List Int} (h : ClockAt w b g l) :
    Calls Try.prog 74 #[.pointer (some ⟨b, 0, none⟩), .pointer (some ⟨b, 0, none⟩)] w fun e w' =>
      e = .returned (.int .i64 0) ∧ ClockAt w' b g l ∧ w.grownBy w' (some g) := by
  obtain ⟨cap, c1, hle, hm⟩ := h.head
  have h8 := h.le
  have ht : ((l.length : Int) != (l.length : Int)) = false := by rw [bne_eq_false_iff_eq]
  have H := Lib.hid h
  clear h
  go_enter Try.func74, Try.ntmps74
  go_wp2_with fail
  refine wp_ext_draw 11 mixed (by kernel_rfl) ?_
  simp only [List.take_succ_cons, List.take_zero, List.drop_succ_cons, List.drop_zero]
  repeat ((first | ((apply TextRun.go rfl rfl rfl); (focus (intro w1 hS K hK; have hc := bcell hS; have hs := blt hS; have c1 := keep hS c1; go_wp2_with (fail); first | done | exact hS | exact hS.trans (hb.mono hS.size)))) | (refine TextRun.skip rfl ?_) | ((refine TextRun.wantedT rfl rfl rfl ?_); (apply Exists.intro); (apply And.intro); (focus (intro w1 hS K hK; have hc := bcell hS; have hs := blt hS; have c1 := keep hS c1; go_wp2_with (fail); first | done | exact hS | exact hS.trans (hb.mono hS.size))))); (simp only [Act.put, List.setIfInBounds_toArray, List.set_cons_zero, List.set_cons_succ]))
  refine TextRun.done ?_
  intro w2 hb
  go_wp2_with fail
  refine (become_self (H.out.below hb)).mono ?_
  rintro e w3 ⟨rfl, hcl, hmod⟩
  have Hcl := Lib.hid hcl
  have Hmod := Lib.hid (mod_trans (mod_of_below (some g) hb) hmod)
  clear hcl hmod c1
  go_wp2
  go_ret
  exact ⟨rfl, Hcl.out, Hmod.out⟩

/-! Compare, Copy. -/
def cmpS (l o : List Int) : Int × Int :=
  if l.length = o.length then ((if leqB l o && leqB o l then 3 else if leqB l o then 1 else if leqB o l then 2 else 4), 0) else (0, 130)
end Go.Proofs.Ytadngicebbnnlaa
