/-
  The document's Normal.
-/
import Derived.Test.YtjhlehepnhbbaaaNor
import Derived.Deep.Cut
set_option linter.unusedSimpArgs false
set_option linter.unusedVariables false
namespace Go.Proofs.Ytjhlehepnhbbaaa
open Go.ChangeShapes Go.WideShapes Go.ChangeAt Go.RowKit Go.Deep

theorem RowAt.wrote {n : Nat} {f : Nat → Bool} {rb : Nat} {wo wx wy : World} {R : Nat → Prop} (h : RowAt n f rb wo wx) (hw : Wrote R wx wy) (hR : ∀ q, R q → rb < q) : RowAt n f rb wo wy :=
  ⟨(hw.block rb h.lt (fun hr => Nat.lt_irrefl _ (hR rb hr))).trans h.row, Wrote.below h.below hw (Nat.le_of_lt h.lt) (fun q hq => Nat.le_of_lt (hR q hq))⟩
theorem RowAt.base {n : Nat} {f : Nat → Bool} {rb : Nat} {wo wx : World} (h : RowAt n f rb wo wx) (e : rb = wo.heap.size) : Below wo.heap.size wo wx := by rw [← e]; exact h.below
noncomputable def freeB (l : List Ev) (f : Nat → Bool) (i K : Nat) : Bool := (List.range K).all fun k => !hbB (rD l) k i || f k
theorem freeB_zero (l : List Ev) (f : Nat → Bool) (i : Nat) : freeB l f i 0 = true := rfl
theorem freeB_succ (l : List Ev) (f : Nat → Bool) (i K : Nat) : freeB l f i (K + 1) = (freeB l f i K && (!hbB (rD l) K i || f K)) := by
  unfold freeB; rw [List.range_succ, List.all_append]; simp
theorem freeB_no {l : List Ev} {f : Nat → Bool} {i k K : Nat} (hk : k < K) (h1 : hbB (rD l) k i = true) (h2 : f k = false) : freeB l f i K = false := by
  unfold freeB
  rw [List.all_eq_false]
  exact ⟨k, List.mem_range.2 hk, by rw [h1, h2]; simp⟩
theorem avail_free {l : List Ev} {C : List Nat} {i : Nat} : availB l C i = (!decide (i ∈ C) && freeB l (fun k => decide (k ∈ C)) i i) := rfl
def lenV : Value → Nat
  | .slice _ n _ => n
  | _ => 0
theorem OwnL.lenE {w : World} {B : Nat} {v : Value} {xs : List Ev} (h : OwnL eltEv w B v xs) : ∃ a c, v = .slice a xs.length c ∧ xs.length ≤ c := by
  obtain ⟨a, c, h1, h2, _⟩ := h.slice
  exact ⟨a, c, h1, h2⟩

set_option maxRecDepth 20000 in
set_option maxHeartbeats 8000000 in
theorem rfree_calls {w w0 : World} {rb : Nat} {a0 : Option Addr} {n c : Nat} {v1 v2 : Value} {l : List Ev} {gb : Nat} {f : Nat → Bool} (h : ROrdAt w rb a0 n c v1 v2 l) (hf : RowAt n f gb w0 w) (hn : n ≤ 100) {i : Nat} (hi : i < n) :
    Calls Try.prog 56 #[.pointer (some ⟨rb, 0, none⟩), .slice (some ⟨gb, 0, none⟩) n n, .int .i64 (i : Int)] w fun e w' => e = .returned (.bool (freeB l f i i)) ∧ w = w' := by
  have HT := Lib.hid h
  have HF := Lib.hid hf
  clear h hf
  go_enter Try.func56, Try.ntmps56
  go_wp2_with fail
  go_loopw [7] (fun x wr => ∃ k : Nat, k ≤ i ∧ x = .int .i64 k ∧ Hid (freeB l f i k = true) ∧ wr = w) (fun x _ => i - (intOf x).toNat)
  case atStart => exact ⟨0, Nat.zero_le _, by go_num, freeB_zero .., rfl⟩
  case round =>
    obtain ⟨k, hk, rfl, HP, rfl⟩ := hrel
    by_cases hki : k < i
    · have hkn : k < n := Nat.lt_trans hki hi
      have he := HT.out.ecell
      obtain ⟨B, hm⟩ := HT.out.m1
      obtain ⟨x, co, g, rfl, cx, hnco, hgc⟩ := hm.read hi
      have cg := hgc k hkn
      obtain ⟨gk, _⟩ := HF.out.get hkn
      have Hs := Lib.hid (freeB_succ l f i k)
      clear hm hgc
      rcases Bool.eq_false_or_eq_true (hbB (rD l) k i) with hb | hb
      · rcases Bool.eq_false_or_eq_true (f k) with hfk | hfk
        · have HP2 : Hid (freeB l f i (k + 1) = true) := by rw [Hid, Hs.out, HP.out, hb, hfk]; rfl
          rw [hb] at cg
          rw [hfk] at gk
          clear hb hfk Hs
          go_wp2
          go_roundw
          case rel => exact ⟨k + 1, hki, by go_num, HP2, by first | rfl | trivial⟩
          case measure => exact meas hki
        · have HP2 : Hid (freeB l f i i = false) := freeB_no hki hb hfk
          rw [hb] at cg
          rw [hfk] at gk
          clear hb hfk Hs
          go_wp2
          go_ret
          exact ⟨by rw [HP2.out]; rfl, rfl⟩
      · have HP2 : Hid (freeB l f i (k + 1) = true) := by rw [Hid, Hs.out, HP.out, hb]; rfl
        rw [hb] at cg
        clear hb Hs
        go_wp2
        go_roundw
        case rel => exact ⟨k + 1, hki, by go_num, HP2, by first | rfl | trivial⟩
        case measure => exact meas hki
    · have hki : i = k := Nat.le_antisymm (Nat.le_of_not_lt hki) hk
      subst hki
      go_wp2
      go_ret
      exact ⟨by rw [HP.out]; rfl, rfl⟩

set_option maxRecDepth 20000 in
set_option maxHeartbeats 16000000 in
theorem rnormal_calls {w : World} {a0 : Option Addr} {n c : Nat} {l : List Ev} (h : IsEvs w a0 n c l) :
    Calls Try.prog 26 #[.slice a0 n c] w (EvsPost w (normRes n l)) := by
  have hnm : n ≤ 9223372036854775807 := by have := h.le; have := h.cap; unfold maxLen at *; omega
  have Hev := Lib.hid h
  have Hl := Lib.hid h.len
  have Ho := Lib.hid (rord_calls h)
  clear h
  go_enter Try.func26, Try.ntmps26
  go_wp2_with fail
  refine Ho.out.mono ?_
  rintro e w1 ⟨hb1, ⟨hz, rfl⟩ | ⟨hz, v1, v2, rfl, hM1, hM2⟩⟩
  · have HB1 := Lib.hid hb1
    have hz' : (wrongS n l != 0) = true := by simpa [bne] using hz
    have Hq : Hid (∀ x, EvsPost w (normRes n l) (.returned (.tuple #[.slice none 0 0, .int .i64 (wrongS n l)])) (w1.alloc x)) := fun x => by rw [normRes_bad hz]; exact EvsPost.none (HB1.out.alloc HB1.out.size _)
    clear hb1 hz Ho
    generalize wrongS n l = z at *
    go_wp2
    go_returns
    exact Hq.out _
  have Hr := Lib.hid (normRes_good hz)
  have hn100 : n ≤ 100 := wrong_le16 hz
  obtain ⟨sa, sp, sq, rfl⟩ := hM1.slice
  obtain ⟨ta, tp, tq, rfl⟩ := hM2.slice
  have hal : Below w1.heap.size w1 (w1.alloc (.cells #[.slice a0 n c, .slice sa sp sq, .slice ta tp tq] 93)) := (Below.refl _ w1).alloc (Nat.le_refl _) _
  have hR3 : ROrdAt (w1.alloc (.cells #[.slice a0 n c, .slice sa sp sq, .slice ta tp tq] 93)) w1.heap.size a0 n c (.slice sa sp sq) (.slice ta tp tq) l :=
    ⟨(MapKept.heap_alloc w1 _).1, ⟨_, hM1.below hal⟩, ⟨_, hM2.below hal⟩, (Hev.out.below hb1).below hal⟩
  have s1 : (w1.alloc (.cells #[.slice a0 n c, .slice sa sp sq, .slice ta tp tq] 93)).heap.size = w1.heap.size + 1 := by simp
  have HX := Lib.hid (And.intro hR3 (And.intro (hb1.trans (hal.mono hb1.size)) s1))
  clear s1 hb1 hal hR3 hM1 hM2 Ho hz hnm
  go_wp2_with (refine wpList_makeB rfl (.tmp 20) (.tmp 20) rfl n (by omega) rfl rfl ?_)
  revert HX
  generalize w1.alloc (.cells #[.slice a0 n c, .slice sa sp sq, .slice ta tp tq] 93) = w2
  intro HX
  have HR := Lib.hid HX.out.1
  have HB2 := Lib.hid HX.out.2.1
  have hgs := HX.out.2.2
  clear HX
  obtain ⟨rb, hrb⟩ : ∃ rb, rb = w1.heap.size := ⟨_, rfl⟩
  rw [← hrb] at HR hgs ⊢
  clear hrb
  have HS : RowAt n (fun k => decide (k ∈ normI l 0)) w2.heap.size w2 (w2.alloc (.cells (boolsA n fun _ => false) 4)) := ⟨by rw [boolsA_congr (g := fun _ => false) (fun i _ => by simp [normI])]; exact (MapKept.heap_alloc w2 _).1, (Below.refl _ w2).alloc (Nat.le_refl _) _⟩
  revert HS
  generalize w2.alloc (.cells (boolsA n fun _ => false) 4) = w3
  intro HS
  obtain ⟨gb, hgb⟩ : ∃ gb, gb = rb + 1 := ⟨_, rfl⟩
  rw [hgs, ← hgb] at HS
  rw [← hgb]
  rw [← hgs] at hgb
  have Hgb := Lib.hid hgb
  have HS2 := Lib.hid HS
  clear hgb HS hgs
  go_wp2_with fail
  go_loopw [7, 8, 9, 10] (fun u _ _ _ wr => ∃ m : Nat, m ≤ n ∧ lenV u = m ∧ Hid (RowAt n (fun k => decide (k ∈ normI l m)) gb w2 wr ∧ OwnL eltEv wr (gb + 1) u (evsAt l (normI l m)))) (fun u _ _ _ _ => n - lenV u)
  case atStart => exact ⟨0, Nat.zero_le _, rfl, HS2.out, OwnL.nil ..⟩
  case round =>
    clear HS2
    obtain ⟨m, hm, hlv, HL⟩ := hrel
    obtain ⟨ua, uc, hu, huc⟩ := HL.out.2.lenE
    rw [evsAt_len, normI_len] at hu huc
    subst hu
    clear hlv
    by_cases hmi : m < n
    · obtain ⟨bb, hb1, hb2, hb3, hb4, hb5⟩ := normI_next (l := l) (m := m) (by rw [Hl.out]; exact hmi)
      rw [Hl.out] at hb1 hb2
      have HBest := Lib.hid hb1
      have HNx := Lib.hid hb4
      have HLen : Hid ((evsAt l (normI l m)).length < 1000000) := by rw [Hid, evsAt_len, normI_len]; omega
      clear hb1 hb3 hb4 hb5
      revert HL HBest HNx HLen
      generalize normI l m = C
      intro HL HBest HNx HLen
      have HBw := Lib.hid (HB2.out.trans ((HL.out.1.base Hgb.out).mono HB2.out.size))
      have HRw := Lib.hid (HR.out.below (HL.out.1.base Hgb.out))
      go_wp2_with fail
      go_loopw [8, 9, 10] (fun bst x _ wq => ∃ j : Nat, j ≤ n ∧ x = .int .i64 j ∧ bst = .int .i64 (bestI l C j) ∧ Hid (Below wr.heap.size wr wq)) (fun _ x _ _ => n - (intOf x).toNat)
      case atStart => exact ⟨0, Nat.zero_le _, by go_num, rfl, Below.refl ..⟩
      case round =>
        obtain ⟨j, hj, rfl, rfl, HB⟩ := hrel
        by_cases hji : j < n
        · have HBq := Lib.hid (HBw.out.trans (HB.out.mono HBw.out.size))
          go_wp2_with fail
          refine (rfree_calls (HRw.out.below HB.out) (HL.out.1.go HB.out) hn100 hji).mono ?_
          rintro e wy ⟨rfl, rfl⟩
          obtain ⟨b0, off, x, rfl, hx, _, c0, _, _, _, _⟩ := (Hev.out.below HBq.out).at hji
          obtain ⟨gi, _⟩ := (HL.out.1.go HB.out).get hji
          have hth : thE l j = x.t := thE_of hx
          obtain ⟨xt, xk, xo, xv, xb⟩ := x
          simp only at c0 hth
          have Hth := Lib.hid hth
          have hav : availB l C j = (!decide (j ∈ C) && freeB l (fun k => decide (k ∈ C)) j j) := avail_free
          revert gi hav
          generalize decide (j ∈ C) = lb
          generalize freeB l (fun k => decide (k ∈ C)) j j = fb
          intro gi hav
          have Hav := Lib.hid hav
          clear hx hth hav
          go_wp2_with fail
          cases lb
          case true =>
            have Hb : Hid (bestI l C (j + 1) = bestI l C j) := bestI_no (by rw [Hav.out]; rfl)
            refine wp_ext_draw 25 mixed (by kernel_rfl) ?_
            simp only [List.take_succ_cons, List.take_zero, List.drop_succ_cons, List.drop_zero]
            repeat ((first | ((apply TextRun.go rfl rfl rfl); (focus (intro w1 hS K hK; have hc := bcell hS; have hs := blt hS; have gi := keep hS gi; have c0 := keep hS c0; go_wp2_with (fail); first | done | exact hS | exact hS.trans (hb.mono hS.size)))) | (refine TextRun.skip rfl ?_) | ((refine TextRun.wantedT rfl rfl rfl ?_); (apply Exists.intro); (apply And.intro); (focus (intro w1 hS K hK; have hc := bcell hS; have hs := blt hS; have gi := keep hS gi; have c0 := keep hS c0; go_wp2_with (fail); first | done | exact hS | exact hS.trans (hb.mono hS.size))))); (simp only [Act.put, List.setIfInBounds_toArray, List.set_cons_zero, List.set_cons_succ]))
            refine TextRun.done ?_
            intro y2 hb
            have HB2 := Lib.hid (HB.out.trans (hb.mono HB.out.size))
            clear hb
            go_wp2
            go_roundw
            case rel => exact ⟨j + 1, hji, by go_num, by rw [Hb.out], HB2.out⟩
            case measure => exact meas hji
          cases fb
          case false =>
            have Hb : Hid (bestI l C (j + 1) = bestI l C j) := bestI_no (by rw [Hav.out]; rfl)
            refine wp_ext_draw 25 mixed (by kernel_rfl) ?_
            simp only [List.take_succ_cons, List.take_zero, List.drop_succ_cons, List.drop_zero]
            repeat ((first | ((apply TextRun.go rfl rfl rfl); (focus (intro w1 hS K hK; have hc := bcell hS; have hs := blt hS; have gi := keep hS gi; have c0 := keep hS c0; go_wp2_with (fail); first | done | exact hS | exact hS.trans (hb.mono hS.size)))) | (refine TextRun.skip rfl ?_) | ((refine TextRun.wantedT rfl rfl rfl ?_); (apply Exists.intro); (apply And.intro); (focus (intro w1 hS K hK; have hc := bcell hS; have hs := blt hS; have gi := keep hS gi; have c0 := keep hS c0; go_wp2_with (fail); first | done | exact hS | exact hS.trans (hb.mono hS.size))))); (simp only [Act.put, List.setIfInBounds_toArray, List.set_cons_zero, List.set_cons_succ]))
            refine TextRun.done ?_
            intro y2 hb
            have HB2 := Lib.hid (HB.out.trans (hb.mono HB.out.size))
            clear hb
            go_wp2
            go_roundw
            case rel => exact ⟨j + 1, hji, by go_num, by rw [Hb.out], HB2.out⟩
            case measure => exact meas hji
          have Hav2 : Hid (availB l C j = true) := by rw [Hid, Hav.out]; rfl
          rcases bestI_spec l C j with ⟨hb, _⟩ | ⟨b', hb, hbj, _, _⟩
          · have Hb := Lib.hid (bestI_first Hav2.out hb)
            rw [hb]
            clear hb
            refine wp_ext_draw 25 mixed (by kernel_rfl) ?_
            simp only [List.take_succ_cons, List.take_zero, List.drop_succ_cons, List.drop_zero]
            repeat ((first | ((apply TextRun.go rfl rfl rfl); (focus (intro w1 hS K hK; have hc := bcell hS; have hs := blt hS; have gi := keep hS gi; have c0 := keep hS c0; go_wp2_with (fail); first | done | exact hS | exact hS.trans (hb.mono hS.size)))) | (refine TextRun.skip rfl ?_) | ((refine TextRun.wantedT rfl rfl rfl ?_); (apply Exists.intro); (apply And.intro); (focus (intro w1 hS K hK; have hc := bcell hS; have hs := blt hS; have gi := keep hS gi; have c0 := keep hS c0; go_wp2_with (fail); first | done | exact hS | exact hS.trans (hb.mono hS.size))))); (simp only [Act.put, List.setIfInBounds_toArray, List.set_cons_zero, List.set_cons_succ]))
            refine TextRun.done ?_
            intro y2 hb
            have HB2 := Lib.hid (HB.out.trans (hb.mono HB.out.size))
            clear hb
            go_wp2
            go_roundw
            case rel => exact ⟨j + 1, hji, by go_num, by rw [Hb.out], HB2.out⟩
            case measure => exact meas hji
          · obtain ⟨b0', off', y, he, hy, _, d0, _, _, _, _⟩ := (Hev.out.below HBq.out).at (show b' < n from Nat.lt_trans hbj hji)
            cases he
            have hthb : thE l b' = y.t := thE_of hy
            have hbi : b' < n := Nat.lt_trans hbj hji
            obtain ⟨yt, yk, yo, yv, yb⟩ := y
            simp only at d0 hthb
            have hb0 : decide ((b' : Int) < 0) = false := by simp
            by_cases hlt : xt < yt
            · have hltd : decide (xt < yt) = true := decide_eq_true hlt
              have Hb := Lib.hid (bestI_less Hav2.out hb (by rw [Hth.out, hthb]; exact hlt))
              rw [hb]
              clear hb hlt hthb hy
              refine wp_ext_draw 25 mixed (by kernel_rfl) ?_
              simp only [List.take_succ_cons, List.take_zero, List.drop_succ_cons, List.drop_zero]
              repeat ((first | ((apply TextRun.go rfl rfl rfl); (focus (intro w1 hS K hK; have hc := bcell hS; have hs := blt hS; have gi := keep hS gi; have c0 := keep hS c0; have d0 := keep hS d0; go_wp2_with (fail); first | done | exact hS | exact hS.trans (hb.mono hS.size)))) | (refine TextRun.skip rfl ?_) | ((refine TextRun.wantedT rfl rfl rfl ?_); (apply Exists.intro); (apply And.intro); (focus (intro w1 hS K hK; have hc := bcell hS; have hs := blt hS; have gi := keep hS gi; have c0 := keep hS c0; have d0 := keep hS d0; go_wp2_with (fail); first | done | exact hS | exact hS.trans (hb.mono hS.size))))); (simp only [Act.put, List.setIfInBounds_toArray, List.set_cons_zero, List.set_cons_succ]))
              refine TextRun.done ?_
              intro y2 hb
              have HB2 := Lib.hid (HB.out.trans (hb.mono HB.out.size))
              clear hb
              go_wp2
              go_roundw
              case rel => exact ⟨j + 1, hji, by go_num, by rw [Hb.out], HB2.out⟩
              case measure => exact meas hji
            · have hltd : decide (xt < yt) = false := decide_eq_false hlt
              have Hb := Lib.hid (bestI_more (C := C) (i := j) hb (by rw [Hth.out, hthb]; exact hlt))
              rw [hb]
              clear hb hlt hthb hy
              refine wp_ext_draw 25 mixed (by kernel_rfl) ?_
              simp only [List.take_succ_cons, List.take_zero, List.drop_succ_cons, List.drop_zero]
              repeat ((first | ((apply TextRun.go rfl rfl rfl); (focus (intro w1 hS K hK; have hc := bcell hS; have hs := blt hS; have gi := keep hS gi; have c0 := keep hS c0; have d0 := keep hS d0; go_wp2_with (fail); first | done | exact hS | exact hS.trans (hb.mono hS.size)))) | (refine TextRun.skip rfl ?_) | ((refine TextRun.wantedT rfl rfl rfl ?_); (apply Exists.intro); (apply And.intro); (focus (intro w1 hS K hK; have hc := bcell hS; have hs := blt hS; have gi := keep hS gi; have c0 := keep hS c0; have d0 := keep hS d0; go_wp2_with (fail); first | done | exact hS | exact hS.trans (hb.mono hS.size))))); (simp only [Act.put, List.setIfInBounds_toArray, List.set_cons_zero, List.set_cons_succ]))
              refine TextRun.done ?_
              intro y2 hb
              have HB2 := Lib.hid (HB.out.trans (hb.mono HB.out.size))
              clear hb
              go_wp2
              go_roundw
              case rel => exact ⟨j + 1, hji, by go_num, by rw [Hb.out], HB2.out⟩
              case measure => exact meas hji
        · have hji : n = j := Nat.le_antisymm (Nat.le_of_not_lt hji) hj
          subst hji
          rw [HBest.out]
          have HL4 := Lib.hid (And.intro (HL.out.1.go HB.out) (HL.out.2.below HB.out))
          obtain ⟨gc, gf⟩ := HL4.out.1.get hb2
          have hbneg : decide ((bb : Int) < 0) = false := by simp
          have HL5 : Hid (RowAt n (fun x => decide (x ∈ C ++ [bb])) gb w2 (wr.setCell ⟨gb, bb, none⟩ (.bool true)) ∧ OwnL eltEv (wr.setCell ⟨gb, bb, none⟩ (.bool true)) (gb + 1) (.slice ua m uc) (evsAt l C)) :=
            ⟨(HL4.out.1.set bb).of (fun x _ => by rw [Bool.eq_iff_iff]; simp), HL4.out.2.cell_setE (Nat.lt_succ_self gb)⟩
          have HBn := Lib.hid (HB2.out.trans ((HL5.out.1.base Hgb.out).mono HB2.out.size))
          obtain ⟨b0, off, x, rfl, hx, _, c0, c1, c2, c3, c4⟩ := (Hev.out.below HBn.out).at hb2
          obtain ⟨xt, xk, xo, xv, xb⟩ := x
          simp only at c0 c1 c2 c3 c4
          have Hx : Hid (evsAt l (C ++ [bb]) = evsAt l C ++ [⟨xt, xk, xo, xv, xb⟩]) := by rw [Hid, evsAt_app]; unfold evsAt; rw [List.map_cons, List.map_nil, getD_of hx]
          have hgl1 : gb + 1 ≤ (wr.setCell ⟨gb, bb, none⟩ (.bool true)).heap.size := HL5.out.1.lt
          clear hx HL4 HL HB HBw HBest HRw
          go_upto_region 17 with (fail)
          revert HL5 c0 c1 c2 c3 c4
          clear gc gf HBn
          revert hgl1
          generalize wr.setCell ⟨gb, bb, none⟩ (.bool true) = y1
          intro hgl1 HL5 c0 c1 c2 c3 c4
          go_wp2_with (at_builtin; go_loud (refine wpList_push eltEv rfl (.tmp 68) (.tmp 73) rfl ⟨xt, xk, xo, xv, xb⟩ rfl rfl rfl HL5.out.2 hgl1 HLen.out ?_); intro v' wv hown hw hv; (have HL' := Lib.hid (And.intro (HL5.out.1.wrote hw (fun q hq => by have := (HL5.out.2.lt hq).1; omega)) (show OwnL eltEv wv (gb + 1) v' (evsAt l (C ++ [bb])) by rw [Hx.out]; exact hown))); clear hown hw hv)
          have hlv : lenV v' = m + 1 := by
            obtain ⟨a', c', h1, _⟩ := HL'.out.2.lenE
            rw [h1, evsAt_len, ← HNx.out, normI_len]; rfl
          have hml : n - lenV v' < n - m := by rw [hlv]; omega
          go_roundw
          case rel => exact ⟨m + 1, hmi, hlv, by rw [HNx.out]; exact HL'.out⟩
          case measure => exact hml
    · have hmi : n = m := Nat.le_antisymm (Nat.le_of_not_lt hmi) hm
      subst hmi
      have hw2 : ∀ e ∈ evsAt l (normI l n), e.wf := by have := normL_wf (l := l) Hev.out.wf; unfold normL at this; rw [Hl.out] at this; exact this
      have hle : (evsAt l (normI l n)).length = n := by rw [evsAt_len, normI_len]
      obtain ⟨xa, xc, hx, hE⟩ := HL.out.2.evs hw2
      rw [hle] at hx hE
      cases hx
      have Hq : Hid (EvsPost w (normRes n l) (.returned (.tuple #[.slice ua n uc, .int .i64 0])) wr) := by
        rw [Hid, Hr.out]
        have e1 : normL l = evsAt l (normI l n) := by unfold normL; rw [Hl.out]
        rw [e1]
        refine ⟨ua, uc, by rw [hle], by rw [hle]; exact hE, HB2.out.trans ((HL.out.1.base Hgb.out).mono HB2.out.size)⟩
      clear hE hw2 HL hle
      go_wp2
      go_returns
      exact Hq.out
end Go.Proofs.Ytjhlehepnhbbaaa
