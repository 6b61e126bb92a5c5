/-
  What a log knows against the document: the last event of a thread; the law's own 'same'.
-/
import Derived.Test.YtejcpjhepkhihaaSame
set_option linter.unusedSimpArgs false
set_option linter.unusedVariables false
namespace Go.Proofs.Ytejcpjhepkhihaa
open Go.ChangeShapes Go.WideShapes Go.ChangeAt Go.RowKit Go.Deep

def lastU (l : List Ev) (t : Int) : Nat → Int
  | 0 => -1
  | k + 1 => match l[k]? with
    | some e => if e.t = t then (k : Int) else lastU l t k
    | none => lastU l t k
def lastOf (l : List Ev) (t : Int) : Int := lastU l t l.length
theorem lastU_succ {l : List Ev} {t : Int} {k : Nat} {e : Ev} (h : l[k]? = some e) : lastU l t (k + 1) = if e.t = t then (k : Int) else lastU l t k := by
  simp only [lastU]; rw [h]
theorem lastU_app (l : List Ev) (e : Ev) (t : Int) : ∀ k, k ≤ l.length → lastU (l ++ [e]) t k = lastU l t k
  | 0, _ => rfl
  | k + 1, h => by
    simp only [lastU]
    rw [lastU_app l e t k (by omega), List.getElem?_append_left (by omega)]
theorem lastOf_app (l : List Ev) (e : Ev) (t : Int) : lastOf (l ++ [e]) t = if e.t = t then (l.length : Int) else lastOf l t := by
  unfold lastOf
  rw [List.length_append, List.length_singleton, lastU_succ (e := e) (by simp), lastU_app l e t _ (Nat.le_refl _)]
def LaGood (S : LogS) : Prop := ∀ i : Nat, i < 8 → S.la i = lastOf S.l i
theorem la0 : LaGood log0 := fun _ _ => rfl
theorem addS_la {S : LogS} (h : LaGood S) (e : Ev) : LaGood (addS S e) := by
  unfold addS
  split
  · rename_i hk
    have hr : rB e = true := by simp only [Bool.and_eq_true] at hk; exact hk.1
    obtain ⟨t0, t8⟩ := inB_iff.1 (right_in hr)
    intro i hi
    simp only [turnS]
    rw [lastOf_app]
    unfold upd
    by_cases hq : e.t = (i : Int)
    · rw [if_pos hq, if_pos (by omega)]
    · rw [if_neg hq, if_neg (by omega)]
      exact h i hi
  · exact h
theorem goOf_la : ∀ (l : List Ev) (S : LogS) (i : Nat), LaGood S → LaGood (goOf S l i).1
  | [], S, i, h => h
  | e :: r, S, i, h => by
    unfold goOf
    by_cases hz : addE S e = 0
    · rw [if_pos hz]; exact goOf_la r _ _ (addS_la h e)
    · rw [if_neg hz]; exact h

set_option maxHeartbeats 2000000 in
theorem rlast_calls {w : World} {a0 : Option Addr} {n c : Nat} {l : List Ev} (h : IsEvs w a0 n c l) (t : Int) :
    Calls Try.prog 58 #[.slice a0 n c, .int .i64 t] w fun e w' => e = .returned (.int .i64 (lastOf l t)) ∧ Below w.heap.size w w' := by
  have hnm : n ≤ 9223372036854775807 := by have := h.le; have := h.cap; unfold maxLen at *; omega
  have Hl := Lib.hid h.len
  go_enter Try.func58, Try.ntmps58
  go_wp2
  go_loopw [5, 6] (fun u v wr => ∃ k : Nat, k ≤ n ∧ u = .int .i64 (lastU l t k) ∧ v = .int .i64 k ∧ Below w.heap.size w wr) (fun _ v _ => n - (intOf v).toNat)
  case atStart => exact ⟨0, Nat.zero_le _, rfl, rfl, Below.refl _ _⟩
  case round =>
    obtain ⟨k, hk, rfl, rfl, hB⟩ := hrel
    by_cases hlt : k < n
    · obtain ⟨b, off, x, rfl, hx, _, c0, _⟩ := h.at hlt
      have c0 := keep hB c0
      have hs := lastU_succ (t := t) hx
      by_cases hq : x.t = t
      · rw [if_pos hq] at hs
        have Hs := Lib.hid hs
        have HB := Lib.hid hB
        obtain ⟨xt, xk, xo, xv, xb⟩ := x
        simp only at hq c0
        subst hq
        clear hs hB hx
        go_wp2
        go_roundw
        case rel => exact ⟨k + 1, by omega, by rw [Hs.out], by go_num, HB.out⟩
        case measure => simp [intOf]; omega
      · rw [if_neg hq] at hs
        have Hs := Lib.hid hs
        have HB := Lib.hid hB
        obtain ⟨xt, xk, xo, xv, xb⟩ := x
        simp only at hq c0
        have hq' : (xt == t) = false := by simpa using hq
        clear hs hB hx hq
        generalize lastU l t k = q at *
        go_wp2
        go_roundw
        case rel => exact ⟨k + 1, by omega, by rw [Hs.out], by go_num, HB.out⟩
        case measure => simp [intOf]; omega
    · have hkn : k = n := by omega
      have hf : lastOf l t = lastU l t k := by unfold lastOf; rw [Hl.out, hkn]
      have Hf := Lib.hid hf
      have HB := Lib.hid hB
      clear hf hB
      generalize lastU l t k = q at *
      go_wp2
      go_ret
      exact ⟨by rw [Hf.out]; rfl, HB.out⟩

set_option maxRecDepth 20000 in
set_option maxHeartbeats 4000000 in
theorem same_calls {w : World} {B b : Nat} {vl va : Value} {S : LogS} {a0 : Option Addr} {n c : Nat} (h : LogAt w B b vl va S) (hI : IsEvs w a0 n c S.l) (hla : LaGood S) (hcap : n * 40 ≤ 140737488355328) :
    Calls Try.prog 34 #[.pointer (some ⟨b, 0, none⟩), .agg (stArr S.st S.ow), .slice a0 n c] w fun e w' => e = .returned (.bool true) ∧ Below w.heap.size w w' := by
  have hlen := hI.len
  have hwf := hI.wf
  have hA : Below w.heap.size w (w.alloc (.cells (stArr S.st S.ow) 34)) := (Below.refl _ w).alloc (Nat.le_refl _) _
  have hT : StateAt (w.alloc (.cells (stArr S.st S.ow) 34)) w.heap.size S := (MapKept.heap_alloc w _).1
  have hL := h.below hA
  have hJ := hI.below hA
  have H := Lib.hid (And.intro hL (And.intro hJ (And.intro hT hA)))
  have Hlen := Lib.hid hlen
  have Hwf := Lib.hid hwf
  have Hla := Lib.hid hla
  clear hlen hwf hA hT hL hJ h hI hla
  go_enter Try.func34, Try.ntmps34
  go_wp2_with fail
  revert H
  generalize (w.alloc (.cells (stArr S.st S.ow) 34)) = w1
  intro H
  refine (llist_calls H.out.1 (by rw [Hlen.out]; exact hcap)).mono ?_
  rintro e w2 ⟨v, rfl, hown, hb⟩
  rw [Hlen.out] at hown
  obtain ⟨a, c', rfl, hK⟩ := evs_own hown Hwf.out
  have H := Lib.hid (And.intro (H.out.1.below hb) (And.intro (H.out.2.1.below hb) (And.intro (H.out.2.2.1.below hb) (H.out.2.2.2.trans (hb.mono H.out.2.2.2.size)))))
  have HK := Lib.hid hK
  clear hown hb hK
  go_wp2_with fail
  refine (rsame_calls HK.out H.out.2.1).mono ?_
  rintro e w3 ⟨rfl, hb⟩
  have H := Lib.hid (And.intro (H.out.1.below hb) (And.intro (H.out.2.1.below hb) (And.intro (H.out.2.2.1.below hb) (H.out.2.2.2.trans (hb.mono H.out.2.2.2.size)))))
  clear hb HK
  go_wp2_with fail
  refine (len_calls H.out.1).mono ?_
  rintro e w4 ⟨rfl, rfl⟩
  rw [Hlen.out]
  go_wp2
  go_loopw [10] (fun v wr => ∃ k : Int, -1 ≤ k ∧ k ≤ 9 ∧ v = .int .i64 k ∧ Hid (LogAt wr B b vl va S ∧ IsEvs wr a0 n c S.l ∧ StateAt wr w.heap.size S ∧ Below w.heap.size w wr)) (fun v _ => (9 - intOf v).toNat)
  case atStart => exact ⟨-1, by omega, by omega, rfl, H.out⟩
  case round =>
    clear H
    obtain ⟨k, hk0, hk9, rfl, H⟩ := hrel
    by_cases h9 : k = 9
    · subst h9
      go_wp2
      go_ret
      exact ⟨rfl, H.out.2.2.2⟩
    by_cases h1 : k = -1
    · subst h1
      have Hs : Hid (statB S (-1) = 0) := rfl
      have Ho : Hid (ownB S (-1) = -1) := rfl
      have Hq : Hid (lastB S (-1) = -1) := rfl
      obtain ⟨q, hq⟩ : ∃ q, lastOf S.l (-1) = q := ⟨_, rfl⟩
      have Hw := Lib.hid hq
      clear hq
      go_wp2_with fail
      refine (status_calls H.out.1 _).mono ?_
      rintro e z ⟨rfl, hb⟩
      rw [Hs.out]
      have H := Lib.hid (And.intro (H.out.1.below hb) (And.intro (H.out.2.1.below hb) (And.intro (H.out.2.2.1.below hb) (H.out.2.2.2.trans (hb.mono H.out.2.2.2.size)))))
      clear hb
      go_wp2_with fail
      refine (owner_calls H.out.1 _).mono ?_
      rintro e z ⟨rfl, hb⟩
      rw [Ho.out]
      have H := Lib.hid (And.intro (H.out.1.below hb) (And.intro (H.out.2.1.below hb) (And.intro (H.out.2.2.1.below hb) (H.out.2.2.2.trans (hb.mono H.out.2.2.2.size)))))
      clear hb
      go_wp2_with fail
      refine (last_calls H.out.1 _).mono ?_
      rintro e z ⟨rfl, hb⟩
      rw [Hq.out]
      have H := Lib.hid (And.intro (H.out.1.below hb) (And.intro (H.out.2.1.below hb) (And.intro (H.out.2.2.1.below hb) (H.out.2.2.2.trans (hb.mono H.out.2.2.2.size)))))
      clear hb
      go_wp2_with fail
      refine (rlast_calls H.out.2.1 _).mono ?_
      rintro e z ⟨rfl, hb⟩
      rw [Hw.out]
      have H := Lib.hid (And.intro (H.out.1.below hb) (And.intro (H.out.2.1.below hb) (And.intro (H.out.2.2.1.below hb) (H.out.2.2.2.trans (hb.mono H.out.2.2.2.size)))))
      clear hb
      go_wp2
      go_roundw
      case rel => exact ⟨(-1) + 1, by omega, by omega, rfl, H.out⟩
      case measure => simp [intOf]
    by_cases h8 : k = 8
    · subst h8
      have Hs : Hid (statB S 8 = 0) := rfl
      have Ho : Hid (ownB S 8 = -1) := rfl
      have Hq : Hid (lastB S 8 = -1) := rfl
      obtain ⟨q, hq⟩ : ∃ q, lastOf S.l 8 = q := ⟨_, rfl⟩
      have Hw := Lib.hid hq
      clear hq
      go_wp2_with fail
      refine (status_calls H.out.1 _).mono ?_
      rintro e z ⟨rfl, hb⟩
      rw [Hs.out]
      have H := Lib.hid (And.intro (H.out.1.below hb) (And.intro (H.out.2.1.below hb) (And.intro (H.out.2.2.1.below hb) (H.out.2.2.2.trans (hb.mono H.out.2.2.2.size)))))
      clear hb
      go_wp2_with fail
      refine (owner_calls H.out.1 _).mono ?_
      rintro e z ⟨rfl, hb⟩
      rw [Ho.out]
      have H := Lib.hid (And.intro (H.out.1.below hb) (And.intro (H.out.2.1.below hb) (And.intro (H.out.2.2.1.below hb) (H.out.2.2.2.trans (hb.mono H.out.2.2.2.size)))))
      clear hb
      go_wp2_with fail
      refine (last_calls H.out.1 _).mono ?_
      rintro e z ⟨rfl, hb⟩
      rw [Hq.out]
      have H := Lib.hid (And.intro (H.out.1.below hb) (And.intro (H.out.2.1.below hb) (And.intro (H.out.2.2.1.below hb) (H.out.2.2.2.trans (hb.mono H.out.2.2.2.size)))))
      clear hb
      go_wp2_with fail
      refine (rlast_calls H.out.2.1 _).mono ?_
      rintro e z ⟨rfl, hb⟩
      rw [Hw.out]
      have H := Lib.hid (And.intro (H.out.1.below hb) (And.intro (H.out.2.1.below hb) (And.intro (H.out.2.2.1.below hb) (H.out.2.2.2.trans (hb.mono H.out.2.2.2.size)))))
      clear hb
      go_wp2
      go_roundw
      case rel => exact ⟨8 + 1, by omega, by omega, rfl, H.out⟩
      case measure => simp [intOf]
    · skip
      obtain ⟨j, rfl⟩ := Int.eq_ofNat_of_zero_le (show 0 ≤ k by omega)
      have hj8 : j < 8 := by omega
      have hin : inB (j : Int) = true := inB_iff.2 ⟨by omega, by omega⟩
      have Hs : Hid (statB S j = S.st j) := by unfold Hid statB; rw [if_pos hin]; rfl
      have Ho : Hid (ownB S j = S.ow j) := by unfold Hid ownB; rw [if_pos hin]; rfl
      have Hq : Hid (lastB S j = lastOf S.l j) := by unfold Hid lastB; rw [if_pos hin, Int.toNat_natCast]; exact Hla.out j hj8
      have Hw : Hid (lastOf S.l j = lastOf S.l j) := rfl
      clear hin
      go_wp2_with fail
      refine (status_calls H.out.1 _).mono ?_
      rintro e z ⟨rfl, hb⟩
      rw [Hs.out]
      have H := Lib.hid (And.intro (H.out.1.below hb) (And.intro (H.out.2.1.below hb) (And.intro (H.out.2.2.1.below hb) (H.out.2.2.2.trans (hb.mono H.out.2.2.2.size)))))
      clear hb
      go_wp2_with fail
      refine (owner_calls H.out.1 _).mono ?_
      rintro e z ⟨rfl, hb⟩
      rw [Ho.out]
      have H := Lib.hid (And.intro (H.out.1.below hb) (And.intro (H.out.2.1.below hb) (And.intro (H.out.2.2.1.below hb) (H.out.2.2.2.trans (hb.mono H.out.2.2.2.size)))))
      clear hb
      go_wp2_with fail
      refine (last_calls H.out.1 _).mono ?_
      rintro e z ⟨rfl, hb⟩
      rw [Hq.out]
      have H := Lib.hid (And.intro (H.out.1.below hb) (And.intro (H.out.2.1.below hb) (And.intro (H.out.2.2.1.below hb) (H.out.2.2.2.trans (hb.mono H.out.2.2.2.size)))))
      clear hb
      go_wp2_with fail
      refine (rlast_calls H.out.2.1 _).mono ?_
      rintro e z ⟨rfl, hb⟩
      have H := Lib.hid (And.intro (H.out.1.below hb) (And.intro (H.out.2.1.below hb) (And.intro (H.out.2.2.1.below hb) (H.out.2.2.2.trans (hb.mono H.out.2.2.2.size)))))
      clear hb
      have t1 := H.out.2.2.1.cst hj8
      have t2 := H.out.2.2.1.cow hj8
      have hj8b : ((j : Int) == 8) = false := by simp; omega
      have hj0b : (0 : Int) ≤ (j : Int) := by omega
      generalize lastOf S.l j = q
      go_wp2
      exact ⟨⟨(j : Int) + 1, by omega, by omega, rfl, H.out⟩, by simp only [intOf]; omega⟩
end Go.Proofs.Ytejcpjhepkhihaa
