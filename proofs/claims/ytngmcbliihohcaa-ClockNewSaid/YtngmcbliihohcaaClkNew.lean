/-
  ClockNew: New and Of take what the document says, and no more; proved for every input, no condition.
-/
import Derived.Test.YtngmcbliihohcaaClock5
set_option linter.unusedSimpArgs false
set_option linter.unusedVariables false
namespace Go.Proofs.Ytngmcbliihohcaa
open Go.ChangeShapes Go.WideShapes Go.ChangeAt Go.RowKit Go.Deep

set_option maxHeartbeats 4000000 in
theorem new_gg {w : World} {a0 : Option Addr} {n0 c0 : Nat} {xs : List Int} (n : Int) (h : IsInts w a0 n0 c0 xs) (h1 : 1 ≤ n) (h8 : n ≤ 8) (ho : okClock xs = true) :
    Calls Try.prog 3 #[.int .i64 n, .slice a0 n0 c0] w fun e w' => e = .returned (.bool true) ∧ Below w.heap.size w w' := by
  have hn0 := h.bd
  have hB_w := Below.refl w.heap.size w
  have ex := errOf_ok ho
  have hol := ok_len ho
  have hlx := h.len
  have Hol := Lib.hid hol
  have Hlx := Lib.hid hlx
  clear hol hlx
  go_enter Try.func3, Try.ntmps3
  go_wp2_with fail
  (with_reducible refine (awake_calls _).mono ?_)
  rintro e w1 ⟨rfl, hb⟩
  have hB_w1 := hB_w.trans (hb.mono hB_w.size)
  clear hb
  go_wp2_with fail
  (with_reducible refine (new_calls n _ h1 h8).mono ?_)
  rintro e w2 ⟨b, g, rfl, ca, qb, qg, hb⟩
  have hB_w2 := hB_w1.trans (hb.mono hB_w1.size)
  clear hb
  go_wp2_with fail
  (with_reducible refine (rnew_calls n _ h1 h8).mono ?_)
  rintro e w3 ⟨rfl, is, hb⟩
  have hB_w3 := hB_w2.trans (hb.mono hB_w2.size)
  have ca := ca.below hb
  clear hb
  generalize hzz : List.replicate n.toNat (0 : Int) = zs at ca is
  clear hzz
  go_wp2_with fail
  refine (list_calls ca).mono ?_
  rintro e w4 ⟨v, rfl, hown, hb⟩
  obtain ⟨gl, capl, rfl, il, _, _⟩ := ints_of_own hown ca.pos ca.wf
  have hB_w4 := hB_w3.trans (hb.mono hB_w3.size)
  have is := is.below hb
  clear hb hown ca
  go_wp2_with fail
  (with_reducible refine (equal_calls il is).mono ?_)
  rintro e w5 ⟨rfl, hb⟩
  have hB_w5 := hB_w4.trans (hb.mono hB_w4.size)
  clear hb
  rw [decide_eq_true (rfl : zs = zs)]
  clear il is
  go_wp2_with fail
  (with_reducible refine (of_good (h.below hB_w5) ho).mono ?_)
  rintro e w6 ⟨b', g', rfl, cb, qb', qg', hb⟩
  have hB_w6 := hB_w5.trans (hb.mono hB_w5.size)
  clear hb
  go_wp2_with fail
  (with_reducible refine (rof_calls (h.below hB_w6)).mono ?_)
  rintro e w7 ⟨rfl, hb⟩
  have hB_w7 := hB_w6.trans (hb.mono hB_w6.size)
  have cb := cb.below hb
  clear hb
  rw [ex]
  go_wp2_with fail
  refine (list_calls cb).mono ?_
  rintro e w8 ⟨v, rfl, hown, hb⟩
  obtain ⟨gl', capl', rfl, il, _, _⟩ := ints_of_own hown cb.pos cb.wf
  have hB_w8 := hB_w7.trans (hb.mono hB_w7.size)
  clear hb hown cb
  go_wp2_with fail
  (with_reducible refine (equal_calls il (h.below hB_w8)).mono ?_)
  rintro e w9 ⟨rfl, hb⟩
  have hB_w9 := hB_w8.trans (hb.mono hB_w8.size)
  clear hb
  rw [decide_eq_true (rfl : xs = xs)]
  clear il
  go_wp2
  go_ret
  exact ⟨rfl, hB_w9⟩
set_option maxHeartbeats 4000000 in
theorem new_gb {w : World} {a0 : Option Addr} {n0 c0 : Nat} {xs : List Int} (n : Int) (h : IsInts w a0 n0 c0 xs) (h1 : 1 ≤ n) (h8 : n ≤ 8) (ho : okClock xs = false) :
    Calls Try.prog 3 #[.int .i64 n, .slice a0 n0 c0] w fun e w' => e = .returned (.bool true) ∧ Below w.heap.size w w' := by
  have hn0 := h.bd
  have hB_w := Below.refl w.heap.size w
  have ex := errOf_bad ho
  go_enter Try.func3, Try.ntmps3
  go_wp2_with fail
  (with_reducible refine (awake_calls _).mono ?_)
  rintro e w1 ⟨rfl, hb⟩
  have hB_w1 := hB_w.trans (hb.mono hB_w.size)
  clear hb
  go_wp2_with fail
  (with_reducible refine (new_calls n _ h1 h8).mono ?_)
  rintro e w2 ⟨b, g, rfl, ca, qb, qg, hb⟩
  have hB_w2 := hB_w1.trans (hb.mono hB_w1.size)
  clear hb
  go_wp2_with fail
  (with_reducible refine (rnew_calls n _ h1 h8).mono ?_)
  rintro e w3 ⟨rfl, is, hb⟩
  have hB_w3 := hB_w2.trans (hb.mono hB_w2.size)
  have ca := ca.below hb
  clear hb
  generalize hzz : List.replicate n.toNat (0 : Int) = zs at ca is
  clear hzz
  go_wp2_with fail
  refine (list_calls ca).mono ?_
  rintro e w4 ⟨v, rfl, hown, hb⟩
  obtain ⟨gl, capl, rfl, il, _, _⟩ := ints_of_own hown ca.pos ca.wf
  have hB_w4 := hB_w3.trans (hb.mono hB_w3.size)
  have is := is.below hb
  clear hb hown ca
  go_wp2_with fail
  (with_reducible refine (equal_calls il is).mono ?_)
  rintro e w5 ⟨rfl, hb⟩
  have hB_w5 := hB_w4.trans (hb.mono hB_w4.size)
  clear hb
  rw [decide_eq_true (rfl : zs = zs)]
  clear il is
  go_wp2_with fail
  refine (of_bad (h.below hB_w5) ho).mono ?_
  rintro e w6 ⟨rfl, rfl⟩
  go_wp2_with fail
  (with_reducible refine (rof_calls (h.below hB_w5)).mono ?_)
  rintro e w7 ⟨rfl, hb⟩
  have hB_w7 := hB_w5.trans (hb.mono hB_w5.size)
  clear hb
  rw [ex]
  go_wp2
  go_ret
  exact ⟨rfl, hB_w7⟩
set_option maxHeartbeats 4000000 in
theorem new_bg {w : World} {a0 : Option Addr} {n0 c0 : Nat} {xs : List Int} (n : Int) (h : IsInts w a0 n0 c0 xs) (hn : n < 1 ∨ 8 < n) (ho : okClock xs = true) :
    Calls Try.prog 3 #[.int .i64 n, .slice a0 n0 c0] w fun e w' => e = .returned (.bool true) ∧ Below w.heap.size w w' := by
  have hn0 := h.bd
  have hB_w := Below.refl w.heap.size w
  have ex := errOf_ok ho
  have hol := ok_len ho
  have hlx := h.len
  have Hol := Lib.hid hol
  have Hlx := Lib.hid hlx
  clear hol hlx
  go_enter Try.func3, Try.ntmps3
  go_wp2_with fail
  (with_reducible refine (awake_calls _).mono ?_)
  rintro e w1 ⟨rfl, hb⟩
  have hB_w1 := hB_w.trans (hb.mono hB_w.size)
  clear hb
  go_wp2_with fail
  refine (new_bad n _ hn).mono ?_
  rintro e w2 ⟨rfl, rfl⟩
  go_wp2_with fail
  refine (rnew_bad n _ hn).mono ?_
  rintro e w5 ⟨rfl, rfl⟩
  have hB_w5 := hB_w1
  go_wp2_with fail
  (with_reducible refine (of_good (h.below hB_w5) ho).mono ?_)
  rintro e w6 ⟨b', g', rfl, cb, qb', qg', hb⟩
  have hB_w6 := hB_w5.trans (hb.mono hB_w5.size)
  clear hb
  go_wp2_with fail
  (with_reducible refine (rof_calls (h.below hB_w6)).mono ?_)
  rintro e w7 ⟨rfl, hb⟩
  have hB_w7 := hB_w6.trans (hb.mono hB_w6.size)
  have cb := cb.below hb
  clear hb
  rw [ex]
  go_wp2_with fail
  refine (list_calls cb).mono ?_
  rintro e w8 ⟨v, rfl, hown, hb⟩
  obtain ⟨gl', capl', rfl, il, _, _⟩ := ints_of_own hown cb.pos cb.wf
  have hB_w8 := hB_w7.trans (hb.mono hB_w7.size)
  clear hb hown cb
  go_wp2_with fail
  (with_reducible refine (equal_calls il (h.below hB_w8)).mono ?_)
  rintro e w9 ⟨rfl, hb⟩
  have hB_w9 := hB_w8.trans (hb.mono hB_w8.size)
  clear hb
  rw [decide_eq_true (rfl : xs = xs)]
  clear il
  go_wp2
  go_ret
  exact ⟨rfl, hB_w9⟩
set_option maxHeartbeats 4000000 in
theorem new_bb {w : World} {a0 : Option Addr} {n0 c0 : Nat} {xs : List Int} (n : Int) (h : IsInts w a0 n0 c0 xs) (hn : n < 1 ∨ 8 < n) (ho : okClock xs = false) :
    Calls Try.prog 3 #[.int .i64 n, .slice a0 n0 c0] w fun e w' => e = .returned (.bool true) ∧ Below w.heap.size w w' := by
  have hn0 := h.bd
  have hB_w := Below.refl w.heap.size w
  have ex := errOf_bad ho
  go_enter Try.func3, Try.ntmps3
  go_wp2_with fail
  (with_reducible refine (awake_calls _).mono ?_)
  rintro e w1 ⟨rfl, hb⟩
  have hB_w1 := hB_w.trans (hb.mono hB_w.size)
  clear hb
  go_wp2_with fail
  refine (new_bad n _ hn).mono ?_
  rintro e w2 ⟨rfl, rfl⟩
  go_wp2_with fail
  refine (rnew_bad n _ hn).mono ?_
  rintro e w5 ⟨rfl, rfl⟩
  have hB_w5 := hB_w1
  go_wp2_with fail
  refine (of_bad (h.below hB_w5) ho).mono ?_
  rintro e w6 ⟨rfl, rfl⟩
  go_wp2_with fail
  (with_reducible refine (rof_calls (h.below hB_w5)).mono ?_)
  rintro e w7 ⟨rfl, hb⟩
  have hB_w7 := hB_w5.trans (hb.mono hB_w5.size)
  clear hb
  rw [ex]
  go_wp2
  go_ret
  exact ⟨rfl, hB_w7⟩
theorem new_law (n : Int) {a0 : Option Addr} {n0 c0 : Nat} {xs : List Int} {w : World} (h : IsInts w a0 n0 c0 xs) :
    Calls Try.prog 3 #[.int .i64 n, .slice a0 n0 c0] w fun e w' => e = .returned (.bool true) ∧ Below w.heap.size w w' := by
  by_cases hn : 1 ≤ n ∧ n ≤ 8
  · cases ho : okClock xs
    · exact new_gb n h hn.1 hn.2 ho
    · exact new_gg n h hn.1 hn.2 ho
  · have hn' : n < 1 ∨ 8 < n := by omega
    cases ho : okClock xs
    · exact new_bb n h hn' ho
    · exact new_bg n h hn' ho
end Go.Proofs.Ytngmcbliihohcaa
