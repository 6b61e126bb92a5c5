/-
  ClockLeast: what is joined is the least clock above both, whoever is joined to whom; proved for every input, no condition.
-/
import Derived.Test.YtngmcbliihohcaaClock5
set_option linter.unusedSimpArgs false
set_option linter.unusedVariables false
namespace Go.Proofs.Ytngmcbliihohcaa
open Go.ChangeShapes Go.WideShapes Go.ChangeAt Go.RowKit Go.Deep

set_option maxHeartbeats 4000000 in
theorem least_bad0 {w : World} {a0 a1 a2 : Option Addr} {n0 n1 n2 c0 c1 c2 : Nat} {x y z : List Int} (hx : IsInts w a0 n0 c0 x) (hy : IsInts w a1 n1 c1 y) (hz : IsInts w a2 n2 c2 z) (ho : okClock x = false) :
    Calls Try.prog 5 #[.slice a0 n0 c0, .slice a1 n1 c1, .slice a2 n2 c2] w fun e w' => e = .returned (.bool true) ∧ Below w.heap.size w w' := by
  have ex := errOf_bad ho
  have hn0 := hx.bd
  have hn1 := hy.bd
  have hn2 := hz.bd
  have hB_w := Below.refl w.heap.size w
  go_enter Try.func5, Try.ntmps5
  go_wp2_with fail
  (with_reducible refine (awake_calls _).mono ?_)
  rintro e w1 ⟨rfl, hb⟩
  have hB_w1 := hB_w.trans (hb.mono hB_w.size)
  clear hb
  go_wp2_with fail
  (with_reducible refine (rof_calls (hx.below hB_w1)).mono ?_)
  rintro e w2 ⟨rfl, hb⟩
  have hB_w2 := hB_w1.trans (hb.mono hB_w1.size)
  clear hb
  go_wp2_with fail
  (with_reducible refine (rof_calls (hy.below hB_w2)).mono ?_)
  rintro e w3 ⟨rfl, hb⟩
  have hB_w3 := hB_w2.trans (hb.mono hB_w2.size)
  clear hb
  go_wp2_with fail
  (with_reducible refine (rof_calls (hz.below hB_w3)).mono ?_)
  rintro e w4 ⟨rfl, hb⟩
  have hB_w4 := hB_w3.trans (hb.mono hB_w3.size)
  clear hb
  go_wp2
  go_ret
  exact ⟨rfl, hB_w4⟩
set_option maxHeartbeats 4000000 in
theorem least_bad1 {w : World} {a0 a1 a2 : Option Addr} {n0 n1 n2 c0 c1 c2 : Nat} {x y z : List Int} (hx : IsInts w a0 n0 c0 x) (hy : IsInts w a1 n1 c1 y) (hz : IsInts w a2 n2 c2 z) (ho : okClock x = true) (ho1 : okClock y = false) :
    Calls Try.prog 5 #[.slice a0 n0 c0, .slice a1 n1 c1, .slice a2 n2 c2] w fun e w' => e = .returned (.bool true) ∧ Below w.heap.size w w' := by
  have ex := errOf_ok ho
  have ey := errOf_bad ho1
  have hn0 := hx.bd
  have hn1 := hy.bd
  have hn2 := hz.bd
  have hB_w := Below.refl w.heap.size w
  go_enter Try.func5, Try.ntmps5
  go_wp2_with fail
  (with_reducible refine (awake_calls _).mono ?_)
  rintro e w1 ⟨rfl, hb⟩
  have hB_w1 := hB_w.trans (hb.mono hB_w.size)
  clear hb
  go_wp2_with fail
  (with_reducible refine (rof_calls (hx.below hB_w1)).mono ?_)
  rintro e w2 ⟨rfl, hb⟩
  have hB_w2 := hB_w1.trans (hb.mono hB_w1.size)
  clear hb
  go_wp2_with fail
  (with_reducible refine (rof_calls (hy.below hB_w2)).mono ?_)
  rintro e w3 ⟨rfl, hb⟩
  have hB_w3 := hB_w2.trans (hb.mono hB_w2.size)
  clear hb
  go_wp2_with fail
  (with_reducible refine (rof_calls (hz.below hB_w3)).mono ?_)
  rintro e w4 ⟨rfl, hb⟩
  have hB_w4 := hB_w3.trans (hb.mono hB_w3.size)
  clear hb
  go_wp2
  go_ret
  exact ⟨rfl, hB_w4⟩
set_option maxHeartbeats 4000000 in
theorem least_bad2 {w : World} {a0 a1 a2 : Option Addr} {n0 n1 n2 c0 c1 c2 : Nat} {x y z : List Int} (hx : IsInts w a0 n0 c0 x) (hy : IsInts w a1 n1 c1 y) (hz : IsInts w a2 n2 c2 z) (ho : okClock x = true) (ho1 : okClock y = true) (ho2 : okClock z = false) :
    Calls Try.prog 5 #[.slice a0 n0 c0, .slice a1 n1 c1, .slice a2 n2 c2] w fun e w' => e = .returned (.bool true) ∧ Below w.heap.size w w' := by
  have ex := errOf_ok ho
  have ey := errOf_ok ho1
  have ez := errOf_bad ho2
  have hn0 := hx.bd
  have hn1 := hy.bd
  have hn2 := hz.bd
  have hB_w := Below.refl w.heap.size w
  go_enter Try.func5, Try.ntmps5
  go_wp2_with fail
  (with_reducible refine (awake_calls _).mono ?_)
  rintro e w1 ⟨rfl, hb⟩
  have hB_w1 := hB_w.trans (hb.mono hB_w.size)
  clear hb
  go_wp2_with fail
  (with_reducible refine (rof_calls (hx.below hB_w1)).mono ?_)
  rintro e w2 ⟨rfl, hb⟩
  have hB_w2 := hB_w1.trans (hb.mono hB_w1.size)
  clear hb
  go_wp2_with fail
  (with_reducible refine (rof_calls (hy.below hB_w2)).mono ?_)
  rintro e w3 ⟨rfl, hb⟩
  have hB_w3 := hB_w2.trans (hb.mono hB_w2.size)
  clear hb
  go_wp2_with fail
  (with_reducible refine (rof_calls (hz.below hB_w3)).mono ?_)
  rintro e w4 ⟨rfl, hb⟩
  have hB_w4 := hB_w3.trans (hb.mono hB_w3.size)
  clear hb
  go_wp2
  go_ret
  exact ⟨rfl, hB_w4⟩
set_option maxHeartbeats 4000000 in
theorem least_bad3 {w : World} {a0 a1 a2 : Option Addr} {n0 n1 n2 c0 c1 c2 : Nat} {x y z : List Int} (hx : IsInts w a0 n0 c0 x) (hy : IsInts w a1 n1 c1 y) (hz : IsInts w a2 n2 c2 z) (ho : okClock x = true) (ho1 : okClock y = true) (ho2 : okClock z = true) (hl : n0 ≠ n1) :
    Calls Try.prog 5 #[.slice a0 n0 c0, .slice a1 n1 c1, .slice a2 n2 c2] w fun e w' => e = .returned (.bool true) ∧ Below w.heap.size w w' := by
  have ex := errOf_ok ho
  have ey := errOf_ok ho1
  have ez := errOf_ok ho2
  have ht : ((n0 : Int) != (n1 : Int)) = true := by rw [bne_iff_ne]; omega
  have hn0 := hx.bd
  have hn1 := hy.bd
  have hn2 := hz.bd
  have hB_w := Below.refl w.heap.size w
  go_enter Try.func5, Try.ntmps5
  go_wp2_with fail
  (with_reducible refine (awake_calls _).mono ?_)
  rintro e w1 ⟨rfl, hb⟩
  have hB_w1 := hB_w.trans (hb.mono hB_w.size)
  clear hb
  go_wp2_with fail
  (with_reducible refine (rof_calls (hx.below hB_w1)).mono ?_)
  rintro e w2 ⟨rfl, hb⟩
  have hB_w2 := hB_w1.trans (hb.mono hB_w1.size)
  clear hb
  go_wp2_with fail
  (with_reducible refine (rof_calls (hy.below hB_w2)).mono ?_)
  rintro e w3 ⟨rfl, hb⟩
  have hB_w3 := hB_w2.trans (hb.mono hB_w2.size)
  clear hb
  go_wp2_with fail
  (with_reducible refine (rof_calls (hz.below hB_w3)).mono ?_)
  rintro e w4 ⟨rfl, hb⟩
  have hB_w4 := hB_w3.trans (hb.mono hB_w3.size)
  clear hb
  go_wp2
  go_ret
  exact ⟨rfl, hB_w4⟩
set_option maxHeartbeats 4000000 in
theorem least_bad4 {w : World} {a0 a1 a2 : Option Addr} {n0 n1 n2 c0 c1 c2 : Nat} {x y z : List Int} (hx : IsInts w a0 n0 c0 x) (hy : IsInts w a1 n1 c1 y) (hz : IsInts w a2 n2 c2 z) (ho : okClock x = true) (ho1 : okClock y = true) (ho2 : okClock z = true) (hl : n0 = n1) (hl2 : n1 ≠ n2) :
    Calls Try.prog 5 #[.slice a0 n0 c0, .slice a1 n1 c1, .slice a2 n2 c2] w fun e w' => e = .returned (.bool true) ∧ Below w.heap.size w w' := by
  have ex := errOf_ok ho
  have ey := errOf_ok ho1
  have ez := errOf_ok ho2
  subst hl
  have ht : ((n0 : Int) != (n2 : Int)) = true := by rw [bne_iff_ne]; omega
  have hn0 := hx.bd
  have hn1 := hy.bd
  have hn2 := hz.bd
  have hB_w := Below.refl w.heap.size w
  go_enter Try.func5, Try.ntmps5
  go_wp2_with fail
  (with_reducible refine (awake_calls _).mono ?_)
  rintro e w1 ⟨rfl, hb⟩
  have hB_w1 := hB_w.trans (hb.mono hB_w.size)
  clear hb
  go_wp2_with fail
  (with_reducible refine (rof_calls (hx.below hB_w1)).mono ?_)
  rintro e w2 ⟨rfl, hb⟩
  have hB_w2 := hB_w1.trans (hb.mono hB_w1.size)
  clear hb
  go_wp2_with fail
  (with_reducible refine (rof_calls (hy.below hB_w2)).mono ?_)
  rintro e w3 ⟨rfl, hb⟩
  have hB_w3 := hB_w2.trans (hb.mono hB_w2.size)
  clear hb
  go_wp2_with fail
  (with_reducible refine (rof_calls (hz.below hB_w3)).mono ?_)
  rintro e w4 ⟨rfl, hb⟩
  have hB_w4 := hB_w3.trans (hb.mono hB_w3.size)
  clear hb
  go_wp2
  go_ret
  exact ⟨rfl, hB_w4⟩
set_option maxHeartbeats 4000000 in
theorem least_good {w : World} {a0 a1 a2 : Option Addr} {n0 n1 n2 c0 c1 c2 : Nat} {x y z : List Int} (hx : IsInts w a0 n0 c0 x) (hy : IsInts w a1 n1 c1 y) (hz : IsInts w a2 n2 c2 z) (ho : okClock x = true) (ho1 : okClock y = true) (ho2 : okClock z = true) (hl : n0 = n1) (hl2 : n1 = n2) :
    Calls Try.prog 5 #[.slice a0 n0 c0, .slice a1 n1 c1, .slice a2 n2 c2] w fun e w' => e = .returned (.bool true) ∧ Below w.heap.size w w' := by
  have ex := errOf_ok ho
  have ey := errOf_ok ho1
  have ez := errOf_ok ho2
  subst hl hl2
  have hlx := hx.len
  have hly := hy.len
  have hlz := hz.len
  have hxy : x.length = y.length := by omega
  have j1 : joinS x y = (List.zipWith max x y, 0) := by unfold joinS; rw [if_pos hxy]
  have j2 : joinS y x = (List.zipWith max x y, 0) := by unfold joinS; rw [if_pos hxy.symm, join_comm]
  have lq1 := leq_join_left hxy
  have lq2 : leqB y (List.zipWith max x y) = true := leq_join_right hxy
  have least := fun h1 h2 => leq_join_least (z := z) hxy h1 h2
  generalize List.zipWith max x y = J at j1 j2 lq1 lq2 least
  have J1 := Lib.hid j1
  have J2 := Lib.hid j2
  have Least := Lib.hid least
  have L1 := Lib.hid lq1
  have L2 := Lib.hid lq2
  have Hlx := Lib.hid hlx
  have hfx := hx.wf
  have hfy := hy.wf
  have Hfx := Lib.hid hfx
  have Hfy := Lib.hid hfy
  have hol := ok_len ho
  have Hol := Lib.hid hol
  clear j1 j2 least lq1 lq2 hlx hly hlz hfx hfy hxy hol
  have hn0 := hx.bd
  have hn1 := hy.bd
  have hn2 := hz.bd
  have hB_w := Below.refl w.heap.size w
  go_enter Try.func5, Try.ntmps5
  go_wp2_with fail
  (with_reducible refine (awake_calls _).mono ?_)
  rintro e w1 ⟨rfl, hb⟩
  have hB_w1 := hB_w.trans (hb.mono hB_w.size)
  clear hb
  go_wp2_with fail
  (with_reducible refine (rof_calls (hx.below hB_w1)).mono ?_)
  rintro e w2 ⟨rfl, hb⟩
  have hB_w2 := hB_w1.trans (hb.mono hB_w1.size)
  clear hb
  go_wp2_with fail
  (with_reducible refine (rof_calls (hy.below hB_w2)).mono ?_)
  rintro e w3 ⟨rfl, hb⟩
  have hB_w3 := hB_w2.trans (hb.mono hB_w2.size)
  clear hb
  go_wp2_with fail
  (with_reducible refine (rof_calls (hz.below hB_w3)).mono ?_)
  rintro e w4 ⟨rfl, hb⟩
  have hB_w4 := hB_w3.trans (hb.mono hB_w3.size)
  clear hb
  go_wp2_with fail
  (with_reducible refine (lof_calls (hx.below hB_w4) ho).mono ?_)
  rintro e w5 ⟨ba, ga, rfl, ca, qa, qa', hb⟩
  have hB_w5 := hB_w4.trans (hb.mono hB_w4.size)
  clear hb
  have za := hB_w4.size
  have la := ca.lt
  go_wp2_with fail
  (with_reducible refine (lof_calls (hy.below hB_w5) ho1).mono ?_)
  rintro e w6 ⟨bb, gb, rfl, cb, qb, qb', hb⟩
  have hB_w6 := hB_w5.trans (hb.mono hB_w5.size)
  have ca := ca.below hb
  clear hb
  have lb := cb.lt
  go_wp2_with fail
  (with_reducible refine (lof_calls (hz.below hB_w6) ho2).mono ?_)
  rintro e w7 ⟨bc, gc, rfl, cc, qc, qc', hb⟩
  have hB_w7 := hB_w6.trans (hb.mono hB_w6.size)
  have ca := ca.below hb
  have cb := cb.below hb
  clear hb
  have lc := cc.lt
  go_wp2_with fail
  (with_reducible refine (lof_calls (hx.below hB_w7) ho).mono ?_)
  rintro e w8 ⟨bj, gj, rfl, cj, qj, qj', hb⟩
  have hB_w8 := hB_w7.trans (hb.mono hB_w7.size)
  have ca := ca.below hb
  have cb := cb.below hb
  have cc := cc.below hb
  clear hb
  have lj := cj.lt
  go_wp2_with fail
  (with_reducible refine (lof_calls (hy.below hB_w8) ho1).mono ?_)
  rintro e w9 ⟨bk, gk, rfl, ck, qk, qk', hb⟩
  have hB_w9 := hB_w8.trans (hb.mono hB_w8.size)
  have ca := ca.below hb
  have cb := cb.below hb
  have cc := cc.below hb
  have cj := cj.below hb
  clear hb
  go_wp2_with fail
  (with_reducible refine (join_calls cj cb (by omega) (by omega)).mono ?_)
  rintro e w10 ⟨rfl, cj, hmod⟩
  have hB_w10 := below_of_mod hB_w9 hmod hB_w9.size (by omega)
  have ca := ca.mod hmod (by omega) (by omega)
  have cb := cb.mod hmod (by omega) (by omega)
  have cc := cc.mod hmod (by omega) (by omega)
  have ck := ck.mod hmod (by omega) (by omega)
  clear hmod
  rw [J1.out] at cj ⊢
  go_wp2_with fail
  (with_reducible refine (join_calls ck ca (by omega) (by omega)).mono ?_)
  rintro e w11 ⟨rfl, ck, hmod⟩
  have hB_w11 := below_of_mod hB_w10 hmod hB_w10.size (by omega)
  have ca := ca.mod hmod (by omega) (by omega)
  have cb := cb.mod hmod (by omega) (by omega)
  have cc := cc.mod hmod (by omega) (by omega)
  have cj := cj.mod hmod (by omega) (by omega)
  clear hmod
  rw [J2.out] at ck ⊢
  go_wp2_with fail
  (with_reducible refine (leq_calls ca cj).mono ?_)
  rintro e w12 ⟨rfl, hb⟩
  have hB_w12 := hB_w11.trans (hb.mono hB_w11.size)
  have ca := ca.below hb
  have cb := cb.below hb
  have cc := cc.below hb
  have cj := cj.below hb
  have ck := ck.below hb
  clear hb
  go_wp2_with fail
  (with_reducible refine (leq_calls cb cj).mono ?_)
  rintro e w13 ⟨rfl, hb⟩
  have hB_w13 := hB_w12.trans (hb.mono hB_w12.size)
  have ca := ca.below hb
  have cb := cb.below hb
  have cc := cc.below hb
  have cj := cj.below hb
  have ck := ck.below hb
  clear hb
  rw [L1.out, L2.out]
  go_wp2_with fail
  (with_reducible refine (leq_calls ca cc).mono ?_)
  rintro e w14 ⟨rfl, hb⟩
  have hB_w14 := hB_w13.trans (hb.mono hB_w13.size)
  have ca := ca.below hb
  have cb := cb.below hb
  have cc := cc.below hb
  have cj := cj.below hb
  have ck := ck.below hb
  clear hb
  go_wp2_with fail
  (with_reducible refine (leq_calls cb cc).mono ?_)
  rintro e w15 ⟨rfl, hb⟩
  have hB_w15 := hB_w14.trans (hb.mono hB_w14.size)
  have ca := ca.below hb
  have cb := cb.below hb
  have cc := cc.below hb
  have cj := cj.below hb
  have ck := ck.below hb
  clear hb
  go_wp2_with fail
  (with_reducible refine (leq_calls cj cc).mono ?_)
  rintro e w16 ⟨rfl, hb⟩
  have hB_w16 := hB_w15.trans (hb.mono hB_w15.size)
  have ca := ca.below hb
  have cb := cb.below hb
  have cc := cc.below hb
  have cj := cj.below hb
  have ck := ck.below hb
  clear hb
  go_wp2_with fail
  refine (list_calls cj).mono ?_
  rintro e w17 ⟨v, rfl, hown, hb⟩
  obtain ⟨gl, capl, rfl, il, _, _⟩ := ints_of_own hown cj.pos cj.wf
  have hB_w17 := hB_w16.trans (hb.mono hB_w16.size)
  have ck := ck.below hb
  clear hb hown
  go_wp2_with fail
  refine (list_calls ck).mono ?_
  rintro e w18 ⟨v, rfl, hown, hb⟩
  obtain ⟨gm, capm, rfl, im, _, _⟩ := ints_of_own hown ck.pos ck.wf
  have hB_w18 := hB_w17.trans (hb.mono hB_w17.size)
  have il := il.below hb
  clear hb hown
  go_wp2_with fail
  (with_reducible refine (equal_calls il im).mono ?_)
  rintro e w19 ⟨rfl, hb⟩
  have hB_w19 := hB_w18.trans (hb.mono hB_w18.size)
  clear hb
  rw [decide_eq_true (rfl : J = J)]
  have hl1 := Least.out
  clear il im ca cb cc cj ck
  cases hac : leqB x z
  · go_wp2
    go_ret
    exact ⟨rfl, hB_w19⟩
  · cases hbc : leqB y z
    · go_wp2
      go_ret
      exact ⟨rfl, hB_w19⟩
    · have hjc := hl1 hac hbc
      go_wp2
      go_ret
      exact ⟨rfl, hB_w19⟩

theorem least_law {a0 : Option Addr} {n0 c0 : Nat} {x : List Int} {a1 : Option Addr} {n1 c1 : Nat} {y : List Int} {a2 : Option Addr} {n2 c2 : Nat} {z : List Int} {w : World}
    (hx : IsInts w a0 n0 c0 x) (hy : IsInts w a1 n1 c1 y) (hz : IsInts w a2 n2 c2 z) :
    Calls Try.prog 5 #[.slice a0 n0 c0, .slice a1 n1 c1, .slice a2 n2 c2] w fun e w' => e = .returned (.bool true) ∧ Below w.heap.size w w' := by
  cases ho : okClock x
  · exact least_bad0 hx hy hz ho
  cases ho1 : okClock y
  · exact least_bad1 hx hy hz ho ho1
  cases ho2 : okClock z
  · exact least_bad2 hx hy hz ho ho1 ho2
  by_cases hl : n0 = n1
  · by_cases hl2 : n1 = n2
    · exact least_good hx hy hz ho ho1 ho2 hl hl2
    · exact least_bad4 hx hy hz ho ho1 ho2 hl hl2
  · exact least_bad3 hx hy hz ho ho1 ho2 hl
end Go.Proofs.Ytngmcbliihohcaa
